/- Ai, part 11: one operation: the abstract run is right. No condition. -/
import Derived.Test.YtbpnlbadgnjmaaaAiOps8
namespace Go.Ai
set_option linter.unusedSimpArgs false
set_option linter.unusedVariables false

/-- A function of the program that has a body. -/
def Enters (P : Program) (g : Nat) : Prop := ∃ fn c, P.funcs[g]? = some fn ∧ (fn.name == "runtime.NumGoroutine") = false ∧ fn.body = some c

def noB : Beta := fun _ => none
def noO : Obs := fun _ => none

/-- A table of functions that are handed immutable values and hand back such. -/
def PureOk (P : Program) (f : Nat → List AV → Option AV) : Prop := ∀ g ps r, f g ps = some r → Enters P g ∧ ∀ (w : World) (h : H) (vals : List Value), Ext w h → PW (AVR noB noO h) ps vals →
  Calls P g vals.toArray w fun e w' => match e with
    | .returned x => ∃ h', HLe h h' ∧ (∀ b o, b < w.heap.size → h' b o = h b o) ∧ Ext w' h' ∧ AVR noB noO h' r x ∧ Frame (fun _ => False) w w'
    | _ => False

/-- A table of functions that are handed objects of the caller's. -/
def FullOk (P : Program) (f : Nat → Nat → List AV → Obs → Option (AV × Upd)) : Prop := ∀ g d args ob r u, f g d args ob = some (r, u) → Enters P g ∧ ∀ (S : Sp) (w0 : World) (h0 : H) (st : St) (a : Act) (w : World) (β : Beta) (h : H) (dst : Option Nat) (vals : List Value),
  RelAt S w0 h0 st a w β h → (∀ i o, ob i = some o → st.ob i = some o) → (d < st.objs.length → ob d = st.ob d) → PW (AVR β st.ob h) args vals → u.all (fun p => decide (p.1 < st.objs.length)) = true →
  Calls P g vals.toArray w fun e w' => match e with
    | .returned x => ∃ β' h', RelAt S w0 h0 (st.put dst r u) (a.put dst x) w' β' h'
    | _ => False

section
variable {P : Program} {T : Nat → Option Ty} {S : Sp} {w0 : World} {h0 : H} {st : St} {a : Act} {w w' : World} {β : Beta} {h h' : H} {o : Oper} {Q : Exit → Act → World → Prop}

/-- An operation goes on to what the abstract run says. -/
def Goes (P : Program) (S : Sp) (w0 : World) (h0 : H) (o : Oper) (a : Act) (w : World) (st' : St) (Q : Exit → Act → World → Prop) : Prop :=
  o.wp P a w (fun a' w' => ∃ β' h', RelAt S w0 h0 st' a' w' β' h') Q

theorem Does.goes {st' : St} (k : Does P S w0 h0 o a w st') : Goes P S w0 h0 o a w st' Q := by
  obtain ⟨n, x, w', β', h', hr, hn, hk⟩ := k
  unfold Goes Oper.wp
  rw [hr]
  rcases hn with rfl | ⟨rfl, rfl⟩
  · exact ⟨β', h', hk⟩
  · exact ⟨β', h', hk⟩

theorem Quiet.goes {v : AV} (k : RelAt S w0 h0 st a w β h) (q : Quiet P o a w β st.ob h v) : Goes P S w0 h0 o a w (st.put o.dst v []) Q := (q.does k).goes

theorem fetch_sub {ids : List Nat} {ob : Obs} (i : Nat) (o : AObj) (hi : fetch ids ob i = some o) : ob i = some o := by
  unfold fetch at hi
  split at hi
  · exact hi
  · cases hi

/-- Immutable values need no objects. -/
theorem stripA_R {ob : Obs} {v u : AV} {x : Value} (k : AVR β ob h v x) (he : v.stripA = some u) : AVR noB noO h u x := by
  cases k with
  | leaf l x k =>
    simp only [AV.stripA] at he
    cases hs : l.strip with
    | none => rw [hs] at he; cases he
    | some v => rw [hs] at he; injection he with he; subst he; exact .leaf _ _ (.imm _ _ (strip_R k hs))
  | agg ls xs k =>
    simp only [AV.stripA] at he
    cases hs : stripAll ls with
    | none => rw [hs] at he; cases he
    | some vs => rw [hs] at he; injection he with he; subst he; exact .agg _ _ (PW.map_left.2 ((stripAll_R k hs).imp fun v x k => .imm _ _ k))
  | tup vs xs hl k => simp [AV.stripA] at he

theorem stripArgs_R {ob : Obs} : ∀ {vs us : List AV} {xs : List Value}, PW (AVR β ob h) vs xs → stripArgs vs = some us → PW (AVR noB noO h) us xs := by
  intro vs
  induction vs with
  | nil =>
    intro us xs k he
    simp only [stripArgs] at he
    injection he with he
    subst he
    have : xs = [] := List.eq_nil_of_length_eq_zero (by have := k.1; simp at this; omega)
    subst this
    exact PW.nil
  | cons v vs ih =>
    intro us xs k he
    cases xs with
    | nil => have := k.1; simp at this
    | cons x xs =>
      simp only [stripArgs] at he
      split at he
      · rename_i u us' h1 h2
        injection he with he
        subst he
        exact PW.cons (stripA_R k.head h1) (ih k.tail h2)
      · cases he

/-- After a call that changes nothing of what was there. -/
theorem RelAt.called (k : RelAt S w0 h0 st a w β h) (hle : HLe h h') (hbelow : ∀ b o, b < w.heap.size → h' b o = h b o) (hext : Ext w' h') (hf : Frame (fun _ => False) w w') : RelAt S w0 h0 st a w' β h' := by
  refine ⟨k.len, fun i v hi => ?_, k.defers, fun i o1 ho => ?_, k.inj, hext, k.up.trans hle, fun b o hb hs => ?_, ⟨hf.os.trans k.frame.os, hf.tape.trans k.frame.tape, hf.output.trans k.frame.output, Nat.le_trans k.frame.size hf.size, fun i hi hs => ?_⟩, k.pin⟩
  · obtain ⟨y, hy, hr⟩ := k.vals i v hi
    exact ⟨y, hy, hr.mono (Grow.refl _ _) hle⟩
  · refine (k.objs i o1 ho).keep (Grow.refl _ _) hle rfl fun b m hb => ?_
    have := k.lt (by rw [ho]; rfl) hb
    exact ⟨hf.block b this fun q => q, fun o => hbelow _ _ this⟩
  · rw [hbelow _ _ (Nat.lt_of_lt_of_le hb k.frame.size)]
    exact k.fresh _ _ hb hs
  · rw [hf.block i (Nat.lt_of_lt_of_le hi k.frame.size) fun q => q]
    exact k.frame.block i hi hs

/-- An immutable value's objects do not matter. -/
theorem LVR.anyO {ob : Obs} {l : LV} {x : Value} (k : LVR noB noO h l x) : LVR β ob h l x := k.mono (fun i o ho => by cases ho) (HLe.refl h)
theorem AVR.anyO {ob : Obs} {v : AV} {x : Value} (k : AVR noB noO h v x) : AVR β ob h v x := k.mono (fun i o ho => by cases ho) (HLe.refl h)

theorem plain_leaf {ob ob' : Obs} {β' : Beta} {l : LV} {x : Value} (k : LVR β ob h l x) (hp : l.plain = true) : LVR β' ob' h' l x := by
  cases k with
  | imm v x k => exact .imm _ _ (k.plain (by simpa [LV.plain] using hp))
  | _ => simp [LV.plain] at hp

theorem plain_av {ob ob' : Obs} {β' : Beta} {v : AV} {x : Value} (k : AVR β ob h v x) (hp : v.plain = true) : AVR β' ob' h' v x := by
  induction k with
  | leaf l x k => exact .leaf _ _ (plain_leaf k (by simpa [AV.plain] using hp))
  | agg ls xs k =>
    refine .agg _ _ ⟨k.1, fun i l x hl hx => plain_leaf (k.2 i l x hl hx) ?_⟩
    simp only [AV.plain, List.all_eq_true] at hp
    exact hp l (List.mem_of_getElem? hl)
  | tup vs xs hl _ ih =>
    refine .tup _ _ hl fun i v x hv hx => ih i v x hv hx ?_
    simp only [AV.plain] at hp
    have gen : ∀ (vs : List AV) (i : Nat) (v : AV), AV.plain.plainAll vs = true → vs[i]? = some v → v.plain = true := by
      intro vs
      induction vs with
      | nil => intro i v _ hv; simp at hv
      | cons u vs ih2 =>
        intro i v hp hv
        simp only [AV.plain.plainAll, Bool.and_eq_true] at hp
        cases i with
        | zero => simp at hv; subst hv; exact hp.1
        | succ i => exact ih2 i v hp.2 (by simpa using hv)
    exact gen vs i v hp hv

/-- What is told of the frame's own arrays too, while nobody changes them. -/
def seen (w : World) : H := fun b o => w.cell? ⟨b, o, none⟩
theorem seen_ext (w : World) : Ext w (seen w) := fun b o v hv => hv
theorem seen_le (hx : Ext w h) : HLe h (seen w) := fun b o v hv => hx b o v hv

theorem lend_R (hT : TOk P T) (k : RelAt S w0 h0 st a w β h) {ob' : Obs} (hob : ∀ i o, ob' i = some o → st.ob i = some o) {l : LV} {v : IV} {x : Value} (kl : LVR β st.ob h l x) (he : lend ob' l = some v) : IVR (seen w) v x := by
  by_cases hms : ∃ id ver sz off len, l = .ms id ver sz off len
  · obtain ⟨id, ver, sz, off, len, rfl⟩ := hms
    simp only [lend] at he
    cases hr : rowsOf ob' (.ms id ver sz off len) with
    | none => rw [hr] at he; cases he
    | some rows =>
      rw [hr] at he
      injection he with he
      subst he
      obtain ⟨A, n, c, hx, hnc, hcm, hlen, hf⟩ := k.rows1 kl hob hr
      have hr' := hr
      simp only [rowsOf] at hr'
      split at hr'
      · rename_i ct ver' cs ho
        split at hr'
        · rename_i hc
          obtain ⟨_, hz, hl⟩ := hc
          have ho := hob _ _ ho
          subst hx
          by_cases hn : n = 0
          · subst hn
            have : rows = [] := List.eq_nil_of_length_eq_zero hlen
            subst this
            exact .empty _ _ hcm
          · have hrow : ∀ (i : Nat) (r : List IV), rows[i]? = some r → r.length = sz := by
              obtain ⟨q1, q2⟩ := rowsAt_spec len off rows hr'
              intro i r hi
              have hil : i < len := by rw [← q1]; exact (List.getElem?_eq_some_iff.1 hi).1
              obtain ⟨q, hq, hs⟩ := q2 i hil
              rw [hi] at hq
              injection hq with hq
              subst hq
              rw [stripAll_length hs, List.length_take, List.length_drop]
              have : (off + i + 1) * sz ≤ (off + len) * sz := Nat.mul_le_mul_right _ (by omega)
              rw [Nat.add_mul (off + i) 1] at this
              omega
            obtain ⟨_, _, h3⟩ := hf sz hrow
            obtain ⟨b, p, rfl, hc⟩ := h3 (by omega)
            refine IVR.ofRows (sz := sz) (fun j => (w.cell? ⟨b, p + j, none⟩).getD undef) hlen hnc hcm (by omega) hrow (fun j hj => ?_) (fun i r j x hi hj => ?_)
            · have hd : j / sz < n := (Nat.div_lt_iff_lt_mul (by omega)).2 hj
              have hm : j % sz < sz := Nat.mod_lt _ (by omega)
              have hi : rows[j / sz]? = some rows[j / sz] := List.getElem?_eq_getElem (by omega)
              have hj' : (rows[j / sz])[j % sz]? = some ((rows[j / sz])[j % sz]'(by rw [hrow _ _ hi]; exact hm)) := List.getElem?_eq_getElem (by rw [hrow _ _ hi]; exact hm)
              obtain ⟨u, hu, _⟩ := hc _ _ _ _ hi hj'
              have e : j / sz * sz + j % sz = j := by rw [Nat.mul_comm]; exact Nat.div_add_mod j sz
              rw [e] at hu
              simp [seen, hu]
            · obtain ⟨u, hu, hx⟩ := hc i r j x hi hj
              simp only [hu, Option.getD_some]
              exact hx.mono (seen_le k.ext)
        · cases hr'
      · cases hr'
  · have : l.strip = some v := by
      cases l <;> first | (exact absurd ⟨_, _, _, _, _, rfl⟩ hms) | exact he
    exact (strip_R kl this).mono (seen_le k.ext)

theorem lendArgs_R (hT : TOk P T) (k : RelAt S w0 h0 st a w β h) {ob' : Obs} (hob : ∀ i o, ob' i = some o → st.ob i = some o) : ∀ {vs us : List AV} {xs : List Value}, PW (AVR β st.ob h) vs xs → lendArgs ob' vs = some us → PW (AVR noB noO (seen w)) us xs := by
  have all : ∀ {ls : List LV} {vs : List IV} {xs : List Value}, PW (LVR β st.ob h) ls xs → lendAll ob' ls = some vs → PW (IVR (seen w)) vs xs := by
    intro ls
    induction ls with
    | nil =>
      intro vs xs kk he
      simp only [lendAll] at he
      injection he with he
      subst he
      have : xs = [] := List.eq_nil_of_length_eq_zero (by have := kk.1; simp at this; omega)
      subst this
      exact PW.nil
    | cons l ls ih =>
      intro vs xs kk he
      cases xs with
      | nil => have := kk.1; simp at this
      | cons x xs =>
        simp only [lendAll] at he
        split at he
        · rename_i v vs' h1 h2
          injection he with he
          subst he
          exact PW.cons (lend_R hT k hob kk.head h1) (ih kk.tail h2)
        · cases he
  have one : ∀ {v u : AV} {x : Value}, AVR β st.ob h v x → lendArg ob' v = some u → AVR noB noO (seen w) u x := by
    intro v u x kk he
    cases kk with
    | leaf l x kl =>
      simp only [lendArg] at he
      cases hs : lend ob' l with
      | none => rw [hs] at he; cases he
      | some v => rw [hs] at he; injection he with he; subst he; exact .leaf _ _ (.imm _ _ (lend_R hT k hob kl hs))
    | agg ls xs kl =>
      simp only [lendArg] at he
      cases hs : lendAll ob' ls with
      | none => rw [hs] at he; cases he
      | some vs => rw [hs] at he; injection he with he; subst he; exact .agg _ _ (PW.map_left.2 ((all kl hs).imp fun v x k => .imm _ _ k))
    | tup vs xs hl k => simp [lendArg] at he
  intro vs
  induction vs with
  | nil =>
    intro us xs kk he
    simp only [lendArgs] at he
    injection he with he
    subst he
    have : xs = [] := List.eq_nil_of_length_eq_zero (by have := kk.1; simp at this; omega)
    subst this
    exact PW.nil
  | cons v vs ih =>
    intro us xs kk he
    cases xs with
    | nil => have := kk.1; simp at this
    | cons x xs =>
      simp only [lendArgs] at he
      split at he
      · rename_i u us' h1 h2
        injection he with he
        subst he
        exact PW.cons (one kk.head h1) (ih kk.tail h2)
      · cases he

theorem call_run {c : Call} {f : Operand} {g : Nat} {xs ys : List Value} (hop : o.op = .call c) (hc : c.callee = .value f) (hf : a.eval f = .func (.func g) xs.toArray ys.toArray) (hg : Enters P g) :
    (execOp a.eval o).run P w = .ok (.enter g (xs ++ (c.args.toList.map a.eval ++ ys)).toArray) w := by
  obtain ⟨fn, b, h1, h2, h3⟩ := hg
  have h2' : fn.name ≠ "runtime.NumGoroutine" := by simpa using h2
  simp only [execOp, hop, resolve, hc, hf, Deferred.ofValue, map_eval, Sem.run_bind, Sem.run_pure, Result.andThen_ok, invoke]
  have e : xs.toArray ++ (c.args.toList.map a.eval).toArray ++ ys.toArray = (xs ++ (c.args.toList.map a.eval ++ ys)).toArray := by apply Array.ext'; simp
  rw [e]
  simp [callFunc, h1, h2', h3]

theorem goes_enter {g : Nat} {vals : List Value} {st' : St} {R : Ending → World → Prop} (hr : (execOp a.eval o).run P w = .ok (.enter g vals.toArray) w) (hc : Calls P g vals.toArray w R)
    (hR : ∀ e w', R e w' → ∃ x, e = .returned x ∧ ∃ β' h', RelAt S w0 h0 st' (a.put o.dst x) w' β' h') : Goes P S w0 h0 o a w st' Q := by
  unfold Goes Oper.wp
  rw [hr, Oper.upon_enter]
  refine hc.mono fun e w' he => ?_
  obtain ⟨x, rfl, hk⟩ := hR e w' he
  exact hk

theorem call_sound (hT : TOk P T) {E : Env} (hp : PureOk P E.pure) (hfull : FullOk P E.full) (k : RelAt S w0 h0 st a w β h) {ob' : Obs} (hob : ∀ i o, ob' i = some o → st.ob i = some o) {d : Nat} (hobd : d < st.objs.length → ob' d = st.ob d)
    {c : Call} {f : Operand} {g : Nat} {first cap : List LV} {args : List AV} {v : AV} {u : Upd} (hop : o.op = .call c) (hc : c.callee = .value f) (hf : evalOp st.tmps f = some (.leaf (.func g first cap))) (ha : mapEval (evalOp st.tmps) c.args.toList = some args)
    (hup : u.all (fun p => decide (p.1 < st.objs.length)) = true) (he : callAV E ob' d g (first.map .leaf ++ (args ++ cap.map .leaf)) = some (v, u)) : Goes P S w0 h0 o a w (st.put o.dst v u) Q := by
  have ef := (k.eval hf).lv
  have ea := args_R k _ _ ha
  generalize hfv : a.eval f = fv at ef
  cases ef with
  | func g first cap xs ys h1 h2 k1 k2 =>
    have p1 : PW (AVR β st.ob h) (first.map .leaf) xs := PW.map_left.2 ⟨h1, fun i l x hl hx => .leaf _ _ (k1 i l x hl hx)⟩
    have p2 : PW (AVR β st.ob h) (cap.map .leaf) ys := PW.map_left.2 ⟨h2, fun i l x hl hx => .leaf _ _ (k2 i l x hl hx)⟩
    have pa := p1.append (ea.append p2)
    have viaFull : E.full g d (first.map .leaf ++ (args ++ cap.map .leaf)) ob' = some (v, u) → Goes P S w0 h0 o a w (st.put o.dst v u) Q := fun hfl => by
      obtain ⟨hen, hcall⟩ := hfull _ _ _ _ _ _ hfl
      refine goes_enter (call_run hop hc hfv hen) (hcall S w0 h0 st a w β h o.dst _ k hob hobd pa hup) fun e w' hR => ?_
      cases e with
      | returned x => exact ⟨x, rfl, hR⟩
      | panicked ch => exact hR.elim
      | outgrown => exact hR.elim
    unfold callAV at he
    split at he
    · rename_i ps hs
      split at he
      · rename_i r hr
        injection he with he
        injection he with e1 e2
        subst e1; subst e2
        obtain ⟨hen, hcall⟩ := hp _ _ _ hr
        refine goes_enter (call_run hop hc hfv hen) (hcall w h _ k.ext (stripArgs_R pa hs)) fun e w' hR => ?_
        cases e with
        | returned x =>
          obtain ⟨h', q1, q2, q3, q4, q5⟩ := hR
          exact ⟨x, rfl, β, h', (k.called q1 q2 q3 q5).put o.dst q4.anyO⟩
        | panicked ch => exact hR.elim
        | outgrown => exact hR.elim
      · exact viaFull he
    · split at he
      · rename_i ps hs
        split at he
        · rename_i r hr
          split at he
          · rename_i hpl
            injection he with he
            injection he with e1 e2
            subst e1; subst e2
            obtain ⟨hen, hcall⟩ := hp _ _ _ hr
            refine goes_enter (call_run hop hc hfv hen) (hcall w (seen w) _ (seen_ext w) (lendArgs_R hT k hob pa hs)) fun e w' hR => ?_
            cases e with
            | returned x =>
              obtain ⟨h', q1, q2, q3, q4, q5⟩ := hR
              refine ⟨x, rfl, β, h, (k.called (HLe.refl h) (fun _ _ _ => rfl) (fun b o v hv => ?_) q5).put o.dst (plain_av q4 hpl)⟩
              have hold := k.ext _ _ _ hv
              have hlt := block_lt_of_cell hold
              simp only [World.cell?] at hold ⊢
              rw [q5.block b hlt fun q => q]
              exact hold
            | panicked ch => exact hR.elim
            | outgrown => exact hR.elim
          · exact viaFull he
        · exact viaFull he
      · exact viaFull he

end
end Go.Ai
