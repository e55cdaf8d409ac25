/- Ai, part 18: a loop's head: what is kept; the rest is frozen. No condition. -/
import Derived.Test.YtbpnlbadgnjmaaaAiRegion
namespace Go.Ai
set_option linter.unusedSimpArgs false
set_option linter.unusedVariables false
set_option linter.constructorNameAsVariable false

section
variable {P : Program} {T : Nat → Option Ty} {S : Sp} {w0 : World} {h0 : H} {st : St} {a : Act} {w w' : World} {β : Beta} {h h' : H} {o : Oper} {Q : Exit → Act → World → Prop}

/-- The blocks of the objects that go. -/
def Gone (st : St) (β : Beta) (kp : Nat → Bool) (b : Nat) : Prop := ∃ id m, (st.ob id).isSome = true ∧ kp id = false ∧ β id = some (b, m)

open Classical in
/-- They will not change any more. -/
noncomputable def frozenH (st : St) (β : Beta) (kp : Nat → Bool) (w : World) (h : H) : H := fun b o => if Gone st β kp b then w.cell? ⟨b, o, none⟩ else h b o

theorem frozen_gone {kp : Nat → Bool} {b : Nat} (hg : Gone st β kp b) (o : Nat) : frozenH st β kp w h b o = w.cell? ⟨b, o, none⟩ := if_pos hg
theorem frozen_else {kp : Nat → Bool} {b : Nat} (hg : ¬ Gone st β kp b) (o : Nat) : frozenH st β kp w h b o = h b o := if_neg hg

theorem frozen_le (hx : Ext w h) (kp : Nat → Bool) : HLe h (frozenH st β kp w h) := fun b o v hv => by
  by_cases hg : Gone st β kp b
  · rw [frozen_gone hg]; exact hx b o v hv
  · rw [frozen_else hg]; exact hv

/-- The objects afterwards. -/
def keptO (ob : Obs) (kp : Nat → Bool) : Obs := fun i => if kp i then (ob i).map (keepObj ob kp) else none

theorem keptO_cells {ob : Obs} {kp : Nat → Bool} {id ty v : Nat} {cs : List LV} (hk : kp id = true) (ho : ob id = some (.cells ty v cs)) : keptO ob kp id = some (.cells ty v (cs.map (keepLV ob kp))) := by simp [keptO, hk, ho, keepObj]
theorem keptO_tail {ob : Obs} {kp : Nat → Bool} {id ty sz n : Nat} (hk : kp id = true) (ho : ob id = some (.tail ty sz n)) : keptO ob kp id = some (.tail ty sz n) := by simp [keptO, hk, ho, keepObj]

theorem mem_idsAll : ∀ {ls : List LV} {l : LV} {i : Nat}, l ∈ ls → i ∈ l.ids → i ∈ LV.ids.idsAll ls := by
  intro ls
  induction ls with
  | nil => intro l i h _; cases h
  | cons x ls ih =>
    intro l i h hi
    simp only [LV.ids.idsAll]
    rcases List.mem_cons.1 h with rfl | h
    · exact List.mem_append_left _ hi
    · exact List.mem_append_right _ (ih h hi)

/-- A value all of whose objects are kept. -/
theorem LVR.stay {kp : Nat → Bool} (hh : HLe h h') {l : LV} {x : Value} (k : LVR β st.ob h l x) (hk : ∀ i ∈ l.ids, kp i = true) : LVR β (keptO st.ob kp) h' l x := by
  induction k with
  | imm v x k => exact .imm v x (k.mono hh)
  | ptr id ver off b ty v cs hob hle hat => exact .ptr id ver off b ty v _ (keptO_cells (hk id (by simp [LV.ids])) hob) hle hat
  | iptr cs b o k => exact .iptr cs b o (k.mono hh)
  | ms id ver sz off len A c ty v cs hc hm hob hle hat => exact .ms id ver sz off len A c ty v _ hc hm (keptO_cells (hk id (by simp [LV.ids])) hob) hle hat
  | ap id rows x ty sz n k hob hle hat hsz => exact .ap id rows x ty sz n (k.mono hh) (keptO_tail (hk id (by simp [LV.ids])) hob) hle hat hsz
  | clip rows A k => exact .clip rows A (k.mono hh)
  | func f first cap xs ys h1 h2 _ _ i1 i2 =>
    refine .func f first cap xs ys h1 h2 (fun i l x hl hx => i1 i l x hl hx fun j hj => hk j ?_) (fun i l x hl hx => i2 i l x hl hx fun j hj => hk j ?_)
    · simp only [LV.ids]
      exact List.mem_append_left _ (mem_idsAll (List.mem_of_getElem? hl) hj)
    · simp only [LV.ids]
      exact List.mem_append_right _ (mem_idsAll (List.mem_of_getElem? hl) hj)
  | und => exact .und
  | dead x => exact .dead x

theorem frozen_rows (k : RelAt S w0 h0 st a w β h) {kp : Nat → Bool} {id ver sz off len : Nat} {x : Value} (kl : LVR β st.ob h (.ms id ver sz off len) x) (hk : kp id = false) {rows : List (List IV)} (hr : rowsOf st.ob (.ms id ver sz off len) = some rows) : IVR (frozenH st β kp w h) (.sl rows) x := by
  obtain ⟨A, n, c, hx, hnc, hcm, hlen, hf⟩ := k.rows1 kl (fun i o ho => ho) hr
  simp only [rowsOf] at hr
  split at hr
  · rename_i ct ver' cs ho
    split at hr
    · rename_i hc
      obtain ⟨hv, hz, hl⟩ := hc
      obtain ⟨q1, q2⟩ := rowsAt_spec len off rows hr
      have hrow : ∀ (i : Nat) (r : List IV), rows[i]? = some r → r.length = sz := by
        intro i r hi
        have hil : i < len := by rw [← q1]; exact (List.getElem?_eq_some_iff.1 hi).1
        obtain ⟨q, hq, hs⟩ := q2 i hil
        rw [hi] at hq
        injection hq with hq
        subst hq
        rw [stripAll_length hs, List.length_take, List.length_drop]
        have : (off + i + 1) * sz ≤ (off + len) * sz := Nat.mul_le_mul_right _ (by omega)
        rw [Nat.add_mul (off + i) 1] at this
        omega
      subst hx
      by_cases hn : n = 0
      · subst hn
        have : rows = [] := List.eq_nil_of_length_eq_zero hlen
        subst this
        exact .empty _ _ hcm
      · cases kl with
        | ms id ver sz off len A c ty' v cs' hc' hcm' hob' hle hat =>
          rw [ho] at hob'
          injection hob' with e
          injection e with e1 e2 e3
          subst e1; subst e2; subst e3
          rcases hat (.inl (Nat.pos_of_ne_zero hn)) with ⟨b, hA, hq⟩ | ⟨_, h0, _⟩
          · obtain ⟨m, hb, _⟩ := hq hv.symm
            have hg : Gone st β kp b := ⟨id, m, by rw [ho]; rfl, hk, hb⟩
            obtain ⟨_, _, h3⟩ := hf sz hrow
            obtain ⟨b', p, hA', hc⟩ := h3 (Nat.pos_of_ne_zero hn)
            rw [hA] at hA'
            injection hA' with hA'
            injection hA' with e4 e5
            subst e4; subst e5
            subst hA
            refine IVR.ofRows (sz := sz) (fun j => (w.cell? ⟨b, off * sz + j, none⟩).getD undef) hlen hnc hcm hz hrow (fun j hj => ?_) (fun i r j x hi hj => ?_)
            · have hd : j / sz < len := (Nat.div_lt_iff_lt_mul hz).2 hj
              have hm : j % sz < sz := Nat.mod_lt _ hz
              have hi : rows[j / sz]? = some rows[j / sz] := List.getElem?_eq_getElem (by omega)
              have hj' : (rows[j / sz])[j % sz]? = some ((rows[j / sz])[j % sz]'(by rw [hrow _ _ hi]; exact hm)) := List.getElem?_eq_getElem (by rw [hrow _ _ hi]; exact hm)
              obtain ⟨u, hu, _⟩ := hc _ _ _ _ hi hj'
              have e : j / sz * sz + j % sz = j := by rw [Nat.mul_comm]; exact Nat.div_add_mod j sz
              rw [e] at hu
              rw [frozen_gone hg, hu]
              rfl
            · obtain ⟨u, hu, hx⟩ := hc i r j x hi hj
              simp only [hu, Option.getD_some]
              exact hx.mono (frozen_le k.ext kp)
          · exact absurd h0 hn
    · cases hr
  · cases hr

theorem keep_LVR (k : RelAt S w0 h0 st a w β h) (kp : Nat → Bool) {l : LV} {x : Value} (kl : LVR β st.ob h l x) : LVR β (keptO st.ob kp) (frozenH st β kp w h) (keepLV st.ob kp l) x := by
  have hh := frozen_le (st := st) (β := β) k.ext kp
  cases l with
  | imm v => exact kl.stay hh (fun i hi => by simp [LV.ids] at hi)
  | iptr cs => exact kl.stay hh (fun i hi => by simp [LV.ids] at hi)
  | clip rows => exact kl.stay hh (fun i hi => by simp [LV.ids] at hi)
  | und => exact kl.stay hh (fun i hi => by simp [LV.ids] at hi)
  | dead => exact .dead x
  | ptr id ver off =>
    simp only [keepLV]
    split
    · rename_i hk
      exact kl.stay hh (fun i hi => by simp [LV.ids] at hi; subst hi; exact hk)
    · exact .dead x
  | ap id rows =>
    simp only [keepLV]
    split
    · rename_i hk
      exact kl.stay hh (fun i hi => by simp [LV.ids] at hi; subst hi; exact hk)
    · cases kl with
      | ap id rows x ty sz n kk => exact .imm _ _ (kk.mono hh)
  | ms id ver sz off len =>
    simp only [keepLV]
    split
    · rename_i hk
      exact kl.stay hh (fun i hi => by simp [LV.ids] at hi; subst hi; exact hk)
    · rename_i hk
      split
      · rename_i rows hr
        exact .imm _ _ (frozen_rows k kl (by simpa using hk) hr)
      · exact .dead x
  | func f first cap =>
    simp only [keepLV]
    split
    · rename_i hk
      rw [Bool.and_eq_true] at hk
      refine kl.stay hh fun i hi => ?_
      simp only [LV.ids] at hi
      rcases List.mem_append.1 hi with q | q
      · exact List.all_eq_true.1 hk.1 i q
      · exact List.all_eq_true.1 hk.2 i q
    · exact .dead x

theorem keepTmps_get (ob : Obs) (ts : List Nat) (kp : Nat → Bool) : ∀ (l : List AV) (i j : Nat), (keepTmps ob ts kp i l)[j]? = (l[j]?).map fun v => if ts.contains (i + j) then keepAV ob kp v else .leaf .dead := by
  intro l
  induction l with
  | nil => intro i j; simp [keepTmps]
  | cons v l ih =>
    intro i j
    cases j with
    | zero => simp [keepTmps]
    | succ j =>
      simp only [keepTmps, List.getElem?_cons_succ, ih]
      have : i + 1 + j = i + (j + 1) := by omega
      rw [this]

theorem keepObjs_get (ob : Obs) (kp : Nat → Bool) : ∀ (l : List (Option AObj)) (i j : Nat), (keepObjs ob kp i l)[j]? = (l[j]?).map fun o => if kp (i + j) then o.map (keepObj ob kp) else none := by
  intro l
  induction l with
  | nil => intro i j; simp [keepObjs]
  | cons v l ih =>
    intro i j
    cases j with
    | zero => simp [keepObjs]
    | succ j =>
      simp only [keepObjs, List.getElem?_cons_succ, ih]
      have : i + 1 + j = i + (j + 1) := by omega
      rw [this]

theorem keepTmps_length (ob : Obs) (ts : List Nat) (kp : Nat → Bool) : ∀ (l : List AV) (i : Nat), (keepTmps ob ts kp i l).length = l.length := by
  intro l
  induction l with
  | nil => intro i; rfl
  | cons v l ih => intro i; simp [keepTmps, ih]

theorem kept_ob (tm : List AV) (kp : Nat → Bool) : St.ob { tmps := tm, objs := keepObjs st.ob kp 0 st.objs } = keptO st.ob kp := by
  funext i
  simp only [St.ob, keepObjs_get, Nat.zero_add, keptO]
  cases st.objs[i]? with
  | none => simp
  | some o => simp

theorem keep_AVR (k : RelAt S w0 h0 st a w β h) (kp : Nat → Bool) {v : AV} {x : Value} (kv : AVR β st.ob h v x) : AVR β (keptO st.ob kp) (frozenH st β kp w h) (keepAV st.ob kp v) x := by
  cases kv with
  | leaf l x kl => exact .leaf _ _ (keep_LVR k kp kl)
  | agg ls xs kl => exact .agg _ _ (PW.map_left.2 (kl.imp fun l x kl => keep_LVR k kp kl))
  | tup vs xs hl kk => exact .leaf _ _ (.dead _)

theorem freeze_sound (k : RelAt S w0 h0 st a w β h) (ts : List Nat) (kp : Nat → Bool) (hkp : ∀ i, (S.ob0 i).isSome = true → kp i = true) :
    RelAt S w0 h0 { tmps := keepTmps st.ob ts kp 0 st.tmps, objs := keepObjs st.ob kp 0 st.objs } a w β (frozenH st β kp w h) := by
  have hh := frozen_le (st := st) (β := β) k.ext kp
  have some_of : ∀ {i : Nat} {o : AObj}, keptO st.ob kp i = some o → kp i = true ∧ ∃ o1, st.ob i = some o1 ∧ o = keepObj st.ob kp o1 := fun {i o} ho => by
    unfold keptO at ho
    split at ho
    · rename_i hk
      cases hs : st.ob i with
      | none => rw [hs] at ho; cases ho
      | some o1 => rw [hs] at ho; injection ho with ho; exact ⟨hk, o1, rfl, ho.symm⟩
    · cases ho
  have notGone : ∀ {i b m : Nat}, kp i = true → (st.ob i).isSome = true → β i = some (b, m) → ¬ Gone st β kp b := fun {i b m} hk hs hb hg => by
    obtain ⟨id, m', h1, h2, h3⟩ := hg
    have := k.inj i id b m m' hs h1 hb h3
    subst this
    rw [hk] at h2
    cases h2
  refine ⟨by simp only [keepTmps_length]; exact k.len, fun i v hi => ?_, k.defers, fun i o ho => ?_, fun i i' b m m' hi hi' h1 h2 => ?_, fun b o v hv => ?_, k.up.trans hh, fun b o hb hs => ?_, k.frame, fun i o ho => ?_⟩
  · rw [kept_ob]
    rw [keepTmps_get] at hi
    cases hv : st.tmps[i]? with
    | none => rw [hv] at hi; cases hi
    | some u =>
      rw [hv] at hi
      injection hi with hi
      obtain ⟨x, hx, hr⟩ := k.vals i u hv
      refine ⟨x, hx, ?_⟩
      rw [← hi]
      split
      · exact keep_AVR k kp hr
      · exact .leaf _ _ (.dead _)
  · rw [kept_ob] at ho ⊢
    obtain ⟨hk, o1, ho1, rfl⟩ := some_of ho
    have ko := k.objs i o1 ho1
    cases o1 with
    | cells ty v cs =>
      rcases ko with ⟨hn, hc⟩ | ⟨b, m, vs, hb, he, hm, hl, hc, hz, hs⟩
      · exact .inl ⟨hn, by rw [hc]; rfl⟩
      · have hg := notGone hk (by rw [ho1]; rfl) hb
        refine .inr ⟨b, m, vs, hb, he, hm, by simpa using hl, fun j l hj => ?_, fun o => by rw [frozen_else hg]; exact hz o, hs⟩
        rw [List.getElem?_map] at hj
        cases hcj : cs[j]? with
        | none => rw [hcj] at hj; cases hj
        | some l0 =>
          rw [hcj] at hj
          injection hj with hj
          subst hj
          obtain ⟨x, hx, h1, hr⟩ := hc j l0 hcj
          exact ⟨x, hx, h1, keep_LVR k kp hr⟩
    | tail ty sz n =>
      rcases ko with ⟨hn, hc⟩ | ⟨b, m, vs, hb, he, hm, hl, hz, hs⟩
      · exact .inl ⟨hn, hc⟩
      · have hg := notGone hk (by rw [ho1]; rfl) hb
        exact .inr ⟨b, m, vs, hb, he, hm, hl, fun o ho => by rw [frozen_else hg]; exact hz o ho, hs⟩
  · rw [kept_ob] at hi hi'
    obtain ⟨o, ho⟩ := Option.isSome_iff_exists.1 hi
    obtain ⟨o', ho'⟩ := Option.isSome_iff_exists.1 hi'
    obtain ⟨_, o1, q1, _⟩ := some_of ho
    obtain ⟨_, o2, q2, _⟩ := some_of ho'
    exact k.inj i i' b m m' (by rw [q1]; rfl) (by rw [q2]; rfl) h1 h2
  · by_cases hg : Gone st β kp b
    · rw [frozen_gone hg] at hv; exact hv
    · rw [frozen_else hg] at hv; exact k.ext _ _ _ hv
  · have hg : ¬ Gone st β kp b := fun hg => by
      obtain ⟨id, m, h1, _, h3⟩ := hg
      obtain ⟨o1, ho1⟩ := Option.isSome_iff_exists.1 h1
      rcases (k.objs id o1 ho1).base h3 with q | q
      · omega
      · exact hs q
    rw [frozen_else hg]
    exact k.fresh _ _ hb hs
  · have hk := hkp i (by rw [ho]; rfl)
    have hp := k.pin i o ho
    rw [kept_ob]
    cases o with
    | cells ty v cs =>
      obtain ⟨ty', v', cs', e, hv, hb⟩ := hp
      exact ⟨ty', v', _, by unfold keptO; rw [if_pos hk, e]; rfl, hv, hb⟩
    | tail ty sz n =>
      obtain ⟨n', e, hv, hb⟩ := hp
      exact ⟨n', by unfold keptO; rw [if_pos hk, e]; rfl, hv, hb⟩

/-- An object without a block. -/
def unB (β : Beta) (id : Nat) : Beta := fun i => if i = id then none else β i
theorem unB_same (β : Beta) (id : Nat) : unB β id id = none := if_pos rfl
theorem unB_other (β : Beta) {id i : Nat} (h : i ≠ id) : unB β id i = β i := if_neg h

theorem seed_sound (k : RelAt S w0 h0 st a w β h) {id e z : Nat} {g : Bool} (hn : st.ob id = none) (hid : id < st.objs.length) : RelAt S w0 h0 { tmps := st.tmps, objs := st.objs.set id (some (seedObj e z g)) } a w (unB β id) h := by
  have hob : St.ob { tmps := st.tmps, objs := st.objs.set id (some (seedObj e z g)) } = updO st.ob id (seedObj e z g) := funext fun i => St.ob_set st st.tmps id _ hid i
  have hg : Grow β st.ob (unB β id) (updO st.ob id (seedObj e z g)) := fun i o1 ho => by
    have hi : i ≠ id := fun e => by subst e; rw [hn] at ho; cases ho
    cases o1 with
    | cells ty v cs => exact ⟨ty, v, cs, by rw [updO_other _ _ hi]; exact ho, Nat.le_refl _, fun _ => unB_other _ hi⟩
    | tail ty sz n => exact ⟨n, by rw [updO_other _ _ hi]; exact ho, Nat.le_refl _, fun _ => unB_other _ hi⟩
  refine ⟨k.len, fun i v hi => ?_, k.defers, fun i o ho => ?_, fun i i' b m m' hi hi' h1 h2 => ?_, k.ext, k.up, k.fresh, k.frame, by rw [hob]; exact k.pin.trans hg⟩
  · obtain ⟨x, hx, hr⟩ := k.vals i v hi
    rw [hob]
    exact ⟨x, hx, hr.mono hg (HLe.refl h)⟩
  · rw [hob] at ho ⊢
    by_cases hi : i = id
    · subst hi
      rw [updO_same] at ho
      injection ho with ho
      subst ho
      cases g
      · exact .inl ⟨unB_same _ _, rfl⟩
      · exact .inl ⟨unB_same _ _, rfl⟩
    · rw [updO_other _ _ hi] at ho
      exact (k.objs i o ho).keep hg (HLe.refl h) (unB_other _ hi) fun b m _ => ⟨rfl, fun _ => rfl⟩
  · rw [hob] at hi hi'
    have n1 : i ≠ id := fun e => by subst e; rw [unB_same] at h1; cases h1
    have n2 : i' ≠ id := fun e => by subst e; rw [unB_same] at h2; cases h2
    rw [unB_other _ n1] at h1
    rw [unB_other _ n2] at h2
    rw [updO_other _ _ n1] at hi
    rw [updO_other _ _ n2] at hi'
    exact k.inj i i' b m m' hi hi' h1 h2

/-- A nil slice may be seen as one that will be appended to. -/
theorem seed_R {ob : Obs} {id e z : Nat} {g : Bool} (ho : ob id = some (seedObj e z g)) (hb : β id = none) {x : Value} (k : LVR β ob h (.imm .nil) x) : LVR β ob h (seedLV id z g) x := by
  have hx : x = .slice none 0 0 := by cases k with | imm v x k => cases k; rfl
  subst hx
  cases g
  · exact .ap id [] _ e z 0 (.empty _ _ (Nat.zero_le _)) ho (Nat.le_refl _) (fun _ => .inl ⟨hb, rfl⟩) (fun i r hi => by simp at hi)
  · exact .ms id 0 z 0 0 none 0 e 0 [] (Nat.le_refl _) (Nat.zero_le _) ho (Nat.le_refl _) fun _ => .inr ⟨rfl, rfl, fun _ => ⟨hb, rfl⟩⟩

theorem tmpset_sound (k : RelAt S w0 h0 st a w β h) {t id e z : Nat} {g : Bool} (ho : st.ob id = some (seedObj e z g)) (hb : β id = none) (ht : st.tmps[t]? = some (.leaf (.imm .nil))) : RelAt S w0 h0 { tmps := st.tmps.set t (.leaf (seedLV id z g)), objs := st.objs } a w β h := by
  refine ⟨by simp [k.len], fun i v hi => ?_, k.defers, k.objs, k.inj, k.ext, k.up, k.fresh, k.frame, k.pin⟩
  have hi' : (st.tmps.set t (.leaf (seedLV id z g)))[i]? = some v := hi
  rw [List.getElem?_set] at hi'
  split at hi'
  · rename_i e
    subst e
    split at hi'
    · injection hi' with hi'
      subst hi'
      obtain ⟨x, hx, hr⟩ := k.vals _ _ ht
      exact ⟨x, hx, .leaf _ _ (seed_R ho hb hr.lv)⟩
    · cases hi'
  · exact k.vals i v hi'

theorem cellset_sound (k : RelAt S w0 h0 st a w β h) {b j id e z t ver : Nat} {g : Bool} {cs : List LV} (hbi : b ≠ id) (ho : st.ob id = some (seedObj e z g)) (hb : β id = none) (hc : st.ob b = some (.cells t ver cs)) (hj : cs[j]? = some (.imm .nil)) (hbl : b < st.objs.length) :
    RelAt S w0 h0 { tmps := st.tmps, objs := st.objs.set b (some (.cells t ver (cs.set j (seedLV id z g)))) } a w β h := by
  have hob : St.ob { tmps := st.tmps, objs := st.objs.set b (some (.cells t ver (cs.set j (seedLV id z g)))) } = updO st.ob b (.cells t ver (cs.set j (seedLV id z g))) := funext fun i => St.ob_set st st.tmps b _ hbl i
  have hg : Grow β st.ob β (updO st.ob b (.cells t ver (cs.set j (seedLV id z g)))) := fun i o1 ho1 => by
    by_cases hi : i = b
    · subst hi
      rw [hc] at ho1
      injection ho1 with ho1
      subst ho1
      exact ⟨_, _, _, updO_same _ _ _, Nat.le_refl _, fun _ => rfl⟩
    · cases o1 with
      | cells ty v cs => exact ⟨ty, v, cs, by rw [updO_other _ _ hi]; exact ho1, Nat.le_refl _, fun _ => rfl⟩
      | tail ty sz n => exact ⟨n, by rw [updO_other _ _ hi]; exact ho1, Nat.le_refl _, fun _ => rfl⟩
  have isS : ∀ {i : Nat}, (updO st.ob b (.cells t ver (cs.set j (seedLV id z g))) i).isSome = true → (st.ob i).isSome = true := fun {i} hi => by
    by_cases e : i = b
    · subst e; rw [hc]; rfl
    · rw [updO_other _ _ e] at hi; exact hi
  refine ⟨k.len, fun i v hi => ?_, k.defers, fun i o1 ho1 => ?_, fun i i' b1 m m' hi hi' h1 h2 => ?_, k.ext, k.up, k.fresh, k.frame, by rw [hob]; exact k.pin.trans hg⟩
  · obtain ⟨x, hx, hr⟩ := k.vals i v hi
    rw [hob]
    exact ⟨x, hx, hr.mono hg (HLe.refl h)⟩
  · rw [hob] at ho1 ⊢
    by_cases hi : i = b
    · subst hi
      rw [updO_same] at ho1
      injection ho1 with ho1
      subst ho1
      rcases k.objs _ _ hc with ⟨hn, he⟩ | ⟨b', m, vs, hb', hw, hm, hl, hcc, hz, hs⟩
      · exact .inl ⟨hn, by rw [he]; rfl⟩
      · refine .inr ⟨b', m, vs, hb', hw, hm, by simpa using hl, fun q l hq => ?_, hz, hs⟩
        rw [List.getElem?_set] at hq
        split at hq
        · rename_i e
          subst e
          split at hq
          · injection hq with hq
            subst hq
            obtain ⟨x, hx, h1, hr⟩ := hcc _ _ hj
            exact ⟨x, hx, h1, seed_R (e := e) (by rw [updO_other _ _ (fun q => hbi q.symm)]; exact ho) hb (hr.mono hg (HLe.refl h))⟩
          · cases hq
        · obtain ⟨x, hx, h1, hr⟩ := hcc _ _ hq
          exact ⟨x, hx, h1, hr.mono hg (HLe.refl h)⟩
    · rw [updO_other _ _ hi] at ho1
      exact (k.objs i o1 ho1).keep hg (HLe.refl h) rfl fun b m _ => ⟨rfl, fun _ => rfl⟩
  · rw [hob] at hi hi'
    exact k.inj i i' b1 m m' (isS hi) (isS hi') h1 h2

theorem St.ob_lt {st : St} {i : Nat} {o : AObj} (h : st.ob i = some o) : i < st.objs.length := by
  rcases Nat.lt_or_ge i st.objs.length with q | q
  · exact q
  · simp [St.ob, List.getElem?_eq_none q] at h

theorem promote_sound : ∀ (l : List (Nat × Nat × Nat × Nat × Nat × Bool)) {st : St} {β : Beta}, RelAt S w0 h0 st a w β h → ∃ β', RelAt S w0 h0 (promote st l) a w β' h := by
  intro l
  induction l with
  | nil => intro st β k; exact ⟨β, k⟩
  | cons p l ih =>
    intro st β k
    obtain ⟨b, j, id, e, z, g⟩ := p
    simp only [promote]
    split
    · rename_i t ver cs hc hn
      split
      · rename_i hj
        split
        · rename_i hcond
          obtain ⟨hid, hbi⟩ := hcond
          have k1 := seed_sound (e := e) (z := z) (g := g) k hn hid
          have hob : St.ob { tmps := st.tmps, objs := st.objs.set id (some (seedObj e z g)) } = updO st.ob id (seedObj e z g) := funext fun i => St.ob_set st st.tmps id _ hid i
          have k2 := cellset_sound (b := b) (j := j) (id := id) (e := e) (z := z) (t := t) (ver := ver) (g := g) (cs := cs) k1 hbi (by rw [hob, updO_same]) (unB_same _ _) (by rw [hob, updO_other _ _ hbi]; exact hc) hj (by simpa using St.ob_lt hc)
          have e1 : (st.objs.set b (some (.cells t ver (cs.set j (seedLV id z g))))).set id (some (seedObj e z g)) = (st.objs.set id (some (seedObj e z g))).set b (some (.cells t ver (cs.set j (seedLV id z g)))) := List.set_comm _ _ hbi
          refine ih (β := unB β id) ?_
          rw [e1]
          exact k2
        · exact ih k
      · exact ih k
    · exact ih k

theorem promoteT_sound : ∀ (l : List (Nat × Nat × Nat × Nat × Bool)) {st : St} {β : Beta}, RelAt S w0 h0 st a w β h → ∃ β', RelAt S w0 h0 (promoteT st l) a w β' h := by
  intro l
  induction l with
  | nil => intro st β k; exact ⟨β, k⟩
  | cons p l ih =>
    intro st β k
    obtain ⟨t, id, e, z, g⟩ := p
    simp only [promoteT]
    split
    · rename_i ht hn
      split
      · rename_i hid
        have k1 := seed_sound (e := e) (z := z) (g := g) k hn hid
        have hob : St.ob { tmps := st.tmps, objs := st.objs.set id (some (seedObj e z g)) } = updO st.ob id (seedObj e z g) := funext fun i => St.ob_set st st.tmps id _ hid i
        exact ih (tmpset_sound (t := t) (e := e) k1 (by rw [hob, updO_same]) (unB_same _ _) ht)
      · exact ih k
    · exact ih k

theorem keep_sound (k : RelAt S w0 h0 st a w β h) (K : Keep) (hK : ∀ i, (S.ob0 i).isSome = true → K.ext ≤ i) : ∃ β' h', RelAt S w0 h0 (keepSt K st) a w β' h' := by
  have k1 := freeze_sound k K.tmps (kept K.ext K.objs) fun i hi => by simp [kept, hK i hi]
  obtain ⟨β1, k2⟩ := promote_sound K.nils k1
  obtain ⟨β2, k3⟩ := promoteT_sound K.tnils k2
  exact ⟨β2, _, k3⟩

end
end Go.Ai
