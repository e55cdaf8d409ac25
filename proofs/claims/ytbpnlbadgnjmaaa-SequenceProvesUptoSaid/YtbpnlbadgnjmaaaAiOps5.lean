/- Ai, part 7: operations that change memory: a change of one object. No condition. -/
import Derived.Test.YtbpnlbadgnjmaaaAiOps4
import Derived.Laws.MakeOwn
namespace Go.Ai
set_option linter.unusedSimpArgs false
set_option linter.unusedVariables false

/-- One object has got a new block, or another content in its old one. -/
def updB (β : Beta) (id b m : Nat) : Beta := fun i => if i = id then some (b, m) else β i
def updO (ob : Obs) (id : Nat) (o : AObj) : Obs := fun i => if i = id then some o else ob i

theorem updB_same (β : Beta) (id b m : Nat) : updB β id b m id = some (b, m) := if_pos rfl
theorem updB_other (β : Beta) {id i : Nat} (b m : Nat) (h : i ≠ id) : updB β id b m i = β i := if_neg h
theorem updO_same (ob : Obs) (id : Nat) (o : AObj) : updO ob id o id = some o := if_pos rfl
theorem updO_other (ob : Obs) {id i : Nat} (o : AObj) (h : i ≠ id) : updO ob id o i = ob i := if_neg h

section
variable {P : Program} {T : Nat → Option Ty} {S : Sp} {w0 : World} {h0 : H} {st : St} {a : Act} {w w' : World} {β : Beta} {h h' : H} {o : Oper}

theorem St.put_ob (st : St) (d : Option Nat) (v : AV) {id : Nat} (o : AObj) (hid : id < st.objs.length) : (st.put d v [(id, o)]).ob = updO st.ob id o := by
  funext i
  exact St.ob_set st _ id o hid i

theorem ObjR.lt {ob : Obs} {base : Nat} {id : Nat} {ob1 : AObj} (k : ObjR β ob h S base w id ob1) {b m : Nat} (hb : β id = some (b, m)) : b < w.heap.size := by
  have lt : ∀ {b : Nat} {c : Obj}, w.heap[b]? = some c → b < w.heap.size := fun {b c} e => by
    rcases Nat.lt_or_ge b w.heap.size with h | h
    · exact h
    · rw [Array.getElem?_eq_none h] at e; cases e
  cases ob1 with
  | cells ty ver cs =>
    rcases k with ⟨hn, _⟩ | ⟨b', m', vs, hb', hw, _⟩
    · rw [hb] at hn; cases hn
    · rw [hb] at hb'; injection hb' with e; injection e with e1 e2; subst e1; exact lt hw
  | tail ty sz n =>
    rcases k with ⟨hn, _⟩ | ⟨b', m', vs, hb', hw, _⟩
    · rw [hb] at hn; cases hn
    · rw [hb] at hb'; injection hb' with e; injection e with e1 e2; subst e1; exact lt hw

theorem ObjR.base {ob : Obs} {base : Nat} {id : Nat} {ob1 : AObj} (k : ObjR β ob h S base w id ob1) {b m : Nat} (hb : β id = some (b, m)) : base ≤ b ∨ S b := by
  cases ob1 with
  | cells ty ver cs =>
    rcases k with ⟨hn, _⟩ | ⟨b', m', vs, hb', hw, _, _, _, _, hs⟩
    · rw [hb] at hn; cases hn
    · rw [hb] at hb'; injection hb' with e; injection e with e1 e2; subst e1; exact hs
  | tail ty sz n =>
    rcases k with ⟨hn, _⟩ | ⟨b', m', vs, hb', hw, _, _, _, hs⟩
    · rw [hb] at hn; cases hn
    · rw [hb] at hb'; injection hb' with e; injection e with e1 e2; subst e1; exact hs

/-- An object whose block is as it was. -/
theorem ObjR.keep {ob ob' : Obs} {β' : Beta} {base : Nat} {id : Nat} {ob1 : AObj} (k : ObjR β ob h S base w id ob1) (hg : Grow β ob β' ob') (hh : HLe h h') (hβ : β' id = β id)
    (hw : ∀ b m, β id = some (b, m) → w'.heap[b]? = w.heap[b]? ∧ ∀ o, h' b o = h b o) : ObjR β' ob' h' S base w' id ob1 := by
  cases ob1 with
  | cells ty ver cs =>
    rcases k with ⟨hn, hc⟩ | ⟨b, m, vs, hb, he, hm, hl, hc, hz, hs⟩
    · exact .inl ⟨by rw [hβ]; exact hn, hc⟩
    · obtain ⟨e1, e2⟩ := hw b m hb
      refine .inr ⟨b, m, vs, by rw [hβ]; exact hb, by rw [e1]; exact he, hm, hl, fun j l hj => ?_, fun o => by rw [e2]; exact hz o, hs⟩
      obtain ⟨x, hx, hso, hr⟩ := hc j l hj
      exact ⟨x, hx, hso, hr.mono hg hh⟩
  | tail ty sz n =>
    rcases k with ⟨hn, hc⟩ | ⟨b, m, vs, hb, he, hm, hl, hz, hs⟩
    · exact .inl ⟨by rw [hβ]; exact hn, hc⟩
    · obtain ⟨e1, e2⟩ := hw b m hb
      exact .inr ⟨b, m, vs, by rw [hβ]; exact hb, by rw [e1]; exact he, hm, hl, fun o ho => by rw [e2]; exact hz o ho, hs⟩

theorem RelAt.lt (k : RelAt S w0 h0 st a w β h) {id : Nat} (hs : (st.ob id).isSome) {b m : Nat} (hb : β id = some (b, m)) : b < w.heap.size := by
  obtain ⟨o1, ho⟩ := Option.isSome_iff_exists.1 hs
  exact (k.objs id o1 ho).lt hb

theorem RelAt.upd (k : RelAt S w0 h0 st a w β h) {id : Nat} {ob1 : AObj} {b m : Nat} (d : Option Nat) {v : AV} {x : Value} (hid : id < st.objs.length)
    (hb : b = w.heap.size ∨ ((st.ob id).isSome = true ∧ ∃ m0, β id = some (b, m0)))
    (hsize : w.heap.size ≤ w'.heap.size) (hw : ∀ i, i ≠ b → i < w.heap.size → w'.heap[i]? = w.heap[i]?) (hos : w'.os = w.os) (htape : w'.tape = w.tape) (hout : w'.output = w.output)
    (hh : HLe h h') (hhb : ∀ i o, i ≠ b → h' i o = h i o) (hext : ∀ o v, h' b o = some v → w'.cell? ⟨b, o, none⟩ = some v)
    (hgrow : Grow β st.ob (updB β id b m) (updO st.ob id ob1))
    (hobj : ObjR (updB β id b m) (updO st.ob id ob1) h' S w0.heap.size w' id ob1)
    (hv : AVR (updB β id b m) (updO st.ob id ob1) h' v x) : RelAt S w0 h0 (st.put d v [(id, ob1)]) (a.put d x) w' (updB β id b m) h' := by
  have hS := hobj.base (updB_same β id b m)
  have hne : ∀ i o1, i ≠ id → st.ob i = some o1 → ∀ b' m', β i = some (b', m') → b' ≠ b := fun i o1 hi ho b' m' hb' e => by
    subst e
    rcases hb with rfl | ⟨hs, m0, hm0⟩
    · have := k.lt (by rw [ho]; rfl) hb'
      omega
    · exact hi (k.inj i id b' m' m0 (by rw [ho]; rfl) hs hb' hm0)
  have main : RelAt S w0 h0 { tmps := st.tmps, objs := st.objs.set id (some ob1) } a w' (updB β id b m) h' := by
    have hob : St.ob { tmps := st.tmps, objs := st.objs.set id (some ob1) } = updO st.ob id ob1 := funext fun i => St.ob_set st st.tmps id ob1 hid i
    refine ⟨k.len, fun i v hi => ?_, k.defers, fun i o1 ho => ?_, fun i i' b1 k1 k2 hi hi' h1 h2 => ?_, fun b1 o1 v1 hc => ?_, k.up.trans hh, fun b1 o1 hlt hs => ?_, ⟨by rw [hos]; exact k.frame.os, by rw [htape]; exact k.frame.tape, by rw [hout]; exact k.frame.output, Nat.le_trans k.frame.size hsize, fun i hi hs => ?_⟩, by rw [hob]; exact k.pin.trans hgrow⟩
    · obtain ⟨y, hy, hr⟩ := k.vals i v hi
      rw [hob]
      exact ⟨y, hy, hr.mono hgrow hh⟩
    · rw [hob] at ho ⊢
      by_cases hi : i = id
      · subst hi
        rw [updO_same] at ho
        injection ho with ho
        subst ho
        exact hobj
      · rw [updO_other _ _ hi] at ho
        refine (k.objs i o1 ho).keep hgrow hh (updB_other _ _ _ hi) fun b' m' hb' => ?_
        have hn := hne i o1 hi ho b' m' hb'
        exact ⟨hw b' hn (k.lt (by rw [ho]; rfl) hb'), fun o => hhb _ _ hn⟩
    · rw [hob] at hi hi'
      by_cases e : i = id
      · by_cases e' : i' = id
        · rw [e, e']
        · subst e
          rw [updB_same] at h1
          rw [updB_other _ _ _ e'] at h2
          rw [updO_other _ _ e'] at hi'
          injection h1 with h1
          injection h1 with h1
          subst h1
          obtain ⟨o2, ho2⟩ := Option.isSome_iff_exists.1 hi'
          exact absurd rfl (hne i' o2 e' ho2 _ _ h2)
      · rw [updB_other _ _ _ e] at h1
        rw [updO_other _ _ e] at hi
        obtain ⟨o1, ho1⟩ := Option.isSome_iff_exists.1 hi
        by_cases e' : i' = id
        · subst e'
          rw [updB_same] at h2
          injection h2 with h2
          injection h2 with h2
          subst h2
          exact absurd rfl (hne i o1 e ho1 _ _ h1)
        · rw [updB_other _ _ _ e'] at h2
          rw [updO_other _ _ e'] at hi'
          exact k.inj i i' b1 k1 k2 hi hi' h1 h2
    · by_cases e : b1 = b
      · subst e; exact hext _ _ hc
      · rw [hhb _ _ e] at hc
        have hold := k.ext _ _ _ hc
        have hlt := block_lt_of_cell hold
        simp only [World.cell?] at hold ⊢
        rw [hw b1 e hlt]
        exact hold
    · have e : b1 ≠ b := fun e => by
        subst e
        rcases hS with q | q
        · omega
        · exact hs q
      rw [hhb _ _ e]
      exact k.fresh _ _ hlt hs
    · have e : i ≠ b := fun e => by
        subst e
        rcases hS with q | q
        · omega
        · exact hs q
      rw [hw i e (Nat.lt_of_lt_of_le hi k.frame.size)]
      exact k.frame.block i hi hs
  have hob : St.ob { tmps := st.tmps, objs := st.objs.set id (some ob1) } = updO st.ob id ob1 := funext fun i => St.ob_set st st.tmps id ob1 hid i
  have := main.put d (v := v) (x := x) (by rw [hob]; exact hv)
  cases d <;> exact this

/-- A new object: nothing was there under its id. -/
theorem Grow.new {ob : Obs} {id b m : Nat} {ob1 : AObj} (hn : ob id = none) : Grow β ob (updB β id b m) (updO ob id ob1) := fun i o1 ho => by
  have hi : i ≠ id := fun e => by subst e; rw [hn] at ho; cases ho
  cases o1 with
  | cells ty v cs => exact ⟨ty, v, cs, by rw [updO_other _ _ hi]; exact ho, Nat.le_refl _, fun _ => updB_other _ _ _ hi⟩
  | tail ty sz n => exact ⟨n, by rw [updO_other _ _ hi]; exact ho, Nat.le_refl _, fun _ => updB_other _ _ _ hi⟩

/-- A new block of the frame's own. -/
theorem RelAt.fresh' (k : RelAt S w0 h0 st a w β h) (o : Nat) : h w.heap.size o = none := by
  cases hc : h w.heap.size o with
  | none => rfl
  | some v =>
    have := block_lt_of_cell (k.ext _ _ _ hc)
    exact absurd this (by simp)

theorem RelAt.new (k : RelAt S w0 h0 st a w β h) {id ty : Nat} {cs : List LV} {vs : Array Value} (d : Option Nat) (hid : id < st.objs.length) (hn : st.ob id = none) (hsize : w'.heap.size = w.heap.size + 1)
    (hnew : w'.heap[w.heap.size]? = some (.cells vs ty (0, 0))) (hold : ∀ i, i < w.heap.size → w'.heap[i]? = w.heap[i]?) (hos : w'.os = w.os) (htape : w'.tape = w.tape) (hout : w'.output = w.output)
    (hlen : cs.length ≤ vs.size) (hs : ∀ l ∈ cs, l.solid = true) (hp : PW (LVR β st.ob h) cs (vs.toList.take cs.length)) {v : AV} {x : Value}
    (hv : AVR (updB β id w.heap.size vs.size) (updO st.ob id (.cells ty 0 cs)) h v x) : RelAt S w0 h0 (st.put d v [(id, .cells ty 0 cs)]) (a.put d x) w' (updB β id w.heap.size vs.size) h := by
  refine k.upd d hid (.inl rfl) (by omega) (fun i _ hi => hold i hi) hos htape hout (HLe.refl h) (fun _ _ _ => rfl) (fun o v hc => by rw [k.fresh' o] at hc; cases hc) (Grow.new hn) ?_ hv
  refine .inr ⟨w.heap.size, vs.size, vs, updB_same _ _ _ _, hnew, rfl, hlen, fun j l hj => ?_, fun o => k.fresh' o, .inl k.frame.size⟩
  obtain ⟨x, hx, hr⟩ := hp.get hj
  refine ⟨x, ?_, hr.one (hs l (List.mem_of_getElem? hj)), hr.mono (Grow.new hn) (HLe.refl h)⟩
  rw [List.getElem?_take] at hx
  split at hx
  · simpa using hx
  · cases hx

end
end Go.Ai
