/- Ai, part 31: functions that are handed objects of the caller's. No condition. -/
import Derived.Test.YtbpnlbadgnjmaaaAiFun
namespace Go.Ai
set_option linter.unusedSimpArgs false
set_option linter.unusedVariables false
set_option linter.constructorNameAsVariable false

/-- What a renaming must keep. -/
def RenOk (f : Nat → Option Nat) (β : Beta) (ob : Obs) (β' : Beta) (ob' : Obs) : Prop := ∀ i j, f i = some j → β' j = β i ∧ ∀ o, ob i = some o → ob' j = some (renObj f o)

theorem renAll_get {f : Nat → Option Nat} : ∀ {ls : List LV} {i : Nat}, (renLV.renAll f ls)[i]? = (ls[i]?).map (renLV f) := by
  intro ls
  induction ls with
  | nil => intro i; rfl
  | cons l ls ih => intro i; cases i with
    | zero => rfl
    | succ i => simp only [renLV.renAll, List.getElem?_cons_succ]; exact ih
theorem renAll_len {f : Nat → Option Nat} : ∀ {ls : List LV}, (renLV.renAll f ls).length = ls.length := by
  intro ls
  induction ls with
  | nil => rfl
  | cons l ls ih => simp only [renLV.renAll, List.length_cons, ih]

theorem ren_LVR {f : Nat → Option Nat} {β β' : Beta} {ob ob' : Obs} {h : H} (hf : RenOk f β ob β' ob') {l : LV} {x : Value} (k : LVR β ob h l x) : LVR β' ob' h (renLV f l) x := by
  induction k with
  | imm v x k => exact .imm v x k
  | ptr id ver off b ty v cs hob hle hat =>
    simp only [renLV]
    cases hi : f id with
    | none => exact .dead _
    | some j =>
      obtain ⟨hb, ho⟩ := hf id j hi
      exact .ptr j ver off b ty v _ (ho _ hob) hle fun e => by rw [hb]; exact hat e
  | iptr cs b o k => exact .iptr cs b o k
  | ms id ver sz off len A c ty v cs hc hm hob hle hat =>
    simp only [renLV]
    cases hi : f id with
    | none => exact .dead _
    | some j =>
      obtain ⟨hb, ho⟩ := hf id j hi
      exact .ms j ver sz off len A c ty v _ hc hm (ho _ hob) hle fun e => by rw [hb]; exact hat e
  | ap id rows x ty sz n k hob hle hat hsz =>
    simp only [renLV]
    cases hi : f id with
    | none => exact .imm _ _ k
    | some j =>
      obtain ⟨hb, ho⟩ := hf id j hi
      exact .ap j rows x ty sz n k (ho _ hob) hle (fun e => by rw [hb]; exact hat e) hsz
  | clip rows A k => exact .clip rows A k
  | func g first cap xs ys h1 h2 _ _ i1 i2 =>
    simp only [renLV]
    refine .func g _ _ xs ys (by rw [renAll_len]; exact h1) (by rw [renAll_len]; exact h2) (fun i l x hl hx => ?_) fun i l x hl hx => ?_
    · rw [renAll_get] at hl
      obtain ⟨l0, h3, rfl⟩ := Option.map_eq_some_iff.1 hl
      exact i1 i l0 x h3 hx
    · rw [renAll_get] at hl
      obtain ⟨l0, h3, rfl⟩ := Option.map_eq_some_iff.1 hl
      exact i2 i l0 x h3 hx
  | und => exact .und
  | dead x => exact .dead x

theorem renTup_get {f : Nat → Option Nat} : ∀ {ls : List AV} {i : Nat}, (renAV.renTup f ls)[i]? = (ls[i]?).map (renAV f) := by
  intro ls
  induction ls with
  | nil => intro i; rfl
  | cons l ls ih => intro i; cases i with
    | zero => rfl
    | succ i => simp only [renAV.renTup, List.getElem?_cons_succ]; exact ih
theorem renTup_len {f : Nat → Option Nat} : ∀ {ls : List AV}, (renAV.renTup f ls).length = ls.length := by
  intro ls
  induction ls with
  | nil => rfl
  | cons l ls ih => simp only [renAV.renTup, List.length_cons, ih]

theorem ren_AVR {f : Nat → Option Nat} {β β' : Beta} {ob ob' : Obs} {h : H} (hf : RenOk f β ob β' ob') {v : AV} {x : Value} (k : AVR β ob h v x) : AVR β' ob' h (renAV f v) x := by
  induction k with
  | leaf l x k => exact .leaf _ _ (ren_LVR hf k)
  | agg ls xs k => exact .agg _ _ (PW.map_left.2 (k.imp fun l x k => ren_LVR hf k))
  | tup vs xs hl _ ih =>
    simp only [renAV]
    refine .tup _ _ (by rw [renTup_len]; exact hl) fun i v x hv hx => ?_
    rw [renTup_get] at hv
    obtain ⟨v0, h3, rfl⟩ := Option.map_eq_some_iff.1 hv
    exact ih i v0 x h3 hx

theorem ren_ObjR {f : Nat → Option Nat} {β β' : Beta} {ob ob' : Obs} {h : H} {S S' : Nat → Prop} {base base' : Nat} {w : World} (hf : RenOk f β ob β' ob') {id j : Nat} (hj : β' j = β id) {o : AObj} (k : ObjR β ob h S base w id o)
    (hb : ∀ b m, β id = some (b, m) → base ≤ b ∨ S b → base' ≤ b ∨ S' b) : ObjR β' ob' h S' base' w j (renObj f o) := by
  cases o with
  | cells ty v cs =>
    rcases k with ⟨hn, hc⟩ | ⟨b, m, vs, hbb, hw, hm, hl, hc, hz, hs⟩
    · exact .inl ⟨by rw [hj]; exact hn, by rw [hc]; rfl⟩
    · refine .inr ⟨b, m, vs, by rw [hj]; exact hbb, hw, hm, by simpa using hl, fun q l hq => ?_, hz, hb b m hbb hs⟩
      rw [List.getElem?_map] at hq
      obtain ⟨l0, h3, rfl⟩ := Option.map_eq_some_iff.1 hq
      obtain ⟨x, hx, h1, hr⟩ := hc q l0 h3
      exact ⟨x, hx, h1, ren_LVR hf hr⟩
  | tail ty sz n =>
    rcases k with ⟨hn, hc⟩ | ⟨b, m, vs, hbb, hw, hm, hl, hz, hs⟩
    · exact .inl ⟨by rw [hj]; exact hn, hc⟩
    · exact .inr ⟨b, m, vs, by rw [hj]; exact hbb, hw, hm, hl, hz, hb b m hbb hs⟩

theorem indexIn_get {x : Nat} : ∀ {l : List Nat} {j : Nat}, indexIn x l = some j → l[j]? = some x := by
  intro l
  induction l with
  | nil => intro j h; simp [indexIn] at h
  | cons y l ih =>
    intro j h
    simp only [indexIn] at h
    split at h
    · rename_i e
      injection h with h
      subst h; subst e; rfl
    · obtain ⟨q, hq, rfl⟩ := Option.map_eq_some_iff.1 h
      simpa using ih hq
theorem indexIn_of : ∀ {l : List Nat}, l.Nodup → ∀ {x j : Nat}, l[j]? = some x → indexIn x l = some j := by
  intro l
  induction l with
  | nil => intro _ x j h; simp at h
  | cons y l ih =>
    intro hn x j h
    obtain ⟨h1, h2⟩ := List.nodup_cons.1 hn
    cases j with
    | zero => simp at h; subst h; simp [indexIn]
    | succ j =>
      have h' : l[j]? = some x := by simpa using h
      have : x ≠ y := fun e => by subst e; exact h1 (List.mem_of_getElem? h')
      simp only [indexIn, if_neg this, ih h2 h', Option.map_some]

theorem upds_not {i : Nat} : ∀ {u : Upd} {objs : List (Option AObj)}, i ∉ u.map (·.1) → (upds objs u)[i]? = objs[i]? := by
  intro u
  induction u with
  | nil => intro objs _; rfl
  | cons p u ih =>
    intro objs h
    obtain ⟨j, o⟩ := p
    simp only [List.map_cons, List.mem_cons, not_or] at h
    simp only [upds]
    rw [ih h.2, List.getElem?_set_ne (Ne.symm h.1)]
theorem upds_mem {i : Nat} {o : AObj} : ∀ {u : Upd} {objs : List (Option AObj)}, (u.map (·.1)).Nodup → (∀ p ∈ u, p.1 < objs.length) → (i, o) ∈ u → (upds objs u)[i]? = some (some o) := by
  intro u
  induction u with
  | nil => intro objs _ _ h; cases h
  | cons p u ih =>
    intro objs hn hl h
    obtain ⟨j, q⟩ := p
    obtain ⟨h1, h2⟩ := List.nodup_cons.1 (by simpa using hn : (j :: u.map (·.1)).Nodup)
    simp only [upds]
    rcases List.mem_cons.1 h with e | h
    · injection e with e1 e2
      subst e1; subst e2
      rw [upds_not h1, List.getElem?_set_self (hl _ List.mem_cons_self)]
    · exact ih h2 (fun p hp => by rw [List.length_set]; exact hl p (List.mem_cons_of_mem _ hp)) h

theorem backUpd_mem {ids : List Nat} {f : Nat → Option Nat} {objs : List (Option AObj)} {n : Nat} : ∀ {k : Nat} {i : Nat} {o' : AObj}, (i, o') ∈ backUpd ids f objs n k ↔ ∃ j, j < k ∧ ids[j]? = some i ∧ ∃ o, (objs[n + j]?).getD none = some o ∧ o' = renObj f o := by
  intro k
  induction k with
  | zero => intro i o'; simp [backUpd]
  | succ k ih =>
    intro i o'
    simp only [backUpd]
    split
    · rename_i q o hq ho
      simp only [List.mem_cons, ih]
      constructor
      · rintro (e | ⟨j, h1, h2⟩)
        · injection e with e1 e2
          subst e1; subst e2
          exact ⟨k, Nat.lt_succ_self _, hq, o, ho, rfl⟩
        · exact ⟨j, by omega, h2⟩
      · rintro ⟨j, h1, h2, o2, h3, rfl⟩
        by_cases e : j = k
        · subst e
          rw [hq] at h2; injection h2 with h2
          rw [ho] at h3; injection h3 with h3
          subst h2; subst h3
          exact .inl rfl
        · exact .inr ⟨j, by omega, h2, o2, h3, rfl⟩
    · rename_i hne
      rw [ih]
      constructor
      · rintro ⟨j, h1, h2⟩; exact ⟨j, by omega, h2⟩
      · rintro ⟨j, h1, h2, o2, h3, rfl⟩
        by_cases e : j = k
        · subst e
          exact (hne _ _ h2 h3).elim
        · exact ⟨j, by omega, h2, o2, h3, rfl⟩
theorem backUpd_nodup {ids : List Nat} (hn : ids.Nodup) {f : Nat → Option Nat} {objs : List (Option AObj)} {n : Nat} : ∀ k, ((backUpd ids f objs n k).map (·.1)).Nodup := by
  intro k
  induction k with
  | zero => exact List.nodup_nil
  | succ k ih =>
    simp only [backUpd]
    split
    · rename_i q o hq ho
      refine List.nodup_cons.2 ⟨fun hm => ?_, ih⟩
      obtain ⟨⟨i, o'⟩, hp, rfl⟩ := List.mem_map.1 hm
      obtain ⟨j, h1, h2, _⟩ := backUpd_mem.1 hp
      have e1 := indexIn_of hn hq
      have e2 := indexIn_of hn h2
      rw [e1] at e2
      injection e2 with e2
      omega
    · exact ih

section
variable {P : Program} {T : Nat → Option Ty} {S : Sp} {w0 : World} {h0 : H} {st : St} {a : Act} {w w' : World} {β : Beta} {h h' : H}

/-- The caller's objects, under the callee's names. -/
def βc (β : Beta) (ids : List Nat) (n : Nat) : Beta := fun i => if n ≤ i then (match ids[i - n]? with | some q => β q | none => none) else none
def renC (ids : List Nat) (n : Nat) : Nat → Option Nat := fun i => (indexIn i ids).map (· + n)
def objsC (ob : Obs) (ids : List Nat) (n : Nat) : List (Option AObj) := List.replicate n none ++ ids.map (fun i => (ob i).map (renObj (renC ids n)))
def setC (β : Beta) (ids : List Nat) : Nat → Prop := fun b => ∃ i ∈ ids, ∃ m, β i = some (b, m)
def spC (β : Beta) (ob : Obs) (ids : List Nat) (n : Nat) : Sp := ⟨setC β ids, βc β ids n, fun i => ((objsC ob ids n)[i]?).getD none⟩

theorem objsC_lo {ob : Obs} {ids : List Nat} {n i : Nat} (hi : i < n) : ((objsC ob ids n)[i]?).getD none = none := by
  unfold objsC
  rw [List.getElem?_append_left (by simpa using hi), List.getElem?_replicate, if_pos hi]; rfl
theorem objsC_hi {ob : Obs} {ids : List Nat} {n j i : Nat} (hj : ids[j]? = some i) : ((objsC ob ids n)[n + j]?).getD none = (ob i).map (renObj (renC ids n)) := by
  unfold objsC
  rw [List.getElem?_append_right (by simp)]
  simp [hj]
theorem objsC_some {ob : Obs} {ids : List Nat} {n m : Nat} {o : AObj} (h : ((objsC ob ids n)[m]?).getD none = some o) : ∃ j i o1, m = n + j ∧ ids[j]? = some i ∧ ob i = some o1 ∧ o = renObj (renC ids n) o1 := by
  by_cases hm : m < n
  · rw [objsC_lo hm] at h; cases h
  · obtain ⟨j, rfl⟩ : ∃ j, m = n + j := ⟨m - n, by omega⟩
    cases hj : ids[j]? with
    | none =>
      unfold objsC at h
      rw [List.getElem?_append_right (by simp)] at h
      simp [hj] at h
    | some i =>
      rw [objsC_hi hj] at h
      obtain ⟨o1, h1, rfl⟩ := Option.map_eq_some_iff.1 h
      exact ⟨j, i, o1, rfl, hj, h1, rfl⟩
theorem βc_hi {ids : List Nat} {n j i : Nat} (hj : ids[j]? = some i) : βc β ids n (n + j) = β i := by
  unfold βc
  rw [if_pos (by omega), Nat.add_sub_cancel_left, hj]

theorem ren_ok {ob : Obs} {ids : List Nat} {n : Nat} (hob : ∀ i o, ob i = some o → st.ob i = some o) (hin : ∀ i ∈ ids, (ob i).isSome = true) : RenOk (renC ids n) β st.ob (βc β ids n) (fun i => ((objsC ob ids n)[i]?).getD none) := by
  intro i j hij
  obtain ⟨q, hq, rfl⟩ := Option.map_eq_some_iff.1 hij
  have hg := indexIn_get hq
  rw [Nat.add_comm]
  refine ⟨βc_hi hg, fun o ho => ?_⟩
  show ((objsC ob ids n)[n + q]?).getD none = _
  rw [objsC_hi hg]
  obtain ⟨o1, ho1⟩ := Option.isSome_iff_exists.1 (hin i (List.mem_of_getElem? hg))
  have := hob i o1 ho1
  rw [ho] at this
  injection this with this
  rw [ho1, this]
  rfl

/-- The begin of a function that is handed objects. -/
theorem enterC_R (k : RelAt S w0 h0 st a w β h) {ob : Obs} (hob : ∀ i o, ob i = some o → st.ob i = some o) {ids : List Nat} (hnd : ids.Nodup) (hin : ∀ i ∈ ids, (ob i).isSome = true) {args : List AV} {vals : List Value} (hp : PW (AVR β st.ob h) args vals) (n : Nat) :
    RelAt (spC β ob ids n) w h { tmps := args.map (renAV (renC ids n)) ++ List.replicate (n - args.length) (.leaf .und), objs := objsC ob ids n } { tmps := vals.toArray ++ Array.replicate (n - vals.toArray.size) undef, defers := [] } w (βc β ids n) h := by
  have hr := ren_ok (n := n) (β := β) hob hin
  have hl := hp.1
  refine ⟨by simp [hl], fun i v hi => ?_, rfl, fun m o ho => ?_, fun i i' b m m' hi hi' h1 h2 => ?_, k.ext, HLe.refl h, fun _ _ _ _ => rfl, Frame.refl _ _, Grow.refl _ _⟩
  · have hi' : (args.map (renAV (renC ids n)) ++ List.replicate (n - args.length) (.leaf .und))[i]? = some v := hi
    rw [List.getElem?_append] at hi'
    split at hi'
    · rename_i hlt
      rw [List.getElem?_map] at hi'
      obtain ⟨v0, hv0, rfl⟩ := Option.map_eq_some_iff.1 hi'
      obtain ⟨x, hx, hrx⟩ := hp.get hv0
      refine ⟨x, ?_, ren_AVR hr hrx⟩
      rw [Array.getElem?_append_left (by simp at hlt ⊢; omega)]
      simpa using hx
    · rename_i hge
      rw [List.getElem?_replicate] at hi'
      split at hi'
      · rename_i hlt
        injection hi' with hi'
        subst hi'
        refine ⟨undef, ?_, .leaf _ _ .und⟩
        rw [Array.getElem?_append_right (by simp at hge ⊢; omega)]
        rw [Array.getElem?_replicate, if_pos (by simp at hge hlt ⊢; omega)]
      · cases hi'
  · obtain ⟨j, i, o1, rfl, hj, ho1, rfl⟩ := objsC_some (ob := ob) (ids := ids) (n := n) ho
    have hi := hob i o1 ho1
    refine ren_ObjR hr (id := i) (βc_hi hj) (k.objs i o1 hi) fun b m hb _ => .inr ⟨i, List.mem_of_getElem? hj, m, hb⟩
  · obtain ⟨o, ho⟩ := Option.isSome_iff_exists.1 hi
    obtain ⟨o', ho'⟩ := Option.isSome_iff_exists.1 hi'
    obtain ⟨j, q, o1, rfl, hj, ho1, _⟩ := objsC_some (ob := ob) (ids := ids) (n := n) ho
    obtain ⟨j', q', o1', rfl, hj', ho1', _⟩ := objsC_some (ob := ob) (ids := ids) (n := n) ho'
    rw [βc_hi hj] at h1
    rw [βc_hi hj'] at h2
    have := k.inj q q' b m m' (by rw [hob q _ ho1]; rfl) (by rw [hob q' _ ho1']; rfl) h1 h2
    subst this
    have e1 := indexIn_of hnd hj
    have e2 := indexIn_of hnd hj'
    rw [e1] at e2
    injection e2 with e2
    rw [e2]

end
end Go.Ai
