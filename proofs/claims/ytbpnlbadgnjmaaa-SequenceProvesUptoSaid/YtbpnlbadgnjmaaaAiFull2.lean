/- Ai, part 32: functions that are handed objects of the caller's, the way back. No condition. -/
import Derived.Test.YtbpnlbadgnjmaaaAiFull
namespace Go.Ai
set_option linter.unusedSimpArgs false
set_option linter.unusedVariables false
set_option linter.constructorNameAsVariable false

section
variable {P : Program} {T : Nat → Option Ty} {S : Sp} {w0 : World} {h0 : H} {st : St} {a : Act} {w w' : World} {β : Beta} {h h' : H}

theorem indexIn_none {x : Nat} : ∀ {l : List Nat}, x ∉ l → indexIn x l = none := by
  intro l
  induction l with
  | nil => intro _; rfl
  | cons y l ih =>
    intro h
    simp only [List.mem_cons, not_or] at h
    simp only [indexIn, if_neg h.1, ih h.2, Option.map_none]
theorem indexIn_some {x : Nat} {l : List Nat} (h : x ∈ l) : ∃ j, indexIn x l = some j := by
  cases hj : indexIn x l with
  | some j => exact ⟨j, rfl⟩
  | none =>
    exfalso
    induction l with
    | nil => cases h
    | cons y l ih =>
      simp only [indexIn] at hj
      split at hj
      · cases hj
      · rename_i hne
        rcases List.mem_cons.1 h with e | h
        · exact hne e
        · exact ih h (by simpa using hj)

def ownU (f : Nat → Option Nat) (d : Nat) (ob : Obs) : Option Nat → Upd
  | some i => match ob i with
    | some o => [(d, renObj f o)]
    | none => []
  | none => []

/-- Blocks, back under the caller's names. -/
def βb (β β' : Beta) (ids : List Nat) (n d : Nat) (own : Option Nat) : Beta := fun i => match indexIn i ids with
  | some j => β' (n + j)
  | none => match own with
    | some q => if i = d then β' q else β i
    | none => β i

theorem backC_R (k : RelAt S w0 h0 st a w β h) {ob : Obs} (hob : ∀ i o, ob i = some o → st.ob i = some o) {ids : List Nat} (hnd : ids.Nodup) (hin : ∀ i ∈ ids, (ob i).isSome = true) {d n : Nat} (hd : d < st.objs.length → ob d = st.ob d)
    {st' : St} {a' : Act} {β' : Beta} (k' : RelAt (spC β ob ids n) w h st' a' w' β' h') {own : Option Nat} (hown : ∀ i, own = some i → i < n ∧ ob d = none ∧ ∃ o, st'.ob i = some o)
    {u : Upd} (hu : u = backUpd ids (backName n ids own d) st'.objs n ids.length ++ ownU (backName n ids own d) d st'.ob own) (hul : u.all (fun p => decide (p.1 < st.objs.length)) = true) {v : AV} {x : Value} (hv : AVR β' st'.ob h' v x) (dst : Option Nat) :
    ∃ β'' h'', RelAt S w0 h0 (st.put dst (renAV (backName n ids own d) v) u) (a.put dst x) w' β'' h'' := by
  have hdn : ∀ i, own = some i → d ∉ ids := fun i hi hm => by
    obtain ⟨_, h1, _⟩ := hown i hi
    have := hin d hm
    rw [h1] at this
    cases this
  have hlt : ∀ p ∈ u, p.1 < st.objs.length := fun p hp => by simpa using List.all_eq_true.1 hul p hp
  -- the keys of the update
  have hkey : ∀ i, i ∈ u.map (·.1) → i ∈ ids ∨ (own.isSome = true ∧ i = d) := by
    intro i hi
    obtain ⟨⟨q, o⟩, hp, rfl⟩ := List.mem_map.1 hi
    rw [hu, List.mem_append] at hp
    rcases hp with hp | hp
    · obtain ⟨j, _, hj, _⟩ := backUpd_mem.1 hp
      exact .inl (List.mem_of_getElem? hj)
    · cases own with
      | none => cases hp
      | some m =>
        simp only [ownU] at hp
        split at hp
        · simp at hp; exact .inr ⟨rfl, hp.1⟩
        · cases hp
  have hnodup : (u.map (·.1)).Nodup := by
    rw [hu, List.map_append]
    refine List.nodup_append.2 ⟨backUpd_nodup hnd _, ?_, fun i hi j hj => ?_⟩
    · cases own with
      | none => exact List.nodup_nil
      | some m => simp only [ownU]; split <;> simp
    · obtain ⟨⟨q, o⟩, hp, rfl⟩ := List.mem_map.1 hi
      obtain ⟨z, _, hz, _⟩ := backUpd_mem.1 hp
      cases own with
      | none => cases hj
      | some m =>
        simp only [ownU] at hj
        split at hj
        · simp at hj
          subst hj
          exact fun e => by simp only at e; exact hdn m rfl (e ▸ List.mem_of_getElem? hz)
        · cases hj
  -- the callee's objects have stayed
  have hpin : ∀ j i, ids[j]? = some i → ∃ o o', st.ob i = some o ∧ st'.ob (n + j) = some o' ∧ (match o with
      | .cells _ ver _ => ∃ ty' v' cs', o' = .cells ty' v' cs' ∧ ver ≤ v' ∧ (ver = v' → β' (n + j) = β i)
      | .tail ty sz m => ∃ m', o' = .tail ty sz m' ∧ m ≤ m' ∧ (m = m' → β' (n + j) = β i)) := by
    intro j i hj
    obtain ⟨o, ho⟩ := Option.isSome_iff_exists.1 (hin i (List.mem_of_getElem? hj))
    have hst := hob i o ho
    have h1 : (spC β ob ids n).ob0 (n + j) = some (renObj (renC ids n) o) := by
      show ((objsC ob ids n)[n + j]?).getD none = _
      rw [objsC_hi hj, ho]; rfl
    have hp := k'.pin (n + j) _ h1
    have hb : (spC β ob ids n).β0 (n + j) = β i := βc_hi hj
    cases o with
    | cells ty ver cs =>
      obtain ⟨ty', v', cs', e, hv, hbb⟩ := hp
      exact ⟨_, _, hst, e, ty', v', cs', rfl, hv, fun q => by rw [hbb q, hb]⟩
    | tail ty sz m =>
      obtain ⟨m', e, hv, hbb⟩ := hp
      exact ⟨_, _, hst, e, m', rfl, hv, fun q => by rw [hbb q, hb]⟩
  generalize hβ : βb β β' ids n d own = β''
  generalize hf : backName n ids own d = f at hu ⊢
  let st1 : St := { tmps := st.tmps, objs := upds st.objs u }
  have ob_ids : ∀ j i o', ids[j]? = some i → st'.ob (n + j) = some o' → st1.ob i = some (renObj f o') ∧ β'' i = β' (n + j) := by
    intro j i o' hj ho'
    refine ⟨?_, by rw [← hβ]; unfold βb; rw [indexIn_of hnd hj]⟩
    have hm : (i, renObj f o') ∈ u := by
      rw [hu]
      exact List.mem_append_left _ (backUpd_mem.2 ⟨j, (List.getElem?_eq_some_iff.1 hj).1, hj, o', ho', rfl⟩)
    show ((upds st.objs u)[i]?).getD none = _
    rw [upds_mem hnodup hlt hm]; rfl
  have ob_own : ∀ q o', own = some q → st'.ob q = some o' → st1.ob d = some (renObj f o') ∧ β'' d = β' q ∧ st.ob d = none := by
    intro q o' hq ho'
    have hm : (d, renObj f o') ∈ u := by
      rw [hu, hq]
      refine List.mem_append_right _ ?_
      simp only [ownU, ho']
      exact List.mem_singleton.2 rfl
    refine ⟨?_, ?_, ?_⟩
    · show ((upds st.objs u)[d]?).getD none = _
      rw [upds_mem hnodup hlt hm]; rfl
    · rw [← hβ]; unfold βb; rw [indexIn_none (hdn q hq), hq]; simp
    · rw [← hd (hlt _ hm)]; exact (hown q hq).2.1
  have ob_else : ∀ i, i ∉ ids → ¬ (own.isSome = true ∧ i = d) → st1.ob i = st.ob i ∧ β'' i = β i := by
    intro i h1 h2
    refine ⟨?_, ?_⟩
    · show ((upds st.objs u)[i]?).getD none = _
      rw [upds_not (fun hm => (hkey i hm).elim h1 h2)]; rfl
    · rw [← hβ]; unfold βb; rw [indexIn_none h1]
      cases own with
      | none => rfl
      | some q => simp only; rw [if_neg fun e => h2 ⟨rfl, e⟩]
  have cases3 : ∀ i, i ∈ ids ∨ (∃ q, own = some q ∧ i = d) ∨ (i ∉ ids ∧ ¬ (own.isSome = true ∧ i = d)) := by
    intro i
    by_cases h1 : i ∈ ids
    · exact .inl h1
    · by_cases h2 : own.isSome = true ∧ i = d
      · obtain ⟨q, hq⟩ := Option.isSome_iff_exists.1 h2.1
        exact .inr (.inl ⟨q, hq, h2.2⟩)
      · exact .inr (.inr ⟨h1, h2⟩)
  have hg : Grow β st.ob β'' st1.ob := by
    intro i o ho
    rcases cases3 i with h1 | ⟨q, hq, rfl⟩ | ⟨h1, h2⟩
    · obtain ⟨j, hj⟩ := List.mem_iff_getElem?.1 h1
      obtain ⟨o1, o', e1, e2, h3⟩ := hpin j i hj
      rw [ho] at e1; injection e1 with e1; subst e1
      obtain ⟨e3, e4⟩ := ob_ids j i o' hj e2
      cases o with
      | cells ty ver cs =>
        obtain ⟨ty', v', cs', rfl, hv, hb⟩ := h3
        exact ⟨ty', v', _, e3, hv, fun e => by rw [e4, hb e]⟩
      | tail ty sz m =>
        obtain ⟨m', rfl, hv, hb⟩ := h3
        exact ⟨m', e3, hv, fun e => by rw [e4, hb e]⟩
    · obtain ⟨_, _, o', ho'⟩ := hown q hq
      obtain ⟨_, _, e⟩ := ob_own q o' hq ho'
      rw [ho] at e; cases e
    · obtain ⟨e1, e2⟩ := ob_else i h1 h2
      cases o with
      | cells ty ver cs => exact ⟨ty, ver, cs, by rw [e1]; exact ho, Nat.le_refl _, fun _ => e2⟩
      | tail ty sz m => exact ⟨m, by rw [e1]; exact ho, Nat.le_refl _, fun _ => e2⟩
  have hren : RenOk f β' st'.ob β'' st1.ob := by
    intro i m him
    rw [← hf] at him
    unfold backName at him
    split at him
    · rename_i hni
      obtain ⟨j, rfl⟩ : ∃ j, i = n + j := ⟨i - n, by omega⟩
      rw [Nat.add_sub_cancel_left] at him
      obtain ⟨_, o', _, e2, _⟩ := hpin j m him
      refine ⟨(ob_ids j m o' him e2).2, fun o ho => (ob_ids j m o him ho).1⟩
    · split at him
      · rename_i hq
        injection him with him
        subst him
        obtain ⟨_, _, o', ho'⟩ := hown i hq
        exact ⟨(ob_own i o' hq ho').2.1, fun o ho => (ob_own i o hq ho).1⟩
      · cases him
  -- blocks of the caller's that the callee may have changed
  have hset : ∀ b, setC β ids b → w0.heap.size ≤ b ∨ S b := by
    rintro b ⟨i, hi, m, hb⟩
    obtain ⟨o, ho⟩ := Option.isSome_iff_exists.1 (hin i hi)
    exact (k.objs i o (hob i o ho)).base hb
  have hbase : ∀ b, w.heap.size ≤ b ∨ (spC β ob ids n) b → w0.heap.size ≤ b ∨ S b := by
    rintro b (q | q)
    · exact .inl (Nat.le_trans k.frame.size q)
    · exact hset b q
  have hnot : ∀ i b m, i ∉ ids → (st.ob i).isSome = true → β i = some (b, m) → ¬ setC β ids b := by
    rintro i b m hni hs hb ⟨q, hq, m', hb'⟩
    obtain ⟨o, ho⟩ := Option.isSome_iff_exists.1 (hin q hq)
    have := k.inj i q b m m' hs (by rw [hob q o ho]; rfl) hb hb'
    subst this
    exact hni hq
  -- a block that the callee names is new or the caller's
  have hnew : ∀ m b q, (st'.ob m).isSome = true → β' m = some (b, q) → w.heap.size ≤ b ∨ setC β ids b := by
    intro m b q hm hb
    obtain ⟨o, ho⟩ := Option.isSome_iff_exists.1 hm
    exact (k'.objs m o ho).base hb
  have hname : ∀ i, (st1.ob i).isSome = true → (∃ m, (st'.ob m).isSome = true ∧ β'' i = β' m ∧ ((n ≤ m ∧ ids[m - n]? = some i) ∨ (own = some m ∧ i = d))) ∨ (i ∉ ids ∧ (st.ob i).isSome = true ∧ β'' i = β i) := by
    intro i hi
    rcases cases3 i with h1 | ⟨q, hq, rfl⟩ | ⟨h1, h2⟩
    · obtain ⟨j, hj⟩ := List.mem_iff_getElem?.1 h1
      obtain ⟨_, o', _, e2, _⟩ := hpin j i hj
      exact .inl ⟨n + j, by rw [e2]; rfl, (ob_ids j i o' hj e2).2, .inl ⟨by omega, by rw [Nat.add_sub_cancel_left]; exact hj⟩⟩
    · obtain ⟨_, _, o', ho'⟩ := hown q hq
      exact .inl ⟨q, by rw [ho']; rfl, (ob_own q o' hq ho').2.1, .inr ⟨hq, rfl⟩⟩
    · obtain ⟨e1, e2⟩ := ob_else i h1 h2
      rw [e1] at hi
      exact .inr ⟨h1, hi, e2⟩
  have main : RelAt S w0 h0 st1 a w' β'' h' := by
    refine ⟨k.len, fun i v hi => ?_, k.defers, fun i o ho => ?_, fun i i' b m m' hi hi' h1 h2 => ?_, k'.ext, k.up.trans k'.up, fun b o hb hs => ?_, ⟨k'.frame.os.trans k.frame.os, k'.frame.tape.trans k.frame.tape, k'.frame.output.trans k.frame.output, Nat.le_trans k.frame.size k'.frame.size, fun i hi hs => ?_⟩, k.pin.trans hg⟩
    · obtain ⟨y, hy, hr⟩ := k.vals i v hi
      exact ⟨y, hy, hr.mono hg k'.up⟩
    · rcases cases3 i with h1 | ⟨q, hq, rfl⟩ | ⟨h1, h2⟩
      · obtain ⟨j, hj⟩ := List.mem_iff_getElem?.1 h1
        obtain ⟨_, o', _, e2, _⟩ := hpin j i hj
        obtain ⟨e3, e4⟩ := ob_ids j i o' hj e2
        rw [e3] at ho; injection ho with ho; subst ho
        exact ren_ObjR hren e4 (k'.objs _ _ e2) fun b m _ q => hbase b q
      · obtain ⟨_, _, o', ho'⟩ := hown q hq
        obtain ⟨e3, e4, _⟩ := ob_own q o' hq ho'
        rw [e3] at ho; injection ho with ho; subst ho
        exact ren_ObjR hren e4 (k'.objs _ _ ho') fun b m _ q => hbase b q
      · obtain ⟨e1, e2⟩ := ob_else i h1 h2
        rw [e1] at ho
        refine (k.objs i o ho).keep hg k'.up e2 fun b m hb => ?_
        have hlt2 := k.lt (by rw [ho]; rfl) hb
        have hns := hnot i b m h1 (by rw [ho]; rfl) hb
        exact ⟨k'.frame.block b hlt2 hns, fun o => k'.fresh b o hlt2 hns⟩
    · rcases hname i hi with ⟨m1, s1, e1, c1⟩ | ⟨n1, s1, e1⟩
      · rcases hname i' hi' with ⟨m2, s2, e2, c2⟩ | ⟨n2, s2, e2⟩
        · rw [e1] at h1
          rw [e2] at h2
          have := k'.inj m1 m2 b m m' s1 s2 h1 h2
          subst this
          rcases c1 with ⟨q1, q2⟩ | ⟨q1, q2⟩
          · rcases c2 with ⟨q3, q4⟩ | ⟨q3, q4⟩
            · rw [q2] at q4; injection q4
            · exact absurd (hown m1 q3).1 (by omega)
          · rcases c2 with ⟨q3, q4⟩ | ⟨q3, q4⟩
            · exact absurd (hown m1 q1).1 (by omega)
            · rw [q2, q4]
        · exfalso
          rw [e1] at h1
          rw [e2] at h2
          have hlt2 := k.lt s2 h2
          rcases hnew m1 b m s1 h1 with q | q
          · omega
          · exact hnot i' b m' n2 s2 h2 q
      · rcases hname i' hi' with ⟨m2, s2, e2, c2⟩ | ⟨n2, s2, e2⟩
        · exfalso
          rw [e1] at h1
          rw [e2] at h2
          have hlt2 := k.lt s1 h1
          rcases hnew m2 b m' s2 h2 with q | q
          · omega
          · exact hnot i b m n1 s1 h1 q
        · rw [e1] at h1
          rw [e2] at h2
          exact k.inj i i' b m m' s1 s2 h1 h2
    · have hns : ¬ setC β ids b := fun q => by
        rcases hset b q with q | q
        · omega
        · exact hs q
      rw [k'.fresh b o (Nat.lt_of_lt_of_le hb k.frame.size) hns]
      exact k.fresh b o hb hs
    · have hns : ¬ setC β ids i := fun q => by
        rcases hset i q with q | q
        · omega
        · exact hs q
      rw [k'.frame.block i (Nat.lt_of_lt_of_le hi k.frame.size) hns]
      exact k.frame.block i hi hs
  have := main.put dst (v := renAV f v) (x := x) (ren_AVR hren hv)
  refine ⟨β'', h', ?_⟩
  cases dst <;> exact this

theorem handed_lt {n : Nat} : ∀ {vs : List AV} {i : Nat}, handed n vs = some i → i < n := by
  intro vs
  induction vs with
  | nil => intro i h; simp [handed] at h
  | cons v vs ih =>
    intro i h
    have one : ∀ id, (if id < n then some id else handed n vs) = some i → i < n := fun id h => by
      split at h
      · injection h with h; omega
      · exact ih h
    cases v with
    | leaf l => cases l with
      | ptr id ver off => exact one id h
      | ms id ver sz off len => exact one id h
      | ap id rows => exact one id h
      | _ => exact ih h
    | _ => exact ih h
theorem once_nodup : ∀ l : List Nat, (once l).Nodup := by
  intro l
  induction l with
  | nil => exact List.nodup_nil
  | cons x l ih =>
    unfold once
    split
    · exact ih
    · rename_i h
      exact List.nodup_cons.2 ⟨fun hm => h (by simpa using hm), ih⟩

theorem renTup_map {f : Nat → Option Nat} (vs : List AV) : renAV.renTup f vs = vs.map (renAV f) := by
  induction vs with
  | nil => rfl
  | cons v vs ih => simp only [renAV.renTup, List.map_cons, ih]
theorem ren_tupleOf {f : Nat → Option Nat} (vs : List AV) : renAV f (tupleOf vs) = tupleOf (vs.map (renAV f)) := by
  unfold tupleOf
  match vs with
  | [] => simp [renAV, renAV.renTup]
  | [v] => rfl
  | v :: u :: vs => simp [renAV, renTup_map]

/-- What keeps at a loop's head must not let go of the caller's objects. -/
def KeepOk (F : Nat → Option Fun) : Prop := ∀ g f, F g = some f → f.obj = true → ∀ r, (f.keep r).ext ≤ f.fn.ntmps

theorem runFull_sound (hT : TOk P T) {F : Nat → Option Fun} (hF : FOk P F) (hK : KeepOk F) {E : Env} (hS : PureOk P E.pure) (hE : FullOk P E.full) : ∀ fuel, PureOk P (runFun T F E fuel) ∧ FullOk P (runFull T F E fuel) := by
  intro fuel
  induction fuel using Nat.strongRecOn with
  | _ fuel ih =>
    refine ⟨runFun_sound hT hF hS fuel fun f hf => (ih f hf).2, ?_⟩
    intro g d args ob r u he
    cases fuel with
    | zero => simp [runFull] at he
    | succ fuel =>
      simp only [runFull] at he
      split at he
      · rename_i r' hr
        injection he with he
        subst he
        exact hE g d args ob _ _ hr
      · split at he
        · rename_i f hf
          obtain ⟨hfn, hname⟩ := hF g f hf
          split at he
          · cases he
          · rename_i hobj
            split at he
            · rename_i c hb
              refine ⟨⟨f.fn, c, hfn, hname, hb⟩, fun S w0 h0 st a w β h dst vals k hob hd hp hul => ?_⟩
              split at he
              · cases he
              · rename_i ex st' hne hrun
                split at he
                · rename_i vs hvs
                  refine calls_of_wp hfn hb ?_
                  have hnd : ((idsAV args).filter fun i => (ob i).isSome).Nodup := List.Pairwise.sublist List.filter_sublist (once_nodup _)
                  have hin : ∀ i ∈ (idsAV args).filter fun i => (ob i).isSome, (ob i).isSome = true := fun i hi => (List.mem_filter.1 hi).2
                  have k1 := enterC_R k hob hnd hin hp f.fn.ntmps
                  obtain ⟨ihp, ihf⟩ := ih fuel (Nat.lt_succ_self _)
                  refine ((run_sound (S := spC β ob _ f.fn.ntmps) (w0 := w) (h0 := h) hT (E := { pure := runFun T F E fuel, full := runFull T F E fuel, grow := f.grow }) ihp ihf f.keep (fun r i hi => ?_) fuel).1 c _ _ _ hrun _ _ _ _ k1 _ fun a' w' β' h' k' => ?_)
                  · have h1 := hK g f hf (by simpa using hobj) r
                    by_cases h2 : i < f.fn.ntmps
                    · have : ((objsC ob ((idsAV args).filter fun i => (ob i).isSome) f.fn.ntmps)[i]?).getD none = none := objsC_lo h2
                      have hi' : (((objsC ob ((idsAV args).filter fun i => (ob i).isSome) f.fn.ntmps)[i]?).getD none).isSome = true := hi
                      rw [this] at hi'
                      cases hi'
                    · omega
                  · obtain ⟨xs, hxs, hpw⟩ := results_run hT k' hvs
                    have hval := tuple_R hpw
                    have fin : ∃ β' h', RelAt S w0 h0 (st.put dst r u) (a.put dst (if hx : xs.length = 1 then xs[0] else .tuple xs.toArray)) w' β' h' := by
                      cases hown : handed f.fn.ntmps vs with
                      | none =>
                        simp only [hown] at he
                        injection he with he
                        injection he with e1 e2
                        have := backC_R k hob hnd hin hd k' (own := none) (fun i hi => by cases hi) (u := u) (by rw [← e2]; simp [ownU]) hul hval dst
                        rw [ren_tupleOf] at this
                        rw [← e1]
                        exact this
                      | some q =>
                        simp only [hown] at he
                        split at he
                        · rename_i o ho hod
                          injection he with he
                          injection he with e1 e2
                          have := backC_R k hob hnd hin hd k' (own := some q) (fun i hi => by injection hi with hi; subst hi; exact ⟨handed_lt hown, hod, o, ho⟩) (u := u) (by rw [← e2]; simp only [ownU, ho]) hul hval dst
                          rw [ren_tupleOf] at this
                          rw [← e1]
                          exact this
                        · cases he
                    cases ex with
                    | normal => exact ⟨k'.defers, _, hxs, fin⟩
                    | ret => exact ⟨k'.defers, _, hxs, fin⟩
                    | exit id => exact (hne id rfl).elim
                · cases he
              · cases he
            · cases he
        · cases he

end
end Go.Ai
