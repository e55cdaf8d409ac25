/- Ai, part 17: a region, whose order is drawn or not. No condition. -/
import Derived.Test.YtbpnlbadgnjmaaaAiOrder
namespace Go.Ai
set_option linter.unusedSimpArgs false
set_option linter.unusedVariables false
set_option linter.constructorNameAsVariable false

section
variable {P : Program} {T : Nat → Option Ty} {S : Sp} {w0 : World} {h0 : H} {st : St} {a : Act} {w w' : World} {β : Beta} {h h' : H} {o : Oper} {Q : Exit → Act → World → Prop}

theorem covers_spec {md : Region.Mode} {ops : Array Oper} {listed : Array Bool} (hsz : listed.size = ops.size) (hr : Region.ready md ops listed = []) :
    ∀ (r : List Nat) (done : List Nat), coversOk md ops done r = true → (∀ i ∈ done, listed.getD i false = true) → ∀ i ∈ r, listed.getD i false = true := by
  intro r
  induction r with
  | nil => intro done _ _ i hi; cases hi
  | cons j r ih =>
    intro done hc hd i hi
    simp only [coversOk, Bool.and_eq_true] at hc
    obtain ⟨h1, h2⟩ := hc
    have hj : listed.getD j false = true := by
      cases hl : listed.getD j false with
      | true => rfl
      | false =>
        exfalso
        cases ho : ops[j]? with
        | none => rw [ho] at h1; simp at h1
        | some o =>
          rw [ho] at h1
          simp only [Option.map_some, Option.getD_some] at h1
          have hlt : j < ops.size := (Array.getElem?_eq_some_iff.1 ho).1
          have : j ∈ Region.ready md ops listed := by
            unfold Region.ready
            rw [List.mem_filter]
            refine ⟨by simpa using hlt, ?_⟩
            have hl' : listed.getD j true = false := by
              have hjl : j < listed.size := by omega
              rw [Array.getD_eq_getD_getElem?, Array.getElem?_eq_getElem hjl] at hl ⊢
              simpa using hl
            rw [hl', ho]
            simp only [Bool.not_false, Bool.true_and, Option.map_some, Option.getD_some]
            rw [Array.all_eq_true_iff_forall_mem] at h1 ⊢
            intro e he
            have := h1 e he
            simp only [Bool.or_eq_true] at this ⊢
            rcases this with q | q
            · exact .inl q
            · exact .inr (hd _ (by simpa using q))
          rw [hr] at this
          cases this
    rcases List.mem_cons.1 hi with rfl | hi
    · exact hj
    · exact ih (j :: done) h2 (fun i hi => by
        rcases List.mem_cons.1 hi with rfl | hi
        · exact hj
        · exact hd i hi) i hi

/-- Every order of a mode comes to the end, to the text's state. -/
theorem any_sound (hT : TOk P T) {E : Env} (hp : PureOk P E.pure) (hfull : FullOk P E.full) {ops : List Oper} {s : Nat → St} {f : Nat → List Nat × List Nat} (t : Text T E ops (fun j i => ((Region.before ops.toArray).getD j 0).testBit i) s f) {md : Region.Mode} {ρ : List Nat}
    (hcov : coversOk md ops.toArray [] ρ = true) (hall : ∀ i, i < ops.length → i ∈ ρ) (hQ : ∀ a' w' β' h', RelAt S w0 h0 (s ops.length) a' w' β' h' → Q .normal a' w') (hmd : ∀ e : Edge, Region.binds .any e = true → Region.binds md e = true) :
    ∀ (fuel : Nat) (listed : Array Bool) (st : St) (a : Act) (w : World) (β : Beta) (h : H), listed.size = ops.length → (∀ l : List Nat, l.Nodup → (∀ i ∈ l, i < ops.length ∧ listed.getD i false = false) → l.length ≤ fuel) → RelAt S w0 h0 st a w β h → Inv ops.length s f (fun i => listed.getD i false = true) st →
    (∀ i, listed.getD i false = true → ∀ m, ((Region.before ops.toArray).getD i 0).testBit m = true → listed.getD m false = true) → wpAny P md ops.toArray Q fuel listed a w := by
  have fin : ∀ (listed : Array Bool) (st : St) (a : Act) (w : World) (β : Beta) (h : H), listed.size = ops.length → RelAt S w0 h0 st a w β h → Inv ops.length s f (fun i => listed.getD i false = true) st → Region.ready md ops.toArray listed = [] → Q .normal a w := by
    intro listed st a w β h hsz k inv hr
    have hd := covers_spec (by simpa using hsz) hr ρ [] hcov (fun i hi => by cases hi)
    have e := t.done inv fun i hi => hd i (hall i hi)
    subst e
    exact hQ _ _ _ _ k
  intro fuel
  induction fuel with
  | zero =>
    intro listed st a w β h hsz hcount k inv hcl
    have hr : Region.ready md ops.toArray listed = [] := by
      cases hr : Region.ready md ops.toArray listed with
      | nil => rfl
      | cons i r =>
        have hm : i ∈ Region.ready md ops.toArray listed := by rw [hr]; exact List.mem_cons_self
        unfold Region.ready at hm
        rw [List.mem_filter] at hm
        obtain ⟨h1, h2⟩ := hm
        have hi : i < ops.length := by simpa using h1
        simp only [Bool.and_eq_true, Bool.not_eq_true'] at h2
        have hl : listed.getD i false = false := by
          have := h2.1
          have hjl : i < listed.size := by omega
          rw [Array.getD_eq_getD_getElem?, Array.getElem?_eq_getElem hjl] at this ⊢
          simpa using this
        have := hcount [i] (by simp) (fun j hj => by simp at hj; subst hj; exact ⟨hi, hl⟩)
        simp at this
    exact ⟨hr, fin listed st a w β h hsz k inv hr⟩
  | succ fuel ih =>
    intro listed st a w β h hsz hcount k inv hcl
    refine ⟨fun hr => fin listed st a w β h hsz k inv hr, fun i hm => ?_⟩
    unfold Region.ready at hm
    rw [List.mem_filter] at hm
    obtain ⟨h1, h2⟩ := hm
    have hi : i < ops.length := by simpa using h1
    simp only [Bool.and_eq_true, Bool.not_eq_true'] at h2
    obtain ⟨hl, ha⟩ := h2
    have hl : listed.getD i false = false := by
      have hjl : i < listed.size := by omega
      rw [Array.getD_eq_getD_getElem?, Array.getElem?_eq_getElem hjl] at hl ⊢
      simpa using hl
    have ho : ops[i]? = some ops[i] := List.getElem?_eq_getElem hi
    have ho' : ops.toArray[i]? = some ops[i] := by simp
    rw [ho'] at ha
    simp only [Option.map_some, Option.getD_some] at ha
    rw [Array.all_eq_true_iff_forall_mem] at ha
    have hbef : ∀ m, ((Region.before ops.toArray).getD i 0).testBit m = true → listed.getD m false = true := fun m hb => by
      obtain ⟨o', e1, e, he, hbd, q⟩ := before_spec _ hb
      rw [ho'] at e1
      injection e1 with e1
      subst e1
      have h3 := ha e (Array.mem_toList_iff.1 he)
      simp only [Bool.or_eq_true, hmd e hbd, Bool.not_true, Bool.false_eq_true, false_or] at h3
      rcases q with rfl | q
      · exact h3
      · exact hcl _ h3 m q
    obtain ⟨st', hs, inv'⟩ := t.go inv ho (by rw [hl]; exact Bool.false_ne_true) hbef hcl
    refine step_sound hT hp hfull k hs ho fun a' w' ⟨β', h', k'⟩ => ?_
    have hset : ∀ j, (listed.setIfInBounds i true).getD j false = true ↔ (j = i ∨ listed.getD j false = true) := fun j => by
      by_cases e : j = i
      · subst e
        simp [Array.getD_eq_getD_getElem?, Array.getElem?_setIfInBounds, show j < listed.size by omega]
      · rw [getD_set_ne false (fun q => e q.symm)]
        simp [e]
    refine ih _ st' a' w' β' h' (by simpa using hsz) (fun l hn hl2 => ?_) k' ?_ ?_
    · have := hcount (i :: l) (List.nodup_cons.2 ⟨(fun hm => by
        have := (hl2 i hm).2
        rw [(hset i).2 (.inl rfl)] at this
        cases this), hn⟩) (fun j hj => by
          rcases List.mem_cons.1 hj with rfl | hj
          · exact ⟨hi, hl⟩
          · obtain ⟨q1, q2⟩ := hl2 j hj
            refine ⟨q1, ?_⟩
            cases hc : listed.getD j false with
            | false => rfl
            | true => rw [(hset j).2 (.inr hc)] at q2; cases q2)
      simpa using this
    · have : (fun j => (listed.setIfInBounds i true).getD j false = true) = fun j => j = i ∨ listed.getD j false = true := funext fun j => propext (hset j)
      rw [this]
      exact inv'
    · intro j hj m hb
      rw [hset] at hj ⊢
      rcases hj with rfl | hj
      · exact .inr (hbef m hb)
      · exact .inr (hcl j hj m hb)

theorem nodup_bound : ∀ (n : Nat) (l : List Nat), l.Nodup → (∀ i ∈ l, i < n) → l.length ≤ n := by
  intro n
  induction n with
  | zero =>
    intro l _ hl
    cases l with
    | nil => simp
    | cons i l => have := hl i List.mem_cons_self; omega
  | succ n ih =>
    intro l hn hl
    by_cases hm : n ∈ l
    · have h1 := ih (l.erase n) (hn.erase n) fun i hi => by
        have h2 := hl i (List.mem_of_mem_erase hi)
        have h3 : i ≠ n := fun e => by
          subst e
          exact hn.not_mem_erase hi
        omega
      rw [List.length_erase_of_mem hm] at h1
      omega
    · have := ih l hn fun i hi => by
        have h2 := hl i hi
        have h3 : i ≠ n := fun e => hm (e ▸ hi)
        omega
      omega

theorem region_sound (hT : TOk P T) {E : Env} (hp : PureOk P E.pure) (hfull : FullOk P E.full) {id : Nat} {ops : Array Oper} {draw : Bool} (k : RelAt S w0 h0 st a w β h) {st' : St}
    (hd : (!draw || (orderOk (Region.before ops) (footOps T E ops.toList st ops.toList) && completeOk ops)) = true) (he : runOps T E ops.toList st ops.toList = some st')
    (hQ : ∀ a' w' β' h', RelAt S w0 h0 st' a' w' β' h' → Q .normal a' w') : (Code.region id ops draw).wp P Q a w := by
  cases draw with
  | false =>
    refine wp_region ?_
    have := runOps_sound (Q := Q) hT hp hfull ops.toList 0 k rfl he hQ
    rw [List.range_eq_range']
    simpa using this
  | true =>
    simp only [Bool.not_true, Bool.false_or, Bool.and_eq_true] at hd
    obtain ⟨hord, hcomp⟩ := hd
    obtain ⟨s, e0, e1, htr⟩ := trace_of_run ops.toList st st' he
    subst e0; subst e1
    have t : Text T E ops.toList (fun j i => ((Region.before ops.toList.toArray).getD j 0).testBit i) s (fun i => ((footOps T E ops.toList (s 0) ops.toList)[i]?).getD ([], [])) := by
      refine ⟨fun k o hk => ?_, fun i j hlt hj hb => ?_⟩
      · obtain ⟨q1, q2⟩ := htr k o hk
        exact ⟨q1, by rw [q2]; rfl⟩
      · obtain ⟨_, q1⟩ := htr i _ (List.getElem?_eq_getElem (show i < ops.toList.length by omega))
        obtain ⟨_, q2⟩ := htr j _ (List.getElem?_eq_getElem hj)
        simp only [q1, q2, Option.getD_some]
        exact order_spec hord q1 q2 hlt (by simpa using hb)
    have k' : RelAt S w0 h0 (s 0) a { w with drawn := w.drawn + 1 } β h := by
      refine ⟨k.len, k.vals, k.defers, fun i o1 ho => (k.objs i o1 ho).keep (Grow.refl _ _) (HLe.refl _) rfl fun b m _ => ⟨rfl, fun _ => rfl⟩, k.inj, k.ext, k.up, k.fresh, ⟨k.frame.os, k.frame.tape, k.frame.output, k.frame.size, k.frame.block⟩, k.pin⟩
    have any : ∀ (md : Region.Mode) (ρ : List Nat), coversOk md ops [] ρ = true → (∀ i, i < ops.toList.length → i ∈ ρ) → (∀ e : Edge, Region.binds .any e = true → Region.binds md e = true) → ∀ u, wpOps P ops Q (Region.linearise md ops u) a { w with drawn := w.drawn + 1 } := by
      intro md ρ h1 h2 h3 u
      unfold Region.linearise
      refine wpAny_sound ops.size u _ a _ ?_
      have := any_sound (Q := Q) hT hp hfull t (md := md) (ρ := ρ) (by simpa using h1) h2 hQ h3 ops.size (Array.replicate ops.size false) (s 0) a _ β h (by simp) (fun l hn hl => nodup_bound _ l hn fun i hi => by have := (hl i hi).1; simpa using this) k' ?_ ?_
      · simpa using this
      · have e : (fun i => (Array.replicate ops.size false).getD i false = true) = fun _ => False := funext fun i => propext (by simp [Array.getD_eq_getD_getElem?, Array.getElem?_replicate]; split <;> simp)
        rw [e]
        exact t.init
      · intro i hi
        exfalso
        simp [Array.getD_eq_getD_getElem?, Array.getElem?_replicate] at hi
        split at hi <;> simp at hi
    unfold completeOk at hcomp
    simp only [Bool.and_eq_true, Bool.or_eq_true] at hcomp
    obtain ⟨c1, c2⟩ := hcomp
    refine wp_region_draw fun u => ?_
    have r : ∀ i, i < ops.toList.length → i ∈ List.range ops.size := fun i hi => by simpa using hi
    unfold Region.schedule
    split
    · exact any .any _ c1 r (fun e he => he) u
    · rename_i hn
      simp only [Bool.or_eq_true, Bool.not_eq_true', not_or, Bool.not_eq_false] at hn
      rcases c2 with q | ⟨c3, c4, c5⟩
      · rw [hn.2] at q; cases q
      · split
        · exact any .text _ c3 r (fun e he => by unfold Region.binds at he ⊢; cases hg : e.ground <;> simp_all) _
        · refine any .gc _ c4 (fun i hi => ?_) (fun e he => by unfold Region.binds at he ⊢; cases hg : e.ground <;> simp_all) _
          have := List.all_eq_true.1 c5 i (by simpa using hi)
          simpa using this

end
end Go.Ai
