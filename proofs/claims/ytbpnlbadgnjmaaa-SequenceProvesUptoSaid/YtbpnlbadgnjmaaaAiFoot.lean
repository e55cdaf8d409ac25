/- Ai, part 25: footprints without a run of the operations. No condition. -/
import Derived.Test.YtbpnlbadgnjmaaaAiLim
namespace Go.Ai
set_option linter.unusedSimpArgs false
set_option linter.unusedVariables false
set_option linter.constructorNameAsVariable false

/-- A call of a function that is handed no objects. -/
def pureCall (O : Nat → Bool) : Op → Bool
  | .call { callee := .value (.func g), .. } => !O g
  | _ => false

def footA (O : Nat → Bool) (ops : List Oper) (st : St) (o : Oper) : List Nat × List Nat :=
  if guardOf ops st.tmps o.guard = some false then (readsT ops o, writesT o)
  else (readsT ops o ++ (touch st.tmps o).map (2 * · + 1), if quietOp o.op || pureCall O o.op then writesT o else writesT o ++ (touch st.tmps o).map (2 * · + 1))

def footsA (T : Nat → Option Ty) (O : Nat → Bool) (E : Env) (ops : List Oper) : St → List Oper → List (List Nat × List Nat)
  | _, [] => []
  | st, o :: r => footA O ops st o :: (match stepOp T E ops st o with
      | some st' => footsA T O E ops st' r
      | none => [])

mutual
def runCodeA (T : Nat → Option Ty) (O : Nat → Bool) (E : Env) (K : Nat → Keep) : Nat → Code → St → Option (Ex × St)
  | 0, _, _ => none
  | fuel + 1, c, st => match c with
    | .skip => some (.normal, st)
    | .region _ ops draw =>
      if !draw || (orderOk (Region.before ops) (footsA T O E ops.toList st ops.toList) && completeOk ops) then (runOps T E ops.toList st ops.toList).map fun st' => (.normal, st') else none
    | .seq a b => match runCodeA T O E K fuel a st with
      | some (.normal, st') => runCodeA T O E K fuel b st'
      | r => r
    | .cond c a b => match evalOp st.tmps c with
      | some (.leaf (.imm (.bool t))) => if t then runCodeA T O E K fuel a st else runCodeA T O E K fuel b st
      | _ => none
    | .block id c => match runCodeA T O E K fuel c st with
      | some (.exit id', st') => if id' = id then some (.normal, st') else some (.exit id', st')
      | r => r
    | .loop c => runLoopA T O E K fuel c (keepSt (K ((firstRegion c).getD 0)) st)
    | .exit id => some (.exit id, st)
    | .ret => some (.ret, st)
    | _ => none
def runLoopA (T : Nat → Option Ty) (O : Nat → Bool) (E : Env) (K : Nat → Keep) : Nat → Code → St → Option (Ex × St)
  | 0, _, _ => none
  | fuel + 1, c, st => match runCodeA T O E K fuel c st with
    | some (.normal, st') => runLoopA T O E K fuel c (keepSt (K ((firstRegion c).getD 0)) st')
    | r => r
end

/-- Pointwise: less. -/
def FLe : List (List Nat × List Nat) → List (List Nat × List Nat) → Prop
  | [], [] => True
  | f :: fs, g :: gs => (∀ x ∈ f.1, x ∈ g.1) ∧ (∀ x ∈ f.2, x ∈ g.2) ∧ FLe fs gs
  | _, _ => False

theorem FLe.get : ∀ {fs gs : List (List Nat × List Nat)}, FLe fs gs → ∀ (i : Nat) f, fs[i]? = some f → ∃ g, gs[i]? = some g ∧ (∀ x ∈ f.1, x ∈ g.1) ∧ ∀ x ∈ f.2, x ∈ g.2 := by
  intro fs
  induction fs with
  | nil => intro gs _ i f h; simp at h
  | cons f fs ih =>
    intro gs h i f' hf
    cases gs with
    | nil => exact h.elim
    | cons g gs =>
      obtain ⟨h1, h2, h3⟩ := h
      cases i with
      | zero => simp at hf; subst hf; exact ⟨g, rfl, h1, h2⟩
      | succ i => simpa using ih h3 i f' (by simpa using hf)

theorem meets_mono {a b c d : List Nat} (h1 : ∀ x ∈ a, x ∈ c) (h2 : ∀ x ∈ b, x ∈ d) (h : meets a b = true) : meets c d = true := by
  unfold meets at h ⊢
  rw [List.any_eq_true] at h ⊢
  obtain ⟨x, hx, hb⟩ := h
  exact ⟨x, h1 x hx, by simpa using h2 x (by simpa using hb)⟩

theorem orderOk_mono {bf : Array Nat} {fs gs : List (List Nat × List Nat)} (h : FLe fs gs) (hg : orderOk bf gs = true) : orderOk bf fs = true := by
  unfold orderOk at hg ⊢
  rw [List.all_eq_true] at hg ⊢
  intro x hx
  obtain ⟨fj, j⟩ := x
  have hj := List.mem_zipIdx_iff_getElem?.1 hx
  obtain ⟨gj, hgj, a1, a2⟩ := h.get j fj hj
  have h1 := hg (gj, j) (List.mem_zipIdx_iff_getElem?.2 hgj)
  simp only at h1 ⊢
  rw [List.all_eq_true] at h1 ⊢
  intro y hy
  obtain ⟨fi, i⟩ := y
  have hi := List.mem_zipIdx_iff_getElem?.1 hy
  obtain ⟨gi, hgi, b1, b2⟩ := h.get i fi hi
  have h2 := h1 (gi, i) (List.mem_zipIdx_iff_getElem?.2 hgi)
  simp only [Bool.or_eq_true] at h2 ⊢
  rcases h2 with h2 | h2
  · exact .inl h2
  · refine .inr ?_
    cases hc : clashes fi fj with
    | false => rfl
    | true =>
      exfalso
      have : clashes gi gj = true := by
        unfold clashes at hc ⊢
        simp only [Bool.or_eq_true] at hc ⊢
        rcases hc with (hc | hc) | hc
        · exact .inl (.inl (meets_mono b2 a1 hc))
        · exact .inl (.inr (meets_mono b2 a2 hc))
        · exact .inr (meets_mono b1 a2 hc)
      rw [this] at h2
      cases h2

section
variable {T : Nat → Option Ty} {O : Nat → Bool} {E E' : Env}

theorem callAV_silent (hO : ∀ g d a ob, O g = false → E.full g d a ob = none) {ob d g args r} (hg : O g = false) (h : callAV E ob d g args = some r) : silent (callAV E ob d g args) = true := by
  have hf := fun d a ob => hO g d a ob hg
  unfold callAV at h ⊢
  cases h1 : stripArgs args with
  | some ps =>
    simp only [h1, hf] at h ⊢
    cases h2 : E.pure g ps with
    | some q => simp only [silent]
    | none => simp only [h2] at h; cases h
  | none =>
    simp only [h1] at h ⊢
    cases h3 : lendArgs ob args with
    | none => simp only [h3, hf] at h; cases h
    | some ps =>
      simp only [h3, hf] at h ⊢
      cases h2 : E.pure g ps with
      | none => simp only [h2] at h; cases h
      | some q =>
        simp only [h2] at h ⊢
        cases h4 : q.plain with
        | true => simp only [if_true, silent]
        | false => simp only [h4] at h; cases h

theorem foot_le (hO : ∀ g d a ob, O g = false → E.full g d a ob = none) {ops st o st'} (h : stepOp T E ops st o = some st') : (∀ x ∈ (foot T E ops st o).1, x ∈ (footA O ops st o).1) ∧ ∀ x ∈ (foot T E ops st o).2, x ∈ (footA O ops st o).2 := by
  unfold foot footA
  split
  · exact ⟨fun x hx => hx, fun x hx => hx⟩
  · rename_i hng
    refine ⟨fun x hx => hx, fun x hx => ?_⟩
    have sub : x ∈ writesT o → x ∈ writesT o ++ (touch st.tmps o).map (2 * · + 1) := fun h => List.mem_append_left _ h
    split at hx
    · split
      · exact hx
      · exact sub hx
    · rename_i hns
      split
      · rename_i hp
        exfalso
        apply hns
        rw [Bool.or_eq_true] at hp ⊢
        rcases hp with hp | hp
        · exact .inl hp
        · refine .inr ?_
          unfold stepOp at h
          split at h
          · split at h
            · rename_i v u he
              unfold pureCall at hp
              split at hp
              · rename_i g args tys hop
                rw [hop] at he ⊢
                cases has : mapEval (evalOp st.tmps) args.toList with
                | none => simp only [exec, has] at he; cases he
                | some as =>
                  have e : evalOp st.tmps (.func g) = some (.leaf (.func g [] [])) := rfl
                  simp only [exec, has, e] at he ⊢
                  exact callAV_silent hO (by simpa using hp) he
              · cases hp
            · cases h
          · rename_i hgf
            exact absurd hgf hng
          · cases h
      · exact hx

theorem foots_le (hO : ∀ g d a ob, O g = false → E.full g d a ob = none) {ops : List Oper} : ∀ {os : List Oper} {st st' : St}, runOps T E ops st os = some st' → FLe (footOps T E ops st os) (footsA T O E ops st os) := by
  intro os
  induction os with
  | nil => intro st st' _; trivial
  | cons o os ih =>
    intro st st' h
    simp only [runOps] at h
    split at h
    · rename_i st1 h1
      obtain ⟨a1, a2⟩ := foot_le hO h1
      refine ⟨a1, a2, ?_⟩
      simp only [h1]
      exact ih h
    · cases h

theorem runA_sound (hO : ∀ g d a ob, O g = false → E.full g d a ob = none) (K : Nat → Keep) : ∀ n, (∀ c st r, runCodeA T O E K n c st = some r → runCode T E K n c st = some r) ∧ ∀ c st r, runLoopA T O E K n c st = some r → runLoop T E K n c st = some r := by
  intro n
  induction n with
  | zero => exact ⟨fun c st r h => by simp [runCodeA] at h, fun c st r h => by simp [runLoopA] at h⟩
  | succ n ih =>
    obtain ⟨ih1, ih2⟩ := ih
    refine ⟨fun c st r h => ?_, fun c st r h => ?_⟩
    · cases c with
      | skip => exact h
      | region id ops draw =>
        simp only [runCodeA] at h
        simp only [runCode]
        split at h
        · rename_i hc
          obtain ⟨st', h1, rfl⟩ := Option.map_eq_some_iff.1 h
          rw [if_pos, h1]
          · rfl
          · rw [Bool.or_eq_true] at hc ⊢
            rcases hc with hc | hc
            · exact .inl hc
            · refine .inr ?_
              rw [Bool.and_eq_true] at hc ⊢
              exact ⟨orderOk_mono (foots_le hO h1) hc.1, hc.2⟩
        · cases h
      | seq a b =>
        simp only [runCodeA] at h
        simp only [runCode]
        split at h
        · rename_i st1 h1
          rw [ih1 _ _ _ h1]
          exact ih1 _ _ _ h
        · rename_i r' hne
          rw [ih1 _ _ _ h]
          split
          · rename_i st1 h1
            injection h1 with h1
            subst h1
            exact absurd h (hne _)
          · rfl
      | cond c a b =>
        simp only [runCodeA] at h
        simp only [runCode]
        split at h
        · rename_i t ht
          rw [ht]
          simp only
          split at h
          · rename_i hb; rw [if_pos hb]; exact ih1 _ _ _ h
          · rename_i hb; rw [if_neg hb]; exact ih1 _ _ _ h
        · cases h
      | block id c =>
        simp only [runCodeA] at h
        simp only [runCode]
        split at h
        · rename_i id' st1 h1
          rw [ih1 _ _ _ h1]
          exact h
        · rename_i r' hne
          rw [ih1 _ _ _ h]
          split
          · rename_i id' st1 h1
            injection h1 with h1
            subst h1
            exact absurd h (hne _ _)
          · rfl
      | loop c => exact ih2 _ _ _ h
      | exit id => exact h
      | ret => exact h
      | _ => simp [runCodeA] at h
    · simp only [runLoopA] at h
      simp only [runLoop]
      split at h
      · rename_i st1 h1
        rw [ih1 _ _ _ h1]
        exact ih2 _ _ _ h
      · rename_i r' hne
        rw [ih1 _ _ _ h]
        split
        · rename_i st1 h1
          injection h1 with h1
          subst h1
          exact absurd h (hne _)
        · rfl

theorem runOps_leA (k : ELe O E E') {ops : List Oper} : ∀ {os : List Oper} {st st' : St}, runOps T E ops st os = some st' → runOps T E' ops st os = some st' ∧ footsA T O E' ops st os = footsA T O E ops st os := by
  intro os
  induction os with
  | nil => intro st st' h; exact ⟨h, rfl⟩
  | cons o os ih =>
    intro st st' h
    simp only [runOps] at h ⊢
    split at h
    · rename_i st1 h1
      obtain ⟨q1, q2⟩ := stepOp_le k h1
      obtain ⟨q3, q4⟩ := ih h
      simp only [q1, q3, footsA, h1, q4]
      exact ⟨trivial, trivial⟩
    · cases h

theorem run_leA (k : ELe O E E') (K : Nat → Keep) : ∀ n, (∀ m, n ≤ m → ∀ c st r, runCodeA T O E K n c st = some r → runCodeA T O E' K m c st = some r) ∧ ∀ m, n ≤ m → ∀ c st r, runLoopA T O E K n c st = some r → runLoopA T O E' K m c st = some r := by
  intro n
  induction n with
  | zero => exact ⟨fun m _ c st r h => by simp [runCodeA] at h, fun m _ c st r h => by simp [runLoopA] at h⟩
  | succ n ih =>
    obtain ⟨ih1, ih2⟩ := ih
    refine ⟨fun m hm c st r h => ?_, fun m hm c st r h => ?_⟩
    · obtain ⟨m, rfl⟩ : ∃ m', m = m' + 1 := ⟨m - 1, by omega⟩
      have hm : n ≤ m := by omega
      cases c with
      | skip => exact h
      | region id ops draw =>
        simp only [runCodeA] at h ⊢
        split at h
        · rename_i hc
          obtain ⟨st', h1, rfl⟩ := Option.map_eq_some_iff.1 h
          obtain ⟨q1, q2⟩ := runOps_leA k h1
          rw [q2, if_pos hc, q1]
          rfl
        · cases h
      | seq a b =>
        simp only [runCodeA] at h ⊢
        split at h
        · rename_i st1 h1
          rw [ih1 m hm _ _ _ h1]
          exact ih1 m hm _ _ _ h
        · rename_i r' hne
          rw [ih1 m hm _ _ _ h]
          split
          · rename_i st1 h1
            injection h1 with h1
            subst h1
            exact absurd h (hne _)
          · rfl
      | cond c a b =>
        simp only [runCodeA] at h ⊢
        split at h
        · split at h
          · rename_i hb; rw [if_pos hb]; exact ih1 m hm _ _ _ h
          · rename_i hb; rw [if_neg hb]; exact ih1 m hm _ _ _ h
        · cases h
      | block id c =>
        simp only [runCodeA] at h ⊢
        split at h
        · rename_i id' st1 h1
          rw [ih1 m hm _ _ _ h1]
          exact h
        · rename_i r' hne
          rw [ih1 m hm _ _ _ h]
          split
          · rename_i id' st1 h1
            injection h1 with h1
            subst h1
            exact absurd h (hne _ _)
          · rfl
      | loop c => exact ih2 m hm _ _ _ h
      | exit id => exact h
      | ret => exact h
      | _ => simp [runCodeA] at h
    · obtain ⟨m, rfl⟩ : ∃ m', m = m' + 1 := ⟨m - 1, by omega⟩
      have hm : n ≤ m := by omega
      simp only [runLoopA] at h ⊢
      split at h
      · rename_i st1 h1
        rw [ih1 m hm _ _ _ h1]
        exact ih2 m hm _ _ _ h
      · rename_i r' hne
        rw [ih1 m hm _ _ _ h]
        split
        · rename_i st1 h1
          injection h1 with h1
          subst h1
          exact absurd h (hne _)
        · rfl

end
end Go.Ai
