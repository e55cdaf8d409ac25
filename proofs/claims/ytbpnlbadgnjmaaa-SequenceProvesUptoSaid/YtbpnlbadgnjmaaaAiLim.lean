/- Ai, part 24: the abstract run without fuel: limits, and the equations that they meet. No condition. -/
import Derived.Test.YtbpnlbadgnjmaaaAiFun
namespace Go.Ai
set_option linter.unusedSimpArgs false
set_option linter.unusedVariables false
set_option linter.constructorNameAsVariable false

/-- More is known: `O` tells the functions that are handed objects. -/
structure ELe (O : Nat → Bool) (E E' : Env) : Prop where
  grow : E.grow = E'.grow
  pure : ∀ g a r, E.pure g a = some r → E'.pure g a = some r
  full : ∀ g d a ob r, E.full g d a ob = some r → E'.full g d a ob = some r
  noP : ∀ g a, O g = true → E'.pure g a = none
  noF : ∀ g d a ob, O g = false → E'.full g d a ob = none

section
variable {T : Nat → Option Ty} {O : Nat → Bool} {E E' : Env}

theorem ELe.up (k : ELe O E E') {g d a ob r} (h : E.full g d a ob = some r) : O g = true ∧ ∀ ps, E'.pure g ps = none ∧ E.pure g ps = none := by
  have ho : O g = true := by
    cases hg : O g with
    | true => rfl
    | false =>
      have h1 := k.full _ _ _ _ _ h
      rw [k.noF _ _ _ _ hg] at h1
      cases h1
  refine ⟨ho, fun ps => ⟨k.noP _ _ ho, ?_⟩⟩
  cases hp : E.pure g ps with
  | none => rfl
  | some r =>
    have h1 := k.pure _ _ _ hp
    rw [k.noP _ _ ho] at h1
    cases h1

theorem callAV_le (k : ELe O E E') {ob d g args r} (h : callAV E ob d g args = some r) : callAV E' ob d g args = some r := by
  unfold callAV at h ⊢
  split at h
  · rename_i ps hps
    split at h
    · rename_i q hq
      rw [k.pure _ _ _ hq]
      exact h
    · rw [((k.up h).2 ps).1]
      exact k.full _ _ _ _ _ h
  · split at h
    · rename_i ps hps
      split at h
      · rename_i q hq
        split at h
        · rename_i hpl
          rw [k.pure _ _ _ hq]
          simp only [hpl, if_true]
          exact h
        · have h1 := ((k.up h).2 ps).2
          rw [hq] at h1
          cases h1
      · rw [((k.up h).2 ps).1]
        exact k.full _ _ _ _ _ h
    · exact k.full _ _ _ _ _ h

theorem exec_le (k : ELe O E E') {ρ ob d op r} (h : exec T E ρ ob d op = some r) : exec T E' ρ ob d op = some r := by
  cases op with
  | call c =>
    simp only [exec] at h ⊢
    split at h
    · rename_i args hargs
      split at h
      · exact h
      · exact h
      · exact h
      · rw [← k.grow]; exact h
      · split at h
        · exact callAV_le k h
        · cases h
      · cases h
    · cases h
  | makeFunc f a b => cases f <;> exact h
  | _ => exact h

theorem stepOp_le (k : ELe O E E') {ops st o st'} (h : stepOp T E ops st o = some st') : stepOp T E' ops st o = some st' ∧ foot T E' ops st o = foot T E ops st o := by
  unfold stepOp at h ⊢
  unfold foot
  split at h
  · rename_i hg
    split at h
    · rename_i v u he
      rw [exec_le k he, he]
      exact ⟨h, rfl⟩
    · cases h
  · rename_i hg
    refine ⟨h, ?_⟩
    simp only [hg, if_true]
  · cases h

theorem runOps_le (k : ELe O E E') {ops : List Oper} : ∀ {os : List Oper} {st st' : St}, runOps T E ops st os = some st' → runOps T E' ops st os = some st' ∧ footOps T E' ops st os = footOps T E ops st os := by
  intro os
  induction os with
  | nil => intro st st' h; exact ⟨h, rfl⟩
  | cons o os ih =>
    intro st st' h
    simp only [runOps] at h ⊢
    split at h
    · rename_i st1 h1
      obtain ⟨q1, q2⟩ := stepOp_le k h1
      obtain ⟨q3, q4⟩ := ih h
      simp only [q1, q3, footOps, q2, h1, q4]
      exact ⟨trivial, trivial⟩
    · cases h

theorem run_le (k : ELe O E E') (K : Nat → Keep) : ∀ n, (∀ m, n ≤ m → ∀ c st r, runCode T E K n c st = some r → runCode T E' K m c st = some r) ∧ ∀ m, n ≤ m → ∀ c st r, runLoop T E K n c st = some r → runLoop T E' K m c st = some r := by
  intro n
  induction n with
  | zero => exact ⟨fun m _ c st r h => by simp [runCode] at h, fun m _ c st r h => by simp [runLoop] at h⟩
  | succ n ih =>
    obtain ⟨ih1, ih2⟩ := ih
    refine ⟨fun m hm c st r h => ?_, fun m hm c st r h => ?_⟩
    · obtain ⟨m, rfl⟩ : ∃ m', m = m' + 1 := ⟨m - 1, by omega⟩
      have hm : n ≤ m := by omega
      cases c with
      | skip => exact h
      | region id ops draw =>
        simp only [runCode] at h ⊢
        split at h
        · rename_i hc
          obtain ⟨st', h1, rfl⟩ := Option.map_eq_some_iff.1 h
          obtain ⟨q1, q2⟩ := runOps_le k h1
          rw [q2, if_pos hc, q1]
          rfl
        · cases h
      | seq a b =>
        simp only [runCode] at h ⊢
        split at h
        · rename_i st1 h1
          rw [ih1 m hm _ _ _ h1]
          exact ih1 m hm _ _ _ h
        · rename_i r' hne
          rw [ih1 m hm _ _ _ h]
          split
          · rename_i st1 h1
            injection h1 with h1
            subst h1
            exact absurd h (hne _)
          · rfl
      | cond c a b =>
        simp only [runCode] at h ⊢
        split at h
        · split at h
          · rename_i hb; rw [if_pos hb]; exact ih1 m hm _ _ _ h
          · rename_i hb; rw [if_neg hb]; exact ih1 m hm _ _ _ h
        · cases h
      | block id c =>
        simp only [runCode] at h ⊢
        split at h
        · rename_i id' st1 h1
          rw [ih1 m hm _ _ _ h1]
          exact h
        · rename_i r' hne
          rw [ih1 m hm _ _ _ h]
          split
          · rename_i id' st1 h1
            injection h1 with h1
            subst h1
            exact absurd h (hne _ _)
          · rfl
      | loop c => exact ih2 m hm _ _ _ h
      | exit id => exact h
      | ret => exact h
      | _ => simp [runCode] at h
    · obtain ⟨m, rfl⟩ : ∃ m', m = m' + 1 := ⟨m - 1, by omega⟩
      have hm : n ≤ m := by omega
      simp only [runLoop] at h ⊢
      split at h
      · rename_i st1 h1
        rw [ih1 m hm _ _ _ h1]
        exact ih2 m hm _ _ _ h
      · rename_i r' hne
        rw [ih1 m hm _ _ _ h]
        split
        · rename_i st1 h1
          injection h1 with h1
          subst h1
          exact absurd h (hne _)
        · rfl

end

/-- The functions that are handed objects, and the others. -/
structure Apart (F : Nat → Option Fun) (S : Env) (O : Nat → Bool) : Prop where
  noP : ∀ g a, O g = true → S.pure g a = none ∧ ∀ f, F g = some f → f.full = true
  noF : ∀ g d a ob, O g = false → S.full g d a ob = none ∧ ∀ f, F g = some f → f.obj = false

section
variable {T : Nat → Option Ty} {F : Nat → Option Fun} {S : Env} {O : Nat → Bool}

theorem runFun_no (ha : Apart F S O) {g a} (hg : O g = true) : ∀ m, runFun T F S m g a = none := by
  intro m
  cases m with
  | zero => simp [runFun]
  | succ m =>
    simp only [runFun, (ha.noP g a hg).1]
    split
    · rename_i f hf
      simp [(ha.noP g a hg).2 f hf]
    · rfl

theorem runFull_no (ha : Apart F S O) {g d a ob} (hg : O g = false) : ∀ m, runFull T F S m g d a ob = none := by
  intro m
  cases m with
  | zero => simp [runFull]
  | succ m =>
    simp only [runFull, (ha.noF g d a ob hg).1]
    split
    · rename_i f hf
      simp [(ha.noF g d a ob hg).2 f hf]
    · rfl

theorem fun_le (ha : Apart F S O) : ∀ n, (∀ m, n ≤ m → ∀ g a r, runFun T F S n g a = some r → runFun T F S m g a = some r) ∧ ∀ m, n ≤ m → ∀ g d a ob r, runFull T F S n g d a ob = some r → runFull T F S m g d a ob = some r := by
  intro n
  induction n with
  | zero => exact ⟨fun m _ g a r h => by simp [runFun] at h, fun m _ g d a ob r h => by simp [runFull] at h⟩
  | succ n ih =>
    obtain ⟨ih1, ih2⟩ := ih
    have le : ∀ (G : List Nat) (m : Nat), n ≤ m → ELe O { pure := runFun T F S n, full := runFull T F S n, grow := G } { pure := runFun T F S m, full := runFull T F S m, grow := G } := fun G m hm =>
      ⟨rfl, fun g a r h => ih1 m hm g a r h, fun g d a ob r h => ih2 m hm g d a ob r h, fun g a hg => runFun_no ha hg m, fun g d a ob hg => runFull_no ha hg m⟩
    refine ⟨fun m hm g a r h => ?_, fun m hm g d a ob r h => ?_⟩
    · obtain ⟨m, rfl⟩ : ∃ m', m = m' + 1 := ⟨m - 1, by omega⟩
      have hm : n ≤ m := by omega
      simp only [runFun] at h ⊢
      split at h
      · exact h
      · split at h
        · rename_i f hf
          split at h
          · cases h
          · rename_i hfull
            rw [if_neg hfull]
            split at h
            · rename_i c hc
              split at h
              · cases h
              · rename_i ex st' hne hrun
                rw [(run_le (le f.grow m hm) f.keep n).1 m hm _ _ _ hrun]
                split
                · rename_i e
                  injection e with e
                  injection e with e1 e2
                  subst e1
                  exact (hne _ rfl).elim
                · rename_i e
                  injection e with e
                  injection e with e1 e2
                  subst e2
                  exact h
                · rename_i e
                  cases e
              · cases h
            · cases h
        · cases h
    · obtain ⟨m, rfl⟩ : ∃ m', m = m' + 1 := ⟨m - 1, by omega⟩
      have hm : n ≤ m := by omega
      simp only [runFull] at h ⊢
      split at h
      · exact h
      · split at h
        · rename_i f hf
          split at h
          · cases h
          · rename_i hobj
            rw [if_neg hobj]
            split at h
            · rename_i c hc
              split at h
              · cases h
              · rename_i ex st' hne hrun
                rw [(run_le (le f.grow m hm) f.keep n).1 m hm _ _ _ hrun]
                split
                · rename_i e
                  injection e with e
                  injection e with e1 e2
                  subst e1
                  exact (hne _ rfl).elim
                · rename_i e
                  injection e with e
                  injection e with e1 e2
                  subst e2
                  exact h
                · rename_i e
                  cases e
              · cases h
            · cases h
        · cases h

end

end Go.Ai
