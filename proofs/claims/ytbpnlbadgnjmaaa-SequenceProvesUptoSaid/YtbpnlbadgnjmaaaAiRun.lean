/- Ai, part 19: code, loops, and functions that are handed immutable values. No condition. -/
import Derived.Test.YtbpnlbadgnjmaaaAiKeep
namespace Go.Ai
set_option linter.unusedSimpArgs false
set_option linter.unusedVariables false
set_option linter.constructorNameAsVariable false

def exOf : Ex → Exit
  | .normal => .normal
  | .exit id => .exit id
  | .ret => .ret

section
variable {P : Program} {T : Nat → Option Ty} {S : Sp} {w0 : World} {h0 : H}

/-- The code runs to what the abstract run says. -/
def Runs (P : Program) (S : Sp) (w0 : World) (h0 : H) (c : Code) (st : St) (ex : Ex) (st' : St) : Prop :=
  ∀ (a : Act) (w : World) (β : Beta) (h : H), RelAt S w0 h0 st a w β h → ∀ Q : Exit → Act → World → Prop, (∀ a' w' β' h', RelAt S w0 h0 st' a' w' β' h' → Q (exOf ex) a' w') → c.wp P Q a w

theorem run_sound (hT : TOk P T) {E : Env} (hp : PureOk P E.pure) (hfull : FullOk P E.full) (K : Nat → Keep) (hK : ∀ r i, (S.ob0 i).isSome = true → (K r).ext ≤ i) : ∀ fuel,
    (∀ c st ex st', runCode T E K fuel c st = some (ex, st') → Runs P S w0 h0 c st ex st') ∧
    (∀ c st ex st', runLoop T E K fuel c st = some (ex, st') → Runs P S w0 h0 (.loop c) st ex st' ∧ ex ≠ .normal) := by
  have loopGo : ∀ fuel, (∀ fuel' < fuel, ∀ c st ex st', runCode T E K fuel' c st = some (ex, st') → Runs P S w0 h0 c st ex st') → ∀ c st ex st', runLoop T E K fuel c st = some (ex, st') → Runs P S w0 h0 (.loop c) st ex st' ∧ ex ≠ .normal := by
    intro fuel hcode c st ex st' he
    have hex : ∀ n, ∀ st, runLoop T E K n c st = some (ex, st') → ex ≠ .normal := by
      intro n
      induction n with
      | zero => intro st h; simp [runLoop] at h
      | succ n ih =>
        intro st h
        simp only [runLoop] at h
        split at h
        · exact ih _ h
        · rename_i r hr
          intro e
          subst e
          exact (hr st' h).elim
    refine ⟨fun a w β h k Q hQ => ?_, hex fuel st he⟩
    refine wp_loop_ghost (fun n a w => n ≤ fuel ∧ ∃ st β h, runLoop T E K n c st = some (ex, st') ∧ RelAt S w0 h0 st a w β h) fuel ⟨Nat.le_refl _, st, β, h, he, k⟩ ?_
    rintro n a w ⟨hn, st, β, h, he, k⟩
    cases n with
    | zero => simp [runLoop] at he
    | succ n =>
      simp only [runLoop] at he
      split at he
      · rename_i st1 h1
        refine hcode n (by omega) c st _ _ h1 a w β h k _ fun a' w' β' h' k' => ?_
        obtain ⟨β2, h2, k2⟩ := keep_sound k' (K ((firstRegion c).getD 0)) (hK _)
        exact ⟨n, Nat.lt_succ_self _, by omega, _, β2, h2, he, k2⟩
      · rename_i r hr
        have hne : ex ≠ .normal := fun e => by
          subst e
          exact (hr st' he).elim
        refine hcode n (by omega) c st _ _ he a w β h k _ fun a' w' β' h' k' => ?_
        have := hQ a' w' β' h' k'
        cases ex with
        | normal => exact absurd rfl hne
        | exit id => exact this
        | ret => exact this
  have codeGo : ∀ fuel c st ex st', runCode T E K fuel c st = some (ex, st') → Runs P S w0 h0 c st ex st' := by
    intro fuel
    induction fuel using Nat.strongRecOn with
    | _ fuel ih =>
      intro c st ex st' he a w β h k Q hQ
      cases fuel with
      | zero => simp [runCode] at he
      | succ fuel =>
        have hlt : fuel < fuel + 1 := Nat.lt_succ_self _
        cases c with
        | skip =>
          simp only [runCode] at he
          injection he with he
          injection he with e1 e2
          subst e1; subst e2
          exact wp_skip (hQ a w β h k)
        | region id ops draw =>
          simp only [runCode] at he
          split at he
          · rename_i hd
            cases hr : runOps T E ops.toList st ops.toList with
            | none => rw [hr] at he; cases he
            | some s1 =>
              rw [hr] at he
              injection he with he
              injection he with e1 e2
              subst e1; subst e2
              exact region_sound hT hp hfull k hd hr hQ
          · cases he
        | seq x y =>
          simp only [runCode] at he
          split at he
          · rename_i st1 h1
            refine wp_seq (ih fuel hlt x st _ _ h1 a w β h k _ fun a' w' β' h' k' => ?_)
            exact ih fuel hlt y st1 _ _ he a' w' β' h' k' Q hQ
          · rename_i r hr
            have hne : ex ≠ .normal := fun e => by
              subst e
              exact (hr st' he).elim
            refine wp_seq (ih fuel hlt x st _ _ he a w β h k _ fun a' w' β' h' k' => ?_)
            have := hQ a' w' β' h' k'
            cases ex with
            | normal => exact absurd rfl hne
            | exit id => exact this
            | ret => exact this
        | cond c x y =>
          simp only [runCode] at he
          split at he
          · rename_i t hc
            have hcv := (k.eval hc).bool
            refine wp_cond hcv ?_
            cases t
            · simp only [Bool.false_eq_true, if_false] at he ⊢
              exact ih fuel hlt y st _ _ he a w β h k Q hQ
            · simp only [if_true] at he ⊢
              exact ih fuel hlt x st _ _ he a w β h k Q hQ
          · cases he
        | block id c =>
          simp only [runCode] at he
          split at he
          · rename_i id' st1 h1
            refine wp_block (ih fuel hlt c st _ _ h1 a w β h k _ fun a' w' β' h' k' => ?_)
            simp only [exOf, Exit.inBlock]
            split at he
            · rename_i e
              injection he with he
              injection he with e1 e2
              subst e1; subst e2
              rw [if_pos e]
              exact hQ a' w' β' h' k'
            · rename_i e
              injection he with he
              injection he with e1 e2
              subst e1; subst e2
              rw [if_neg e]
              exact hQ a' w' β' h' k'
          · rename_i r hr
            refine wp_block (ih fuel hlt c st _ _ he a w β h k _ fun a' w' β' h' k' => ?_)
            have := hQ a' w' β' h' k'
            cases ex with
            | normal => exact this
            | exit id' => exact (hr id' st' he).elim
            | ret => exact this
        | loop c =>
          simp only [runCode] at he
          obtain ⟨β2, h2, k2⟩ := keep_sound k (K ((firstRegion c).getD 0)) (hK _)
          exact (loopGo fuel (fun f hf => ih f (by omega)) c _ _ _ he).1 a w β2 h2 k2 Q hQ
        | exit id =>
          simp only [runCode] at he
          injection he with he
          injection he with e1 e2
          subst e1; subst e2
          exact wp_exit (hQ a w β h k)
        | ret =>
          simp only [runCode] at he
          injection he with he
          injection he with e1 e2
          subst e1; subst e2
          exact wp_ret (hQ a w β h k)
        | _ => simp [runCode] at he
  exact fun fuel => ⟨codeGo fuel, loopGo fuel fun f _ => codeGo f⟩

end
end Go.Ai
