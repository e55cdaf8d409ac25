/- Ai, part 26: rules for the abstract run without fuel. No condition. -/
import Derived.Test.YtbpnlbadgnjmaaaAiFoot
namespace Go.Ai
set_option linter.unusedSimpArgs false
set_option linter.unusedVariables false
set_option linter.constructorNameAsVariable false

open Classical in
noncomputable def limOf {α : Type} (u : Nat → Option α) : Option α := if h : ∃ m, (u m).isSome = true then u (Classical.choose h) else none

theorem limOf_iff {α : Type} {u : Nat → Option α} (hm : ∀ n m r, n ≤ m → u n = some r → u m = some r) {r : α} : limOf u = some r ↔ ∃ m, u m = some r := by
  unfold limOf
  constructor
  · intro h
    split at h
    · exact ⟨_, h⟩
    · cases h
  · rintro ⟨m, h⟩
    have hx : ∃ m, (u m).isSome = true := ⟨m, by rw [h]; rfl⟩
    rw [dif_pos hx]
    obtain ⟨q, hq⟩ := Option.isSome_iff_exists.1 (Classical.choose_spec hx)
    rw [hq]
    rcases Nat.le_total m (Classical.choose hx) with h1 | h1
    · rw [← hq]; exact hm _ _ _ h1 h
    · rw [← h]; exact (hm _ _ _ h1 hq).symm

/-- What a seat is: types, functions, oracles; and which functions are handed objects. -/
structure Seat where
  T : Nat → Option Ty
  F : Nat → Option Fun
  S : Env
  O : Nat → Bool
  apart : Apart F S O

namespace Seat
variable (s : Seat)
def envN (m : Nat) (G : List Nat) : Env := { pure := runFun s.T s.F s.S m, full := runFull s.T s.F s.S m, grow := G }
noncomputable def fn (g : Nat) (a : List AV) : Option AV := limOf fun m => runFun s.T s.F s.S m g a
noncomputable def fnO (g d : Nat) (a : List AV) (ob : Nat → Option AObj) : Option (AV × Upd) := limOf fun m => runFull s.T s.F s.S m g d a ob
noncomputable def env (G : List Nat) : Env := { pure := s.fn, full := s.fnO, grow := G }

variable {s}
theorem fn_iff {g a r} : s.fn g a = some r ↔ ∃ m, runFun s.T s.F s.S m g a = some r := limOf_iff fun n m r h => (fun_le s.apart n).1 m h g a r
theorem fnO_iff {g d a ob r} : s.fnO g d a ob = some r ↔ ∃ m, runFull s.T s.F s.S m g d a ob = some r := limOf_iff fun n m r h => (fun_le s.apart n).2 m h g d a ob r

theorem envN_le {n m : Nat} (h : n ≤ m) (G : List Nat) : ELe s.O (s.envN n G) (s.envN m G) :=
  ⟨rfl, fun g a r => (fun_le s.apart n).1 m h g a r, fun g d a ob r => (fun_le s.apart n).2 m h g d a ob r, fun g a hg => runFun_no s.apart hg m, fun g d a ob hg => runFull_no s.apart hg m⟩

theorem env_le (n : Nat) (G : List Nat) : ELe s.O (s.envN n G) (s.env G) := by
  refine ⟨rfl, fun g a r h => fn_iff.2 ⟨n, h⟩, fun g d a ob r h => fnO_iff.2 ⟨n, h⟩, fun g a hg => ?_, fun g d a ob hg => ?_⟩
  · cases h : (s.env G).pure g a with
    | none => rfl
    | some r =>
      obtain ⟨m, hm⟩ := fn_iff.1 h
      rw [runFun_no s.apart hg m] at hm
      cases hm
  · cases h : (s.env G).full g d a ob with
    | none => rfl
    | some r =>
      obtain ⟨m, hm⟩ := fnO_iff.1 h
      rw [runFull_no s.apart hg m] at hm
      cases hm

theorem pure_O {G : List Nat} {g : Nat} {a : List AV} {r : AV} (h : (s.env G).pure g a = some r) : s.O g = false := by
  cases ho : s.O g with
  | false => rfl
  | true => rw [(env_le 0 G).noP g a ho] at h; cases h

/-- What runs in the limit runs at some fuel. -/
theorem callAV_lim {G ob d g args r} (h : callAV (s.env G) ob d g args = some r) : ∃ n, callAV (s.envN n G) ob d g args = some r := by
  have full : (s.env G).full g d args ob = some r → ∃ n, (s.envN n G).full g d args ob = some r ∧ ∀ ps, (s.envN n G).pure g ps = none := by
    intro h
    obtain ⟨n, hn⟩ := fnO_iff.1 h
    exact ⟨n, hn, fun ps => ((envN_le (Nat.le_refl n) G).up hn).2 ps |>.1⟩
  unfold callAV at h ⊢
  split at h
  · rename_i ps hps
    split at h
    · rename_i q hq
      obtain ⟨n, hn⟩ := fn_iff.1 hq
      exact ⟨n, by rw [show (s.envN n G).pure g ps = some q from hn]; exact h⟩
    · obtain ⟨n, h1, h2⟩ := full h
      exact ⟨n, by rw [h2]; exact h1⟩
  · split at h
    · rename_i ps hps
      split at h
      · rename_i q hq
        split at h
        · rename_i hpl
          obtain ⟨n, hn⟩ := fn_iff.1 hq
          exact ⟨n, by rw [show (s.envN n G).pure g ps = some q from hn]; simp only [hpl, if_true]; exact h⟩
        · obtain ⟨n, h1, h2⟩ := full h
          exact ⟨n, by rw [h2]; exact h1⟩
      · obtain ⟨n, h1, h2⟩ := full h
        exact ⟨n, by rw [h2]; exact h1⟩
    · obtain ⟨n, h1, h2⟩ := full h
      exact ⟨n, h1⟩

theorem exec_lim {G ρ ob d op r} (h : exec s.T (s.env G) ρ ob d op = some r) : ∃ n, exec s.T (s.envN n G) ρ ob d op = some r := by
  cases op with
  | call c =>
    simp only [exec] at h ⊢
    split at h
    · rename_i args hargs
      split at h
      · exact ⟨0, h⟩
      · exact ⟨0, h⟩
      · exact ⟨0, h⟩
      · exact ⟨0, h⟩
      · split at h
        · obtain ⟨n, hn⟩ := callAV_lim h
          exact ⟨n, hn⟩
        · cases h
      · cases h
    · cases h
  | makeFunc f a b => cases f <;> exact ⟨0, h⟩
  | _ => exact ⟨0, h⟩

theorem stepOp_lim {G ops st o st'} (h : stepOp s.T (s.env G) ops st o = some st') : ∃ n, stepOp s.T (s.envN n G) ops st o = some st' := by
  unfold stepOp at h ⊢
  split at h
  · split at h
    · rename_i v u he
      obtain ⟨n, hn⟩ := exec_lim he
      exact ⟨n, by simp only [hn]; exact h⟩
    · cases h
  · exact ⟨0, h⟩
  · cases h

theorem runOps_lim {G} {ops : List Oper} : ∀ {os : List Oper} {st st' : St}, runOps s.T (s.env G) ops st os = some st' → ∃ n, runOps s.T (s.envN n G) ops st os = some st' := by
  intro os
  induction os with
  | nil => intro st st' h; exact ⟨0, h⟩
  | cons o os ih =>
    intro st st' h
    simp only [runOps] at h ⊢
    split at h
    · rename_i st1 h1
      obtain ⟨n, hn⟩ := stepOp_lim h1
      obtain ⟨m, hm⟩ := ih h
      refine ⟨max n m, ?_⟩
      rw [(stepOp_le (envN_le (Nat.le_max_left n m) G) hn).1]
      exact (runOps_leA (envN_le (Nat.le_max_right n m) G) hm).1
    · cases h

variable (s)
/-- The code comes to an end that meets `Q`. -/
def W (G : List Nat) (K : Nat → Keep) (c : Code) (st : St) (Q : Ex → St → Prop) : Prop := ∃ m ex st', runCodeA s.T s.O (s.envN m G) K m c st = some (ex, st') ∧ Q ex st'
/-- The same of a loop, behind its head. -/
def WL (G : List Nat) (K : Nat → Keep) (c : Code) (st : St) (Q : Ex → St → Prop) : Prop := ∃ m ex st', runLoopA s.T s.O (s.envN m G) K m c st = some (ex, st') ∧ Q ex st'

def SeqQ (G : List Nat) (K : Nat → Keep) (b : Code) (Q : Ex → St → Prop) : Ex → St → Prop
  | .normal, st => s.W G K b st Q
  | ex, st => Q ex st
def BlkQ (id : Nat) (Q : Ex → St → Prop) : Ex → St → Prop
  | .exit i, st => if i = id then Q .normal st else Q (.exit i) st
  | ex, st => Q ex st
def LoopQ (G : List Nat) (K : Nat → Keep) (c : Code) (Q : Ex → St → Prop) : Ex → St → Prop
  | .normal, st => s.WL G K c (keepSt (K ((firstRegion c).getD 0)) st) Q
  | ex, st => Q ex st
/-- The order that is drawn does not matter. -/
def Ord (ops : Array Oper) (fs : List (List Nat × List Nat)) : Prop := (orderOk (Region.before ops) fs && completeOk ops) = true
noncomputable def Rg (G : List Nat) (all : List Oper) : List Oper → St → List (List Nat × List Nat) → (St → List (List Nat × List Nat) → Prop) → Prop
  | [], st, fs, k => k st fs
  | o :: os, st, fs, k => match stepOp s.T (s.env G) all st o with
    | some st' => Rg G all os st' (fs ++ [footA s.O all st o]) k
    | none => False
noncomputable def Rq (G : List Nat) (all : List Oper) : List Oper → St → (Ex → St → Prop) → Prop
  | [], st, k => k .normal st
  | o :: os, st, k => match stepOp s.T (s.env G) all st o with
    | some st' => Rq G all os st' k
    | none => False
def EndQ (ops : Array Oper) (Q : Ex → St → Prop) (st : St) (fs : List (List Nat × List Nat)) : Prop := Ord ops fs ∧ Q .normal st

variable {s} {G : List Nat} {K : Nat → Keep} {Q : Ex → St → Prop} {st : St}

theorem up {n k m : Nat} {c st r} (h : runCodeA s.T s.O (s.envN n G) K k c st = some r) (hn : n ≤ m) (hk : k ≤ m) : runCodeA s.T s.O (s.envN m G) K m c st = some r := (run_leA (envN_le hn G) K k).1 m hk _ _ _ h
theorem upL {n k m : Nat} {c st r} (h : runLoopA s.T s.O (s.envN n G) K k c st = some r) (hn : n ≤ m) (hk : k ≤ m) : runLoopA s.T s.O (s.envN m G) K m c st = some r := (run_leA (envN_le hn G) K k).2 m hk _ _ _ h

theorem W_skip : s.W G K .skip st Q = Q .normal st := by
  refine propext ⟨fun ⟨m, ex, st', h, q⟩ => ?_, fun q => ⟨1, .normal, st, rfl, q⟩⟩
  cases m with
  | zero => simp [runCodeA] at h
  | succ m =>
    simp only [runCodeA] at h
    injection h with h; injection h with h1 h2; subst h1; subst h2; exact q
theorem W_exit {i : Nat} : s.W G K (.exit i) st Q = Q (.exit i) st := by
  refine propext ⟨fun ⟨m, ex, st', h, q⟩ => ?_, fun q => ⟨1, .exit i, st, rfl, q⟩⟩
  cases m with
  | zero => simp [runCodeA] at h
  | succ m =>
    simp only [runCodeA] at h
    injection h with h; injection h with h1 h2; subst h1; subst h2; exact q
theorem W_ret : s.W G K .ret st Q = Q .ret st := by
  refine propext ⟨fun ⟨m, ex, st', h, q⟩ => ?_, fun q => ⟨1, .ret, st, rfl, q⟩⟩
  cases m with
  | zero => simp [runCodeA] at h
  | succ m =>
    simp only [runCodeA] at h
    injection h with h; injection h with h1 h2; subst h1; subst h2; exact q

theorem W_seq {a b : Code} : s.W G K (.seq a b) st Q = s.W G K a st (s.SeqQ G K b Q) := by
  refine propext ⟨fun ⟨m, ex, st', h, q⟩ => ?_, fun ⟨m, ex, st', h, q⟩ => ?_⟩
  · cases m with
    | zero => simp [runCodeA] at h
    | succ m =>
      simp only [runCodeA] at h
      split at h
      · rename_i st1 h1
        exact ⟨m + 1, .normal, st1, up h1 (by omega) (by omega), m + 1, ex, st', up h (by omega) (by omega), q⟩
      · rename_i r hne
        refine ⟨m + 1, ex, st', up h (by omega) (by omega), ?_⟩
        cases ex with
        | normal => exact absurd h (hne _)
        | exit i => exact q
        | ret => exact q
  · cases ex with
    | normal =>
      obtain ⟨m2, ex2, st2, h2, q2⟩ := q
      refine ⟨max m m2 + 1, ex2, st2, ?_, q2⟩
      simp only [runCodeA]
      rw [(run_leA (envN_le (show m ≤ max m m2 + 1 by omega) G) K m).1 (max m m2) (by omega) _ _ _ h]
      exact (run_leA (envN_le (show m2 ≤ max m m2 + 1 by omega) G) K m2).1 (max m m2) (by omega) _ _ _ h2
    | exit i =>
      refine ⟨m + 1, _, st', ?_, q⟩
      simp only [runCodeA]
      rw [(run_leA (envN_le (show m ≤ m + 1 by omega) G) K m).1 m (by omega) _ _ _ h]
    | ret =>
      refine ⟨m + 1, _, st', ?_, q⟩
      simp only [runCodeA]
      rw [(run_leA (envN_le (show m ≤ m + 1 by omega) G) K m).1 m (by omega) _ _ _ h]

theorem W_block {i : Nat} {c : Code} : s.W G K (.block i c) st Q = s.W G K c st (BlkQ i Q) := by
  refine propext ⟨fun ⟨m, ex, st', h, q⟩ => ?_, fun ⟨m, ex, st', h, q⟩ => ?_⟩
  · cases m with
    | zero => simp [runCodeA] at h
    | succ m =>
      simp only [runCodeA] at h
      split at h
      · rename_i j st1 h1
        refine ⟨m + 1, .exit j, st1, up h1 (by omega) (by omega), ?_⟩
        simp only [BlkQ]
        split at h
        · rename_i e
          injection h with h; injection h with h2 h3; subst h2; subst h3
          rw [if_pos e]; exact q
        · rename_i e
          injection h with h; injection h with h2 h3; subst h2; subst h3
          rw [if_neg e]; exact q
      · rename_i r hne
        refine ⟨m + 1, ex, st', up h (by omega) (by omega), ?_⟩
        cases ex with
        | normal => exact q
        | exit j => exact absurd h (hne _ _)
        | ret => exact q
  · have h1 := (run_leA (envN_le (show m ≤ m + 1 by omega) G) K m).1 m (by omega) _ _ _ h
    cases ex with
    | normal => exact ⟨m + 1, _, st', by simp only [runCodeA]; rw [h1], q⟩
    | exit j =>
      simp only [BlkQ] at q
      split at q
      · rename_i e; exact ⟨m + 1, _, st', by simp only [runCodeA]; rw [h1]; simp only [e, if_true], q⟩
      · rename_i e; exact ⟨m + 1, _, st', by simp only [runCodeA]; rw [h1]; simp only [e, if_false], q⟩
    | ret => exact ⟨m + 1, _, st', by simp only [runCodeA]; rw [h1], q⟩

theorem W_loop {c : Code} : s.W G K (.loop c) st Q = s.WL G K c (keepSt (K ((firstRegion c).getD 0)) st) Q := by
  refine propext ⟨fun ⟨m, ex, st', h, q⟩ => ?_, fun ⟨m, ex, st', h, q⟩ => ?_⟩
  · cases m with
    | zero => simp [runCodeA] at h
    | succ m =>
      simp only [runCodeA] at h
      exact ⟨m + 1, ex, st', upL h (by omega) (by omega), q⟩
  · refine ⟨m + 1, ex, st', ?_, q⟩
    simp only [runCodeA]
    exact (run_leA (envN_le (show m ≤ m + 1 by omega) G) K m).2 m (by omega) _ _ _ h

/-- One round. -/
theorem WL_round {c : Code} : s.WL G K c st Q = s.W G K c st (s.LoopQ G K c Q) := by
  refine propext ⟨fun ⟨m, ex, st', h, q⟩ => ?_, fun ⟨m, ex, st', h, q⟩ => ?_⟩
  · cases m with
    | zero => simp [runLoopA] at h
    | succ m =>
      simp only [runLoopA] at h
      split at h
      · rename_i st1 h1
        exact ⟨m + 1, .normal, st1, up h1 (by omega) (by omega), m + 1, ex, st', upL h (by omega) (by omega), q⟩
      · rename_i r hne
        refine ⟨m + 1, ex, st', up h (by omega) (by omega), ?_⟩
        cases ex with
        | normal => exact absurd h (hne _)
        | exit i => exact q
        | ret => exact q
  · cases ex with
    | normal =>
      obtain ⟨m2, ex2, st2, h2, q2⟩ := q
      refine ⟨max m m2 + 1, ex2, st2, ?_, q2⟩
      simp only [runLoopA]
      rw [(run_leA (envN_le (show m ≤ max m m2 + 1 by omega) G) K m).1 (max m m2) (by omega) _ _ _ h]
      exact (run_leA (envN_le (show m2 ≤ max m m2 + 1 by omega) G) K m2).2 (max m m2) (by omega) _ _ _ h2
    | exit i =>
      refine ⟨m + 1, _, st', ?_, q⟩
      simp only [runLoopA]
      rw [(run_leA (envN_le (show m ≤ m + 1 by omega) G) K m).1 m (by omega) _ _ _ h]
    | ret =>
      refine ⟨m + 1, _, st', ?_, q⟩
      simp only [runLoopA]
      rw [(run_leA (envN_le (show m ≤ m + 1 by omega) G) K m).1 m (by omega) _ _ _ h]

theorem W_cond {c : Operand} {a b : Code} : s.W G K (.cond c a b) st Q = match evalOp st.tmps c with
    | some (.leaf (.imm (.bool t))) => if t = true then s.W G K a st Q else s.W G K b st Q
    | _ => False := by
  split
  · rename_i t ht
    refine propext ⟨fun ⟨m, ex, st', h, q⟩ => ?_, fun h => ?_⟩
    · cases m with
      | zero => simp [runCodeA] at h
      | succ m =>
        simp only [runCodeA, ht] at h
        split at h
        · rename_i e; rw [if_pos e]; exact ⟨m + 1, ex, st', up h (by omega) (by omega), q⟩
        · rename_i e; rw [if_neg e]; exact ⟨m + 1, ex, st', up h (by omega) (by omega), q⟩
    · split at h
      · rename_i e
        obtain ⟨m, ex, st', h, q⟩ := h
        refine ⟨m + 1, ex, st', ?_, q⟩
        simp only [runCodeA, ht, if_pos e]
        exact (run_leA (envN_le (show m ≤ m + 1 by omega) G) K m).1 m (by omega) _ _ _ h
      · rename_i e
        obtain ⟨m, ex, st', h, q⟩ := h
        refine ⟨m + 1, ex, st', ?_, q⟩
        simp only [runCodeA, ht, if_neg e]
        exact (run_leA (envN_le (show m ≤ m + 1 by omega) G) K m).1 m (by omega) _ _ _ h
  · rename_i hne
    refine propext ⟨fun ⟨m, ex, st', h, q⟩ => ?_, fun h => h.elim⟩
    cases m with
    | zero => simp [runCodeA] at h
    | succ m =>
      simp only [runCodeA] at h
      cases h

theorem Rg_iff {all : List Oper} {k : St → List (List Nat × List Nat) → Prop} : ∀ {os : List Oper} {st : St} {fs : List (List Nat × List Nat)}, s.Rg G all os st fs k ↔ ∃ st', runOps s.T (s.env G) all st os = some st' ∧ k st' (fs ++ footsA s.T s.O (s.env G) all st os) := by
  intro os
  induction os with
  | nil => intro st fs; simp [Rg, runOps, footsA]
  | cons o os ih =>
    intro st fs
    simp only [Rg, runOps, footsA]
    cases h : stepOp s.T (s.env G) all st o with
    | none => simp
    | some st1 => simp only [ih]; simp

theorem Rq_iff {all : List Oper} : ∀ {os : List Oper} {st : St}, s.Rq G all os st Q ↔ ∃ st', runOps s.T (s.env G) all st os = some st' ∧ Q .normal st' := by
  intro os
  induction os with
  | nil => intro st; simp [Rq, runOps]
  | cons o os ih =>
    intro st
    simp only [Rq, runOps]
    cases h : stepOp s.T (s.env G) all st o with
    | none => simp
    | some st1 => exact ih

theorem W_region_false {i : Nat} {ops : Array Oper} : s.W G K (.region i ops false) st Q = s.Rq G ops.toList ops.toList st Q := by
  refine propext ⟨fun ⟨m, ex, st', h, q⟩ => ?_, fun h => ?_⟩
  · cases m with
    | zero => simp [runCodeA] at h
    | succ m =>
      simp only [runCodeA, Bool.not_false, Bool.true_or, if_true] at h
      obtain ⟨st1, h1, h2⟩ := Option.map_eq_some_iff.1 h
      injection h2 with h2 h3; subst h2; subst h3
      exact Rq_iff.2 ⟨st1, (runOps_leA (env_le (m + 1) G) h1).1, q⟩
  · obtain ⟨st1, h1, q⟩ := Rq_iff.1 h
    obtain ⟨n, hn⟩ := runOps_lim h1
    refine ⟨n + 1, .normal, st1, ?_, q⟩
    simp only [runCodeA, Bool.not_false, Bool.true_or, if_true]
    rw [(runOps_leA (envN_le (show n ≤ n + 1 by omega) G) hn).1]
    rfl

theorem W_region_true {i : Nat} {ops : Array Oper} : s.W G K (.region i ops true) st Q = s.Rg G ops.toList ops.toList st [] (EndQ ops Q) := by
  refine propext ⟨fun ⟨m, ex, st', h, q⟩ => ?_, fun h => ?_⟩
  · cases m with
    | zero => simp [runCodeA] at h
    | succ m =>
      simp only [runCodeA, Bool.not_true, Bool.false_or] at h
      split at h
      · rename_i hc
        obtain ⟨st1, h1, h2⟩ := Option.map_eq_some_iff.1 h
        injection h2 with h2 h3; subst h2; subst h3
        obtain ⟨q1, q2⟩ := runOps_leA (env_le (m + 1) G) h1
        refine Rg_iff.2 ⟨st1, q1, ?_, q⟩
        rw [q2]
        exact hc
      · cases h
  · obtain ⟨st1, h1, hc, q⟩ := Rg_iff.1 h
    obtain ⟨n, hn⟩ := runOps_lim h1
    refine ⟨n + 1, .normal, st1, ?_, q⟩
    simp only [runCodeA, Bool.not_true, Bool.false_or]
    have h2 := (runOps_leA (envN_le (show n ≤ n + 1 by omega) G) hn).1
    rw [(runOps_leA (env_le (n + 1) G) h2).2] at hc
    simp only [Ord, List.nil_append] at hc
    rw [if_pos hc, h2]
    rfl

/-- A loop by an invariant and a measure. -/
theorem WL_inv {α : Type} (S : α → St) (I : α → Prop) (μ : α → Nat) {c : Code} (step : ∀ x, I x → s.W G K c (S x) (fun ex st' => match ex with
    | .normal => ∃ y, I y ∧ μ y < μ x ∧ keepSt (K ((firstRegion c).getD 0)) st' = S y
    | ex => Q ex st')) : ∀ x, I x → s.WL G K c (S x) Q := by
  have : ∀ n x, μ x < n → I x → s.WL G K c (S x) Q := by
    intro n
    induction n with
    | zero => intro x h; omega
    | succ n ih =>
      intro x hx hi
      rw [WL_round]
      obtain ⟨m, ex, st', h, q⟩ := step x hi
      refine ⟨m, ex, st', h, ?_⟩
      cases ex with
      | normal =>
        obtain ⟨y, h1, h2, h3⟩ := q
        simp only [LoopQ]
        rw [h3]
        exact ih y (by omega) h1
      | exit i => exact q
      | ret => exact q
  exact fun x hi => this _ x (Nat.lt_succ_self _) hi

theorem W_mono {c : Code} {Q' : Ex → St → Prop} (h : s.W G K c st Q) (hq : ∀ ex st, Q ex st → Q' ex st) : s.W G K c st Q' := by
  obtain ⟨m, ex, st', h, q⟩ := h
  exact ⟨m, ex, st', h, hq _ _ q⟩

/-- What a function's body must come to. -/
def RetQ (T : Nat → Option Ty) (rs : List ResultVar) (r : AV) : Ex → St → Prop
  | .exit _, _ => False
  | _, st => ∃ vs us, resultsAV T st rs = some vs ∧ lendArgs st.ob vs = some us ∧ tupleOf us = r

/-- A function, by its body. -/
theorem fn_of {g : Nat} {f : Fun} {c : Code} {a : List AV} {r : AV} (hp : s.S.pure g a = none) (hf : s.F g = some f) (hful : f.full = false) (hb : f.fn.body = some c)
    (h : s.W f.grow f.keep c { tmps := a ++ List.replicate (f.fn.ntmps - a.length) (.leaf .und), objs := List.replicate f.fn.ntmps none } (RetQ s.T f.fn.results.toList r)) : s.fn g a = some r := by
  obtain ⟨m, ex, st', h, q⟩ := h
  refine fn_iff.2 ⟨m + 1, ?_⟩
  have h := (runA_sound (fun g d a ob hg => runFull_no s.apart hg m) f.keep m).1 _ _ _ h
  simp only [runFun, hp, hf, hful, Bool.false_eq_true, if_false, hb]
  have h' : runCode s.T { pure := runFun s.T s.F s.S m, full := runFull s.T s.F s.S m, grow := f.grow } f.keep m c { tmps := a ++ List.replicate (f.fn.ntmps - a.length) (.leaf .und), objs := List.replicate f.fn.ntmps none } = some (ex, st') := h
  rw [h']
  cases ex with
  | exit i => exact q.elim
  | normal =>
    obtain ⟨vs, us, h1, h2, h3⟩ := q
    simp only [h1, h2, Option.map_some, h3]
  | ret =>
    obtain ⟨vs, us, h1, h2, h3⟩ := q
    simp only [h1, h2, Option.map_some, h3]

theorem fn_oracle {g : Nat} {a : List AV} {r : AV} (hp : s.S.pure g a = some r) : s.fn g a = some r := fn_iff.2 ⟨1, by simp only [runFun, hp]⟩

end Seat
end Go.Ai
