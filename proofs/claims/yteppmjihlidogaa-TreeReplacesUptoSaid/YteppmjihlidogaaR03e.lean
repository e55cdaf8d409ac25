/- The arguments of the tree laws as trees and paths. No condition. -/
import Derived.Test.YteppmjihlidogaaR03d
namespace Go.Ai
set_option linter.unusedVariables false
set_option linter.unusedSimpArgs false
set_option maxRecDepth 100000
open Tree

theorem szRow_le {v : IV} {l : List IV} (h : v ∈ l) : IV.sz v ≤ IV.szRow l := by
  induction l with
  | nil => cases h
  | cons x l ih =>
    simp only [IV.szRow]
    rcases List.mem_cons.1 h with rfl | h
    · omega
    · have := ih h; omega

theorem ints_of {fuel : Nat} {xs : List IV} (h : IsT T fuel 26 xs) : ∃ p : List Int, xs = [.sl (ints p)] ∧ p.length ≤ IV.szRow xs := by
  cases fuel with
  | zero => exact h.elim
  | succ n =>
    simp only [IsT, T_26] at h
    obtain ⟨rows, rfl, _, hr⟩ := h
    have : ∀ rows : List (List IV), (∀ r ∈ rows, IsT T n 3 r) → ∃ p : List Int, rows = ints p ∧ p.length ≤ IV.szRows rows := by
      intro rows
      induction rows with
      | nil => intro _; exact ⟨[], rfl, Nat.zero_le _⟩
      | cons r rows ih =>
        intro h
        obtain ⟨p, rfl, hp⟩ := ih fun r hr => h r (List.mem_cons_of_mem _ hr)
        have h1 := h r List.mem_cons_self
        cases n with
        | zero => exact h1.elim
        | succ n =>
          simp only [IsT, T_3] at h1
          obtain ⟨m, rfl, _⟩ := h1
          exact ⟨m :: p, rfl, by simp only [List.length_cons, IV.szRows, IV.szRow, IV.sz]; omega⟩
    obtain ⟨p, rfl, hp⟩ := this rows hr
    exact ⟨p, rfl, by simp only [IV.szRow, IV.sz]; omega⟩

theorem texts_of {fuel : Nat} {xs : List IV} (h : IsT T fuel 22 xs) : ∃ p : List ByteArray, xs = [.sl (texts p)] ∧ p.length + 1 ≤ IV.szRow xs := by
  cases fuel with
  | zero => exact h.elim
  | succ n =>
    simp only [IsT, T_22] at h
    obtain ⟨rows, rfl, _, hr⟩ := h
    have : ∀ rows : List (List IV), (∀ r ∈ rows, IsT T n 9 r) → ∃ p : List ByteArray, rows = texts p ∧ p.length ≤ IV.szRows rows := by
      intro rows
      induction rows with
      | nil => intro _; exact ⟨[], rfl, Nat.zero_le _⟩
      | cons r rows ih =>
        intro h
        obtain ⟨p, rfl, hp⟩ := ih fun r hr => h r (List.mem_cons_of_mem _ hr)
        have h1 := h r List.mem_cons_self
        cases n with
        | zero => exact h1.elim
        | succ n =>
          simp only [IsT, T_9] at h1
          obtain ⟨m, rfl, _⟩ := h1
          exact ⟨m :: p, rfl, by simp only [List.length_cons, IV.szRows, IV.szRow, IV.sz]; omega⟩
    obtain ⟨p, rfl, hp⟩ := this rows hr
    exact ⟨p, rfl, by simp only [IV.szRow, IV.sz]; omega⟩

theorem four {xs : List IV} (h : xs.length = 4) : ∃ a b c d, xs = [a, b, c, d] := by
  match xs, h with
  | [a, b, c, d], _ => exact ⟨a, b, c, d, rfl⟩

theorem tree_of : ∀ (fuel : Nat) (xs : List IV), IsT T fuel 25 xs → ∃ t : Tree, xs = t.row ∧ t.wt ≤ IV.szRow xs := by
  intro fuel
  induction fuel using Nat.strongRecOn with
  | _ fuel ih =>
    intro xs h
    cases fuel with
    | zero => exact h.elim
    | succ n =>
      simp only [IsT, T_25] at h
      obtain ⟨hl, hf⟩ := h
      obtain ⟨a, b, c, d, rfl⟩ := four hl
      obtain ⟨_, h1, f1⟩ := hf (0, 3) (by simp)
      obtain ⟨_, h2, f2⟩ := hf (1, 9) (by simp)
      obtain ⟨_, h3, f3⟩ := hf (2, 22) (by simp)
      obtain ⟨_, h4, f4⟩ := hf (3, 23) (by simp)
      simp only [T_3, T_9, T_22, T_23, Option.some.injEq] at h1 h2 h3 h4
      subst h1; subst h2; subst h3; subst h4
      simp only [List.drop_zero, List.take_succ_cons, List.take_zero, List.drop_succ_cons] at f1 f2 f3 f4
      obtain ⟨l, e3, s3⟩ := texts_of f3
      injection e3 with e3
      subst e3
      cases n with
      | zero => exact f1.elim
      | succ n =>
        simp only [IsT, T_3, T_9, T_23] at f1 f2 f4
        obtain ⟨k, e1, _⟩ := f1
        obtain ⟨s, e2, _⟩ := f2
        obtain ⟨rws, e4, _, hr⟩ := f4
        injection e1 with e1; injection e2 with e2; injection e4 with e4
        subst e1; subst e2; subst e4
        have : ∀ rws : List (List IV), (∀ r ∈ rws, IsT T n 25 r) → ∃ ks : List Tree, rws = rows ks ∧ wts ks ≤ IV.szRows rws := by
          intro rws
          induction rws with
          | nil => intro _; exact ⟨[], rfl, Nat.zero_le _⟩
          | cons r rws ih2 =>
            intro h
            obtain ⟨ks, rfl, hk⟩ := ih2 fun r hr => h r (List.mem_cons_of_mem _ hr)
            obtain ⟨t, rfl, ht⟩ := ih n (by omega) r (h r List.mem_cons_self)
            exact ⟨t :: ks, rfl, by simp only [wts, IV.szRows]; omega⟩
        obtain ⟨ks, rfl, hk⟩ := this rws hr
        refine ⟨.mk k s l ks, rfl, ?_⟩
        simp only [wt, IV.szRow, IV.sz] at s3 ⊢
        omega

/-- An argument of the laws. -/
def ArgOk (t : Nat) (a : AV) : Prop := ∃ ty fuel xs, T t = some ty ∧ IsT T fuel t xs ∧ a = argAV ty xs ∧ IV.szRow xs ≤ 1048576
theorem tree_arg {a : AV} (h : ArgOk 25 a) : ∃ t : Tree, a = t.av ∧ t.wt ≤ 1048576 := by
  obtain ⟨ty, fuel, xs, h1, h2, rfl, h3⟩ := h
  obtain ⟨t, rfl, hw⟩ := tree_of fuel xs h2
  rw [T_25] at h1
  injection h1 with h1
  subst h1
  refine ⟨t, ?_, by omega⟩
  simp [argAV, TK.agg, row_eq, av]
theorem ints_arg {a : AV} (h : ArgOk 26 a) : ∃ p : List Int, a = .leaf (.imm (.sl (ints p))) ∧ p.length ≤ 1048576 := by
  obtain ⟨ty, fuel, xs, h1, h2, rfl, h3⟩ := h
  obtain ⟨p, rfl, hw⟩ := ints_of h2
  rw [T_26] at h1
  injection h1 with h1
  subst h1
  exact ⟨p, by simp [argAV, TK.agg], by omega⟩
theorem two_args {l0 : List AV} {t u : Nat} (hl : l0.length = 2) (h : ∀ (j : Nat) q a, [t, u][j]? = some q → l0[j]? = some a → ArgOk q a) : ∃ a b, l0 = [a, b] ∧ ArgOk t a ∧ ArgOk u b := by
  match l0, hl with
  | [a, b], _ => exact ⟨a, b, rfl, h 0 t a rfl rfl, h 1 u b rfl rfl⟩
theorem one_args {l0 : List AV} {t : Nat} (hl : l0.length = 1) (h : ∀ (j : Nat) q a, [t][j]? = some q → l0[j]? = some a → ArgOk q a) : ∃ a, l0 = [a] ∧ ArgOk t a := by
  match l0, hl with
  | [a], _ => exact ⟨a, rfl, h 0 t a rfl rfl⟩
theorem three_args {l0 : List AV} {t u v : Nat} (hl : l0.length = 3) (h : ∀ (j : Nat) q a, [t, u, v][j]? = some q → l0[j]? = some a → ArgOk q a) : ∃ a b c, l0 = [a, b, c] ∧ ArgOk t a ∧ ArgOk u b ∧ ArgOk v c := by
  match l0, hl with
  | [a, b, c], _ => exact ⟨a, b, c, rfl, h 0 t a rfl rfl, h 1 u b rfl rfl, h 2 v c rfl rfl⟩

/-- No function by hand. -/
def noOrac : Orac := { pure := fun _ _ => none, ok := fun _ _ _ => rfl }
theorem noPure {P : Program} : PureOk P (fun _ _ => none) := fun g ps r h => by cases h

theorem law3 (o : Orac) (l0 : List AV) (hl : l0.length = 2) (h : ∀ (j : Nat) t a, [25, 26][j]? = some t → l0[j]? = some a → ArgOk t a) : (seat o).fn 3 l0 = some (boolAV true) := by
  obtain ⟨a, b, rfl, ha, hb⟩ := two_args hl h
  obtain ⟨t, rfl, ht⟩ := tree_arg ha
  obtain ⟨p, rfl, hp⟩ := ints_arg hb
  exact fn3 o t p ht hp
theorem law4 (o : Orac) (l0 : List AV) (hl : l0.length = 2) (h : ∀ (j : Nat) t a, [25, 25][j]? = some t → l0[j]? = some a → ArgOk t a) : (seat o).fn 4 l0 = some (boolAV true) := by
  obtain ⟨a, b, rfl, ha, hb⟩ := two_args hl h
  obtain ⟨t, rfl, ht⟩ := tree_arg ha
  obtain ⟨p, rfl, hp⟩ := tree_arg hb
  exact fn4 o t p ht hp
end Go.Ai
