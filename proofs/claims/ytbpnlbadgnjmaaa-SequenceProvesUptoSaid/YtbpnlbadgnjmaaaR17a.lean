/- Alignments: values, what is proper, the potentials, the way back, costs. No condition. -/
import Derived.Test.YtbpnlbadgnjmaaaAiDefs
namespace Go.Ai
set_option linter.unusedVariables false
set_option linter.unusedSimpArgs false
set_option maxRecDepth 100000

abbrev Mat := List (List Int)
def ints (l : List Int) : List (List IV) := l.map fun x => [.int .i64 x]
def mat (c : Mat) : List (List IV) := c.map fun r => [.sl (ints r)]
def prs (l : List (Int × Int)) : List (List IV) := l.map fun p => [.int .i64 p.1, .int .i64 p.2]
theorem ints_len (l : List Int) : (ints l).length = l.length := by simp [ints]
theorem ints_get (l : List Int) (i : Nat) : (ints l)[i]? = (l[i]?).map fun x => [.int .i64 x] := by simp [ints]
theorem ints_all (l : List Int) : ((ints l).all fun r => r.length == 1) = true := by simp [ints]
theorem ints_snoc (l : List Int) (x : Int) : ints l ++ [[.int .i64 x]] = ints (l ++ [x]) := by simp [ints]
theorem ints_nil : ints [] = [] := rfl
theorem mat_len (l : Mat) : (mat l).length = l.length := by simp [mat]
theorem mat_get (l : Mat) (i : Nat) : (mat l)[i]? = (l[i]?).map fun x => [.sl (ints x)] := by simp [mat]
theorem mat_all (l : Mat) : ((mat l).all fun r => r.length == 1) = true := by simp [mat]
theorem mat_snoc (l : Mat) (x : List Int) : mat l ++ [[.sl (ints x)]] = mat (l ++ [x]) := by simp [mat]
theorem prs_len (l : List (Int × Int)) : (prs l).length = l.length := by simp [prs]
theorem prs_get (l : List (Int × Int)) (i : Nat) : (prs l)[i]? = (l[i]?).map fun x => [.int .i64 x.1, .int .i64 x.2] := by simp [prs]
theorem prs_all (l : List (Int × Int)) : ((prs l).all fun r => r.length == 2) = true := by simp [prs]
theorem prs_snoc (l : List (Int × Int)) (x : Int × Int) : prs l ++ [[.int .i64 x.1, .int .i64 x.2]] = prs (l ++ [x]) := by simp [prs]

theorem get_lt {α : Type} {l : List α} {i : Nat} (h : i < l.length) : ∃ x, l[i]? = some x := ⟨l[i], List.getElem?_eq_getElem h⟩
theorem drop_get {α : Type} {l : List α} {i : Nat} {x : α} (h : l[i]? = some x) : l.drop i = x :: l.drop (i + 1) := by
  obtain ⟨hi, hx⟩ := List.getElem?_eq_some_iff.1 h
  rw [← hx]; exact List.drop_eq_getElem_cons hi

def at1 (l : List Int) (i : Nat) : Int := (l[i]?).getD 0
def at2 (c : Mat) (i j : Nat) : Int := at1 ((c[i]?).getD []) j
theorem at1_of {l : List Int} {i : Nat} {x : Int} (h : l[i]? = some x) : at1 l i = x := by simp [at1, h]
theorem at2_of {c : Mat} {i j : Nat} {r : List Int} {x : Int} (h : c[i]? = some r) (hx : r[j]? = some x) : at2 c i j = x := by simp [at2, h, at1_of hx]

/-- All numbers from `lo` to 2^20. -/
def Sml (l : List Int) (lo : Int) : Prop := ∀ x ∈ l, lo ≤ x ∧ x ≤ 1048576
structure Prp (d a : List Int) (c : Mat) : Prop where
  ld : d.length ≤ 400
  la : a.length ≤ 400
  lc : c.length = d.length
  sd : Sml d 0
  sa : Sml a 0
  rows : ∀ r ∈ c, r.length = a.length ∧ Sml r (-1)
instance (l : List Int) (lo : Int) : Decidable (Sml l lo) := inferInstanceAs (Decidable (∀ x ∈ l, lo ≤ x ∧ x ≤ 1048576))
theorem Prp_iff (d a : List Int) (c : Mat) : (d.length ≤ 400 ∧ a.length ≤ 400 ∧ c.length = d.length ∧ Sml d 0 ∧ Sml a 0 ∧ ∀ r ∈ c, r.length = a.length ∧ Sml r (-1)) ↔ Prp d a c := ⟨fun ⟨h1, h2, h3, h4, h5, h6⟩ => ⟨h1, h2, h3, h4, h5, h6⟩, fun ⟨h1, h2, h3, h4, h5, h6⟩ => ⟨h1, h2, h3, h4, h5, h6⟩⟩
instance (d a : List Int) (c : Mat) : Decidable (Prp d a c) := decidable_of_iff _ (Prp_iff d a c)

theorem sml_at1 {l : List Int} {lo : Int} (h : Sml l lo) (h0 : lo ≤ 0) (i : Nat) : lo ≤ at1 l i ∧ at1 l i ≤ 1048576 := by
  unfold at1
  cases hx : l[i]? with
  | none => simp; omega
  | some x => simpa using h x (List.mem_of_getElem? hx)
theorem Prp.d_bd {d a : List Int} {c : Mat} (h : Prp d a c) (i : Nat) : 0 ≤ at1 d i ∧ at1 d i ≤ 1048576 := sml_at1 h.sd (by omega) i
theorem Prp.a_bd {d a : List Int} {c : Mat} (h : Prp d a c) (i : Nat) : 0 ≤ at1 a i ∧ at1 a i ≤ 1048576 := sml_at1 h.sa (by omega) i
theorem Prp.c_bd {d a : List Int} {c : Mat} (h : Prp d a c) (i j : Nat) : -1 ≤ at2 c i j ∧ at2 c i j ≤ 1048576 := by
  unfold at2
  cases hx : c[i]? with
  | none => simp [at1]
  | some x => simpa using sml_at1 (h.rows x (List.mem_of_getElem? hx)).2 (by omega) j
theorem Prp.row {d a : List Int} {c : Mat} (h : Prp d a c) {i : Nat} (hi : i < d.length) : ∃ r, c[i]? = some r ∧ r.length = a.length := by
  obtain ⟨r, hr⟩ := get_lt (l := c) (i := i) (by rw [h.lc]; exact hi)
  exact ⟨r, hr, (h.rows r (List.mem_of_getElem? hr)).1⟩
theorem Prp.cell {d a : List Int} {c : Mat} (h : Prp d a c) {i j : Nat} (hi : i < d.length) (hj : j < a.length) : ∃ r, c[i]? = some r ∧ r.length = a.length ∧ r[j]? = some (at2 c i j) := by
  obtain ⟨r, hr, hl⟩ := h.row hi
  obtain ⟨x, hx⟩ := get_lt (l := r) (i := j) (by omega)
  exact ⟨r, hr, hl, by rw [at2_of hr hx, hx]⟩
theorem get_at1 {l : List Int} {i : Nat} (h : i < l.length) : l[i]? = some (at1 l i) := by
  obtain ⟨x, hx⟩ := get_lt h
  rw [at1_of hx, hx]

/-- The potentials. -/
def pot (d a : List Int) (c : Mat) : Nat → Nat → Int
  | 0, 0 => 0
  | i + 1, 0 => pot d a c i 0 + at1 d i
  | 0, j + 1 => pot d a c 0 j + at1 a j
  | i + 1, j + 1 =>
    if 0 ≤ at2 c i j then min (min (pot d a c i (j + 1) + at1 d i) (pot d a c (i + 1) j + at1 a j)) (pot d a c i j + at2 c i j)
    else min (pot d a c i (j + 1) + at1 d i) (pot d a c (i + 1) j + at1 a j)
termination_by i j => (i, j)

theorem pot_bd {d a : List Int} {c : Mat} (h : Prp d a c) (i j : Nat) : 0 ≤ pot d a c i j ∧ pot d a c i j ≤ ((i + j : Nat) : Int) * 1048576 := by
  induction i generalizing j with
  | zero =>
    induction j with
    | zero => rw [pot]; omega
    | succ j ih => rw [pot]; have := h.a_bd j; omega
  | succ i ih =>
    induction j with
    | zero => rw [pot]; have := h.d_bd i; have := ih 0; omega
    | succ j ih2 =>
      rw [pot]
      have := h.d_bd i; have := h.a_bd j; have := ih (j + 1); have := ih j; have := h.c_bd i j
      split <;> omega
def potRow (d a : List Int) (c : Mat) (i n : Nat) : List Int := (List.range n).map (pot d a c i)
theorem potRow_len (d a : List Int) (c : Mat) (i n : Nat) : (potRow d a c i n).length = n := by simp [potRow]
theorem potRow_get (d a : List Int) (c : Mat) {i n j : Nat} (h : j < n) : (potRow d a c i n)[j]? = some (pot d a c i j) := by simp [potRow, h]
theorem potRow_succ (d a : List Int) (c : Mat) (i n : Nat) : potRow d a c i (n + 1) = potRow d a c i n ++ [pot d a c i n] := by simp [potRow, List.range_succ]
def potTab (d a : List Int) (c : Mat) (m n : Nat) : Mat := (List.range m).map fun i => potRow d a c i n
theorem potTab_len (d a : List Int) (c : Mat) (m n : Nat) : (potTab d a c m n).length = m := by simp [potTab]
theorem potTab_get (d a : List Int) (c : Mat) {i m n : Nat} (h : i < m) : (potTab d a c m n)[i]? = some (potRow d a c i n) := by simp [potTab, h]
theorem potTab_succ (d a : List Int) (c : Mat) (m n : Nat) : potTab d a c (m + 1) n = potTab d a c m n ++ [potRow d a c m n] := by simp [potTab, List.range_succ]

/-- The way back. -/
def bk (d a : List Int) (c : Mat) : Nat → Nat → List (Int × Int)
  | 0, 0 => []
  | i + 1, 0 => bk d a c i 0
  | 0, j + 1 => bk d a c 0 j
  | i + 1, j + 1 =>
    if 0 ≤ at2 c i j ∧ pot d a c (i + 1) (j + 1) = pot d a c i j + at2 c i j then ((i : Int), (j : Int)) :: bk d a c i j
    else if pot d a c (i + 1) (j + 1) = pot d a c i (j + 1) + at1 d i then bk d a c i (j + 1)
    else bk d a c (i + 1) j
termination_by i j => (i, j)
theorem bk_len (d a : List Int) (c : Mat) (i j : Nat) : (bk d a c i j).length ≤ i := by
  induction i generalizing j with
  | zero =>
    induction j with
    | zero => rw [bk]; simp
    | succ j ih => rw [bk]; exact ih
  | succ i ih =>
    induction j with
    | zero => rw [bk]; have := ih 0; omega
    | succ j ih2 =>
      rw [bk]
      split
      · have := ih j; simp only [List.length_cons]; omega
      · split
        · have := ih (j + 1); omega
        · exact ih2

/-- The cost of pairs, from what was before. -/
def cst (d a : List Int) (c : Mat) : Int × Int × Int → List (Int × Int) → Option (Int × Int × Int)
  | st, [] => some st
  | (li, lj, s), p :: ps =>
    if li < p.1 ∧ lj < p.2 ∧ p.1 < (d.length : Int) ∧ p.2 < (a.length : Int) ∧ 0 ≤ at2 c p.1.toNat p.2.toNat
    then cst d a c (p.1, p.2, s + (at2 c p.1.toNat p.2.toNat - at1 d p.1.toNat - at1 a p.2.toNat)) ps else none
def cres : Option (Int × Int × Int) → Int × Bool
  | some (_, _, s) => (s, true)
  | none => (0, false)
def costOf (d a : List Int) (c : Mat) (ps : List (Int × Int)) : Int × Bool := if Prp d a c then cres (cst d a c (-1, -1, d.sum + a.sum) ps) else (0, false)

theorem sum_take_succ {l : List Int} {i : Nat} {x : Int} (h : l[i]? = some x) : (l.take (i + 1)).sum = (l.take i).sum + x := by
  obtain ⟨hi, hx⟩ := List.getElem?_eq_some_iff.1 h
  rw [List.take_add_one, h]; simp [List.sum_append]
theorem sml_sum {l : List Int} (h : Sml l 0) : 0 ≤ l.sum ∧ l.sum ≤ (l.length : Int) * 1048576 := by
  induction l with
  | nil => simp
  | cons x l ih =>
    have h1 := h x List.mem_cons_self
    have h2 := ih fun y hy => h y (List.mem_cons_of_mem _ hy)
    simp only [List.sum_cons, List.length_cons]; omega
theorem sml_take {l : List Int} {lo : Int} (h : Sml l lo) (i : Nat) : Sml (l.take i) lo := fun x hx => h x (List.mem_of_mem_take hx)

/-- What the dice give: the number that is drawn as the p-th, from 0 to n - 1. -/
def dv (l : List Int) (n : Int) (p : Nat) : Int := match l[p]? with | some x => x.emod n | none => 0
theorem dv_bd (l : List Int) {n : Int} (h : 0 < n) (p : Nat) : 0 ≤ dv l n p ∧ dv l n p < n := by
  unfold dv
  split
  · exact ⟨Int.emod_nonneg _ (by omega), Int.emod_lt_of_pos _ h⟩
  · exact ⟨by omega, h⟩
def mAdd (l : List Int) (n : Nat) : List Int := (List.range n).map fun j => dv l 6 j
def mDrop (l : List Int) (n m : Nat) : List Int := (List.range m).map fun i => dv l 6 (n + i * (n + 1))
def mRow (l : List Int) (n i k : Nat) : List Int := (List.range k).map fun j => dv l 10 (n + i * (n + 1) + 1 + j) - 1
def mCost (l : List Int) (n m : Nat) : Mat := (List.range m).map fun i => mRow l n i n
theorem mAdd_len (l : List Int) (n : Nat) : (mAdd l n).length = n := by simp [mAdd]
theorem mDrop_len (l : List Int) (n m : Nat) : (mDrop l n m).length = m := by simp [mDrop]
theorem mRow_len (l : List Int) (n i k : Nat) : (mRow l n i k).length = k := by simp [mRow]
theorem mCost_len (l : List Int) (n m : Nat) : (mCost l n m).length = m := by simp [mCost]
theorem mAdd_succ (l : List Int) (n : Nat) : mAdd l (n + 1) = mAdd l n ++ [dv l 6 n] := by simp [mAdd, List.range_succ]
theorem mDrop_succ (l : List Int) (n m : Nat) : mDrop l n (m + 1) = mDrop l n m ++ [dv l 6 (n + m * (n + 1))] := by simp [mDrop, List.range_succ]
theorem mRow_succ (l : List Int) (n i k : Nat) : mRow l n i (k + 1) = mRow l n i k ++ [dv l 10 (n + i * (n + 1) + 1 + k) - 1] := by simp [mRow, List.range_succ]
theorem mCost_succ (l : List Int) (n m : Nat) : mCost l n (m + 1) = mCost l n m ++ [mRow l n m n] := by simp [mCost, List.range_succ]
theorem made_prp (l : List Int) {n m : Nat} (hm : m ≤ 400) (hn : n ≤ 400) : Prp (mDrop l n m) (mAdd l n) (mCost l n m) := by
  refine ⟨by rw [mDrop_len]; exact hm, by rw [mAdd_len]; exact hn, by rw [mCost_len, mDrop_len], ?_, ?_, ?_⟩
  · intro x hx
    simp only [mDrop, List.mem_map] at hx
    obtain ⟨i, _, rfl⟩ := hx
    have := dv_bd l (n := 6) (by decide) (n + i * (n + 1)); omega
  · intro x hx
    simp only [mAdd, List.mem_map] at hx
    obtain ⟨i, _, rfl⟩ := hx
    have := dv_bd l (n := 6) (by decide) i; omega
  · intro r hr
    simp only [mCost, List.mem_map] at hr
    obtain ⟨i, _, rfl⟩ := hr
    refine ⟨by rw [mRow_len, mAdd_len], ?_⟩
    intro x hx
    simp only [mRow, List.mem_map] at hx
    obtain ⟨j, _, rfl⟩ := hx
    have := dv_bd l (n := 10) (by decide) (n + i * (n + 1) + 1 + j); omega
end Go.Ai

