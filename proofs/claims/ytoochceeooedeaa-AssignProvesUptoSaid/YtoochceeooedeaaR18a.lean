/- Matrices and assignments: values and plain facts. No condition. -/
import Derived.Test.YtoochceeooedeaaAiDefs
import Derived.Test.YtoochceeooedeaaAiSim3
namespace Go.Ai
set_option linter.unusedVariables false
set_option linter.unusedSimpArgs false
set_option maxRecDepth 100000

abbrev Mat := List (List Int)
def ints (l : List Int) : List (List IV) := l.map fun x => [.int .i64 x]
def mat (c : Mat) : List (List IV) := c.map fun r => [.sl (ints r)]
theorem ints_len (l : List Int) : (ints l).length = l.length := by simp [ints]
theorem ints_get (l : List Int) (i : Nat) : (ints l)[i]? = (l[i]?).map fun x => [.int .i64 x] := by simp [ints]
theorem ints_all (l : List Int) : ((ints l).all fun r => r.length == 1) = true := by simp [ints]
theorem ints_snoc (l : List Int) (x : Int) : ints l ++ [[.int .i64 x]] = ints (l ++ [x]) := by simp [ints]
theorem ints_nil : ints [] = [] := rfl
theorem mat_len (l : Mat) : (mat l).length = l.length := by simp [mat]
theorem mat_get (l : Mat) (i : Nat) : (mat l)[i]? = (l[i]?).map fun x => [.sl (ints x)] := by simp [mat]
theorem mat_all (l : Mat) : ((mat l).all fun r => r.length == 1) = true := by simp [mat]
theorem mat_snoc (l : Mat) (x : List Int) : mat l ++ [[.sl (ints x)]] = mat (l ++ [x]) := by simp [mat]
theorem get_lt {α : Type} {l : List α} {i : Nat} (h : i < l.length) : ∃ x, l[i]? = some x := ⟨l[i], List.getElem?_eq_getElem h⟩
theorem drop_get {α : Type} {l : List α} {i : Nat} {x : α} (h : l[i]? = some x) : l.drop i = x :: l.drop (i + 1) := by
  obtain ⟨hi, hx⟩ := List.getElem?_eq_some_iff.1 h
  rw [← hx]; exact List.drop_eq_getElem_cons hi

def at1 (l : List Int) (i : Nat) : Int := (l[i]?).getD 0
def at2 (c : Mat) (i j : Nat) : Int := at1 ((c[i]?).getD []) j
theorem at1_of {l : List Int} {i : Nat} {x : Int} (h : l[i]? = some x) : at1 l i = x := by simp [at1, h]
theorem at2_of {c : Mat} {i j : Nat} {r : List Int} {x : Int} (h : c[i]? = some r) (hx : r[j]? = some x) : at2 c i j = x := by simp [at2, h, at1_of hx]

theorem get_at1 {l : List Int} {i : Nat} (h : i < l.length) : l[i]? = some (at1 l i) := by
  obtain ⟨x, hx⟩ := get_lt h
  rw [at1_of hx, hx]

theorem sum_take_succ {l : List Int} {i : Nat} {x : Int} (h : l[i]? = some x) : (l.take (i + 1)).sum = (l.take i).sum + x := by
  obtain ⟨hi, hx⟩ := List.getElem?_eq_some_iff.1 h
  rw [List.take_add_one, h]; simp [List.sum_append]
/-- What the dice give: the number that is drawn as the p-th, from 0 to n - 1. -/
def dv (l : List Int) (n : Int) (p : Nat) : Int := match l[p]? with | some x => x.emod n | none => 0
theorem dv_bd (l : List Int) {n : Int} (h : 0 < n) (p : Nat) : 0 ≤ dv l n p ∧ dv l n p < n := by
  unfold dv
  split
  · exact ⟨Int.emod_nonneg _ (by omega), Int.emod_lt_of_pos _ h⟩
  · exact ⟨by omega, h⟩
theorem room_one' {n : Nat} (h : n ≤ 1099511627776) : n ≤ room := by unfold room; omega
theorem room_of {n k : Nat} (h : n ≤ 16777216) (hk : k ≤ 1048576) : n * k ≤ room := by
  have : n * k ≤ 16777216 * 1048576 := Nat.mul_le_mul h hk
  unfold room; omega

theorem mid_take {α : Type} {p : List α} {i : Nat} (h : p.length = i) (x : α) (r : List α) : List.take i (p ++ x :: r) = p := by subst h; simp
theorem mid_drop {α : Type} {p : List α} {i : Nat} (h : p.length = i) (x : α) (r : List α) : List.drop i (p ++ x :: r) = x :: r := by subst h; simp
theorem mid_drop1 {α : Type} {p : List α} {i : Nat} (h : p.length = i) (x : α) (r : List α) : List.drop (i + 1) (p ++ x :: r) = r := by subst h; simp
theorem mid_len {α : Type} {p : List α} {i : Nat} (h : p.length = i) (x : α) (r : List α) : i + 1 ≤ (p ++ x :: r).length := by subst h; simp
def rowC : List Int → LV
  | [] => .imm .nil
  | x :: r => .imm (.sl (ints (x :: r)))
theorem rowC_keep {ob K} (r : List Int) : keepLV ob K (rowC r) = rowC r := by cases r <;> rfl
def rcs (A : Mat) : List LV := A.map rowC
theorem rcs_keep {ob K} (A : Mat) : List.map (keepLV ob K) (rcs A) = rcs A := by simp [rcs, rowC_keep]
theorem rcs_len (A : Mat) : (rcs A).length = A.length := by simp [rcs]
theorem flat_nil (m : Nat) : (List.replicate m [LV.imm IV.nil]).flatten = rcs [] ++ List.replicate m (.imm .nil) := by simp [rcs]

theorem rcs_snoc (A : Mat) (r : List Int) : rcs (A ++ [r]) = rcs A ++ [rowC r] := by simp [rcs]
theorem rowC_ne {r : List Int} (h : 0 < r.length) : rowC r = .imm (.sl (ints r)) := by cases r with
  | nil => cases h
  | cons x l => rfl
theorem rowC_strip (r : List Int) : (rowC r).strip = some (.sl (ints r)) := by cases r <;> rfl
theorem rows_rcs (A : Mat) : ∀ pre : List LV, rowsAt (pre ++ rcs A) 1 pre.length A.length = some (mat A) := by
  induction A with
  | nil => intro pre; rfl
  | cons r A ih =>
    intro pre
    have e1 : (List.drop (pre.length * 1) (pre ++ rcs (r :: A))).take 1 = [rowC r] := by simp [rcs]
    have e2 : pre ++ rcs (r :: A) = (pre ++ [rowC r]) ++ rcs A := by simp [rcs]
    have e3 := ih (pre ++ [rowC r])
    rw [List.length_append] at e3
    rw [List.length_cons, rowsAt, e1, e2]
    simp only [stripAll, rowC_strip]
    rw [show pre.length + 1 = pre.length + [rowC r].length from rfl, e3]
    rfl
theorem rows_rcs0 (A : Mat) {m : Nat} (h : A.length = m) : rowsAt (rcs A ++ List.replicate (m - m) (.imm .nil)) 1 0 m = some (mat A) := by
  subst h
  have := rows_rcs A []
  simpa using this
end Go.Ai
