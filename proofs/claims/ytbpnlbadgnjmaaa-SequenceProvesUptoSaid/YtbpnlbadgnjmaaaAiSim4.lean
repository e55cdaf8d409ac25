/- Ai, part 30: arrays that hold rows. No condition. -/
import Derived.Test.YtbpnlbadgnjmaaaAiSim3
namespace Go.Ai
set_option linter.unusedSimpArgs false
set_option linter.unusedVariables false
set_option linter.constructorNameAsVariable false

theorem appE_ne {st d g e sz b} {new : List (List IV)} {s : LV} (h : new.isEmpty = false) : appE st d g e sz b new s = appS st d g e sz b new s := by
  unfold appE
  simp only [h, Bool.false_eq_true, if_false]

/-- Rows, one behind another. -/
def flat (rows : List (List IV)) : List LV := rows.flatten.map .imm
theorem flat_def (rows : List (List IV)) : rows.flatten.map LV.imm = flat rows := rfl
theorem flat_len {rows : List (List IV)} {sz : Nat} (h : ∀ r ∈ rows, r.length = sz) : (flat rows).length = rows.length * sz := by
  unfold flat
  rw [List.length_map]
  induction rows with
  | nil => simp
  | cons r rows ih =>
    rw [List.flatten_cons, List.length_append, ih fun r hr => h r (List.mem_cons_of_mem _ hr), h r List.mem_cons_self, List.length_cons, Nat.add_mul]
    omega
theorem stripAll_imm {r : List IV} (h : ∀ v ∈ r, v.norm = v) : stripAll (r.map .imm) = some r := by
  induction r with
  | nil => rfl
  | cons v r ih =>
    simp only [List.map_cons, stripAll, LV.strip]
    rw [ih fun v hv => h v (List.mem_cons_of_mem _ hv), h v List.mem_cons_self]
theorem flat_drop {rows : List (List IV)} {sz : Nat} (h : ∀ r ∈ rows, r.length = sz) : ∀ i, (flat rows).drop (i * sz) = flat (rows.drop i) := by
  induction rows with
  | nil => intro i; simp [flat]
  | cons r rows ih =>
    intro i
    cases i with
    | zero => simp
    | succ i =>
      have h1 := h r List.mem_cons_self
      have h2 := ih (fun r hr => h r (List.mem_cons_of_mem _ hr)) i
      rw [List.drop_succ_cons, ← h2]
      unfold flat
      rw [List.flatten_cons, List.map_append, Nat.add_mul, Nat.one_mul, Nat.add_comm, ← List.drop_drop]
      congr 1
      rw [List.drop_append_of_le_length (by rw [List.length_map]; omega), List.drop_of_length_le (by rw [List.length_map]; omega), List.nil_append]
theorem flat_row {rows : List (List IV)} {sz : Nat} (h : ∀ r ∈ rows, r.length = sz) {i : Nat} {r : List IV} (hi : rows[i]? = some r) : ((flat rows).drop (i * sz)).take sz = r.map .imm := by
  obtain ⟨hl, he⟩ := List.getElem?_eq_some_iff.1 hi
  rw [flat_drop h, List.drop_eq_getElem_cons hl, he]
  unfold flat
  rw [List.flatten_cons, List.map_append, List.take_append_of_le_length (by rw [List.length_map, h r (List.mem_of_getElem? hi)]; exact Nat.le_refl _), List.take_of_length_le (by rw [List.length_map, h r (List.mem_of_getElem? hi)]; exact Nat.le_refl _)]
theorem rowsAt_flat {rows : List (List IV)} {sz : Nat} (h : ∀ r ∈ rows, r.length = sz ∧ ∀ v ∈ r, v.norm = v) : ∀ (len off : Nat), off + len ≤ rows.length → rowsAt (flat rows) sz off len = some ((rows.drop off).take len) := by
  intro len
  induction len with
  | zero => intro off _; simp [rowsAt]
  | succ len ih =>
    intro off ho
    have hl : off < rows.length := by omega
    have hi : rows[off]? = some rows[off] := List.getElem?_eq_getElem hl
    have hm : rows[off] ∈ rows := List.getElem_mem hl
    simp only [rowsAt]
    rw [flat_row (fun r hr => (h r hr).1) hi, stripAll_imm (h _ hm).2, ih (off + 1) (by omega)]
    simp only
    rw [List.drop_eq_getElem_cons hl, List.take_succ_cons]
theorem rowsAt_all {rows : List (List IV)} {sz : Nat} (h : ∀ r ∈ rows, r.length = sz ∧ ∀ v ∈ r, v.norm = v) : rowsAt (flat rows) sz 0 rows.length = some rows := by
  rw [rowsAt_flat h rows.length 0 (by omega), List.drop_zero, List.take_of_length_le (Nat.le_refl _)]
theorem setRange_flat {rows : List (List IV)} {sz : Nat} (h : ∀ r ∈ rows, r.length = sz) {i : Nat} (hi : i < rows.length) {r : List IV} (hr : r.length = sz) : setRange (flat rows) (i * sz) (r.map .imm) = flat (rows.set i r) := by
  unfold setRange
  induction rows generalizing i with
  | nil => simp at hi
  | cons q rows ih =>
    have h1 := h q List.mem_cons_self
    have h' : ∀ r ∈ rows, r.length = sz := fun r hr => h r (List.mem_cons_of_mem _ hr)
    have e0 : flat (q :: rows) = q.map .imm ++ flat rows := by unfold flat; rw [List.flatten_cons, List.map_append]
    cases i with
    | zero =>
      have e1 : flat (r :: rows) = r.map .imm ++ flat rows := by unfold flat; rw [List.flatten_cons, List.map_append]
      simp only [Nat.zero_mul, List.take_zero, List.nil_append, Nat.zero_add, List.set_cons_zero]
      rw [e0, e1, List.drop_append_of_le_length (by simp only [List.length_map]; omega), List.drop_of_length_le (by simp only [List.length_map]; omega), List.nil_append]
    | succ i =>
      have e1 : flat (q :: rows.set i r) = q.map .imm ++ flat (rows.set i r) := by unfold flat; rw [List.flatten_cons, List.map_append]
      have hm : (i + 1) * sz = (q.map LV.imm).length + i * sz := by rw [List.length_map, h1, Nat.add_mul, Nat.one_mul]; omega
      simp only [List.set_cons_succ]
      have h2 := ih h' (by simpa using hi)
      rw [e0, e1, hm, List.take_length_add_append, Nat.add_assoc, List.drop_length_add_append, List.append_assoc, h2]
end Go.Ai
