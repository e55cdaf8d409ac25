/- Ai, part 32: the rule of makeSlice. No condition. -/
import Derived.Test.YtbpnlbadgnjmaaaAiSim5
namespace Go.Ai
set_option linter.unusedSimpArgs false
set_option linter.unusedVariables false
set_option linter.constructorNameAsVariable false
variable {T : Nat → Option Ty} {E : Env} {st : St}

def mksC (st : St) (d e : Nat) (n : Int) (sz : Nat) (zero : List IV) : Option AObj → Option St
  | none => if d < st.objs.length then some { tmps := st.tmps.set d (.leaf (.ms d 0 sz 0 n.toNat)), objs := st.objs.set d (some (.cells e 0 (List.replicate n.toNat (zero.map LV.imm)).flatten)) } else none
  | some _ => none
def mksT (st : St) (d e : Nat) (n m : Int) : Option Ty → Option St
  | some te => if n = m ∧ 0 ≤ n ∧ n.toNat * te.bytes ≤ room ∧ 0 < te.size ∧ 0 < te.bytes then mksC st d e n te.size te.zero (st.objs.getD d none) else none
  | none => none
def mksS (T : Nat → Option Ty) (st : St) (d : Nat) : Option AV → Option AV → Option Ty → Option St
  | some (.leaf (.imm (.int .i64 n))), some (.leaf (.imm (.int .i64 m))), some { k := .slice e, .. } => mksT st d e n m (T e)
  | _, _, _ => none
theorem s_makeSlice {d t : Nat} {l c} : stepU T E st (some d) (.makeSlice t l c) = mksS T st d (evalOp st.tmps l) (evalOp st.tmps c) (T t) := by
  unfold stepU
  simp only [exec, Option.getD_some]
  rw [fetch_hd (by simp), ob_getD]
  unfold mksS
  generalize evalOp st.tmps l = A
  generalize evalOp st.tmps c = B
  generalize T t = C
  by_cases hq : ∃ n m e z s b q, A = some (.leaf (.imm (.int .i64 n))) ∧ B = some (.leaf (.imm (.int .i64 m))) ∧ C = some ⟨.slice e, z, s, b, q⟩
  · obtain ⟨n, m, e, z, s, b, q, rfl, rfl, rfl⟩ := hq
    simp only
    cases hT : T e with
    | none => simp only [mksT]; cases st.objs.getD d none <;> simp only [hT]
    | some te =>
      cases ho : st.objs.getD d none with
      | some o => simp only [mksT, mksC, ho, hT]; split <;> rfl
      | none =>
        simp only [mksT, mksC, ho, hT]
        by_cases hc : n = m ∧ 0 ≤ n ∧ n.toNat * te.bytes ≤ room ∧ 0 < te.size ∧ 0 < te.bytes
        · rw [if_pos hc, if_pos hc]
          simp only
          by_cases hl : d < st.objs.length
          · rw [if_pos hl, if_pos (by simp [hl])]; rfl
          · rw [if_neg hl, if_neg (by simp [hl])]
        · rw [if_neg hc, if_neg hc]
  · have e1 : (match A, B, C with
      | some (.leaf (.imm (.int .i64 n))), some (.leaf (.imm (.int .i64 m))), some { k := .slice e, .. } => mksT st d e n m (T e)
      | _, _, _ => none) = none := by
      split
      · exact (hq ⟨_, _, _, _, _, _, _, rfl, rfl, rfl⟩).elim
      · rfl
    rw [e1]
    split
    · rename_i v u he
      split at he
      · exact (hq ⟨_, _, _, _, _, _, _, rfl, rfl, rfl⟩).elim
      · cases he
    · rfl
end Go.Ai
