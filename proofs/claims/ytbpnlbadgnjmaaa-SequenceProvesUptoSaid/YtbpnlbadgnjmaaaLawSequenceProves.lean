/- The law SequenceProves: it returns true, and its arguments read as before, where what they hold is of bulk at most 1048576. -/
import Derived.Test.YtbpnlbadgnjmaaaR17u
import Derived.Test.YtbpnlbadgnjmaaaAiLaw
namespace Go.Proofs.Ytbpnlbadgnjmaaa.sequenceProves
open Go.Ai Go.ChangeShapes Go.WideShapes Go.RowKit
set_option linter.unusedVariables false
set_option maxRecDepth 100000
theorem lifted (os : Os) (started : os.Started) (H : Type) (enc : TypeId × Value → H) (F0 : Stop.Interp) :
    ReturnsInHanded {} Try.checked os 8 .any ((Rows.OpenSpec.upto Rows.sequenceProvesSpec).pre6 enc Try.prog Try.f8 Rows.sequenceProvesUptoRow.domain false) (((Rows.OpenSpec.upto Rows.sequenceProvesSpec).at F0).post enc Try.prog Try.f8 false true false false) := by
  refine returnsInHanded_of_cond_sized (C := Try.checked) (s := Rows.OpenSpec.upto Rows.sequenceProvesSpec) (k := Rows.uptoSmall) rfl own started (by kernel_rfl) Try.func8
    (OpenSpec.witness (enc := enc) (C := Try.checked) (s := Rows.OpenSpec.upto Rows.sequenceProvesSpec) (k := Rows.uptoSmall) rfl false ⟨#[], #[.int .i64 0, .int .i64 0, .slice none 0 0, .agg #[.slice none 0 0, .int .i64 0, .slice none 0 0], .slice none 0 0], []⟩ 8 (by kernel_rfl) (by kernel_rfl) (by kernel_rfl)
      (x := ([.lit (.int .i64 0), .lit (.int .i64 0), .nil, .agg [.nil, .lit (.int .i64 0), .nil], .nil], [], [])) (by kernel_rfl) (by kernel_rfl) (by kernel_rfl)) ?_
  intro W base args ds gs before hval0 hW hcnd hsm hsz0 _
  have hval : ∀ (j : Nat) t v, Try.f8.params[j]? = some t → args[j]? = some v → Value.okWide Try.prog W .any base t v := hval0
  have hW' := hW
  obtain ⟨p, q, hA0, hV, rfl, hfz, hnd⟩ := hW
  have hA : DataW.TrodAll enc Try.prog W 0 (fun _ => true) true Try.f8.params.toList args.toList ds p := hA0
  rw [Try.params8] at hA hval
  obtain ⟨rfl, rfl⟩ := trodVars_none hV
  have hb : (ds.map Rows.uptoBulk).sum ≤ 1048576 := by
    have h0 : decide (Rows.uptoBulkAll (ds ++ []) ≤ 1048576) = true := hsm
    rw [List.append_nil] at h0
    rw [← bulkAll]
    exact of_decide_eq_true h0
  refine (law_calls2 T_ok (fun m => (runFull_sound T_ok F_ok F_keep noPure noFullE m).1) bulk_ok (L := [3, 22, 23, 26, 28, 45]) (by decide) hA (by decide) (fun j t v hj hv => hval j t v (by simpa using hj) hv) hb fun l0 hl h => Seat.fn_iff.1 (lawA8 noOrac l0 hl h)).mono fun e W' ⟨he, bel⟩ => ?_
  subst he
  have hback := args_back laidOut bel [3, 3, 22, 28, 26] args.toList ds p (by kernel_rfl) hA
  obtain ⟨d0, d1, d2, d3, d4, rfl⟩ : ∃ d0 d1 d2 d3 d4, ds = [d0, d1, d2, d3, d4] := by
    have hl := trodAll_len hA
    exact list_len5 hl
  exact ⟨_, rfl, _, _, _, [], _, [], hW', trodAll_mk1 (shut_bool (P := Try.prog) (t := 4) rfl _), hback, rfl, bel.frame _, fun h => by cases h⟩
theorem over : Rows.sequenceProvesUptoRow.holds Try.pinned (Rows.OpenSpec.upto Rows.sequenceProvesSpec) :=
  OpenClaim.holds_of_cond 8 Try.f8 rfl rfl rfl rfl rfl rfl rfl ⟨rfl, rfl, rfl, rfl, rfl⟩ rfl rfl rfl rfl rfl (by kernel_rfl) Try.func8 (by kernel_rfl)
    (of_decide_eq_true (by kernel_rfl)) (by unfold Func.isWrapper; first | (rw [if_pos (by decide +kernel)]; kernel_rfl) | (rw [if_neg (by decide +kernel)]; exact ⟨rfl, rfl⟩))
    (fun os started H enc _ F0 => lifted os started H enc F0)
theorem proved : Rows.SequenceProvesUptoSaid := over
end Go.Proofs.Ytbpnlbadgnjmaaa.sequenceProves
namespace Go.Proofs.Ytbpnlbadgnjmaaa
theorem sequenceProves_holds : Rows.SequenceProvesUptoSaid := sequenceProves.proved
#print axioms sequenceProves_holds
end Go.Proofs.Ytbpnlbadgnjmaaa
