/-
  NARROWER THAN 'FOR EVERY INPUT', by the rows' own cells (each row's printed sentence says how): TreeFinds: loops · TreeSames: loops · TreeMeasures: loops · TreeNumbers: loops · TreeReplaces: loops · TreePuts: loops.
  DERIVED. THE GIVEN ROWS OF THIS SEAT. 6 by the template 'for every input the law returns true; each argument reads behind the call as it read before'; 0 by the template 'total and deterministic' (their statements: YteppmjihlidogaaTotals.lean).
  GIVEN WITH THE SEED: the statements are not yours to turn. If you find one false, say at which input.
  Laid BY PROGRAM, IN A SANDBOX (cutbox-rows.mjs): the forced cells as the released guide's own fill.sh prints them over the translation f11fd6a0e9ae682b… (all of the seat's roots in one cut). By AI agents, Wed Nov 11 2026. No macro, syntax, notation, axiom, sorry.
-/
import Derived.Test.YteppmjihlidogaaChecked
import GoSem.Claim
import GoSem.ClaimJoined
import GoSem.ClaimMapViews
import Derived.JoinedTies
import Derived.KernelRfl
namespace Go.Proofs.Yteppmjihlidogaa
/- THE CELL 'sum', in the pinned program and in every row, IS THE sha256 OF THE DUMP (.gsa) THAT YteppmjihlidogaaProg.lean LOADS. Nothing in Lean hashes anything: it is a label: what it is worth is what the hold of that sum in a sandbox is worth. -/
noncomputable def Try.pinned : Pinned := { name := "yteppmjihlidogaa", sum := "f11fd6a0e9ae682bd5a796ce01c93d601b8fc8bd6f73411a7e57ac8151feb819", checked := Try.checked }
namespace Rows
def none {H : Type} : Left H := { results := [], args := [] }

/-- 'semvcslaw03.TreeFinds': WHATEVER THE INPUT: true; the input reads as it did. -/
def treeFindsSpec : ChangeSpec := { name := "treeFinds", fn := fun _ => fun
  | [d1, d2] => { results := [.lit (.bool true)], args := [d1, d2] }
  | _ => none }
def treeFindsRow : OpenClaim := { program := "yteppmjihlidogaa", sum := "f11fd6a0e9ae682bd5a796ce01c93d601b8fc8bd6f73411a7e57ac8151feb819", func := "semvcs/semvcslaw03.TreeFinds", spec := "treeFinds", recurses := true, loops := true, apart := false }
def TreeFindsSaid : Prop := treeFindsRow.holds Try.pinned (OpenSpec.ofChange treeFindsSpec)

/-- ITS FALSE NEIGHBOUR: 'it returns false'. Refute it at one input. -/
def treeFindsWrong : ChangeSpec := { name := "treeFinds", fn := fun _ => fun
  | [d1, d2] => { results := [.lit (.bool false)], args := [d1, d2] }
  | _ => none }
def TreeFindsWrongFalsely : Prop := treeFindsRow.holds Try.pinned (OpenSpec.ofChange treeFindsWrong)

/-- 'semvcslaw03.TreeSames': WHATEVER THE INPUT: true; the input reads as it did. -/
def treeSamesSpec : ChangeSpec := { name := "treeSames", fn := fun _ => fun
  | [d1, d2] => { results := [.lit (.bool true)], args := [d1, d2] }
  | _ => none }
def treeSamesRow : OpenClaim := { program := "yteppmjihlidogaa", sum := "f11fd6a0e9ae682bd5a796ce01c93d601b8fc8bd6f73411a7e57ac8151feb819", func := "semvcs/semvcslaw03.TreeSames", spec := "treeSames", recurses := true, loops := true, apart := false }
def TreeSamesSaid : Prop := treeSamesRow.holds Try.pinned (OpenSpec.ofChange treeSamesSpec)

/-- ITS FALSE NEIGHBOUR: 'it returns false'. Refute it at one input. -/
def treeSamesWrong : ChangeSpec := { name := "treeSames", fn := fun _ => fun
  | [d1, d2] => { results := [.lit (.bool false)], args := [d1, d2] }
  | _ => none }
def TreeSamesWrongFalsely : Prop := treeSamesRow.holds Try.pinned (OpenSpec.ofChange treeSamesWrong)

/-- 'semvcslaw03.TreeMeasures': WHATEVER THE INPUT: true; the input reads as it did. -/
def treeMeasuresSpec : ChangeSpec := { name := "treeMeasures", fn := fun _ => fun
  | [d] => { results := [.lit (.bool true)], args := [d] }
  | _ => none }
def treeMeasuresRow : OpenClaim := { program := "yteppmjihlidogaa", sum := "f11fd6a0e9ae682bd5a796ce01c93d601b8fc8bd6f73411a7e57ac8151feb819", func := "semvcs/semvcslaw03.TreeMeasures", spec := "treeMeasures", unfollowed := true, recurses := true, loops := true, apart := false }
def TreeMeasuresSaid : Prop := treeMeasuresRow.holds Try.pinned (OpenSpec.ofChange treeMeasuresSpec)

/-- ITS FALSE NEIGHBOUR: 'it returns false'. Refute it at one input. -/
def treeMeasuresWrong : ChangeSpec := { name := "treeMeasures", fn := fun _ => fun
  | [d] => { results := [.lit (.bool false)], args := [d] }
  | _ => none }
def TreeMeasuresWrongFalsely : Prop := treeMeasuresRow.holds Try.pinned (OpenSpec.ofChange treeMeasuresWrong)

/-- 'semvcslaw03.TreeNumbers': WHATEVER THE INPUT: true; the input reads as it did. -/
def treeNumbersSpec : ChangeSpec := { name := "treeNumbers", fn := fun _ => fun
  | [d] => { results := [.lit (.bool true)], args := [d] }
  | _ => none }
def treeNumbersRow : OpenClaim := { program := "yteppmjihlidogaa", sum := "f11fd6a0e9ae682bd5a796ce01c93d601b8fc8bd6f73411a7e57ac8151feb819", func := "semvcs/semvcslaw03.TreeNumbers", spec := "treeNumbers", unfollowed := true, recurses := true, loops := true, apart := false }
def TreeNumbersSaid : Prop := treeNumbersRow.holds Try.pinned (OpenSpec.ofChange treeNumbersSpec)

/-- ITS FALSE NEIGHBOUR: 'it returns false'. Refute it at one input. -/
def treeNumbersWrong : ChangeSpec := { name := "treeNumbers", fn := fun _ => fun
  | [d] => { results := [.lit (.bool false)], args := [d] }
  | _ => none }
def TreeNumbersWrongFalsely : Prop := treeNumbersRow.holds Try.pinned (OpenSpec.ofChange treeNumbersWrong)

/-- 'semvcslaw03.TreeReplaces': WHATEVER THE INPUT: true; the input reads as it did. -/
def treeReplacesSpec : ChangeSpec := { name := "treeReplaces", fn := fun _ => fun
  | [d1, d2, d3] => { results := [.lit (.bool true)], args := [d1, d2, d3] }
  | _ => none }
def treeReplacesRow : OpenClaim := { program := "yteppmjihlidogaa", sum := "f11fd6a0e9ae682bd5a796ce01c93d601b8fc8bd6f73411a7e57ac8151feb819", func := "semvcs/semvcslaw03.TreeReplaces", spec := "treeReplaces", recurses := true, loops := true, apart := false }
def TreeReplacesSaid : Prop := treeReplacesRow.holds Try.pinned (OpenSpec.ofChange treeReplacesSpec)

/-- ITS FALSE NEIGHBOUR: 'it returns false'. Refute it at one input. -/
def treeReplacesWrong : ChangeSpec := { name := "treeReplaces", fn := fun _ => fun
  | [d1, d2, d3] => { results := [.lit (.bool false)], args := [d1, d2, d3] }
  | _ => none }
def TreeReplacesWrongFalsely : Prop := treeReplacesRow.holds Try.pinned (OpenSpec.ofChange treeReplacesWrong)

/-- 'semvcslaw03.TreePuts': WHATEVER THE INPUT: true; the input reads as it did. -/
def treePutsSpec : ChangeSpec := { name := "treePuts", fn := fun _ => fun
  | [d1, d2, d3] => { results := [.lit (.bool true)], args := [d1, d2, d3] }
  | _ => none }
def treePutsRow : OpenClaim := { program := "yteppmjihlidogaa", sum := "f11fd6a0e9ae682bd5a796ce01c93d601b8fc8bd6f73411a7e57ac8151feb819", func := "semvcs/semvcslaw03.TreePuts", spec := "treePuts", unfollowed := true, recurses := true, loops := true, apart := false }
def TreePutsSaid : Prop := treePutsRow.holds Try.pinned (OpenSpec.ofChange treePutsSpec)

/-- ITS FALSE NEIGHBOUR: 'it returns false'. Refute it at one input. -/
def treePutsWrong : ChangeSpec := { name := "treePuts", fn := fun _ => fun
  | [d1, d2, d3] => { results := [.lit (.bool false)], args := [d1, d2, d3] }
  | _ => none }
def TreePutsWrongFalsely : Prop := treePutsRow.holds Try.pinned (OpenSpec.ofChange treePutsWrong)

/- THE SECOND FORM. 'bulk': how many values and letters a reading holds, each counted each time it is reached (what is shared counts as often as it is met; a slice's spare places count too). A statement '..UptoSaid' is the law's where the arguments, and the package variables that the reading takes, are together of bulk at most 1048576: NARROWER than '..Said'. Prove '..Said' where nothing that the law and all that it calls make is longer than what came in: it says more and counts as full. Else prove '..UptoSaid'. A law counts once. -/
mutual
def uptoBulk {H : Type} : DataW H → Nat
  | .lit (.string bytes) => bytes.length + 1
  | .lit _ => 1
  | .nil => 1
  | .ptr d => uptoBulk d + 1
  | .slice elems spare => uptoBulkAll elems + uptoBulkAll spare + 1
  | .agg parts => uptoBulkAll parts + 1
  | .iface _ d => uptoBulk d + 1
  | .map entries => uptoBulkEntries entries + 1
  | .held _ => 1
def uptoBulkAll {H : Type} : List (DataW H) → Nat
  | [] => 0
  | d :: r => uptoBulk d + uptoBulkAll r
def uptoBulkEntries {H : Type} : List (Lit × DataW H) → Nat
  | [] => 0
  | x :: r => uptoBulkEntry x + uptoBulkEntries r
def uptoBulkEntry {H : Type} : Lit × DataW H → Nat
  | (.string bytes, d) => bytes.length + uptoBulk d + 1
  | (_, d) => uptoBulk d + 1
 end
def uptoSmall : (H : Type) → List (DataW H) → Bool := fun _ ds => decide (uptoBulkAll ds ≤ 1048576)
def OpenSpec.upto (s : _root_.Go.ChangeSpec) : _root_.Go.OpenSpec := { _root_.Go.OpenSpec.ofChange s with cond := some uptoSmall }

/-- 'semvcslaw03.TreeFinds', WHERE WHAT IT READS IS OF BULK AT MOST 1048576: true; the input reads as it did. -/
def treeFindsUptoRow : OpenClaim := { program := "yteppmjihlidogaa", sum := "f11fd6a0e9ae682bd5a796ce01c93d601b8fc8bd6f73411a7e57ac8151feb819", func := "semvcs/semvcslaw03.TreeFinds", spec := "treeFinds", recurses := true, loops := true, apart := false, narrowed := true }
def TreeFindsUptoSaid : Prop := treeFindsUptoRow.holds Try.pinned (OpenSpec.upto treeFindsSpec)

/-- 'semvcslaw03.TreeSames', WHERE WHAT IT READS IS OF BULK AT MOST 1048576: true; the input reads as it did. -/
def treeSamesUptoRow : OpenClaim := { program := "yteppmjihlidogaa", sum := "f11fd6a0e9ae682bd5a796ce01c93d601b8fc8bd6f73411a7e57ac8151feb819", func := "semvcs/semvcslaw03.TreeSames", spec := "treeSames", recurses := true, loops := true, apart := false, narrowed := true }
def TreeSamesUptoSaid : Prop := treeSamesUptoRow.holds Try.pinned (OpenSpec.upto treeSamesSpec)

/-- 'semvcslaw03.TreeMeasures', WHERE WHAT IT READS IS OF BULK AT MOST 1048576: true; the input reads as it did. -/
def treeMeasuresUptoRow : OpenClaim := { program := "yteppmjihlidogaa", sum := "f11fd6a0e9ae682bd5a796ce01c93d601b8fc8bd6f73411a7e57ac8151feb819", func := "semvcs/semvcslaw03.TreeMeasures", spec := "treeMeasures", unfollowed := true, recurses := true, loops := true, apart := false, narrowed := true }
def TreeMeasuresUptoSaid : Prop := treeMeasuresUptoRow.holds Try.pinned (OpenSpec.upto treeMeasuresSpec)

/-- 'semvcslaw03.TreeNumbers', WHERE WHAT IT READS IS OF BULK AT MOST 1048576: true; the input reads as it did. -/
def treeNumbersUptoRow : OpenClaim := { program := "yteppmjihlidogaa", sum := "f11fd6a0e9ae682bd5a796ce01c93d601b8fc8bd6f73411a7e57ac8151feb819", func := "semvcs/semvcslaw03.TreeNumbers", spec := "treeNumbers", unfollowed := true, recurses := true, loops := true, apart := false, narrowed := true }
def TreeNumbersUptoSaid : Prop := treeNumbersUptoRow.holds Try.pinned (OpenSpec.upto treeNumbersSpec)

/-- 'semvcslaw03.TreeReplaces', WHERE WHAT IT READS IS OF BULK AT MOST 1048576: true; the input reads as it did. -/
def treeReplacesUptoRow : OpenClaim := { program := "yteppmjihlidogaa", sum := "f11fd6a0e9ae682bd5a796ce01c93d601b8fc8bd6f73411a7e57ac8151feb819", func := "semvcs/semvcslaw03.TreeReplaces", spec := "treeReplaces", recurses := true, loops := true, apart := false, narrowed := true }
def TreeReplacesUptoSaid : Prop := treeReplacesUptoRow.holds Try.pinned (OpenSpec.upto treeReplacesSpec)

/-- 'semvcslaw03.TreePuts', WHERE WHAT IT READS IS OF BULK AT MOST 1048576: true; the input reads as it did. -/
def treePutsUptoRow : OpenClaim := { program := "yteppmjihlidogaa", sum := "f11fd6a0e9ae682bd5a796ce01c93d601b8fc8bd6f73411a7e57ac8151feb819", func := "semvcs/semvcslaw03.TreePuts", spec := "treePuts", unfollowed := true, recurses := true, loops := true, apart := false, narrowed := true }
def TreePutsUptoSaid : Prop := treePutsUptoRow.holds Try.pinned (OpenSpec.upto treePutsSpec)

end Rows
end Go.Proofs.Yteppmjihlidogaa
