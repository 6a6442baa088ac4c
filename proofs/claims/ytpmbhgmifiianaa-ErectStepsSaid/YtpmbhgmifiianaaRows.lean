/-
  No cell of these rows narrows 'for every input' (looked for: loops, veiled, ifaces, maps, wideKeys, modest, calm, conditions, laid).
  DERIVED. THE GIVEN ROWS OF THIS SEAT. 9 by the template 'for every input the law returns true; each argument reads behind the call as it read before'; 0 by the template 'total and deterministic' (their statements: YtpmbhgmifiianaaTotals.lean).
  GIVEN WITH THE SEED: the statements are not yours to turn. If you find one false, say at which input.
  Laid BY PROGRAM, IN A SANDBOX (cutbox-rows.mjs): the forced cells as the released guide's own fill.sh prints them over the translation 642186ce191ca8dd… (all of the seat's roots in one cut). By AI agents, Wed Nov 11 2026. No macro, syntax, notation, axiom, sorry.
-/
import Derived.Test.YtpmbhgmifiianaaChecked
import GoSem.Claim
import GoSem.ClaimJoined
import GoSem.ClaimMapViews
import Derived.JoinedTies
import Derived.KernelRfl
namespace Go.Proofs.Ytpmbhgmifiianaa
/- THE CELL 'sum', in the pinned program and in every row, IS THE sha256 OF THE DUMP (.gsa) THAT YtpmbhgmifiianaaProg.lean LOADS. Nothing in Lean hashes anything: it is a label: what it is worth is what the hold of that sum in a sandbox is worth. -/
noncomputable def Try.pinned : Pinned := { name := "ytpmbhgmifiianaa", sum := "642186ce191ca8dd2121140241398176d2afce907b1370d427a435d92021faa1", checked := Try.checked }
namespace Rows
def none {H : Type} : Left H := { results := [], args := [] }

/-- 'kingpostlaw55.ErectNext': WHATEVER THE INPUT: true; the input reads as it did. -/
def erectNextSpec : ChangeSpec := { name := "erectNext", fn := fun _ => fun
  | [d1, d2] => { results := [.lit (.bool true)], args := [d1, d2] }
  | _ => none }
def erectNextRow : OpenClaim := { program := "ytpmbhgmifiianaa", sum := "642186ce191ca8dd2121140241398176d2afce907b1370d427a435d92021faa1", func := "kingpost/kingpostlaw55.ErectNext", spec := "erectNext", unfollowed := true, recurses := true, apart := false }
def ErectNextSaid : Prop := erectNextRow.holds Try.pinned (OpenSpec.ofChange erectNextSpec)

/-- ITS FALSE NEIGHBOUR: 'it returns false'. Refute it at one input. -/
def erectNextWrong : ChangeSpec := { name := "erectNext", fn := fun _ => fun
  | [d1, d2] => { results := [.lit (.bool false)], args := [d1, d2] }
  | _ => none }
def ErectNextWrongFalsely : Prop := erectNextRow.holds Try.pinned (OpenSpec.ofChange erectNextWrong)

/-- 'kingpostlaw55.ErectComplete': WHATEVER THE INPUT: true; the input reads as it did. -/
def erectCompleteSpec : ChangeSpec := { name := "erectComplete", fn := fun _ => fun
  | [d1, d2] => { results := [.lit (.bool true)], args := [d1, d2] }
  | _ => none }
def erectCompleteRow : OpenClaim := { program := "ytpmbhgmifiianaa", sum := "642186ce191ca8dd2121140241398176d2afce907b1370d427a435d92021faa1", func := "kingpost/kingpostlaw55.ErectComplete", spec := "erectComplete", unfollowed := true, recurses := true, apart := false }
def ErectCompleteSaid : Prop := erectCompleteRow.holds Try.pinned (OpenSpec.ofChange erectCompleteSpec)

/-- ITS FALSE NEIGHBOUR: 'it returns false'. Refute it at one input. -/
def erectCompleteWrong : ChangeSpec := { name := "erectComplete", fn := fun _ => fun
  | [d1, d2] => { results := [.lit (.bool false)], args := [d1, d2] }
  | _ => none }
def ErectCompleteWrongFalsely : Prop := erectCompleteRow.holds Try.pinned (OpenSpec.ofChange erectCompleteWrong)

/-- 'kingpostlaw55.ErectPrefixes': WHATEVER THE INPUT: true; the input reads as it did. -/
def erectPrefixesSpec : ChangeSpec := { name := "erectPrefixes", fn := fun _ => fun
  | [d1, d2] => { results := [.lit (.bool true)], args := [d1, d2] }
  | _ => none }
def erectPrefixesRow : OpenClaim := { program := "ytpmbhgmifiianaa", sum := "642186ce191ca8dd2121140241398176d2afce907b1370d427a435d92021faa1", func := "kingpost/kingpostlaw55.ErectPrefixes", spec := "erectPrefixes", unfollowed := true, recurses := true, apart := false }
def ErectPrefixesSaid : Prop := erectPrefixesRow.holds Try.pinned (OpenSpec.ofChange erectPrefixesSpec)

/-- ITS FALSE NEIGHBOUR: 'it returns false'. Refute it at one input. -/
def erectPrefixesWrong : ChangeSpec := { name := "erectPrefixes", fn := fun _ => fun
  | [d1, d2] => { results := [.lit (.bool false)], args := [d1, d2] }
  | _ => none }
def ErectPrefixesWrongFalsely : Prop := erectPrefixesRow.holds Try.pinned (OpenSpec.ofChange erectPrefixesWrong)

/-- 'kingpostlaw55.ErectProps': WHATEVER THE INPUT: true; the input reads as it did. -/
def erectPropsSpec : ChangeSpec := { name := "erectProps", fn := fun _ => fun
  | [d1, d2, d3] => { results := [.lit (.bool true)], args := [d1, d2, d3] }
  | _ => none }
def erectPropsRow : OpenClaim := { program := "ytpmbhgmifiianaa", sum := "642186ce191ca8dd2121140241398176d2afce907b1370d427a435d92021faa1", func := "kingpost/kingpostlaw55.ErectProps", spec := "erectProps", unfollowed := true, recurses := true, apart := false }
def ErectPropsSaid : Prop := erectPropsRow.holds Try.pinned (OpenSpec.ofChange erectPropsSpec)

/-- ITS FALSE NEIGHBOUR: 'it returns false'. Refute it at one input. -/
def erectPropsWrong : ChangeSpec := { name := "erectProps", fn := fun _ => fun
  | [d1, d2, d3] => { results := [.lit (.bool false)], args := [d1, d2, d3] }
  | _ => none }
def ErectPropsWrongFalsely : Prop := erectPropsRow.holds Try.pinned (OpenSpec.ofChange erectPropsWrong)

/-- 'kingpostlaw55.ErectSteps': WHATEVER THE INPUT: true; the input reads as it did. -/
def erectStepsSpec : ChangeSpec := { name := "erectSteps", fn := fun _ => fun
  | [d1, d2, d3] => { results := [.lit (.bool true)], args := [d1, d2, d3] }
  | _ => none }
def erectStepsRow : OpenClaim := { program := "ytpmbhgmifiianaa", sum := "642186ce191ca8dd2121140241398176d2afce907b1370d427a435d92021faa1", func := "kingpost/kingpostlaw55.ErectSteps", spec := "erectSteps", unfollowed := true, recurses := true, apart := false }
def ErectStepsSaid : Prop := erectStepsRow.holds Try.pinned (OpenSpec.ofChange erectStepsSpec)

/-- ITS FALSE NEIGHBOUR: 'it returns false'. Refute it at one input. -/
def erectStepsWrong : ChangeSpec := { name := "erectSteps", fn := fun _ => fun
  | [d1, d2, d3] => { results := [.lit (.bool false)], args := [d1, d2, d3] }
  | _ => none }
def ErectStepsWrongFalsely : Prop := erectStepsRow.holds Try.pinned (OpenSpec.ofChange erectStepsWrong)

/-- 'kingpostlaw55.ErectOrders': WHATEVER THE INPUT: true; the input reads as it did. -/
def erectOrdersSpec : ChangeSpec := { name := "erectOrders", fn := fun _ => fun
  | [d1, d2, d3, d4] => { results := [.lit (.bool true)], args := [d1, d2, d3, d4] }
  | _ => none }
def erectOrdersRow : OpenClaim := { program := "ytpmbhgmifiianaa", sum := "642186ce191ca8dd2121140241398176d2afce907b1370d427a435d92021faa1", func := "kingpost/kingpostlaw55.ErectOrders", spec := "erectOrders", unfollowed := true, recurses := true, apart := false }
def ErectOrdersSaid : Prop := erectOrdersRow.holds Try.pinned (OpenSpec.ofChange erectOrdersSpec)

/-- ITS FALSE NEIGHBOUR: 'it returns false'. Refute it at one input. -/
def erectOrdersWrong : ChangeSpec := { name := "erectOrders", fn := fun _ => fun
  | [d1, d2, d3, d4] => { results := [.lit (.bool false)], args := [d1, d2, d3, d4] }
  | _ => none }
def ErectOrdersWrongFalsely : Prop := erectOrdersRow.holds Try.pinned (OpenSpec.ofChange erectOrdersWrong)

/-- 'kingpostlaw55.ErectRefused': WHATEVER THE INPUT: true; the input reads as it did. -/
def erectRefusedSpec : ChangeSpec := { name := "erectRefused", fn := fun _ => fun
  | [d1, d2, d3] => { results := [.lit (.bool true)], args := [d1, d2, d3] }
  | _ => none }
def erectRefusedRow : OpenClaim := { program := "ytpmbhgmifiianaa", sum := "642186ce191ca8dd2121140241398176d2afce907b1370d427a435d92021faa1", func := "kingpost/kingpostlaw55.ErectRefused", spec := "erectRefused", unfollowed := true, recurses := true, apart := false }
def ErectRefusedSaid : Prop := erectRefusedRow.holds Try.pinned (OpenSpec.ofChange erectRefusedSpec)

/-- ITS FALSE NEIGHBOUR: 'it returns false'. Refute it at one input. -/
def erectRefusedWrong : ChangeSpec := { name := "erectRefused", fn := fun _ => fun
  | [d1, d2, d3] => { results := [.lit (.bool false)], args := [d1, d2, d3] }
  | _ => none }
def ErectRefusedWrongFalsely : Prop := erectRefusedRow.holds Try.pinned (OpenSpec.ofChange erectRefusedWrong)

/-- 'kingpostlaw55.ErectReversed': WHATEVER THE INPUT: true; the input reads as it did. -/
def erectReversedSpec : ChangeSpec := { name := "erectReversed", fn := fun _ => fun
  | [d1, d2, d3] => { results := [.lit (.bool true)], args := [d1, d2, d3] }
  | _ => none }
def erectReversedRow : OpenClaim := { program := "ytpmbhgmifiianaa", sum := "642186ce191ca8dd2121140241398176d2afce907b1370d427a435d92021faa1", func := "kingpost/kingpostlaw55.ErectReversed", spec := "erectReversed", unfollowed := true, recurses := true, apart := false }
def ErectReversedSaid : Prop := erectReversedRow.holds Try.pinned (OpenSpec.ofChange erectReversedSpec)

/-- ITS FALSE NEIGHBOUR: 'it returns false'. Refute it at one input. -/
def erectReversedWrong : ChangeSpec := { name := "erectReversed", fn := fun _ => fun
  | [d1, d2, d3] => { results := [.lit (.bool false)], args := [d1, d2, d3] }
  | _ => none }
def ErectReversedWrongFalsely : Prop := erectReversedRow.holds Try.pinned (OpenSpec.ofChange erectReversedWrong)

/-- 'kingpostlaw55.ErectCycles': WHATEVER THE INPUT: true; the input reads as it did. -/
def erectCyclesSpec : ChangeSpec := { name := "erectCycles", fn := fun _ => fun
  | [d1, d2] => { results := [.lit (.bool true)], args := [d1, d2] }
  | _ => none }
def erectCyclesRow : OpenClaim := { program := "ytpmbhgmifiianaa", sum := "642186ce191ca8dd2121140241398176d2afce907b1370d427a435d92021faa1", func := "kingpost/kingpostlaw55.ErectCycles", spec := "erectCycles", unfollowed := true, recurses := true, apart := false }
def ErectCyclesSaid : Prop := erectCyclesRow.holds Try.pinned (OpenSpec.ofChange erectCyclesSpec)

/-- ITS FALSE NEIGHBOUR: 'it returns false'. Refute it at one input. -/
def erectCyclesWrong : ChangeSpec := { name := "erectCycles", fn := fun _ => fun
  | [d1, d2] => { results := [.lit (.bool false)], args := [d1, d2] }
  | _ => none }
def ErectCyclesWrongFalsely : Prop := erectCyclesRow.holds Try.pinned (OpenSpec.ofChange erectCyclesWrong)

/- THE SECOND FORM. 'bulk': how many values and letters a reading holds, each counted each time it is reached (what is shared counts as often as it is met; a slice's spare places count too). A statement '..UptoSaid' is the law's where the arguments, and the package variables that the reading takes, are together of bulk at most 1048576: NARROWER than '..Said'. Prove '..Said' where nothing that the law and all that it calls make is longer than what came in: it says more and counts as full. Else prove '..UptoSaid'. A law counts once. -/
mutual
def uptoBulk {H : Type} : DataW H → Nat
  | .lit (.string bytes) => bytes.length + 1
  | .lit _ => 1
  | .nil => 1
  | .ptr d => uptoBulk d + 1
  | .slice elems spare => uptoBulkAll elems + uptoBulkAll spare + 1
  | .agg parts => uptoBulkAll parts + 1
  | .iface _ d => uptoBulk d + 1
  | .map entries => uptoBulkEntries entries + 1
  | .held _ => 1
def uptoBulkAll {H : Type} : List (DataW H) → Nat
  | [] => 0
  | d :: r => uptoBulk d + uptoBulkAll r
def uptoBulkEntries {H : Type} : List (Lit × DataW H) → Nat
  | [] => 0
  | x :: r => uptoBulkEntry x + uptoBulkEntries r
def uptoBulkEntry {H : Type} : Lit × DataW H → Nat
  | (.string bytes, d) => bytes.length + uptoBulk d + 1
  | (_, d) => uptoBulk d + 1
 end
def uptoSmall : (H : Type) → List (DataW H) → Bool := fun _ ds => decide (uptoBulkAll ds ≤ 1048576)
def OpenSpec.upto (s : _root_.Go.ChangeSpec) : _root_.Go.OpenSpec := { _root_.Go.OpenSpec.ofChange s with cond := some uptoSmall }

/-- 'kingpostlaw55.ErectNext', WHERE WHAT IT READS IS OF BULK AT MOST 1048576: true; the input reads as it did. -/
def erectNextUptoRow : OpenClaim := { program := "ytpmbhgmifiianaa", sum := "642186ce191ca8dd2121140241398176d2afce907b1370d427a435d92021faa1", func := "kingpost/kingpostlaw55.ErectNext", spec := "erectNext", unfollowed := true, recurses := true, apart := false, narrowed := true }
def ErectNextUptoSaid : Prop := erectNextUptoRow.holds Try.pinned (OpenSpec.upto erectNextSpec)

/-- 'kingpostlaw55.ErectComplete', WHERE WHAT IT READS IS OF BULK AT MOST 1048576: true; the input reads as it did. -/
def erectCompleteUptoRow : OpenClaim := { program := "ytpmbhgmifiianaa", sum := "642186ce191ca8dd2121140241398176d2afce907b1370d427a435d92021faa1", func := "kingpost/kingpostlaw55.ErectComplete", spec := "erectComplete", unfollowed := true, recurses := true, apart := false, narrowed := true }
def ErectCompleteUptoSaid : Prop := erectCompleteUptoRow.holds Try.pinned (OpenSpec.upto erectCompleteSpec)

/-- 'kingpostlaw55.ErectPrefixes', WHERE WHAT IT READS IS OF BULK AT MOST 1048576: true; the input reads as it did. -/
def erectPrefixesUptoRow : OpenClaim := { program := "ytpmbhgmifiianaa", sum := "642186ce191ca8dd2121140241398176d2afce907b1370d427a435d92021faa1", func := "kingpost/kingpostlaw55.ErectPrefixes", spec := "erectPrefixes", unfollowed := true, recurses := true, apart := false, narrowed := true }
def ErectPrefixesUptoSaid : Prop := erectPrefixesUptoRow.holds Try.pinned (OpenSpec.upto erectPrefixesSpec)

/-- 'kingpostlaw55.ErectProps', WHERE WHAT IT READS IS OF BULK AT MOST 1048576: true; the input reads as it did. -/
def erectPropsUptoRow : OpenClaim := { program := "ytpmbhgmifiianaa", sum := "642186ce191ca8dd2121140241398176d2afce907b1370d427a435d92021faa1", func := "kingpost/kingpostlaw55.ErectProps", spec := "erectProps", unfollowed := true, recurses := true, apart := false, narrowed := true }
def ErectPropsUptoSaid : Prop := erectPropsUptoRow.holds Try.pinned (OpenSpec.upto erectPropsSpec)

/-- 'kingpostlaw55.ErectSteps', WHERE WHAT IT READS IS OF BULK AT MOST 1048576: true; the input reads as it did. -/
def erectStepsUptoRow : OpenClaim := { program := "ytpmbhgmifiianaa", sum := "642186ce191ca8dd2121140241398176d2afce907b1370d427a435d92021faa1", func := "kingpost/kingpostlaw55.ErectSteps", spec := "erectSteps", unfollowed := true, recurses := true, apart := false, narrowed := true }
def ErectStepsUptoSaid : Prop := erectStepsUptoRow.holds Try.pinned (OpenSpec.upto erectStepsSpec)

/-- 'kingpostlaw55.ErectOrders', WHERE WHAT IT READS IS OF BULK AT MOST 1048576: true; the input reads as it did. -/
def erectOrdersUptoRow : OpenClaim := { program := "ytpmbhgmifiianaa", sum := "642186ce191ca8dd2121140241398176d2afce907b1370d427a435d92021faa1", func := "kingpost/kingpostlaw55.ErectOrders", spec := "erectOrders", unfollowed := true, recurses := true, apart := false, narrowed := true }
def ErectOrdersUptoSaid : Prop := erectOrdersUptoRow.holds Try.pinned (OpenSpec.upto erectOrdersSpec)

/-- 'kingpostlaw55.ErectRefused', WHERE WHAT IT READS IS OF BULK AT MOST 1048576: true; the input reads as it did. -/
def erectRefusedUptoRow : OpenClaim := { program := "ytpmbhgmifiianaa", sum := "642186ce191ca8dd2121140241398176d2afce907b1370d427a435d92021faa1", func := "kingpost/kingpostlaw55.ErectRefused", spec := "erectRefused", unfollowed := true, recurses := true, apart := false, narrowed := true }
def ErectRefusedUptoSaid : Prop := erectRefusedUptoRow.holds Try.pinned (OpenSpec.upto erectRefusedSpec)

/-- 'kingpostlaw55.ErectReversed', WHERE WHAT IT READS IS OF BULK AT MOST 1048576: true; the input reads as it did. -/
def erectReversedUptoRow : OpenClaim := { program := "ytpmbhgmifiianaa", sum := "642186ce191ca8dd2121140241398176d2afce907b1370d427a435d92021faa1", func := "kingpost/kingpostlaw55.ErectReversed", spec := "erectReversed", unfollowed := true, recurses := true, apart := false, narrowed := true }
def ErectReversedUptoSaid : Prop := erectReversedUptoRow.holds Try.pinned (OpenSpec.upto erectReversedSpec)

/-- 'kingpostlaw55.ErectCycles', WHERE WHAT IT READS IS OF BULK AT MOST 1048576: true; the input reads as it did. -/
def erectCyclesUptoRow : OpenClaim := { program := "ytpmbhgmifiianaa", sum := "642186ce191ca8dd2121140241398176d2afce907b1370d427a435d92021faa1", func := "kingpost/kingpostlaw55.ErectCycles", spec := "erectCycles", unfollowed := true, recurses := true, apart := false, narrowed := true }
def ErectCyclesUptoSaid : Prop := erectCyclesUptoRow.holds Try.pinned (OpenSpec.upto erectCyclesSpec)

end Rows
end Go.Proofs.Ytpmbhgmifiianaa
