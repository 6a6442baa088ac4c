/-
  No cell of these rows narrows 'for every input' (looked for: loops, veiled, ifaces, maps, wideKeys, modest, calm, conditions, laid).
  DERIVED. THE GIVEN ROWS OF THIS SEAT. 7 by the template 'for every input the law returns true; each argument reads behind the call as it read before'; 0 by the template 'total and deterministic' (their statements: YtfdcfcnobfebgaaTotals.lean).
  GIVEN WITH THE SEED: the statements are not yours to turn. If you find one false, say at which input.
  Laid BY PROGRAM, IN A SANDBOX (cutbox-rows.mjs): the forced cells as the released guide's own fill.sh prints them over the translation 73f172298c623072… (all of the seat's roots in one cut). By AI agents, Wed Nov 11 2026. No macro, syntax, notation, axiom, sorry.
-/
import Derived.Test.YtfdcfcnobfebgaaChecked
import GoSem.Claim
import GoSem.ClaimJoined
import GoSem.ClaimMapViews
import Derived.JoinedTies
import Derived.KernelRfl
namespace Go.Proofs.Ytfdcfcnobfebgaa
/- THE CELL 'sum', in the pinned program and in every row, IS THE sha256 OF THE DUMP (.gsa) THAT YtfdcfcnobfebgaaProg.lean LOADS. Nothing in Lean hashes anything: it is a label: what it is worth is what the hold of that sum in a sandbox is worth. -/
noncomputable def Try.pinned : Pinned := { name := "ytfdcfcnobfebgaa", sum := "73f172298c6230728b86750395b94c9b9e3d7b2a2109011c0642537f045a5a84", checked := Try.checked }
namespace Rows
def none {H : Type} : Left H := { results := [], args := [] }

/-- 'kingpostlaw44.NestboundBounds': WHATEVER THE INPUT: true; the input reads as it did. -/
def nestboundBoundsSpec : ChangeSpec := { name := "nestboundBounds", fn := fun _ => fun
  | [d1, d2, d3] => { results := [.lit (.bool true)], args := [d1, d2, d3] }
  | _ => none }
def nestboundBoundsRow : OpenClaim := { program := "ytfdcfcnobfebgaa", sum := "73f172298c6230728b86750395b94c9b9e3d7b2a2109011c0642537f045a5a84", func := "kingpost/kingpostlaw44.NestboundBounds", spec := "nestboundBounds", unfollowed := true, recurses := true, apart := false }
def NestboundBoundsSaid : Prop := nestboundBoundsRow.holds Try.pinned (OpenSpec.ofChange nestboundBoundsSpec)

/-- ITS FALSE NEIGHBOUR: 'it returns false'. Refute it at one input. -/
def nestboundBoundsWrong : ChangeSpec := { name := "nestboundBounds", fn := fun _ => fun
  | [d1, d2, d3] => { results := [.lit (.bool false)], args := [d1, d2, d3] }
  | _ => none }
def NestboundBoundsWrongFalsely : Prop := nestboundBoundsRow.holds Try.pinned (OpenSpec.ofChange nestboundBoundsWrong)

/-- 'kingpostlaw44.NestboundTrue': WHATEVER THE INPUT: true; the input reads as it did. -/
def nestboundTrueSpec : ChangeSpec := { name := "nestboundTrue", fn := fun _ => fun
  | [d1, d2, d3, d4] => { results := [.lit (.bool true)], args := [d1, d2, d3, d4] }
  | _ => none }
def nestboundTrueRow : OpenClaim := { program := "ytfdcfcnobfebgaa", sum := "73f172298c6230728b86750395b94c9b9e3d7b2a2109011c0642537f045a5a84", func := "kingpost/kingpostlaw44.NestboundTrue", spec := "nestboundTrue", unfollowed := true, recurses := true, apart := false }
def NestboundTrueSaid : Prop := nestboundTrueRow.holds Try.pinned (OpenSpec.ofChange nestboundTrueSpec)

/-- ITS FALSE NEIGHBOUR: 'it returns false'. Refute it at one input. -/
def nestboundTrueWrong : ChangeSpec := { name := "nestboundTrue", fn := fun _ => fun
  | [d1, d2, d3, d4] => { results := [.lit (.bool false)], args := [d1, d2, d3, d4] }
  | _ => none }
def NestboundTrueWrongFalsely : Prop := nestboundTrueRow.holds Try.pinned (OpenSpec.ofChange nestboundTrueWrong)

/-- 'kingpostlaw44.NestboundMore': WHATEVER THE INPUT: true; the input reads as it did. -/
def nestboundMoreSpec : ChangeSpec := { name := "nestboundMore", fn := fun _ => fun
  | [d1, d2, d3, d4] => { results := [.lit (.bool true)], args := [d1, d2, d3, d4] }
  | _ => none }
def nestboundMoreRow : OpenClaim := { program := "ytfdcfcnobfebgaa", sum := "73f172298c6230728b86750395b94c9b9e3d7b2a2109011c0642537f045a5a84", func := "kingpost/kingpostlaw44.NestboundMore", spec := "nestboundMore", unfollowed := true, recurses := true, apart := false }
def NestboundMoreSaid : Prop := nestboundMoreRow.holds Try.pinned (OpenSpec.ofChange nestboundMoreSpec)

/-- ITS FALSE NEIGHBOUR: 'it returns false'. Refute it at one input. -/
def nestboundMoreWrong : ChangeSpec := { name := "nestboundMore", fn := fun _ => fun
  | [d1, d2, d3, d4] => { results := [.lit (.bool false)], args := [d1, d2, d3, d4] }
  | _ => none }
def NestboundMoreWrongFalsely : Prop := nestboundMoreRow.holds Try.pinned (OpenSpec.ofChange nestboundMoreWrong)

/-- 'kingpostlaw44.NestboundKerfs': WHATEVER THE INPUT: true; the input reads as it did. -/
def nestboundKerfsSpec : ChangeSpec := { name := "nestboundKerfs", fn := fun _ => fun
  | [d1, d2, d3] => { results := [.lit (.bool true)], args := [d1, d2, d3] }
  | _ => none }
def nestboundKerfsRow : OpenClaim := { program := "ytfdcfcnobfebgaa", sum := "73f172298c6230728b86750395b94c9b9e3d7b2a2109011c0642537f045a5a84", func := "kingpost/kingpostlaw44.NestboundKerfs", spec := "nestboundKerfs", unfollowed := true, recurses := true, apart := false }
def NestboundKerfsSaid : Prop := nestboundKerfsRow.holds Try.pinned (OpenSpec.ofChange nestboundKerfsSpec)

/-- ITS FALSE NEIGHBOUR: 'it returns false'. Refute it at one input. -/
def nestboundKerfsWrong : ChangeSpec := { name := "nestboundKerfs", fn := fun _ => fun
  | [d1, d2, d3] => { results := [.lit (.bool false)], args := [d1, d2, d3] }
  | _ => none }
def NestboundKerfsWrongFalsely : Prop := nestboundKerfsRow.holds Try.pinned (OpenSpec.ofChange nestboundKerfsWrong)

/-- 'kingpostlaw44.NestboundBest': WHATEVER THE INPUT: true; the input reads as it did. -/
def nestboundBestSpec : ChangeSpec := { name := "nestboundBest", fn := fun _ => fun
  | [d1, d2, d3] => { results := [.lit (.bool true)], args := [d1, d2, d3] }
  | _ => none }
def nestboundBestRow : OpenClaim := { program := "ytfdcfcnobfebgaa", sum := "73f172298c6230728b86750395b94c9b9e3d7b2a2109011c0642537f045a5a84", func := "kingpost/kingpostlaw44.NestboundBest", spec := "nestboundBest", unfollowed := true, recurses := true, apart := false }
def NestboundBestSaid : Prop := nestboundBestRow.holds Try.pinned (OpenSpec.ofChange nestboundBestSpec)

/-- ITS FALSE NEIGHBOUR: 'it returns false'. Refute it at one input. -/
def nestboundBestWrong : ChangeSpec := { name := "nestboundBest", fn := fun _ => fun
  | [d1, d2, d3] => { results := [.lit (.bool false)], args := [d1, d2, d3] }
  | _ => none }
def NestboundBestWrongFalsely : Prop := nestboundBestRow.holds Try.pinned (OpenSpec.ofChange nestboundBestWrong)

/-- 'kingpostlaw44.NestboundDual': WHATEVER THE INPUT: true; the input reads as it did. -/
def nestboundDualSpec : ChangeSpec := { name := "nestboundDual", fn := fun _ => fun
  | [d1, d2, d3, d4, d5, d6] => { results := [.lit (.bool true)], args := [d1, d2, d3, d4, d5, d6] }
  | _ => none }
def nestboundDualRow : OpenClaim := { program := "ytfdcfcnobfebgaa", sum := "73f172298c6230728b86750395b94c9b9e3d7b2a2109011c0642537f045a5a84", func := "kingpost/kingpostlaw44.NestboundDual", spec := "nestboundDual", unfollowed := true, recurses := true, apart := false }
def NestboundDualSaid : Prop := nestboundDualRow.holds Try.pinned (OpenSpec.ofChange nestboundDualSpec)

/-- ITS FALSE NEIGHBOUR: 'it returns false'. Refute it at one input. -/
def nestboundDualWrong : ChangeSpec := { name := "nestboundDual", fn := fun _ => fun
  | [d1, d2, d3, d4, d5, d6] => { results := [.lit (.bool false)], args := [d1, d2, d3, d4, d5, d6] }
  | _ => none }
def NestboundDualWrongFalsely : Prop := nestboundDualRow.holds Try.pinned (OpenSpec.ofChange nestboundDualWrong)

/-- 'kingpostlaw44.NestboundOrder': WHATEVER THE INPUT: true; the input reads as it did. -/
def nestboundOrderSpec : ChangeSpec := { name := "nestboundOrder", fn := fun _ => fun
  | [d1, d2, d3, d4] => { results := [.lit (.bool true)], args := [d1, d2, d3, d4] }
  | _ => none }
def nestboundOrderRow : OpenClaim := { program := "ytfdcfcnobfebgaa", sum := "73f172298c6230728b86750395b94c9b9e3d7b2a2109011c0642537f045a5a84", func := "kingpost/kingpostlaw44.NestboundOrder", spec := "nestboundOrder", unfollowed := true, recurses := true, apart := false }
def NestboundOrderSaid : Prop := nestboundOrderRow.holds Try.pinned (OpenSpec.ofChange nestboundOrderSpec)

/-- ITS FALSE NEIGHBOUR: 'it returns false'. Refute it at one input. -/
def nestboundOrderWrong : ChangeSpec := { name := "nestboundOrder", fn := fun _ => fun
  | [d1, d2, d3, d4] => { results := [.lit (.bool false)], args := [d1, d2, d3, d4] }
  | _ => none }
def NestboundOrderWrongFalsely : Prop := nestboundOrderRow.holds Try.pinned (OpenSpec.ofChange nestboundOrderWrong)

/- THE SECOND FORM. 'bulk': how many values and letters a reading holds, each counted each time it is reached (what is shared counts as often as it is met; a slice's spare places count too). A statement '..UptoSaid' is the law's where the arguments, and the package variables that the reading takes, are together of bulk at most 1048576: NARROWER than '..Said'. Prove '..Said' where nothing that the law and all that it calls make is longer than what came in: it says more and counts as full. Else prove '..UptoSaid'. A law counts once. -/
mutual
def uptoBulk {H : Type} : DataW H → Nat
  | .lit (.string bytes) => bytes.length + 1
  | .lit _ => 1
  | .nil => 1
  | .ptr d => uptoBulk d + 1
  | .slice elems spare => uptoBulkAll elems + uptoBulkAll spare + 1
  | .agg parts => uptoBulkAll parts + 1
  | .iface _ d => uptoBulk d + 1
  | .map entries => uptoBulkEntries entries + 1
  | .held _ => 1
def uptoBulkAll {H : Type} : List (DataW H) → Nat
  | [] => 0
  | d :: r => uptoBulk d + uptoBulkAll r
def uptoBulkEntries {H : Type} : List (Lit × DataW H) → Nat
  | [] => 0
  | x :: r => uptoBulkEntry x + uptoBulkEntries r
def uptoBulkEntry {H : Type} : Lit × DataW H → Nat
  | (.string bytes, d) => bytes.length + uptoBulk d + 1
  | (_, d) => uptoBulk d + 1
 end
def uptoSmall : (H : Type) → List (DataW H) → Bool := fun _ ds => decide (uptoBulkAll ds ≤ 1048576)
def OpenSpec.upto (s : _root_.Go.ChangeSpec) : _root_.Go.OpenSpec := { _root_.Go.OpenSpec.ofChange s with cond := some uptoSmall }

/-- 'kingpostlaw44.NestboundBounds', WHERE WHAT IT READS IS OF BULK AT MOST 1048576: true; the input reads as it did. -/
def nestboundBoundsUptoRow : OpenClaim := { program := "ytfdcfcnobfebgaa", sum := "73f172298c6230728b86750395b94c9b9e3d7b2a2109011c0642537f045a5a84", func := "kingpost/kingpostlaw44.NestboundBounds", spec := "nestboundBounds", unfollowed := true, recurses := true, apart := false, narrowed := true }
def NestboundBoundsUptoSaid : Prop := nestboundBoundsUptoRow.holds Try.pinned (OpenSpec.upto nestboundBoundsSpec)

/-- 'kingpostlaw44.NestboundTrue', WHERE WHAT IT READS IS OF BULK AT MOST 1048576: true; the input reads as it did. -/
def nestboundTrueUptoRow : OpenClaim := { program := "ytfdcfcnobfebgaa", sum := "73f172298c6230728b86750395b94c9b9e3d7b2a2109011c0642537f045a5a84", func := "kingpost/kingpostlaw44.NestboundTrue", spec := "nestboundTrue", unfollowed := true, recurses := true, apart := false, narrowed := true }
def NestboundTrueUptoSaid : Prop := nestboundTrueUptoRow.holds Try.pinned (OpenSpec.upto nestboundTrueSpec)

/-- 'kingpostlaw44.NestboundMore', WHERE WHAT IT READS IS OF BULK AT MOST 1048576: true; the input reads as it did. -/
def nestboundMoreUptoRow : OpenClaim := { program := "ytfdcfcnobfebgaa", sum := "73f172298c6230728b86750395b94c9b9e3d7b2a2109011c0642537f045a5a84", func := "kingpost/kingpostlaw44.NestboundMore", spec := "nestboundMore", unfollowed := true, recurses := true, apart := false, narrowed := true }
def NestboundMoreUptoSaid : Prop := nestboundMoreUptoRow.holds Try.pinned (OpenSpec.upto nestboundMoreSpec)

/-- 'kingpostlaw44.NestboundKerfs', WHERE WHAT IT READS IS OF BULK AT MOST 1048576: true; the input reads as it did. -/
def nestboundKerfsUptoRow : OpenClaim := { program := "ytfdcfcnobfebgaa", sum := "73f172298c6230728b86750395b94c9b9e3d7b2a2109011c0642537f045a5a84", func := "kingpost/kingpostlaw44.NestboundKerfs", spec := "nestboundKerfs", unfollowed := true, recurses := true, apart := false, narrowed := true }
def NestboundKerfsUptoSaid : Prop := nestboundKerfsUptoRow.holds Try.pinned (OpenSpec.upto nestboundKerfsSpec)

/-- 'kingpostlaw44.NestboundBest', WHERE WHAT IT READS IS OF BULK AT MOST 1048576: true; the input reads as it did. -/
def nestboundBestUptoRow : OpenClaim := { program := "ytfdcfcnobfebgaa", sum := "73f172298c6230728b86750395b94c9b9e3d7b2a2109011c0642537f045a5a84", func := "kingpost/kingpostlaw44.NestboundBest", spec := "nestboundBest", unfollowed := true, recurses := true, apart := false, narrowed := true }
def NestboundBestUptoSaid : Prop := nestboundBestUptoRow.holds Try.pinned (OpenSpec.upto nestboundBestSpec)

/-- 'kingpostlaw44.NestboundDual', WHERE WHAT IT READS IS OF BULK AT MOST 1048576: true; the input reads as it did. -/
def nestboundDualUptoRow : OpenClaim := { program := "ytfdcfcnobfebgaa", sum := "73f172298c6230728b86750395b94c9b9e3d7b2a2109011c0642537f045a5a84", func := "kingpost/kingpostlaw44.NestboundDual", spec := "nestboundDual", unfollowed := true, recurses := true, apart := false, narrowed := true }
def NestboundDualUptoSaid : Prop := nestboundDualUptoRow.holds Try.pinned (OpenSpec.upto nestboundDualSpec)

/-- 'kingpostlaw44.NestboundOrder', WHERE WHAT IT READS IS OF BULK AT MOST 1048576: true; the input reads as it did. -/
def nestboundOrderUptoRow : OpenClaim := { program := "ytfdcfcnobfebgaa", sum := "73f172298c6230728b86750395b94c9b9e3d7b2a2109011c0642537f045a5a84", func := "kingpost/kingpostlaw44.NestboundOrder", spec := "nestboundOrder", unfollowed := true, recurses := true, apart := false, narrowed := true }
def NestboundOrderUptoSaid : Prop := nestboundOrderUptoRow.holds Try.pinned (OpenSpec.upto nestboundOrderSpec)

end Rows
end Go.Proofs.Ytfdcfcnobfebgaa
