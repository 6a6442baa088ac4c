/-
  No cell of these rows narrows 'for every input' (looked for: loops, veiled, ifaces, maps, wideKeys, modest, calm, conditions, laid).
  DERIVED. THE GIVEN ROWS OF THIS SEAT. 8 by the template 'for every input the law returns true; each argument reads behind the call as it read before'; 0 by the template 'total and deterministic' (their statements: YtpaniekmapghoaaTotals.lean).
  GIVEN WITH THE SEED: the statements are not yours to turn. If you find one false, say at which input.
  Laid BY PROGRAM, IN A SANDBOX (cutbox-rows.mjs): the forced cells as the released guide's own fill.sh prints them over the translation 74455a39adcacba2… (all of the seat's roots in one cut). By AI agents, Wed Nov 11 2026. No macro, syntax, notation, axiom, sorry.
-/
import Derived.Test.YtpaniekmapghoaaChecked
import GoSem.Claim
import GoSem.ClaimJoined
import GoSem.ClaimMapViews
import Derived.JoinedTies
import Derived.KernelRfl
namespace Go.Proofs.Ytpaniekmapghoaa
/- THE CELL 'sum', in the pinned program and in every row, IS THE sha256 OF THE DUMP (.gsa) THAT YtpaniekmapghoaaProg.lean LOADS. Nothing in Lean hashes anything: it is a label: what it is worth is what the hold of that sum in a sandbox is worth. -/
noncomputable def Try.pinned : Pinned := { name := "ytpaniekmapghoaa", sum := "74455a39adcacba286e990aa8aa7d21d252cf3f54413db0bc167900648f13beb", checked := Try.checked }
namespace Rows
def none {H : Type} : Left H := { results := [], args := [] }

/-- 'kingpostlaw46.PatternLists': WHATEVER THE INPUT: true; the input reads as it did. -/
def patternListsSpec : ChangeSpec := { name := "patternLists", fn := fun _ => fun
  | [d1, d2, d3, d4] => { results := [.lit (.bool true)], args := [d1, d2, d3, d4] }
  | _ => none }
def patternListsRow : OpenClaim := { program := "ytpaniekmapghoaa", sum := "74455a39adcacba286e990aa8aa7d21d252cf3f54413db0bc167900648f13beb", func := "kingpost/kingpostlaw46.PatternLists", spec := "patternLists", unfollowed := true, recurses := true, apart := false }
def PatternListsSaid : Prop := patternListsRow.holds Try.pinned (OpenSpec.ofChange patternListsSpec)

/-- ITS FALSE NEIGHBOUR: 'it returns false'. Refute it at one input. -/
def patternListsWrong : ChangeSpec := { name := "patternLists", fn := fun _ => fun
  | [d1, d2, d3, d4] => { results := [.lit (.bool false)], args := [d1, d2, d3, d4] }
  | _ => none }
def PatternListsWrongFalsely : Prop := patternListsRow.holds Try.pinned (OpenSpec.ofChange patternListsWrong)

/-- 'kingpostlaw46.PatternMore': WHATEVER THE INPUT: true; the input reads as it did. -/
def patternMoreSpec : ChangeSpec := { name := "patternMore", fn := fun _ => fun
  | [d1, d2, d3, d4, d5, d6] => { results := [.lit (.bool true)], args := [d1, d2, d3, d4, d5, d6] }
  | _ => none }
def patternMoreRow : OpenClaim := { program := "ytpaniekmapghoaa", sum := "74455a39adcacba286e990aa8aa7d21d252cf3f54413db0bc167900648f13beb", func := "kingpost/kingpostlaw46.PatternMore", spec := "patternMore", unfollowed := true, recurses := true, apart := false }
def PatternMoreSaid : Prop := patternMoreRow.holds Try.pinned (OpenSpec.ofChange patternMoreSpec)

/-- ITS FALSE NEIGHBOUR: 'it returns false'. Refute it at one input. -/
def patternMoreWrong : ChangeSpec := { name := "patternMore", fn := fun _ => fun
  | [d1, d2, d3, d4, d5, d6] => { results := [.lit (.bool false)], args := [d1, d2, d3, d4, d5, d6] }
  | _ => none }
def PatternMoreWrongFalsely : Prop := patternMoreRow.holds Try.pinned (OpenSpec.ofChange patternMoreWrong)

/-- 'kingpostlaw46.PatternLess': WHATEVER THE INPUT: true; the input reads as it did. -/
def patternLessSpec : ChangeSpec := { name := "patternLess", fn := fun _ => fun
  | [d1, d2, d3, d4, d5, d6] => { results := [.lit (.bool true)], args := [d1, d2, d3, d4, d5, d6] }
  | _ => none }
def patternLessRow : OpenClaim := { program := "ytpaniekmapghoaa", sum := "74455a39adcacba286e990aa8aa7d21d252cf3f54413db0bc167900648f13beb", func := "kingpost/kingpostlaw46.PatternLess", spec := "patternLess", unfollowed := true, recurses := true, apart := false }
def PatternLessSaid : Prop := patternLessRow.holds Try.pinned (OpenSpec.ofChange patternLessSpec)

/-- ITS FALSE NEIGHBOUR: 'it returns false'. Refute it at one input. -/
def patternLessWrong : ChangeSpec := { name := "patternLess", fn := fun _ => fun
  | [d1, d2, d3, d4, d5, d6] => { results := [.lit (.bool false)], args := [d1, d2, d3, d4, d5, d6] }
  | _ => none }
def PatternLessWrongFalsely : Prop := patternLessRow.holds Try.pinned (OpenSpec.ofChange patternLessWrong)

/-- 'kingpostlaw46.PatternRests': WHATEVER THE INPUT: true; the input reads as it did. -/
def patternRestsSpec : ChangeSpec := { name := "patternRests", fn := fun _ => fun
  | [d1, d2, d3, d4] => { results := [.lit (.bool true)], args := [d1, d2, d3, d4] }
  | _ => none }
def patternRestsRow : OpenClaim := { program := "ytpaniekmapghoaa", sum := "74455a39adcacba286e990aa8aa7d21d252cf3f54413db0bc167900648f13beb", func := "kingpost/kingpostlaw46.PatternRests", spec := "patternRests", unfollowed := true, recurses := true, apart := false }
def PatternRestsSaid : Prop := patternRestsRow.holds Try.pinned (OpenSpec.ofChange patternRestsSpec)

/-- ITS FALSE NEIGHBOUR: 'it returns false'. Refute it at one input. -/
def patternRestsWrong : ChangeSpec := { name := "patternRests", fn := fun _ => fun
  | [d1, d2, d3, d4] => { results := [.lit (.bool false)], args := [d1, d2, d3, d4] }
  | _ => none }
def PatternRestsWrongFalsely : Prop := patternRestsRow.holds Try.pinned (OpenSpec.ofChange patternRestsWrong)

/-- 'kingpostlaw46.PatternLeast': WHATEVER THE INPUT: true; the input reads as it did. -/
def patternLeastSpec : ChangeSpec := { name := "patternLeast", fn := fun _ => fun
  | [d1, d2, d3, d4, d5] => { results := [.lit (.bool true)], args := [d1, d2, d3, d4, d5] }
  | _ => none }
def patternLeastRow : OpenClaim := { program := "ytpaniekmapghoaa", sum := "74455a39adcacba286e990aa8aa7d21d252cf3f54413db0bc167900648f13beb", func := "kingpost/kingpostlaw46.PatternLeast", spec := "patternLeast", unfollowed := true, recurses := true, apart := false }
def PatternLeastSaid : Prop := patternLeastRow.holds Try.pinned (OpenSpec.ofChange patternLeastSpec)

/-- ITS FALSE NEIGHBOUR: 'it returns false'. Refute it at one input. -/
def patternLeastWrong : ChangeSpec := { name := "patternLeast", fn := fun _ => fun
  | [d1, d2, d3, d4, d5] => { results := [.lit (.bool false)], args := [d1, d2, d3, d4, d5] }
  | _ => none }
def PatternLeastWrongFalsely : Prop := patternLeastRow.holds Try.pinned (OpenSpec.ofChange patternLeastWrong)

/-- 'kingpostlaw46.PatternEnough': WHATEVER THE INPUT: true; the input reads as it did. -/
def patternEnoughSpec : ChangeSpec := { name := "patternEnough", fn := fun _ => fun
  | [d1, d2, d3, d4] => { results := [.lit (.bool true)], args := [d1, d2, d3, d4] }
  | _ => none }
def patternEnoughRow : OpenClaim := { program := "ytpaniekmapghoaa", sum := "74455a39adcacba286e990aa8aa7d21d252cf3f54413db0bc167900648f13beb", func := "kingpost/kingpostlaw46.PatternEnough", spec := "patternEnough", unfollowed := true, recurses := true, apart := false }
def PatternEnoughSaid : Prop := patternEnoughRow.holds Try.pinned (OpenSpec.ofChange patternEnoughSpec)

/-- ITS FALSE NEIGHBOUR: 'it returns false'. Refute it at one input. -/
def patternEnoughWrong : ChangeSpec := { name := "patternEnough", fn := fun _ => fun
  | [d1, d2, d3, d4] => { results := [.lit (.bool false)], args := [d1, d2, d3, d4] }
  | _ => none }
def PatternEnoughWrongFalsely : Prop := patternEnoughRow.holds Try.pinned (OpenSpec.ofChange patternEnoughWrong)

/-- 'kingpostlaw46.PatternFits': WHATEVER THE INPUT: true; the input reads as it did. -/
def patternFitsSpec : ChangeSpec := { name := "patternFits", fn := fun _ => fun
  | [d1, d2, d3, d4, d5, d6] => { results := [.lit (.bool true)], args := [d1, d2, d3, d4, d5, d6] }
  | _ => none }
def patternFitsRow : OpenClaim := { program := "ytpaniekmapghoaa", sum := "74455a39adcacba286e990aa8aa7d21d252cf3f54413db0bc167900648f13beb", func := "kingpost/kingpostlaw46.PatternFits", spec := "patternFits", unfollowed := true, recurses := true, apart := false }
def PatternFitsSaid : Prop := patternFitsRow.holds Try.pinned (OpenSpec.ofChange patternFitsSpec)

/-- ITS FALSE NEIGHBOUR: 'it returns false'. Refute it at one input. -/
def patternFitsWrong : ChangeSpec := { name := "patternFits", fn := fun _ => fun
  | [d1, d2, d3, d4, d5, d6] => { results := [.lit (.bool false)], args := [d1, d2, d3, d4, d5, d6] }
  | _ => none }
def PatternFitsWrongFalsely : Prop := patternFitsRow.holds Try.pinned (OpenSpec.ofChange patternFitsWrong)

/-- 'kingpostlaw46.PatternMaximal': WHATEVER THE INPUT: true; the input reads as it did. -/
def patternMaximalSpec : ChangeSpec := { name := "patternMaximal", fn := fun _ => fun
  | [d1, d2, d3, d4, d5] => { results := [.lit (.bool true)], args := [d1, d2, d3, d4, d5] }
  | _ => none }
def patternMaximalRow : OpenClaim := { program := "ytpaniekmapghoaa", sum := "74455a39adcacba286e990aa8aa7d21d252cf3f54413db0bc167900648f13beb", func := "kingpost/kingpostlaw46.PatternMaximal", spec := "patternMaximal", unfollowed := true, recurses := true, apart := false }
def PatternMaximalSaid : Prop := patternMaximalRow.holds Try.pinned (OpenSpec.ofChange patternMaximalSpec)

/-- ITS FALSE NEIGHBOUR: 'it returns false'. Refute it at one input. -/
def patternMaximalWrong : ChangeSpec := { name := "patternMaximal", fn := fun _ => fun
  | [d1, d2, d3, d4, d5] => { results := [.lit (.bool false)], args := [d1, d2, d3, d4, d5] }
  | _ => none }
def PatternMaximalWrongFalsely : Prop := patternMaximalRow.holds Try.pinned (OpenSpec.ofChange patternMaximalWrong)

/- THE SECOND FORM. 'bulk': how many values and letters a reading holds, each counted each time it is reached (what is shared counts as often as it is met; a slice's spare places count too). A statement '..UptoSaid' is the law's where the arguments, and the package variables that the reading takes, are together of bulk at most 1048576: NARROWER than '..Said'. Prove '..Said' where nothing that the law and all that it calls make is longer than what came in: it says more and counts as full. Else prove '..UptoSaid'. A law counts once. -/
mutual
def uptoBulk {H : Type} : DataW H → Nat
  | .lit (.string bytes) => bytes.length + 1
  | .lit _ => 1
  | .nil => 1
  | .ptr d => uptoBulk d + 1
  | .slice elems spare => uptoBulkAll elems + uptoBulkAll spare + 1
  | .agg parts => uptoBulkAll parts + 1
  | .iface _ d => uptoBulk d + 1
  | .map entries => uptoBulkEntries entries + 1
  | .held _ => 1
def uptoBulkAll {H : Type} : List (DataW H) → Nat
  | [] => 0
  | d :: r => uptoBulk d + uptoBulkAll r
def uptoBulkEntries {H : Type} : List (Lit × DataW H) → Nat
  | [] => 0
  | x :: r => uptoBulkEntry x + uptoBulkEntries r
def uptoBulkEntry {H : Type} : Lit × DataW H → Nat
  | (.string bytes, d) => bytes.length + uptoBulk d + 1
  | (_, d) => uptoBulk d + 1
 end
def uptoSmall : (H : Type) → List (DataW H) → Bool := fun _ ds => decide (uptoBulkAll ds ≤ 1048576)
def OpenSpec.upto (s : _root_.Go.ChangeSpec) : _root_.Go.OpenSpec := { _root_.Go.OpenSpec.ofChange s with cond := some uptoSmall }

/-- 'kingpostlaw46.PatternLists', WHERE WHAT IT READS IS OF BULK AT MOST 1048576: true; the input reads as it did. -/
def patternListsUptoRow : OpenClaim := { program := "ytpaniekmapghoaa", sum := "74455a39adcacba286e990aa8aa7d21d252cf3f54413db0bc167900648f13beb", func := "kingpost/kingpostlaw46.PatternLists", spec := "patternLists", unfollowed := true, recurses := true, apart := false, narrowed := true }
def PatternListsUptoSaid : Prop := patternListsUptoRow.holds Try.pinned (OpenSpec.upto patternListsSpec)

/-- 'kingpostlaw46.PatternMore', WHERE WHAT IT READS IS OF BULK AT MOST 1048576: true; the input reads as it did. -/
def patternMoreUptoRow : OpenClaim := { program := "ytpaniekmapghoaa", sum := "74455a39adcacba286e990aa8aa7d21d252cf3f54413db0bc167900648f13beb", func := "kingpost/kingpostlaw46.PatternMore", spec := "patternMore", unfollowed := true, recurses := true, apart := false, narrowed := true }
def PatternMoreUptoSaid : Prop := patternMoreUptoRow.holds Try.pinned (OpenSpec.upto patternMoreSpec)

/-- 'kingpostlaw46.PatternLess', WHERE WHAT IT READS IS OF BULK AT MOST 1048576: true; the input reads as it did. -/
def patternLessUptoRow : OpenClaim := { program := "ytpaniekmapghoaa", sum := "74455a39adcacba286e990aa8aa7d21d252cf3f54413db0bc167900648f13beb", func := "kingpost/kingpostlaw46.PatternLess", spec := "patternLess", unfollowed := true, recurses := true, apart := false, narrowed := true }
def PatternLessUptoSaid : Prop := patternLessUptoRow.holds Try.pinned (OpenSpec.upto patternLessSpec)

/-- 'kingpostlaw46.PatternRests', WHERE WHAT IT READS IS OF BULK AT MOST 1048576: true; the input reads as it did. -/
def patternRestsUptoRow : OpenClaim := { program := "ytpaniekmapghoaa", sum := "74455a39adcacba286e990aa8aa7d21d252cf3f54413db0bc167900648f13beb", func := "kingpost/kingpostlaw46.PatternRests", spec := "patternRests", unfollowed := true, recurses := true, apart := false, narrowed := true }
def PatternRestsUptoSaid : Prop := patternRestsUptoRow.holds Try.pinned (OpenSpec.upto patternRestsSpec)

/-- 'kingpostlaw46.PatternLeast', WHERE WHAT IT READS IS OF BULK AT MOST 1048576: true; the input reads as it did. -/
def patternLeastUptoRow : OpenClaim := { program := "ytpaniekmapghoaa", sum := "74455a39adcacba286e990aa8aa7d21d252cf3f54413db0bc167900648f13beb", func := "kingpost/kingpostlaw46.PatternLeast", spec := "patternLeast", unfollowed := true, recurses := true, apart := false, narrowed := true }
def PatternLeastUptoSaid : Prop := patternLeastUptoRow.holds Try.pinned (OpenSpec.upto patternLeastSpec)

/-- 'kingpostlaw46.PatternEnough', WHERE WHAT IT READS IS OF BULK AT MOST 1048576: true; the input reads as it did. -/
def patternEnoughUptoRow : OpenClaim := { program := "ytpaniekmapghoaa", sum := "74455a39adcacba286e990aa8aa7d21d252cf3f54413db0bc167900648f13beb", func := "kingpost/kingpostlaw46.PatternEnough", spec := "patternEnough", unfollowed := true, recurses := true, apart := false, narrowed := true }
def PatternEnoughUptoSaid : Prop := patternEnoughUptoRow.holds Try.pinned (OpenSpec.upto patternEnoughSpec)

/-- 'kingpostlaw46.PatternFits', WHERE WHAT IT READS IS OF BULK AT MOST 1048576: true; the input reads as it did. -/
def patternFitsUptoRow : OpenClaim := { program := "ytpaniekmapghoaa", sum := "74455a39adcacba286e990aa8aa7d21d252cf3f54413db0bc167900648f13beb", func := "kingpost/kingpostlaw46.PatternFits", spec := "patternFits", unfollowed := true, recurses := true, apart := false, narrowed := true }
def PatternFitsUptoSaid : Prop := patternFitsUptoRow.holds Try.pinned (OpenSpec.upto patternFitsSpec)

/-- 'kingpostlaw46.PatternMaximal', WHERE WHAT IT READS IS OF BULK AT MOST 1048576: true; the input reads as it did. -/
def patternMaximalUptoRow : OpenClaim := { program := "ytpaniekmapghoaa", sum := "74455a39adcacba286e990aa8aa7d21d252cf3f54413db0bc167900648f13beb", func := "kingpost/kingpostlaw46.PatternMaximal", spec := "patternMaximal", unfollowed := true, recurses := true, apart := false, narrowed := true }
def PatternMaximalUptoSaid : Prop := patternMaximalUptoRow.holds Try.pinned (OpenSpec.upto patternMaximalSpec)

end Rows
end Go.Proofs.Ytpaniekmapghoaa
