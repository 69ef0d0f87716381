/-
  No cell of these rows narrows 'for every input' (looked for: loops, veiled, ifaces, maps, wideKeys, modest, calm, conditions, laid).
  DERIVED. THE GIVEN ROWS OF THIS SEAT. 9 by the template 'for every input the law returns true; each argument reads behind the call as it read before'; 0 by the template 'total and deterministic' (their statements: YtocbjadhcfjfiaaTotals.lean).
  GIVEN WITH THE SEED: the statements are not yours to turn. If you find one false, say at which input.
  Laid BY PROGRAM, IN A SANDBOX (cutbox-rows.mjs): the forced cells as the released guide's own fill.sh prints them over the translation 0214e86a4b67ede1… (all of the seat's roots in one cut). By AI agents, Wed Nov 11 2026. No macro, syntax, notation, axiom, sorry.
-/
import Derived.Test.YtocbjadhcfjfiaaChecked
import GoSem.Claim
import GoSem.ClaimJoined
import GoSem.ClaimMapViews
import Derived.JoinedTies
import Derived.KernelRfl
namespace Go.Proofs.Ytocbjadhcfjfiaa
/- THE CELL 'sum', in the pinned program and in every row, IS THE sha256 OF THE DUMP (.gsa) THAT YtocbjadhcfjfiaaProg.lean LOADS. Nothing in Lean hashes anything: it is a label: what it is worth is what the hold of that sum in a sandbox is worth. -/
noncomputable def Try.pinned : Pinned := { name := "ytocbjadhcfjfiaa", sum := "0214e86a4b67ede1880e6bbab6b00207201845b57acc0f348d842f107741dfb4", checked := Try.checked }
namespace Rows
def none {H : Type} : Left H := { results := [], args := [] }

/-- 'skeplaw05.CodecNumbers': WHATEVER THE INPUT: true; the input reads as it did. -/
def codecNumbersSpec : ChangeSpec := { name := "codecNumbers", fn := fun _ => fun
  | [d1, d2, d3] => { results := [.lit (.bool true)], args := [d1, d2, d3] }
  | _ => none }
def codecNumbersRow : OpenClaim := { program := "ytocbjadhcfjfiaa", sum := "0214e86a4b67ede1880e6bbab6b00207201845b57acc0f348d842f107741dfb4", func := "skep/skeplaw05.CodecNumbers", spec := "codecNumbers", unfollowed := true, recurses := true, apart := false }
def CodecNumbersSaid : Prop := codecNumbersRow.holds Try.pinned (OpenSpec.ofChange codecNumbersSpec)

/-- ITS FALSE NEIGHBOUR: 'it returns false'. Refute it at one input. -/
def codecNumbersWrong : ChangeSpec := { name := "codecNumbers", fn := fun _ => fun
  | [d1, d2, d3] => { results := [.lit (.bool false)], args := [d1, d2, d3] }
  | _ => none }
def CodecNumbersWrongFalsely : Prop := codecNumbersRow.holds Try.pinned (OpenSpec.ofChange codecNumbersWrong)

/-- 'skeplaw05.CodecOps': WHATEVER THE INPUT: true; the input reads as it did. -/
def codecOpsSpec : ChangeSpec := { name := "codecOps", fn := fun _ => fun
  | [d1, d2] => { results := [.lit (.bool true)], args := [d1, d2] }
  | _ => none }
def codecOpsRow : OpenClaim := { program := "ytocbjadhcfjfiaa", sum := "0214e86a4b67ede1880e6bbab6b00207201845b57acc0f348d842f107741dfb4", func := "skep/skeplaw05.CodecOps", spec := "codecOps", unfollowed := true, recurses := true, apart := false }
def CodecOpsSaid : Prop := codecOpsRow.holds Try.pinned (OpenSpec.ofChange codecOpsSpec)

/-- ITS FALSE NEIGHBOUR: 'it returns false'. Refute it at one input. -/
def codecOpsWrong : ChangeSpec := { name := "codecOps", fn := fun _ => fun
  | [d1, d2] => { results := [.lit (.bool false)], args := [d1, d2] }
  | _ => none }
def CodecOpsWrongFalsely : Prop := codecOpsRow.holds Try.pinned (OpenSpec.ofChange codecOpsWrong)

/-- 'skeplaw05.CodecSizes': WHATEVER THE INPUT: true; the input reads as it did. -/
def codecSizesSpec : ChangeSpec := { name := "codecSizes", fn := fun _ => fun
  | [d1, d2] => { results := [.lit (.bool true)], args := [d1, d2] }
  | _ => none }
def codecSizesRow : OpenClaim := { program := "ytocbjadhcfjfiaa", sum := "0214e86a4b67ede1880e6bbab6b00207201845b57acc0f348d842f107741dfb4", func := "skep/skeplaw05.CodecSizes", spec := "codecSizes", unfollowed := true, recurses := true, apart := false }
def CodecSizesSaid : Prop := codecSizesRow.holds Try.pinned (OpenSpec.ofChange codecSizesSpec)

/-- ITS FALSE NEIGHBOUR: 'it returns false'. Refute it at one input. -/
def codecSizesWrong : ChangeSpec := { name := "codecSizes", fn := fun _ => fun
  | [d1, d2] => { results := [.lit (.bool false)], args := [d1, d2] }
  | _ => none }
def CodecSizesWrongFalsely : Prop := codecSizesRow.holds Try.pinned (OpenSpec.ofChange codecSizesWrong)

/-- 'skeplaw05.CodecUnlike': WHATEVER THE INPUT: true; the input reads as it did. -/
def codecUnlikeSpec : ChangeSpec := { name := "codecUnlike", fn := fun _ => fun
  | [d1, d2, d3, d4] => { results := [.lit (.bool true)], args := [d1, d2, d3, d4] }
  | _ => none }
def codecUnlikeRow : OpenClaim := { program := "ytocbjadhcfjfiaa", sum := "0214e86a4b67ede1880e6bbab6b00207201845b57acc0f348d842f107741dfb4", func := "skep/skeplaw05.CodecUnlike", spec := "codecUnlike", unfollowed := true, recurses := true, apart := false }
def CodecUnlikeSaid : Prop := codecUnlikeRow.holds Try.pinned (OpenSpec.ofChange codecUnlikeSpec)

/-- ITS FALSE NEIGHBOUR: 'it returns false'. Refute it at one input. -/
def codecUnlikeWrong : ChangeSpec := { name := "codecUnlike", fn := fun _ => fun
  | [d1, d2, d3, d4] => { results := [.lit (.bool false)], args := [d1, d2, d3, d4] }
  | _ => none }
def CodecUnlikeWrongFalsely : Prop := codecUnlikeRow.holds Try.pinned (OpenSpec.ofChange codecUnlikeWrong)

/-- 'skeplaw05.CodecTeles': WHATEVER THE INPUT: true; the input reads as it did. -/
def codecTelesSpec : ChangeSpec := { name := "codecTeles", fn := fun _ => fun
  | [d1, d2] => { results := [.lit (.bool true)], args := [d1, d2] }
  | _ => none }
def codecTelesRow : OpenClaim := { program := "ytocbjadhcfjfiaa", sum := "0214e86a4b67ede1880e6bbab6b00207201845b57acc0f348d842f107741dfb4", func := "skep/skeplaw05.CodecTeles", spec := "codecTeles", unfollowed := true, recurses := true, apart := false }
def CodecTelesSaid : Prop := codecTelesRow.holds Try.pinned (OpenSpec.ofChange codecTelesSpec)

/-- ITS FALSE NEIGHBOUR: 'it returns false'. Refute it at one input. -/
def codecTelesWrong : ChangeSpec := { name := "codecTeles", fn := fun _ => fun
  | [d1, d2] => { results := [.lit (.bool false)], args := [d1, d2] }
  | _ => none }
def CodecTelesWrongFalsely : Prop := codecTelesRow.holds Try.pinned (OpenSpec.ofChange codecTelesWrong)

/-- 'skeplaw05.CodecEvents': WHATEVER THE INPUT: true; the input reads as it did. -/
def codecEventsSpec : ChangeSpec := { name := "codecEvents", fn := fun _ => fun
  | [d1, d2] => { results := [.lit (.bool true)], args := [d1, d2] }
  | _ => none }
def codecEventsRow : OpenClaim := { program := "ytocbjadhcfjfiaa", sum := "0214e86a4b67ede1880e6bbab6b00207201845b57acc0f348d842f107741dfb4", func := "skep/skeplaw05.CodecEvents", spec := "codecEvents", unfollowed := true, recurses := true, apart := false }
def CodecEventsSaid : Prop := codecEventsRow.holds Try.pinned (OpenSpec.ofChange codecEventsSpec)

/-- ITS FALSE NEIGHBOUR: 'it returns false'. Refute it at one input. -/
def codecEventsWrong : ChangeSpec := { name := "codecEvents", fn := fun _ => fun
  | [d1, d2] => { results := [.lit (.bool false)], args := [d1, d2] }
  | _ => none }
def CodecEventsWrongFalsely : Prop := codecEventsRow.holds Try.pinned (OpenSpec.ofChange codecEventsWrong)

/-- 'skeplaw05.CodecStates': WHATEVER THE INPUT: true; the input reads as it did. -/
def codecStatesSpec : ChangeSpec := { name := "codecStates", fn := fun _ => fun
  | [d1, d2] => { results := [.lit (.bool true)], args := [d1, d2] }
  | _ => none }
def codecStatesRow : OpenClaim := { program := "ytocbjadhcfjfiaa", sum := "0214e86a4b67ede1880e6bbab6b00207201845b57acc0f348d842f107741dfb4", func := "skep/skeplaw05.CodecStates", spec := "codecStates", unfollowed := true, recurses := true, apart := false }
def CodecStatesSaid : Prop := codecStatesRow.holds Try.pinned (OpenSpec.ofChange codecStatesSpec)

/-- ITS FALSE NEIGHBOUR: 'it returns false'. Refute it at one input. -/
def codecStatesWrong : ChangeSpec := { name := "codecStates", fn := fun _ => fun
  | [d1, d2] => { results := [.lit (.bool false)], args := [d1, d2] }
  | _ => none }
def CodecStatesWrongFalsely : Prop := codecStatesRow.holds Try.pinned (OpenSpec.ofChange codecStatesWrong)

/-- 'skeplaw05.CodecCuts': WHATEVER THE INPUT: true; the input reads as it did. -/
def codecCutsSpec : ChangeSpec := { name := "codecCuts", fn := fun _ => fun
  | [d1, d2, d3, d4] => { results := [.lit (.bool true)], args := [d1, d2, d3, d4] }
  | _ => none }
def codecCutsRow : OpenClaim := { program := "ytocbjadhcfjfiaa", sum := "0214e86a4b67ede1880e6bbab6b00207201845b57acc0f348d842f107741dfb4", func := "skep/skeplaw05.CodecCuts", spec := "codecCuts", unfollowed := true, recurses := true, apart := false }
def CodecCutsSaid : Prop := codecCutsRow.holds Try.pinned (OpenSpec.ofChange codecCutsSpec)

/-- ITS FALSE NEIGHBOUR: 'it returns false'. Refute it at one input. -/
def codecCutsWrong : ChangeSpec := { name := "codecCuts", fn := fun _ => fun
  | [d1, d2, d3, d4] => { results := [.lit (.bool false)], args := [d1, d2, d3, d4] }
  | _ => none }
def CodecCutsWrongFalsely : Prop := codecCutsRow.holds Try.pinned (OpenSpec.ofChange codecCutsWrong)

/-- 'skeplaw05.CodecOne': WHATEVER THE INPUT: true; the input reads as it did. -/
def codecOneSpec : ChangeSpec := { name := "codecOne", fn := fun _ => fun
  | [d] => { results := [.lit (.bool true)], args := [d] }
  | _ => none }
def codecOneRow : OpenClaim := { program := "ytocbjadhcfjfiaa", sum := "0214e86a4b67ede1880e6bbab6b00207201845b57acc0f348d842f107741dfb4", func := "skep/skeplaw05.CodecOne", spec := "codecOne", unfollowed := true, recurses := true, apart := false }
def CodecOneSaid : Prop := codecOneRow.holds Try.pinned (OpenSpec.ofChange codecOneSpec)

/-- ITS FALSE NEIGHBOUR: 'it returns false'. Refute it at one input. -/
def codecOneWrong : ChangeSpec := { name := "codecOne", fn := fun _ => fun
  | [d] => { results := [.lit (.bool false)], args := [d] }
  | _ => none }
def CodecOneWrongFalsely : Prop := codecOneRow.holds Try.pinned (OpenSpec.ofChange codecOneWrong)

/- THE SECOND FORM. 'bulk': how many values and letters a reading holds, each counted each time it is reached (what is shared counts as often as it is met; a slice's spare places count too). A statement '..UptoSaid' is the law's where the arguments, and the package variables that the reading takes, are together of bulk at most 1048576: NARROWER than '..Said'. Prove '..Said' where nothing that the law and all that it calls make is longer than what came in: it says more and counts as full. Else prove '..UptoSaid'. A law counts once. -/
mutual
def uptoBulk {H : Type} : DataW H → Nat
  | .lit (.string bytes) => bytes.length + 1
  | .lit _ => 1
  | .nil => 1
  | .ptr d => uptoBulk d + 1
  | .slice elems spare => uptoBulkAll elems + uptoBulkAll spare + 1
  | .agg parts => uptoBulkAll parts + 1
  | .iface _ d => uptoBulk d + 1
  | .map entries => uptoBulkEntries entries + 1
  | .held _ => 1
def uptoBulkAll {H : Type} : List (DataW H) → Nat
  | [] => 0
  | d :: r => uptoBulk d + uptoBulkAll r
def uptoBulkEntries {H : Type} : List (Lit × DataW H) → Nat
  | [] => 0
  | x :: r => uptoBulkEntry x + uptoBulkEntries r
def uptoBulkEntry {H : Type} : Lit × DataW H → Nat
  | (.string bytes, d) => bytes.length + uptoBulk d + 1
  | (_, d) => uptoBulk d + 1
 end
def uptoSmall : (H : Type) → List (DataW H) → Bool := fun _ ds => decide (uptoBulkAll ds ≤ 1048576)
def OpenSpec.upto (s : _root_.Go.ChangeSpec) : _root_.Go.OpenSpec := { _root_.Go.OpenSpec.ofChange s with cond := some uptoSmall }

/-- 'skeplaw05.CodecNumbers', WHERE WHAT IT READS IS OF BULK AT MOST 1048576: true; the input reads as it did. -/
def codecNumbersUptoRow : OpenClaim := { program := "ytocbjadhcfjfiaa", sum := "0214e86a4b67ede1880e6bbab6b00207201845b57acc0f348d842f107741dfb4", func := "skep/skeplaw05.CodecNumbers", spec := "codecNumbers", unfollowed := true, recurses := true, apart := false, narrowed := true }
def CodecNumbersUptoSaid : Prop := codecNumbersUptoRow.holds Try.pinned (OpenSpec.upto codecNumbersSpec)

/-- 'skeplaw05.CodecOps', WHERE WHAT IT READS IS OF BULK AT MOST 1048576: true; the input reads as it did. -/
def codecOpsUptoRow : OpenClaim := { program := "ytocbjadhcfjfiaa", sum := "0214e86a4b67ede1880e6bbab6b00207201845b57acc0f348d842f107741dfb4", func := "skep/skeplaw05.CodecOps", spec := "codecOps", unfollowed := true, recurses := true, apart := false, narrowed := true }
def CodecOpsUptoSaid : Prop := codecOpsUptoRow.holds Try.pinned (OpenSpec.upto codecOpsSpec)

/-- 'skeplaw05.CodecSizes', WHERE WHAT IT READS IS OF BULK AT MOST 1048576: true; the input reads as it did. -/
def codecSizesUptoRow : OpenClaim := { program := "ytocbjadhcfjfiaa", sum := "0214e86a4b67ede1880e6bbab6b00207201845b57acc0f348d842f107741dfb4", func := "skep/skeplaw05.CodecSizes", spec := "codecSizes", unfollowed := true, recurses := true, apart := false, narrowed := true }
def CodecSizesUptoSaid : Prop := codecSizesUptoRow.holds Try.pinned (OpenSpec.upto codecSizesSpec)

/-- 'skeplaw05.CodecUnlike', WHERE WHAT IT READS IS OF BULK AT MOST 1048576: true; the input reads as it did. -/
def codecUnlikeUptoRow : OpenClaim := { program := "ytocbjadhcfjfiaa", sum := "0214e86a4b67ede1880e6bbab6b00207201845b57acc0f348d842f107741dfb4", func := "skep/skeplaw05.CodecUnlike", spec := "codecUnlike", unfollowed := true, recurses := true, apart := false, narrowed := true }
def CodecUnlikeUptoSaid : Prop := codecUnlikeUptoRow.holds Try.pinned (OpenSpec.upto codecUnlikeSpec)

/-- 'skeplaw05.CodecTeles', WHERE WHAT IT READS IS OF BULK AT MOST 1048576: true; the input reads as it did. -/
def codecTelesUptoRow : OpenClaim := { program := "ytocbjadhcfjfiaa", sum := "0214e86a4b67ede1880e6bbab6b00207201845b57acc0f348d842f107741dfb4", func := "skep/skeplaw05.CodecTeles", spec := "codecTeles", unfollowed := true, recurses := true, apart := false, narrowed := true }
def CodecTelesUptoSaid : Prop := codecTelesUptoRow.holds Try.pinned (OpenSpec.upto codecTelesSpec)

/-- 'skeplaw05.CodecEvents', WHERE WHAT IT READS IS OF BULK AT MOST 1048576: true; the input reads as it did. -/
def codecEventsUptoRow : OpenClaim := { program := "ytocbjadhcfjfiaa", sum := "0214e86a4b67ede1880e6bbab6b00207201845b57acc0f348d842f107741dfb4", func := "skep/skeplaw05.CodecEvents", spec := "codecEvents", unfollowed := true, recurses := true, apart := false, narrowed := true }
def CodecEventsUptoSaid : Prop := codecEventsUptoRow.holds Try.pinned (OpenSpec.upto codecEventsSpec)

/-- 'skeplaw05.CodecStates', WHERE WHAT IT READS IS OF BULK AT MOST 1048576: true; the input reads as it did. -/
def codecStatesUptoRow : OpenClaim := { program := "ytocbjadhcfjfiaa", sum := "0214e86a4b67ede1880e6bbab6b00207201845b57acc0f348d842f107741dfb4", func := "skep/skeplaw05.CodecStates", spec := "codecStates", unfollowed := true, recurses := true, apart := false, narrowed := true }
def CodecStatesUptoSaid : Prop := codecStatesUptoRow.holds Try.pinned (OpenSpec.upto codecStatesSpec)

/-- 'skeplaw05.CodecCuts', WHERE WHAT IT READS IS OF BULK AT MOST 1048576: true; the input reads as it did. -/
def codecCutsUptoRow : OpenClaim := { program := "ytocbjadhcfjfiaa", sum := "0214e86a4b67ede1880e6bbab6b00207201845b57acc0f348d842f107741dfb4", func := "skep/skeplaw05.CodecCuts", spec := "codecCuts", unfollowed := true, recurses := true, apart := false, narrowed := true }
def CodecCutsUptoSaid : Prop := codecCutsUptoRow.holds Try.pinned (OpenSpec.upto codecCutsSpec)

/-- 'skeplaw05.CodecOne', WHERE WHAT IT READS IS OF BULK AT MOST 1048576: true; the input reads as it did. -/
def codecOneUptoRow : OpenClaim := { program := "ytocbjadhcfjfiaa", sum := "0214e86a4b67ede1880e6bbab6b00207201845b57acc0f348d842f107741dfb4", func := "skep/skeplaw05.CodecOne", spec := "codecOne", unfollowed := true, recurses := true, apart := false, narrowed := true }
def CodecOneUptoSaid : Prop := codecOneUptoRow.holds Try.pinned (OpenSpec.upto codecOneSpec)

end Rows
end Go.Proofs.Ytocbjadhcfjfiaa
