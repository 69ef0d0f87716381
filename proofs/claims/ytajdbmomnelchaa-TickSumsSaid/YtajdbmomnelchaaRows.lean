/-
  No cell of these rows narrows 'for every input' (looked for: loops, veiled, ifaces, maps, wideKeys, modest, calm, conditions, laid).
  DERIVED. THE GIVEN ROWS OF THIS SEAT. 7 by the template 'for every input the law returns true; each argument reads behind the call as it read before'; 0 by the template 'total and deterministic' (their statements: YtajdbmomnelchaaTotals.lean).
  GIVEN WITH THE SEED: the statements are not yours to turn. If you find one false, say at which input.
  Laid BY PROGRAM, IN A SANDBOX (cutbox-rows.mjs): the forced cells as the released guide's own fill.sh prints them over the translation ce06802b4d269a80… (all of the seat's roots in one cut). By AI agents, Wed Nov 11 2026. No macro, syntax, notation, axiom, sorry.
-/
import Derived.Test.YtajdbmomnelchaaChecked
import GoSem.Claim
import GoSem.ClaimJoined
import GoSem.ClaimMapViews
import Derived.JoinedTies
import Derived.KernelRfl
namespace Go.Proofs.Ytajdbmomnelchaa
/- THE CELL 'sum', in the pinned program and in every row, IS THE sha256 OF THE DUMP (.gsa) THAT YtajdbmomnelchaaProg.lean LOADS. Nothing in Lean hashes anything: it is a label: what it is worth is what the hold of that sum in a sandbox is worth. -/
noncomputable def Try.pinned : Pinned := { name := "ytajdbmomnelchaa", sum := "ce06802b4d269a8032e8667bc0b7ac63bef2fa3572d5a41f43658a1e8f791469", checked := Try.checked }
namespace Rows
def none {H : Type} : Left H := { results := [], args := [] }

/-- 'skeplaw01.TickSums': WHATEVER THE INPUT: true; the input reads as it did. -/
def tickSumsSpec : ChangeSpec := { name := "tickSums", fn := fun _ => fun
  | [d1, d2] => { results := [.lit (.bool true)], args := [d1, d2] }
  | _ => none }
def tickSumsRow : OpenClaim := { program := "ytajdbmomnelchaa", sum := "ce06802b4d269a8032e8667bc0b7ac63bef2fa3572d5a41f43658a1e8f791469", func := "skep/skeplaw01.TickSums", spec := "tickSums", apart := false }
def TickSumsSaid : Prop := tickSumsRow.holds Try.pinned (OpenSpec.ofChange tickSumsSpec)

/-- ITS FALSE NEIGHBOUR: 'it returns false'. Refute it at one input. -/
def tickSumsWrong : ChangeSpec := { name := "tickSums", fn := fun _ => fun
  | [d1, d2] => { results := [.lit (.bool false)], args := [d1, d2] }
  | _ => none }
def TickSumsWrongFalsely : Prop := tickSumsRow.holds Try.pinned (OpenSpec.ofChange tickSumsWrong)

/-- 'skeplaw01.TickTimes': WHATEVER THE INPUT: true; the input reads as it did. -/
def tickTimesSpec : ChangeSpec := { name := "tickTimes", fn := fun _ => fun
  | [d1, d2] => { results := [.lit (.bool true)], args := [d1, d2] }
  | _ => none }
def tickTimesRow : OpenClaim := { program := "ytajdbmomnelchaa", sum := "ce06802b4d269a8032e8667bc0b7ac63bef2fa3572d5a41f43658a1e8f791469", func := "skep/skeplaw01.TickTimes", spec := "tickTimes", apart := false }
def TickTimesSaid : Prop := tickTimesRow.holds Try.pinned (OpenSpec.ofChange tickTimesSpec)

/-- ITS FALSE NEIGHBOUR: 'it returns false'. Refute it at one input. -/
def tickTimesWrong : ChangeSpec := { name := "tickTimes", fn := fun _ => fun
  | [d1, d2] => { results := [.lit (.bool false)], args := [d1, d2] }
  | _ => none }
def TickTimesWrongFalsely : Prop := tickTimesRow.holds Try.pinned (OpenSpec.ofChange tickTimesWrong)

/-- 'skeplaw01.TickLaws': WHATEVER THE INPUT: true; the input reads as it did. -/
def tickLawsSpec : ChangeSpec := { name := "tickLaws", fn := fun _ => fun
  | [d1, d2, d3] => { results := [.lit (.bool true)], args := [d1, d2, d3] }
  | _ => none }
def tickLawsRow : OpenClaim := { program := "ytajdbmomnelchaa", sum := "ce06802b4d269a8032e8667bc0b7ac63bef2fa3572d5a41f43658a1e8f791469", func := "skep/skeplaw01.TickLaws", spec := "tickLaws", apart := false }
def TickLawsSaid : Prop := tickLawsRow.holds Try.pinned (OpenSpec.ofChange tickLawsSpec)

/-- ITS FALSE NEIGHBOUR: 'it returns false'. Refute it at one input. -/
def tickLawsWrong : ChangeSpec := { name := "tickLaws", fn := fun _ => fun
  | [d1, d2, d3] => { results := [.lit (.bool false)], args := [d1, d2, d3] }
  | _ => none }
def TickLawsWrongFalsely : Prop := tickLawsRow.holds Try.pinned (OpenSpec.ofChange tickLawsWrong)

/-- 'skeplaw01.TickIn': WHATEVER THE INPUT: true; the input reads as it did. -/
def tickInSpec : ChangeSpec := { name := "tickIn", fn := fun _ => fun
  | [d1, d2, d3] => { results := [.lit (.bool true)], args := [d1, d2, d3] }
  | _ => none }
def tickInRow : OpenClaim := { program := "ytajdbmomnelchaa", sum := "ce06802b4d269a8032e8667bc0b7ac63bef2fa3572d5a41f43658a1e8f791469", func := "skep/skeplaw01.TickIn", spec := "tickIn", apart := false }
def TickInSaid : Prop := tickInRow.holds Try.pinned (OpenSpec.ofChange tickInSpec)

/-- ITS FALSE NEIGHBOUR: 'it returns false'. Refute it at one input. -/
def tickInWrong : ChangeSpec := { name := "tickIn", fn := fun _ => fun
  | [d1, d2, d3] => { results := [.lit (.bool false)], args := [d1, d2, d3] }
  | _ => none }
def TickInWrongFalsely : Prop := tickInRow.holds Try.pinned (OpenSpec.ofChange tickInWrong)

/-- 'skeplaw01.TickBack': WHATEVER THE INPUT: true; the input reads as it did. -/
def tickBackSpec : ChangeSpec := { name := "tickBack", fn := fun _ => fun
  | [d1, d2] => { results := [.lit (.bool true)], args := [d1, d2] }
  | _ => none }
def tickBackRow : OpenClaim := { program := "ytajdbmomnelchaa", sum := "ce06802b4d269a8032e8667bc0b7ac63bef2fa3572d5a41f43658a1e8f791469", func := "skep/skeplaw01.TickBack", spec := "tickBack", apart := false }
def TickBackSaid : Prop := tickBackRow.holds Try.pinned (OpenSpec.ofChange tickBackSpec)

/-- ITS FALSE NEIGHBOUR: 'it returns false'. Refute it at one input. -/
def tickBackWrong : ChangeSpec := { name := "tickBack", fn := fun _ => fun
  | [d1, d2] => { results := [.lit (.bool false)], args := [d1, d2] }
  | _ => none }
def TickBackWrongFalsely : Prop := tickBackRow.holds Try.pinned (OpenSpec.ofChange tickBackWrong)

/-- 'skeplaw01.TickAway': WHATEVER THE INPUT: true; the input reads as it did. -/
def tickAwaySpec : ChangeSpec := { name := "tickAway", fn := fun _ => fun
  | [d1, d2, d3] => { results := [.lit (.bool true)], args := [d1, d2, d3] }
  | _ => none }
def tickAwayRow : OpenClaim := { program := "ytajdbmomnelchaa", sum := "ce06802b4d269a8032e8667bc0b7ac63bef2fa3572d5a41f43658a1e8f791469", func := "skep/skeplaw01.TickAway", spec := "tickAway", apart := false }
def TickAwaySaid : Prop := tickAwayRow.holds Try.pinned (OpenSpec.ofChange tickAwaySpec)

/-- ITS FALSE NEIGHBOUR: 'it returns false'. Refute it at one input. -/
def tickAwayWrong : ChangeSpec := { name := "tickAway", fn := fun _ => fun
  | [d1, d2, d3] => { results := [.lit (.bool false)], args := [d1, d2, d3] }
  | _ => none }
def TickAwayWrongFalsely : Prop := tickAwayRow.holds Try.pinned (OpenSpec.ofChange tickAwayWrong)

/-- 'skeplaw01.TickSplit': WHATEVER THE INPUT: true; the input reads as it did. -/
def tickSplitSpec : ChangeSpec := { name := "tickSplit", fn := fun _ => fun
  | [d1, d2, d3] => { results := [.lit (.bool true)], args := [d1, d2, d3] }
  | _ => none }
def tickSplitRow : OpenClaim := { program := "ytajdbmomnelchaa", sum := "ce06802b4d269a8032e8667bc0b7ac63bef2fa3572d5a41f43658a1e8f791469", func := "skep/skeplaw01.TickSplit", spec := "tickSplit", apart := false }
def TickSplitSaid : Prop := tickSplitRow.holds Try.pinned (OpenSpec.ofChange tickSplitSpec)

/-- ITS FALSE NEIGHBOUR: 'it returns false'. Refute it at one input. -/
def tickSplitWrong : ChangeSpec := { name := "tickSplit", fn := fun _ => fun
  | [d1, d2, d3] => { results := [.lit (.bool false)], args := [d1, d2, d3] }
  | _ => none }
def TickSplitWrongFalsely : Prop := tickSplitRow.holds Try.pinned (OpenSpec.ofChange tickSplitWrong)

/- THE SECOND FORM. 'bulk': how many values and letters a reading holds, each counted each time it is reached (what is shared counts as often as it is met; a slice's spare places count too). A statement '..UptoSaid' is the law's where the arguments, and the package variables that the reading takes, are together of bulk at most 1048576: NARROWER than '..Said'. Prove '..Said' where nothing that the law and all that it calls make is longer than what came in: it says more and counts as full. Else prove '..UptoSaid'. A law counts once. -/
mutual
def uptoBulk {H : Type} : DataW H → Nat
  | .lit (.string bytes) => bytes.length + 1
  | .lit _ => 1
  | .nil => 1
  | .ptr d => uptoBulk d + 1
  | .slice elems spare => uptoBulkAll elems + uptoBulkAll spare + 1
  | .agg parts => uptoBulkAll parts + 1
  | .iface _ d => uptoBulk d + 1
  | .map entries => uptoBulkEntries entries + 1
  | .held _ => 1
def uptoBulkAll {H : Type} : List (DataW H) → Nat
  | [] => 0
  | d :: r => uptoBulk d + uptoBulkAll r
def uptoBulkEntries {H : Type} : List (Lit × DataW H) → Nat
  | [] => 0
  | x :: r => uptoBulkEntry x + uptoBulkEntries r
def uptoBulkEntry {H : Type} : Lit × DataW H → Nat
  | (.string bytes, d) => bytes.length + uptoBulk d + 1
  | (_, d) => uptoBulk d + 1
 end
def uptoSmall : (H : Type) → List (DataW H) → Bool := fun _ ds => decide (uptoBulkAll ds ≤ 1048576)
def OpenSpec.upto (s : _root_.Go.ChangeSpec) : _root_.Go.OpenSpec := { _root_.Go.OpenSpec.ofChange s with cond := some uptoSmall }

/-- 'skeplaw01.TickSums', WHERE WHAT IT READS IS OF BULK AT MOST 1048576: true; the input reads as it did. -/
def tickSumsUptoRow : OpenClaim := { program := "ytajdbmomnelchaa", sum := "ce06802b4d269a8032e8667bc0b7ac63bef2fa3572d5a41f43658a1e8f791469", func := "skep/skeplaw01.TickSums", spec := "tickSums", apart := false, narrowed := true }
def TickSumsUptoSaid : Prop := tickSumsUptoRow.holds Try.pinned (OpenSpec.upto tickSumsSpec)

/-- 'skeplaw01.TickTimes', WHERE WHAT IT READS IS OF BULK AT MOST 1048576: true; the input reads as it did. -/
def tickTimesUptoRow : OpenClaim := { program := "ytajdbmomnelchaa", sum := "ce06802b4d269a8032e8667bc0b7ac63bef2fa3572d5a41f43658a1e8f791469", func := "skep/skeplaw01.TickTimes", spec := "tickTimes", apart := false, narrowed := true }
def TickTimesUptoSaid : Prop := tickTimesUptoRow.holds Try.pinned (OpenSpec.upto tickTimesSpec)

/-- 'skeplaw01.TickLaws', WHERE WHAT IT READS IS OF BULK AT MOST 1048576: true; the input reads as it did. -/
def tickLawsUptoRow : OpenClaim := { program := "ytajdbmomnelchaa", sum := "ce06802b4d269a8032e8667bc0b7ac63bef2fa3572d5a41f43658a1e8f791469", func := "skep/skeplaw01.TickLaws", spec := "tickLaws", apart := false, narrowed := true }
def TickLawsUptoSaid : Prop := tickLawsUptoRow.holds Try.pinned (OpenSpec.upto tickLawsSpec)

/-- 'skeplaw01.TickIn', WHERE WHAT IT READS IS OF BULK AT MOST 1048576: true; the input reads as it did. -/
def tickInUptoRow : OpenClaim := { program := "ytajdbmomnelchaa", sum := "ce06802b4d269a8032e8667bc0b7ac63bef2fa3572d5a41f43658a1e8f791469", func := "skep/skeplaw01.TickIn", spec := "tickIn", apart := false, narrowed := true }
def TickInUptoSaid : Prop := tickInUptoRow.holds Try.pinned (OpenSpec.upto tickInSpec)

/-- 'skeplaw01.TickBack', WHERE WHAT IT READS IS OF BULK AT MOST 1048576: true; the input reads as it did. -/
def tickBackUptoRow : OpenClaim := { program := "ytajdbmomnelchaa", sum := "ce06802b4d269a8032e8667bc0b7ac63bef2fa3572d5a41f43658a1e8f791469", func := "skep/skeplaw01.TickBack", spec := "tickBack", apart := false, narrowed := true }
def TickBackUptoSaid : Prop := tickBackUptoRow.holds Try.pinned (OpenSpec.upto tickBackSpec)

/-- 'skeplaw01.TickAway', WHERE WHAT IT READS IS OF BULK AT MOST 1048576: true; the input reads as it did. -/
def tickAwayUptoRow : OpenClaim := { program := "ytajdbmomnelchaa", sum := "ce06802b4d269a8032e8667bc0b7ac63bef2fa3572d5a41f43658a1e8f791469", func := "skep/skeplaw01.TickAway", spec := "tickAway", apart := false, narrowed := true }
def TickAwayUptoSaid : Prop := tickAwayUptoRow.holds Try.pinned (OpenSpec.upto tickAwaySpec)

/-- 'skeplaw01.TickSplit', WHERE WHAT IT READS IS OF BULK AT MOST 1048576: true; the input reads as it did. -/
def tickSplitUptoRow : OpenClaim := { program := "ytajdbmomnelchaa", sum := "ce06802b4d269a8032e8667bc0b7ac63bef2fa3572d5a41f43658a1e8f791469", func := "skep/skeplaw01.TickSplit", spec := "tickSplit", apart := false, narrowed := true }
def TickSplitUptoSaid : Prop := tickSplitUptoRow.holds Try.pinned (OpenSpec.upto tickSplitSpec)

end Rows
end Go.Proofs.Ytajdbmomnelchaa
