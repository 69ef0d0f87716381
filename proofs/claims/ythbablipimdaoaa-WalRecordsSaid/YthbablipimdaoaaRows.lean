/-
  No cell of these rows narrows 'for every input' (looked for: loops, veiled, ifaces, maps, wideKeys, modest, calm, conditions, laid).
  DERIVED. THE GIVEN ROWS OF THIS SEAT. 7 by the template 'for every input the law returns true; each argument reads behind the call as it read before'; 0 by the template 'total and deterministic' (their statements: YthbablipimdaoaaTotals.lean).
  GIVEN WITH THE SEED: the statements are not yours to turn. If you find one false, say at which input.
  Laid BY PROGRAM, IN A SANDBOX (cutbox-rows.mjs): the forced cells as the released guide's own fill.sh prints them over the translation 547a10166c3a72c9… (all of the seat's roots in one cut). By AI agents, Wed Nov 11 2026. No macro, syntax, notation, axiom, sorry.
-/
import Derived.Test.YthbablipimdaoaaChecked
import GoSem.Claim
import GoSem.ClaimJoined
import GoSem.ClaimMapViews
import Derived.JoinedTies
import Derived.KernelRfl
namespace Go.Proofs.Ythbablipimdaoaa
/- THE CELL 'sum', in the pinned program and in every row, IS THE sha256 OF THE DUMP (.gsa) THAT YthbablipimdaoaaProg.lean LOADS. Nothing in Lean hashes anything: it is a label: what it is worth is what the hold of that sum in a sandbox is worth. -/
noncomputable def Try.pinned : Pinned := { name := "ythbablipimdaoaa", sum := "547a10166c3a72c9b689a64b180b95ece28439e5549186642173949965066730", checked := Try.checked }
namespace Rows
def none {H : Type} : Left H := { results := [], args := [] }

/-- 'skeplaw04.WalRecords': WHATEVER THE INPUT: true; the input reads as it did. -/
def walRecordsSpec : ChangeSpec := { name := "walRecords", fn := fun _ => fun
  | [d1, d2] => { results := [.lit (.bool true)], args := [d1, d2] }
  | _ => none }
def walRecordsRow : OpenClaim := { program := "ythbablipimdaoaa", sum := "547a10166c3a72c9b689a64b180b95ece28439e5549186642173949965066730", func := "skep/skeplaw04.WalRecords", spec := "walRecords", unfollowed := true, recurses := true, apart := false }
def WalRecordsSaid : Prop := walRecordsRow.holds Try.pinned (OpenSpec.ofChange walRecordsSpec)

/-- ITS FALSE NEIGHBOUR: 'it returns false'. Refute it at one input. -/
def walRecordsWrong : ChangeSpec := { name := "walRecords", fn := fun _ => fun
  | [d1, d2] => { results := [.lit (.bool false)], args := [d1, d2] }
  | _ => none }
def WalRecordsWrongFalsely : Prop := walRecordsRow.holds Try.pinned (OpenSpec.ofChange walRecordsWrong)

/-- 'skeplaw04.WalWrites': WHATEVER THE INPUT: true; the input reads as it did. -/
def walWritesSpec : ChangeSpec := { name := "walWrites", fn := fun _ => fun
  | [d] => { results := [.lit (.bool true)], args := [d] }
  | _ => none }
def walWritesRow : OpenClaim := { program := "ythbablipimdaoaa", sum := "547a10166c3a72c9b689a64b180b95ece28439e5549186642173949965066730", func := "skep/skeplaw04.WalWrites", spec := "walWrites", unfollowed := true, recurses := true, apart := false }
def WalWritesSaid : Prop := walWritesRow.holds Try.pinned (OpenSpec.ofChange walWritesSpec)

/-- ITS FALSE NEIGHBOUR: 'it returns false'. Refute it at one input. -/
def walWritesWrong : ChangeSpec := { name := "walWrites", fn := fun _ => fun
  | [d] => { results := [.lit (.bool false)], args := [d] }
  | _ => none }
def WalWritesWrongFalsely : Prop := walWritesRow.holds Try.pinned (OpenSpec.ofChange walWritesWrong)

/-- 'skeplaw04.WalTurns': WHATEVER THE INPUT: true; the input reads as it did. -/
def walTurnsSpec : ChangeSpec := { name := "walTurns", fn := fun _ => fun
  | [d1, d2, d3] => { results := [.lit (.bool true)], args := [d1, d2, d3] }
  | _ => none }
def walTurnsRow : OpenClaim := { program := "ythbablipimdaoaa", sum := "547a10166c3a72c9b689a64b180b95ece28439e5549186642173949965066730", func := "skep/skeplaw04.WalTurns", spec := "walTurns", unfollowed := true, recurses := true, apart := false }
def WalTurnsSaid : Prop := walTurnsRow.holds Try.pinned (OpenSpec.ofChange walTurnsSpec)

/-- ITS FALSE NEIGHBOUR: 'it returns false'. Refute it at one input. -/
def walTurnsWrong : ChangeSpec := { name := "walTurns", fn := fun _ => fun
  | [d1, d2, d3] => { results := [.lit (.bool false)], args := [d1, d2, d3] }
  | _ => none }
def WalTurnsWrongFalsely : Prop := walTurnsRow.holds Try.pinned (OpenSpec.ofChange walTurnsWrong)

/-- 'skeplaw04.WalReads': WHATEVER THE INPUT: true; the input reads as it did. -/
def walReadsSpec : ChangeSpec := { name := "walReads", fn := fun _ => fun
  | [d1, d2] => { results := [.lit (.bool true)], args := [d1, d2] }
  | _ => none }
def walReadsRow : OpenClaim := { program := "ythbablipimdaoaa", sum := "547a10166c3a72c9b689a64b180b95ece28439e5549186642173949965066730", func := "skep/skeplaw04.WalReads", spec := "walReads", unfollowed := true, recurses := true, apart := false }
def WalReadsSaid : Prop := walReadsRow.holds Try.pinned (OpenSpec.ofChange walReadsSpec)

/-- ITS FALSE NEIGHBOUR: 'it returns false'. Refute it at one input. -/
def walReadsWrong : ChangeSpec := { name := "walReads", fn := fun _ => fun
  | [d1, d2] => { results := [.lit (.bool false)], args := [d1, d2] }
  | _ => none }
def WalReadsWrongFalsely : Prop := walReadsRow.holds Try.pinned (OpenSpec.ofChange walReadsWrong)

/-- 'skeplaw04.WalBytes': WHATEVER THE INPUT: true; the input reads as it did. -/
def walBytesSpec : ChangeSpec := { name := "walBytes", fn := fun _ => fun
  | [d] => { results := [.lit (.bool true)], args := [d] }
  | _ => none }
def walBytesRow : OpenClaim := { program := "ythbablipimdaoaa", sum := "547a10166c3a72c9b689a64b180b95ece28439e5549186642173949965066730", func := "skep/skeplaw04.WalBytes", spec := "walBytes", unfollowed := true, recurses := true, apart := false }
def WalBytesSaid : Prop := walBytesRow.holds Try.pinned (OpenSpec.ofChange walBytesSpec)

/-- ITS FALSE NEIGHBOUR: 'it returns false'. Refute it at one input. -/
def walBytesWrong : ChangeSpec := { name := "walBytes", fn := fun _ => fun
  | [d] => { results := [.lit (.bool false)], args := [d] }
  | _ => none }
def WalBytesWrongFalsely : Prop := walBytesRow.holds Try.pinned (OpenSpec.ofChange walBytesWrong)

/-- 'skeplaw04.WalErases': WHATEVER THE INPUT: true; the input reads as it did. -/
def walErasesSpec : ChangeSpec := { name := "walErases", fn := fun _ => fun
  | [d1, d2, d3] => { results := [.lit (.bool true)], args := [d1, d2, d3] }
  | _ => none }
def walErasesRow : OpenClaim := { program := "ythbablipimdaoaa", sum := "547a10166c3a72c9b689a64b180b95ece28439e5549186642173949965066730", func := "skep/skeplaw04.WalErases", spec := "walErases", unfollowed := true, recurses := true, apart := false }
def WalErasesSaid : Prop := walErasesRow.holds Try.pinned (OpenSpec.ofChange walErasesSpec)

/-- ITS FALSE NEIGHBOUR: 'it returns false'. Refute it at one input. -/
def walErasesWrong : ChangeSpec := { name := "walErases", fn := fun _ => fun
  | [d1, d2, d3] => { results := [.lit (.bool false)], args := [d1, d2, d3] }
  | _ => none }
def WalErasesWrongFalsely : Prop := walErasesRow.holds Try.pinned (OpenSpec.ofChange walErasesWrong)

/-- 'skeplaw04.WalTorn': WHATEVER THE INPUT: true; the input reads as it did. -/
def walTornSpec : ChangeSpec := { name := "walTorn", fn := fun _ => fun
  | [d1, d2, d3, d4] => { results := [.lit (.bool true)], args := [d1, d2, d3, d4] }
  | _ => none }
def walTornRow : OpenClaim := { program := "ythbablipimdaoaa", sum := "547a10166c3a72c9b689a64b180b95ece28439e5549186642173949965066730", func := "skep/skeplaw04.WalTorn", spec := "walTorn", unfollowed := true, recurses := true, apart := false }
def WalTornSaid : Prop := walTornRow.holds Try.pinned (OpenSpec.ofChange walTornSpec)

/-- ITS FALSE NEIGHBOUR: 'it returns false'. Refute it at one input. -/
def walTornWrong : ChangeSpec := { name := "walTorn", fn := fun _ => fun
  | [d1, d2, d3, d4] => { results := [.lit (.bool false)], args := [d1, d2, d3, d4] }
  | _ => none }
def WalTornWrongFalsely : Prop := walTornRow.holds Try.pinned (OpenSpec.ofChange walTornWrong)

/- THE SECOND FORM. 'bulk': how many values and letters a reading holds, each counted each time it is reached (what is shared counts as often as it is met; a slice's spare places count too). A statement '..UptoSaid' is the law's where the arguments, and the package variables that the reading takes, are together of bulk at most 1048576: NARROWER than '..Said'. Prove '..Said' where nothing that the law and all that it calls make is longer than what came in: it says more and counts as full. Else prove '..UptoSaid'. A law counts once. -/
mutual
def uptoBulk {H : Type} : DataW H → Nat
  | .lit (.string bytes) => bytes.length + 1
  | .lit _ => 1
  | .nil => 1
  | .ptr d => uptoBulk d + 1
  | .slice elems spare => uptoBulkAll elems + uptoBulkAll spare + 1
  | .agg parts => uptoBulkAll parts + 1
  | .iface _ d => uptoBulk d + 1
  | .map entries => uptoBulkEntries entries + 1
  | .held _ => 1
def uptoBulkAll {H : Type} : List (DataW H) → Nat
  | [] => 0
  | d :: r => uptoBulk d + uptoBulkAll r
def uptoBulkEntries {H : Type} : List (Lit × DataW H) → Nat
  | [] => 0
  | x :: r => uptoBulkEntry x + uptoBulkEntries r
def uptoBulkEntry {H : Type} : Lit × DataW H → Nat
  | (.string bytes, d) => bytes.length + uptoBulk d + 1
  | (_, d) => uptoBulk d + 1
 end
def uptoSmall : (H : Type) → List (DataW H) → Bool := fun _ ds => decide (uptoBulkAll ds ≤ 1048576)
def OpenSpec.upto (s : _root_.Go.ChangeSpec) : _root_.Go.OpenSpec := { _root_.Go.OpenSpec.ofChange s with cond := some uptoSmall }

/-- 'skeplaw04.WalRecords', WHERE WHAT IT READS IS OF BULK AT MOST 1048576: true; the input reads as it did. -/
def walRecordsUptoRow : OpenClaim := { program := "ythbablipimdaoaa", sum := "547a10166c3a72c9b689a64b180b95ece28439e5549186642173949965066730", func := "skep/skeplaw04.WalRecords", spec := "walRecords", unfollowed := true, recurses := true, apart := false, narrowed := true }
def WalRecordsUptoSaid : Prop := walRecordsUptoRow.holds Try.pinned (OpenSpec.upto walRecordsSpec)

/-- 'skeplaw04.WalWrites', WHERE WHAT IT READS IS OF BULK AT MOST 1048576: true; the input reads as it did. -/
def walWritesUptoRow : OpenClaim := { program := "ythbablipimdaoaa", sum := "547a10166c3a72c9b689a64b180b95ece28439e5549186642173949965066730", func := "skep/skeplaw04.WalWrites", spec := "walWrites", unfollowed := true, recurses := true, apart := false, narrowed := true }
def WalWritesUptoSaid : Prop := walWritesUptoRow.holds Try.pinned (OpenSpec.upto walWritesSpec)

/-- 'skeplaw04.WalTurns', WHERE WHAT IT READS IS OF BULK AT MOST 1048576: true; the input reads as it did. -/
def walTurnsUptoRow : OpenClaim := { program := "ythbablipimdaoaa", sum := "547a10166c3a72c9b689a64b180b95ece28439e5549186642173949965066730", func := "skep/skeplaw04.WalTurns", spec := "walTurns", unfollowed := true, recurses := true, apart := false, narrowed := true }
def WalTurnsUptoSaid : Prop := walTurnsUptoRow.holds Try.pinned (OpenSpec.upto walTurnsSpec)

/-- 'skeplaw04.WalReads', WHERE WHAT IT READS IS OF BULK AT MOST 1048576: true; the input reads as it did. -/
def walReadsUptoRow : OpenClaim := { program := "ythbablipimdaoaa", sum := "547a10166c3a72c9b689a64b180b95ece28439e5549186642173949965066730", func := "skep/skeplaw04.WalReads", spec := "walReads", unfollowed := true, recurses := true, apart := false, narrowed := true }
def WalReadsUptoSaid : Prop := walReadsUptoRow.holds Try.pinned (OpenSpec.upto walReadsSpec)

/-- 'skeplaw04.WalBytes', WHERE WHAT IT READS IS OF BULK AT MOST 1048576: true; the input reads as it did. -/
def walBytesUptoRow : OpenClaim := { program := "ythbablipimdaoaa", sum := "547a10166c3a72c9b689a64b180b95ece28439e5549186642173949965066730", func := "skep/skeplaw04.WalBytes", spec := "walBytes", unfollowed := true, recurses := true, apart := false, narrowed := true }
def WalBytesUptoSaid : Prop := walBytesUptoRow.holds Try.pinned (OpenSpec.upto walBytesSpec)

/-- 'skeplaw04.WalErases', WHERE WHAT IT READS IS OF BULK AT MOST 1048576: true; the input reads as it did. -/
def walErasesUptoRow : OpenClaim := { program := "ythbablipimdaoaa", sum := "547a10166c3a72c9b689a64b180b95ece28439e5549186642173949965066730", func := "skep/skeplaw04.WalErases", spec := "walErases", unfollowed := true, recurses := true, apart := false, narrowed := true }
def WalErasesUptoSaid : Prop := walErasesUptoRow.holds Try.pinned (OpenSpec.upto walErasesSpec)

/-- 'skeplaw04.WalTorn', WHERE WHAT IT READS IS OF BULK AT MOST 1048576: true; the input reads as it did. -/
def walTornUptoRow : OpenClaim := { program := "ythbablipimdaoaa", sum := "547a10166c3a72c9b689a64b180b95ece28439e5549186642173949965066730", func := "skep/skeplaw04.WalTorn", spec := "walTorn", unfollowed := true, recurses := true, apart := false, narrowed := true }
def WalTornUptoSaid : Prop := walTornUptoRow.holds Try.pinned (OpenSpec.upto walTornSpec)

end Rows
end Go.Proofs.Ythbablipimdaoaa
