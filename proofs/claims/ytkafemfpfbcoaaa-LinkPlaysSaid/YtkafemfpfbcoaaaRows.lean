/-
  No cell of these rows narrows 'for every input' (looked for: loops, veiled, ifaces, maps, wideKeys, modest, calm, conditions, laid).
  DERIVED. THE GIVEN ROWS OF THIS SEAT. 6 by the template 'for every input the law returns true; each argument reads behind the call as it read before'; 0 by the template 'total and deterministic' (their statements: YtkafemfpfbcoaaaTotals.lean).
  GIVEN WITH THE SEED: the statements are not yours to turn. If you find one false, say at which input.
  Laid BY PROGRAM, IN A SANDBOX (cutbox-rows.mjs): the forced cells as the released guide's own fill.sh prints them over the translation 63e4b8c179092c90… (all of the seat's roots in one cut). By AI agents, Wed Nov 11 2026. No macro, syntax, notation, axiom, sorry.
-/
import Derived.Test.YtkafemfpfbcoaaaChecked
import GoSem.Claim
import GoSem.ClaimJoined
import GoSem.ClaimMapViews
import Derived.JoinedTies
import Derived.KernelRfl
namespace Go.Proofs.Ytkafemfpfbcoaaa
/- THE CELL 'sum', in the pinned program and in every row, IS THE sha256 OF THE DUMP (.gsa) THAT YtkafemfpfbcoaaaProg.lean LOADS. Nothing in Lean hashes anything: it is a label: what it is worth is what the hold of that sum in a sandbox is worth. -/
noncomputable def Try.pinned : Pinned := { name := "ytkafemfpfbcoaaa", sum := "63e4b8c179092c90fd54ab483e7425b0ee04a5dc1d521f332d67baa8d69e3eec", checked := Try.checked }
namespace Rows
def none {H : Type} : Left H := { results := [], args := [] }

/-- 'skeplaw17.LinkOrder': WHATEVER THE INPUT: true; the input reads as it did. -/
def linkOrderSpec : ChangeSpec := { name := "linkOrder", fn := fun _ => fun
  | [d1, d2] => { results := [.lit (.bool true)], args := [d1, d2] }
  | _ => none }
def linkOrderRow : OpenClaim := { program := "ytkafemfpfbcoaaa", sum := "63e4b8c179092c90fd54ab483e7425b0ee04a5dc1d521f332d67baa8d69e3eec", func := "skep/skeplaw17.LinkOrder", spec := "linkOrder", apart := false }
def LinkOrderSaid : Prop := linkOrderRow.holds Try.pinned (OpenSpec.ofChange linkOrderSpec)

/-- ITS FALSE NEIGHBOUR: 'it returns false'. Refute it at one input. -/
def linkOrderWrong : ChangeSpec := { name := "linkOrder", fn := fun _ => fun
  | [d1, d2] => { results := [.lit (.bool false)], args := [d1, d2] }
  | _ => none }
def LinkOrderWrongFalsely : Prop := linkOrderRow.holds Try.pinned (OpenSpec.ofChange linkOrderWrong)

/-- 'skeplaw17.LinkNews': WHATEVER THE INPUT: true; the input reads as it did. -/
def linkNewsSpec : ChangeSpec := { name := "linkNews", fn := fun _ => fun
  | [d1, d2] => { results := [.lit (.bool true)], args := [d1, d2] }
  | _ => none }
def linkNewsRow : OpenClaim := { program := "ytkafemfpfbcoaaa", sum := "63e4b8c179092c90fd54ab483e7425b0ee04a5dc1d521f332d67baa8d69e3eec", func := "skep/skeplaw17.LinkNews", spec := "linkNews", apart := false }
def LinkNewsSaid : Prop := linkNewsRow.holds Try.pinned (OpenSpec.ofChange linkNewsSpec)

/-- ITS FALSE NEIGHBOUR: 'it returns false'. Refute it at one input. -/
def linkNewsWrong : ChangeSpec := { name := "linkNews", fn := fun _ => fun
  | [d1, d2] => { results := [.lit (.bool false)], args := [d1, d2] }
  | _ => none }
def LinkNewsWrongFalsely : Prop := linkNewsRow.holds Try.pinned (OpenSpec.ofChange linkNewsWrong)

/-- 'skeplaw17.LinkAgain': WHATEVER THE INPUT: true; the input reads as it did. -/
def linkAgainSpec : ChangeSpec := { name := "linkAgain", fn := fun _ => fun
  | [d1, d2, d3] => { results := [.lit (.bool true)], args := [d1, d2, d3] }
  | _ => none }
def linkAgainRow : OpenClaim := { program := "ytkafemfpfbcoaaa", sum := "63e4b8c179092c90fd54ab483e7425b0ee04a5dc1d521f332d67baa8d69e3eec", func := "skep/skeplaw17.LinkAgain", spec := "linkAgain", apart := false }
def LinkAgainSaid : Prop := linkAgainRow.holds Try.pinned (OpenSpec.ofChange linkAgainSpec)

/-- ITS FALSE NEIGHBOUR: 'it returns false'. Refute it at one input. -/
def linkAgainWrong : ChangeSpec := { name := "linkAgain", fn := fun _ => fun
  | [d1, d2, d3] => { results := [.lit (.bool false)], args := [d1, d2, d3] }
  | _ => none }
def LinkAgainWrongFalsely : Prop := linkAgainRow.holds Try.pinned (OpenSpec.ofChange linkAgainWrong)

/-- 'skeplaw17.LinkLast': WHATEVER THE INPUT: true; the input reads as it did. -/
def linkLastSpec : ChangeSpec := { name := "linkLast", fn := fun _ => fun
  | [d1, d2, d3] => { results := [.lit (.bool true)], args := [d1, d2, d3] }
  | _ => none }
def linkLastRow : OpenClaim := { program := "ytkafemfpfbcoaaa", sum := "63e4b8c179092c90fd54ab483e7425b0ee04a5dc1d521f332d67baa8d69e3eec", func := "skep/skeplaw17.LinkLast", spec := "linkLast", apart := false }
def LinkLastSaid : Prop := linkLastRow.holds Try.pinned (OpenSpec.ofChange linkLastSpec)

/-- ITS FALSE NEIGHBOUR: 'it returns false'. Refute it at one input. -/
def linkLastWrong : ChangeSpec := { name := "linkLast", fn := fun _ => fun
  | [d1, d2, d3] => { results := [.lit (.bool false)], args := [d1, d2, d3] }
  | _ => none }
def LinkLastWrongFalsely : Prop := linkLastRow.holds Try.pinned (OpenSpec.ofChange linkLastWrong)

/-- 'skeplaw17.LinkPlays': WHATEVER THE INPUT: true; the input reads as it did. -/
def linkPlaysSpec : ChangeSpec := { name := "linkPlays", fn := fun _ => fun
  | [d1, d2, d3] => { results := [.lit (.bool true)], args := [d1, d2, d3] }
  | _ => none }
def linkPlaysRow : OpenClaim := { program := "ytkafemfpfbcoaaa", sum := "63e4b8c179092c90fd54ab483e7425b0ee04a5dc1d521f332d67baa8d69e3eec", func := "skep/skeplaw17.LinkPlays", spec := "linkPlays", apart := false }
def LinkPlaysSaid : Prop := linkPlaysRow.holds Try.pinned (OpenSpec.ofChange linkPlaysSpec)

/-- ITS FALSE NEIGHBOUR: 'it returns false'. Refute it at one input. -/
def linkPlaysWrong : ChangeSpec := { name := "linkPlays", fn := fun _ => fun
  | [d1, d2, d3] => { results := [.lit (.bool false)], args := [d1, d2, d3] }
  | _ => none }
def LinkPlaysWrongFalsely : Prop := linkPlaysRow.holds Try.pinned (OpenSpec.ofChange linkPlaysWrong)

/-- 'skeplaw17.LinkClears': WHATEVER THE INPUT: true; the input reads as it did. -/
def linkClearsSpec : ChangeSpec := { name := "linkClears", fn := fun _ => fun
  | [d1, d2] => { results := [.lit (.bool true)], args := [d1, d2] }
  | _ => none }
def linkClearsRow : OpenClaim := { program := "ytkafemfpfbcoaaa", sum := "63e4b8c179092c90fd54ab483e7425b0ee04a5dc1d521f332d67baa8d69e3eec", func := "skep/skeplaw17.LinkClears", spec := "linkClears", apart := false }
def LinkClearsSaid : Prop := linkClearsRow.holds Try.pinned (OpenSpec.ofChange linkClearsSpec)

/-- ITS FALSE NEIGHBOUR: 'it returns false'. Refute it at one input. -/
def linkClearsWrong : ChangeSpec := { name := "linkClears", fn := fun _ => fun
  | [d1, d2] => { results := [.lit (.bool false)], args := [d1, d2] }
  | _ => none }
def LinkClearsWrongFalsely : Prop := linkClearsRow.holds Try.pinned (OpenSpec.ofChange linkClearsWrong)

/- THE SECOND FORM. 'bulk': how many values and letters a reading holds, each counted each time it is reached (what is shared counts as often as it is met; a slice's spare places count too). A statement '..UptoSaid' is the law's where the arguments, and the package variables that the reading takes, are together of bulk at most 1048576: NARROWER than '..Said'. Prove '..Said' where nothing that the law and all that it calls make is longer than what came in: it says more and counts as full. Else prove '..UptoSaid'. A law counts once. -/
mutual
def uptoBulk {H : Type} : DataW H → Nat
  | .lit (.string bytes) => bytes.length + 1
  | .lit _ => 1
  | .nil => 1
  | .ptr d => uptoBulk d + 1
  | .slice elems spare => uptoBulkAll elems + uptoBulkAll spare + 1
  | .agg parts => uptoBulkAll parts + 1
  | .iface _ d => uptoBulk d + 1
  | .map entries => uptoBulkEntries entries + 1
  | .held _ => 1
def uptoBulkAll {H : Type} : List (DataW H) → Nat
  | [] => 0
  | d :: r => uptoBulk d + uptoBulkAll r
def uptoBulkEntries {H : Type} : List (Lit × DataW H) → Nat
  | [] => 0
  | x :: r => uptoBulkEntry x + uptoBulkEntries r
def uptoBulkEntry {H : Type} : Lit × DataW H → Nat
  | (.string bytes, d) => bytes.length + uptoBulk d + 1
  | (_, d) => uptoBulk d + 1
 end
def uptoSmall : (H : Type) → List (DataW H) → Bool := fun _ ds => decide (uptoBulkAll ds ≤ 1048576)
def OpenSpec.upto (s : _root_.Go.ChangeSpec) : _root_.Go.OpenSpec := { _root_.Go.OpenSpec.ofChange s with cond := some uptoSmall }

/-- 'skeplaw17.LinkOrder', WHERE WHAT IT READS IS OF BULK AT MOST 1048576: true; the input reads as it did. -/
def linkOrderUptoRow : OpenClaim := { program := "ytkafemfpfbcoaaa", sum := "63e4b8c179092c90fd54ab483e7425b0ee04a5dc1d521f332d67baa8d69e3eec", func := "skep/skeplaw17.LinkOrder", spec := "linkOrder", apart := false, narrowed := true }
def LinkOrderUptoSaid : Prop := linkOrderUptoRow.holds Try.pinned (OpenSpec.upto linkOrderSpec)

/-- 'skeplaw17.LinkNews', WHERE WHAT IT READS IS OF BULK AT MOST 1048576: true; the input reads as it did. -/
def linkNewsUptoRow : OpenClaim := { program := "ytkafemfpfbcoaaa", sum := "63e4b8c179092c90fd54ab483e7425b0ee04a5dc1d521f332d67baa8d69e3eec", func := "skep/skeplaw17.LinkNews", spec := "linkNews", apart := false, narrowed := true }
def LinkNewsUptoSaid : Prop := linkNewsUptoRow.holds Try.pinned (OpenSpec.upto linkNewsSpec)

/-- 'skeplaw17.LinkAgain', WHERE WHAT IT READS IS OF BULK AT MOST 1048576: true; the input reads as it did. -/
def linkAgainUptoRow : OpenClaim := { program := "ytkafemfpfbcoaaa", sum := "63e4b8c179092c90fd54ab483e7425b0ee04a5dc1d521f332d67baa8d69e3eec", func := "skep/skeplaw17.LinkAgain", spec := "linkAgain", apart := false, narrowed := true }
def LinkAgainUptoSaid : Prop := linkAgainUptoRow.holds Try.pinned (OpenSpec.upto linkAgainSpec)

/-- 'skeplaw17.LinkLast', WHERE WHAT IT READS IS OF BULK AT MOST 1048576: true; the input reads as it did. -/
def linkLastUptoRow : OpenClaim := { program := "ytkafemfpfbcoaaa", sum := "63e4b8c179092c90fd54ab483e7425b0ee04a5dc1d521f332d67baa8d69e3eec", func := "skep/skeplaw17.LinkLast", spec := "linkLast", apart := false, narrowed := true }
def LinkLastUptoSaid : Prop := linkLastUptoRow.holds Try.pinned (OpenSpec.upto linkLastSpec)

/-- 'skeplaw17.LinkPlays', WHERE WHAT IT READS IS OF BULK AT MOST 1048576: true; the input reads as it did. -/
def linkPlaysUptoRow : OpenClaim := { program := "ytkafemfpfbcoaaa", sum := "63e4b8c179092c90fd54ab483e7425b0ee04a5dc1d521f332d67baa8d69e3eec", func := "skep/skeplaw17.LinkPlays", spec := "linkPlays", apart := false, narrowed := true }
def LinkPlaysUptoSaid : Prop := linkPlaysUptoRow.holds Try.pinned (OpenSpec.upto linkPlaysSpec)

/-- 'skeplaw17.LinkClears', WHERE WHAT IT READS IS OF BULK AT MOST 1048576: true; the input reads as it did. -/
def linkClearsUptoRow : OpenClaim := { program := "ytkafemfpfbcoaaa", sum := "63e4b8c179092c90fd54ab483e7425b0ee04a5dc1d521f332d67baa8d69e3eec", func := "skep/skeplaw17.LinkClears", spec := "linkClears", apart := false, narrowed := true }
def LinkClearsUptoSaid : Prop := linkClearsUptoRow.holds Try.pinned (OpenSpec.upto linkClearsSpec)

end Rows
end Go.Proofs.Ytkafemfpfbcoaaa
