/-
  No cell of these rows narrows 'for every input' (looked for: loops, veiled, ifaces, maps, wideKeys, modest, calm, conditions, laid).
  DERIVED. THE GIVEN ROWS OF THIS SEAT. 10 by the template 'for every input the law returns true; each argument reads behind the call as it read before'; 0 by the template 'total and deterministic' (their statements: YtongkhanbpboaaaTotals.lean).
  GIVEN WITH THE SEED: the statements are not yours to turn. If you find one false, say at which input.
  Laid BY PROGRAM, IN A SANDBOX (cutbox-rows.mjs): the forced cells as the released guide's own fill.sh prints them over the translation 4705cece01191b23… (all of the seat's roots in one cut). By AI agents, Wed Nov 11 2026. No macro, syntax, notation, axiom, sorry.
-/
import Derived.Test.YtongkhanbpboaaaChecked
import GoSem.Claim
import GoSem.ClaimJoined
import GoSem.ClaimMapViews
import Derived.JoinedTies
import Derived.KernelRfl
namespace Go.Proofs.Ytongkhanbpboaaa
/- THE CELL 'sum', in the pinned program and in every row, IS THE sha256 OF THE DUMP (.gsa) THAT YtongkhanbpboaaaProg.lean LOADS. Nothing in Lean hashes anything: it is a label: what it is worth is what the hold of that sum in a sandbox is worth. -/
noncomputable def Try.pinned : Pinned := { name := "ytongkhanbpboaaa", sum := "4705cece01191b237b446e24e8c6c2eac8e769139fa01161a0057aa778bbbd46", checked := Try.checked }
namespace Rows
def none {H : Type} : Left H := { results := [], args := [] }

/-- 'skeplaw09.KinemNews': WHATEVER THE INPUT: true; the input reads as it did. -/
def kinemNewsSpec : ChangeSpec := { name := "kinemNews", fn := fun _ => fun
  | [d1, d2, d3, d4] => { results := [.lit (.bool true)], args := [d1, d2, d3, d4] }
  | _ => none }
def kinemNewsRow : OpenClaim := { program := "ytongkhanbpboaaa", sum := "4705cece01191b237b446e24e8c6c2eac8e769139fa01161a0057aa778bbbd46", func := "skep/skeplaw09.KinemNews", spec := "kinemNews", inPlace := ["sync/atomic.LoadUint32", "(*internal/sync.Mutex).Lock", "internal/race.Disable", "sync/atomic.CompareAndSwapInt32", "internal/race.Enable", "internal/race.Acquire", "(*internal/sync.Mutex).lockSlow", "internal/sync.runtime_canSpin", "internal/sync.runtime_doSpin", "internal/sync.throw", "internal/sync.runtime_nanotime", "internal/sync.runtime_SemacquireMutex", "sync/atomic.AddInt32", "(*internal/sync.Mutex).Unlock", "internal/race.ReleaseMerge", "(*internal/sync.Mutex).unlockSlow", "internal/sync.fatal", "internal/sync.runtime_Semrelease", "sync/atomic.StoreUint32"], unfollowed := true, recurses := true, apart := false }
def KinemNewsSaid : Prop := kinemNewsRow.holds Try.pinned (OpenSpec.ofChange kinemNewsSpec)

/-- ITS FALSE NEIGHBOUR: 'it returns false'. Refute it at one input. -/
def kinemNewsWrong : ChangeSpec := { name := "kinemNews", fn := fun _ => fun
  | [d1, d2, d3, d4] => { results := [.lit (.bool false)], args := [d1, d2, d3, d4] }
  | _ => none }
def KinemNewsWrongFalsely : Prop := kinemNewsRow.holds Try.pinned (OpenSpec.ofChange kinemNewsWrong)

/-- 'skeplaw09.KinemProfiles': WHATEVER THE INPUT: true; the input reads as it did. -/
def kinemProfilesSpec : ChangeSpec := { name := "kinemProfiles", fn := fun _ => fun
  | [d1, d2, d3, d4, d5] => { results := [.lit (.bool true)], args := [d1, d2, d3, d4, d5] }
  | _ => none }
def kinemProfilesRow : OpenClaim := { program := "ytongkhanbpboaaa", sum := "4705cece01191b237b446e24e8c6c2eac8e769139fa01161a0057aa778bbbd46", func := "skep/skeplaw09.KinemProfiles", spec := "kinemProfiles", inPlace := ["sync/atomic.LoadUint32", "(*internal/sync.Mutex).Lock", "internal/race.Disable", "sync/atomic.CompareAndSwapInt32", "internal/race.Enable", "internal/race.Acquire", "(*internal/sync.Mutex).lockSlow", "internal/sync.runtime_canSpin", "internal/sync.runtime_doSpin", "internal/sync.throw", "internal/sync.runtime_nanotime", "internal/sync.runtime_SemacquireMutex", "sync/atomic.AddInt32", "(*internal/sync.Mutex).Unlock", "internal/race.ReleaseMerge", "(*internal/sync.Mutex).unlockSlow", "internal/sync.fatal", "internal/sync.runtime_Semrelease", "sync/atomic.StoreUint32"], unfollowed := true, recurses := true, apart := false }
def KinemProfilesSaid : Prop := kinemProfilesRow.holds Try.pinned (OpenSpec.ofChange kinemProfilesSpec)

/-- ITS FALSE NEIGHBOUR: 'it returns false'. Refute it at one input. -/
def kinemProfilesWrong : ChangeSpec := { name := "kinemProfiles", fn := fun _ => fun
  | [d1, d2, d3, d4, d5] => { results := [.lit (.bool false)], args := [d1, d2, d3, d4, d5] }
  | _ => none }
def KinemProfilesWrongFalsely : Prop := kinemProfilesRow.holds Try.pinned (OpenSpec.ofChange kinemProfilesWrong)

/-- 'skeplaw09.KinemStops': WHATEVER THE INPUT: true; the input reads as it did. -/
def kinemStopsSpec : ChangeSpec := { name := "kinemStops", fn := fun _ => fun
  | [d1, d2, d3, d4, d5] => { results := [.lit (.bool true)], args := [d1, d2, d3, d4, d5] }
  | _ => none }
def kinemStopsRow : OpenClaim := { program := "ytongkhanbpboaaa", sum := "4705cece01191b237b446e24e8c6c2eac8e769139fa01161a0057aa778bbbd46", func := "skep/skeplaw09.KinemStops", spec := "kinemStops", inPlace := ["sync/atomic.LoadUint32", "(*internal/sync.Mutex).Lock", "internal/race.Disable", "sync/atomic.CompareAndSwapInt32", "internal/race.Enable", "internal/race.Acquire", "(*internal/sync.Mutex).lockSlow", "internal/sync.runtime_canSpin", "internal/sync.runtime_doSpin", "internal/sync.throw", "internal/sync.runtime_nanotime", "internal/sync.runtime_SemacquireMutex", "sync/atomic.AddInt32", "(*internal/sync.Mutex).Unlock", "internal/race.ReleaseMerge", "(*internal/sync.Mutex).unlockSlow", "internal/sync.fatal", "internal/sync.runtime_Semrelease", "sync/atomic.StoreUint32"], unfollowed := true, recurses := true, apart := false }
def KinemStopsSaid : Prop := kinemStopsRow.holds Try.pinned (OpenSpec.ofChange kinemStopsSpec)

/-- ITS FALSE NEIGHBOUR: 'it returns false'. Refute it at one input. -/
def kinemStopsWrong : ChangeSpec := { name := "kinemStops", fn := fun _ => fun
  | [d1, d2, d3, d4, d5] => { results := [.lit (.bool false)], args := [d1, d2, d3, d4, d5] }
  | _ => none }
def KinemStopsWrongFalsely : Prop := kinemStopsRow.holds Try.pinned (OpenSpec.ofChange kinemStopsWrong)

/-- 'skeplaw09.KinemLaws': WHATEVER THE INPUT: true; the input reads as it did. -/
def kinemLawsSpec : ChangeSpec := { name := "kinemLaws", fn := fun _ => fun
  | [d1, d2, d3, d4] => { results := [.lit (.bool true)], args := [d1, d2, d3, d4] }
  | _ => none }
def kinemLawsRow : OpenClaim := { program := "ytongkhanbpboaaa", sum := "4705cece01191b237b446e24e8c6c2eac8e769139fa01161a0057aa778bbbd46", func := "skep/skeplaw09.KinemLaws", spec := "kinemLaws", inPlace := ["sync/atomic.LoadUint32", "(*internal/sync.Mutex).Lock", "internal/race.Disable", "sync/atomic.CompareAndSwapInt32", "internal/race.Enable", "internal/race.Acquire", "(*internal/sync.Mutex).lockSlow", "internal/sync.runtime_canSpin", "internal/sync.runtime_doSpin", "internal/sync.throw", "internal/sync.runtime_nanotime", "internal/sync.runtime_SemacquireMutex", "sync/atomic.AddInt32", "(*internal/sync.Mutex).Unlock", "internal/race.ReleaseMerge", "(*internal/sync.Mutex).unlockSlow", "internal/sync.fatal", "internal/sync.runtime_Semrelease", "sync/atomic.StoreUint32"], unfollowed := true, recurses := true, apart := false }
def KinemLawsSaid : Prop := kinemLawsRow.holds Try.pinned (OpenSpec.ofChange kinemLawsSpec)

/-- ITS FALSE NEIGHBOUR: 'it returns false'. Refute it at one input. -/
def kinemLawsWrong : ChangeSpec := { name := "kinemLaws", fn := fun _ => fun
  | [d1, d2, d3, d4] => { results := [.lit (.bool false)], args := [d1, d2, d3, d4] }
  | _ => none }
def KinemLawsWrongFalsely : Prop := kinemLawsRow.holds Try.pinned (OpenSpec.ofChange kinemLawsWrong)

/-- 'skeplaw09.KinemFast': WHATEVER THE INPUT: true; the input reads as it did. -/
def kinemFastSpec : ChangeSpec := { name := "kinemFast", fn := fun _ => fun
  | [d1, d2, d3, d4] => { results := [.lit (.bool true)], args := [d1, d2, d3, d4] }
  | _ => none }
def kinemFastRow : OpenClaim := { program := "ytongkhanbpboaaa", sum := "4705cece01191b237b446e24e8c6c2eac8e769139fa01161a0057aa778bbbd46", func := "skep/skeplaw09.KinemFast", spec := "kinemFast", inPlace := ["sync/atomic.LoadUint32", "(*internal/sync.Mutex).Lock", "internal/race.Disable", "sync/atomic.CompareAndSwapInt32", "internal/race.Enable", "internal/race.Acquire", "(*internal/sync.Mutex).lockSlow", "internal/sync.runtime_canSpin", "internal/sync.runtime_doSpin", "internal/sync.throw", "internal/sync.runtime_nanotime", "internal/sync.runtime_SemacquireMutex", "sync/atomic.AddInt32", "(*internal/sync.Mutex).Unlock", "internal/race.ReleaseMerge", "(*internal/sync.Mutex).unlockSlow", "internal/sync.fatal", "internal/sync.runtime_Semrelease", "sync/atomic.StoreUint32"], unfollowed := true, recurses := true, apart := false }
def KinemFastSaid : Prop := kinemFastRow.holds Try.pinned (OpenSpec.ofChange kinemFastSpec)

/-- ITS FALSE NEIGHBOUR: 'it returns false'. Refute it at one input. -/
def kinemFastWrong : ChangeSpec := { name := "kinemFast", fn := fun _ => fun
  | [d1, d2, d3, d4] => { results := [.lit (.bool false)], args := [d1, d2, d3, d4] }
  | _ => none }
def KinemFastWrongFalsely : Prop := kinemFastRow.holds Try.pinned (OpenSpec.ofChange kinemFastWrong)

/-- 'skeplaw09.KinemStands': WHATEVER THE INPUT: true; the input reads as it did. -/
def kinemStandsSpec : ChangeSpec := { name := "kinemStands", fn := fun _ => fun
  | [d1, d2, d3, d4, d5] => { results := [.lit (.bool true)], args := [d1, d2, d3, d4, d5] }
  | _ => none }
def kinemStandsRow : OpenClaim := { program := "ytongkhanbpboaaa", sum := "4705cece01191b237b446e24e8c6c2eac8e769139fa01161a0057aa778bbbd46", func := "skep/skeplaw09.KinemStands", spec := "kinemStands", inPlace := ["sync/atomic.LoadUint32", "(*internal/sync.Mutex).Lock", "internal/race.Disable", "sync/atomic.CompareAndSwapInt32", "internal/race.Enable", "internal/race.Acquire", "(*internal/sync.Mutex).lockSlow", "internal/sync.runtime_canSpin", "internal/sync.runtime_doSpin", "internal/sync.throw", "internal/sync.runtime_nanotime", "internal/sync.runtime_SemacquireMutex", "sync/atomic.AddInt32", "(*internal/sync.Mutex).Unlock", "internal/race.ReleaseMerge", "(*internal/sync.Mutex).unlockSlow", "internal/sync.fatal", "internal/sync.runtime_Semrelease", "sync/atomic.StoreUint32"], unfollowed := true, recurses := true, apart := false }
def KinemStandsSaid : Prop := kinemStandsRow.holds Try.pinned (OpenSpec.ofChange kinemStandsSpec)

/-- ITS FALSE NEIGHBOUR: 'it returns false'. Refute it at one input. -/
def kinemStandsWrong : ChangeSpec := { name := "kinemStands", fn := fun _ => fun
  | [d1, d2, d3, d4, d5] => { results := [.lit (.bool false)], args := [d1, d2, d3, d4, d5] }
  | _ => none }
def KinemStandsWrongFalsely : Prop := kinemStandsRow.holds Try.pinned (OpenSpec.ofChange kinemStandsWrong)

/-- 'skeplaw09.KinemLater': WHATEVER THE INPUT: true; the input reads as it did. -/
def kinemLaterSpec : ChangeSpec := { name := "kinemLater", fn := fun _ => fun
  | [d1, d2, d3, d4, d5] => { results := [.lit (.bool true)], args := [d1, d2, d3, d4, d5] }
  | _ => none }
def kinemLaterRow : OpenClaim := { program := "ytongkhanbpboaaa", sum := "4705cece01191b237b446e24e8c6c2eac8e769139fa01161a0057aa778bbbd46", func := "skep/skeplaw09.KinemLater", spec := "kinemLater", inPlace := ["sync/atomic.LoadUint32", "(*internal/sync.Mutex).Lock", "internal/race.Disable", "sync/atomic.CompareAndSwapInt32", "internal/race.Enable", "internal/race.Acquire", "(*internal/sync.Mutex).lockSlow", "internal/sync.runtime_canSpin", "internal/sync.runtime_doSpin", "internal/sync.throw", "internal/sync.runtime_nanotime", "internal/sync.runtime_SemacquireMutex", "sync/atomic.AddInt32", "(*internal/sync.Mutex).Unlock", "internal/race.ReleaseMerge", "(*internal/sync.Mutex).unlockSlow", "internal/sync.fatal", "internal/sync.runtime_Semrelease", "sync/atomic.StoreUint32"], unfollowed := true, recurses := true, apart := false }
def KinemLaterSaid : Prop := kinemLaterRow.holds Try.pinned (OpenSpec.ofChange kinemLaterSpec)

/-- ITS FALSE NEIGHBOUR: 'it returns false'. Refute it at one input. -/
def kinemLaterWrong : ChangeSpec := { name := "kinemLater", fn := fun _ => fun
  | [d1, d2, d3, d4, d5] => { results := [.lit (.bool false)], args := [d1, d2, d3, d4, d5] }
  | _ => none }
def KinemLaterWrongFalsely : Prop := kinemLaterRow.holds Try.pinned (OpenSpec.ofChange kinemLaterWrong)

/-- 'skeplaw09.KinemWindows': WHATEVER THE INPUT: true; the input reads as it did. -/
def kinemWindowsSpec : ChangeSpec := { name := "kinemWindows", fn := fun _ => fun
  | [d1, d2, d3, d4, d5] => { results := [.lit (.bool true)], args := [d1, d2, d3, d4, d5] }
  | _ => none }
def kinemWindowsRow : OpenClaim := { program := "ytongkhanbpboaaa", sum := "4705cece01191b237b446e24e8c6c2eac8e769139fa01161a0057aa778bbbd46", func := "skep/skeplaw09.KinemWindows", spec := "kinemWindows", inPlace := ["sync/atomic.LoadUint32", "(*internal/sync.Mutex).Lock", "internal/race.Disable", "sync/atomic.CompareAndSwapInt32", "internal/race.Enable", "internal/race.Acquire", "(*internal/sync.Mutex).lockSlow", "internal/sync.runtime_canSpin", "internal/sync.runtime_doSpin", "internal/sync.throw", "internal/sync.runtime_nanotime", "internal/sync.runtime_SemacquireMutex", "sync/atomic.AddInt32", "(*internal/sync.Mutex).Unlock", "internal/race.ReleaseMerge", "(*internal/sync.Mutex).unlockSlow", "internal/sync.fatal", "internal/sync.runtime_Semrelease", "sync/atomic.StoreUint32"], unfollowed := true, recurses := true, apart := false }
def KinemWindowsSaid : Prop := kinemWindowsRow.holds Try.pinned (OpenSpec.ofChange kinemWindowsSpec)

/-- ITS FALSE NEIGHBOUR: 'it returns false'. Refute it at one input. -/
def kinemWindowsWrong : ChangeSpec := { name := "kinemWindows", fn := fun _ => fun
  | [d1, d2, d3, d4, d5] => { results := [.lit (.bool false)], args := [d1, d2, d3, d4, d5] }
  | _ => none }
def KinemWindowsWrongFalsely : Prop := kinemWindowsRow.holds Try.pinned (OpenSpec.ofChange kinemWindowsWrong)

/-- 'skeplaw09.KinemTakes': WHATEVER THE INPUT: true; the input reads as it did. -/
def kinemTakesSpec : ChangeSpec := { name := "kinemTakes", fn := fun _ => fun
  | [d1, d2, d3, d4, d5] => { results := [.lit (.bool true)], args := [d1, d2, d3, d4, d5] }
  | _ => none }
def kinemTakesRow : OpenClaim := { program := "ytongkhanbpboaaa", sum := "4705cece01191b237b446e24e8c6c2eac8e769139fa01161a0057aa778bbbd46", func := "skep/skeplaw09.KinemTakes", spec := "kinemTakes", inPlace := ["sync/atomic.LoadUint32", "(*internal/sync.Mutex).Lock", "internal/race.Disable", "sync/atomic.CompareAndSwapInt32", "internal/race.Enable", "internal/race.Acquire", "(*internal/sync.Mutex).lockSlow", "internal/sync.runtime_canSpin", "internal/sync.runtime_doSpin", "internal/sync.throw", "internal/sync.runtime_nanotime", "internal/sync.runtime_SemacquireMutex", "sync/atomic.AddInt32", "(*internal/sync.Mutex).Unlock", "internal/race.ReleaseMerge", "(*internal/sync.Mutex).unlockSlow", "internal/sync.fatal", "internal/sync.runtime_Semrelease", "sync/atomic.StoreUint32"], unfollowed := true, recurses := true, apart := false }
def KinemTakesSaid : Prop := kinemTakesRow.holds Try.pinned (OpenSpec.ofChange kinemTakesSpec)

/-- ITS FALSE NEIGHBOUR: 'it returns false'. Refute it at one input. -/
def kinemTakesWrong : ChangeSpec := { name := "kinemTakes", fn := fun _ => fun
  | [d1, d2, d3, d4, d5] => { results := [.lit (.bool false)], args := [d1, d2, d3, d4, d5] }
  | _ => none }
def KinemTakesWrongFalsely : Prop := kinemTakesRow.holds Try.pinned (OpenSpec.ofChange kinemTakesWrong)

/-- 'skeplaw09.KinemCovers': WHATEVER THE INPUT: true; the input reads as it did. -/
def kinemCoversSpec : ChangeSpec := { name := "kinemCovers", fn := fun _ => fun
  | [d1, d2, d3, d4, d5] => { results := [.lit (.bool true)], args := [d1, d2, d3, d4, d5] }
  | _ => none }
def kinemCoversRow : OpenClaim := { program := "ytongkhanbpboaaa", sum := "4705cece01191b237b446e24e8c6c2eac8e769139fa01161a0057aa778bbbd46", func := "skep/skeplaw09.KinemCovers", spec := "kinemCovers", inPlace := ["sync/atomic.LoadUint32", "(*internal/sync.Mutex).Lock", "internal/race.Disable", "sync/atomic.CompareAndSwapInt32", "internal/race.Enable", "internal/race.Acquire", "(*internal/sync.Mutex).lockSlow", "internal/sync.runtime_canSpin", "internal/sync.runtime_doSpin", "internal/sync.throw", "internal/sync.runtime_nanotime", "internal/sync.runtime_SemacquireMutex", "sync/atomic.AddInt32", "(*internal/sync.Mutex).Unlock", "internal/race.ReleaseMerge", "(*internal/sync.Mutex).unlockSlow", "internal/sync.fatal", "internal/sync.runtime_Semrelease", "sync/atomic.StoreUint32"], unfollowed := true, recurses := true, apart := false }
def KinemCoversSaid : Prop := kinemCoversRow.holds Try.pinned (OpenSpec.ofChange kinemCoversSpec)

/-- ITS FALSE NEIGHBOUR: 'it returns false'. Refute it at one input. -/
def kinemCoversWrong : ChangeSpec := { name := "kinemCovers", fn := fun _ => fun
  | [d1, d2, d3, d4, d5] => { results := [.lit (.bool false)], args := [d1, d2, d3, d4, d5] }
  | _ => none }
def KinemCoversWrongFalsely : Prop := kinemCoversRow.holds Try.pinned (OpenSpec.ofChange kinemCoversWrong)

/- THE SECOND FORM. 'bulk': how many values and letters a reading holds, each counted each time it is reached (what is shared counts as often as it is met; a slice's spare places count too). A statement '..UptoSaid' is the law's where the arguments, and the package variables that the reading takes, are together of bulk at most 1048576: NARROWER than '..Said'. Prove '..Said' where nothing that the law and all that it calls make is longer than what came in: it says more and counts as full. Else prove '..UptoSaid'. A law counts once. -/
mutual
def uptoBulk {H : Type} : DataW H → Nat
  | .lit (.string bytes) => bytes.length + 1
  | .lit _ => 1
  | .nil => 1
  | .ptr d => uptoBulk d + 1
  | .slice elems spare => uptoBulkAll elems + uptoBulkAll spare + 1
  | .agg parts => uptoBulkAll parts + 1
  | .iface _ d => uptoBulk d + 1
  | .map entries => uptoBulkEntries entries + 1
  | .held _ => 1
def uptoBulkAll {H : Type} : List (DataW H) → Nat
  | [] => 0
  | d :: r => uptoBulk d + uptoBulkAll r
def uptoBulkEntries {H : Type} : List (Lit × DataW H) → Nat
  | [] => 0
  | x :: r => uptoBulkEntry x + uptoBulkEntries r
def uptoBulkEntry {H : Type} : Lit × DataW H → Nat
  | (.string bytes, d) => bytes.length + uptoBulk d + 1
  | (_, d) => uptoBulk d + 1
 end
def uptoSmall : (H : Type) → List (DataW H) → Bool := fun _ ds => decide (uptoBulkAll ds ≤ 1048576)
def OpenSpec.upto (s : _root_.Go.ChangeSpec) : _root_.Go.OpenSpec := { _root_.Go.OpenSpec.ofChange s with cond := some uptoSmall }

/-- 'skeplaw09.KinemNews', WHERE WHAT IT READS IS OF BULK AT MOST 1048576: true; the input reads as it did. -/
def kinemNewsUptoRow : OpenClaim := { program := "ytongkhanbpboaaa", sum := "4705cece01191b237b446e24e8c6c2eac8e769139fa01161a0057aa778bbbd46", func := "skep/skeplaw09.KinemNews", spec := "kinemNews", inPlace := ["sync/atomic.LoadUint32", "(*internal/sync.Mutex).Lock", "internal/race.Disable", "sync/atomic.CompareAndSwapInt32", "internal/race.Enable", "internal/race.Acquire", "(*internal/sync.Mutex).lockSlow", "internal/sync.runtime_canSpin", "internal/sync.runtime_doSpin", "internal/sync.throw", "internal/sync.runtime_nanotime", "internal/sync.runtime_SemacquireMutex", "sync/atomic.AddInt32", "(*internal/sync.Mutex).Unlock", "internal/race.ReleaseMerge", "(*internal/sync.Mutex).unlockSlow", "internal/sync.fatal", "internal/sync.runtime_Semrelease", "sync/atomic.StoreUint32"], unfollowed := true, recurses := true, apart := false, narrowed := true }
def KinemNewsUptoSaid : Prop := kinemNewsUptoRow.holds Try.pinned (OpenSpec.upto kinemNewsSpec)

/-- 'skeplaw09.KinemProfiles', WHERE WHAT IT READS IS OF BULK AT MOST 1048576: true; the input reads as it did. -/
def kinemProfilesUptoRow : OpenClaim := { program := "ytongkhanbpboaaa", sum := "4705cece01191b237b446e24e8c6c2eac8e769139fa01161a0057aa778bbbd46", func := "skep/skeplaw09.KinemProfiles", spec := "kinemProfiles", inPlace := ["sync/atomic.LoadUint32", "(*internal/sync.Mutex).Lock", "internal/race.Disable", "sync/atomic.CompareAndSwapInt32", "internal/race.Enable", "internal/race.Acquire", "(*internal/sync.Mutex).lockSlow", "internal/sync.runtime_canSpin", "internal/sync.runtime_doSpin", "internal/sync.throw", "internal/sync.runtime_nanotime", "internal/sync.runtime_SemacquireMutex", "sync/atomic.AddInt32", "(*internal/sync.Mutex).Unlock", "internal/race.ReleaseMerge", "(*internal/sync.Mutex).unlockSlow", "internal/sync.fatal", "internal/sync.runtime_Semrelease", "sync/atomic.StoreUint32"], unfollowed := true, recurses := true, apart := false, narrowed := true }
def KinemProfilesUptoSaid : Prop := kinemProfilesUptoRow.holds Try.pinned (OpenSpec.upto kinemProfilesSpec)

/-- 'skeplaw09.KinemStops', WHERE WHAT IT READS IS OF BULK AT MOST 1048576: true; the input reads as it did. -/
def kinemStopsUptoRow : OpenClaim := { program := "ytongkhanbpboaaa", sum := "4705cece01191b237b446e24e8c6c2eac8e769139fa01161a0057aa778bbbd46", func := "skep/skeplaw09.KinemStops", spec := "kinemStops", inPlace := ["sync/atomic.LoadUint32", "(*internal/sync.Mutex).Lock", "internal/race.Disable", "sync/atomic.CompareAndSwapInt32", "internal/race.Enable", "internal/race.Acquire", "(*internal/sync.Mutex).lockSlow", "internal/sync.runtime_canSpin", "internal/sync.runtime_doSpin", "internal/sync.throw", "internal/sync.runtime_nanotime", "internal/sync.runtime_SemacquireMutex", "sync/atomic.AddInt32", "(*internal/sync.Mutex).Unlock", "internal/race.ReleaseMerge", "(*internal/sync.Mutex).unlockSlow", "internal/sync.fatal", "internal/sync.runtime_Semrelease", "sync/atomic.StoreUint32"], unfollowed := true, recurses := true, apart := false, narrowed := true }
def KinemStopsUptoSaid : Prop := kinemStopsUptoRow.holds Try.pinned (OpenSpec.upto kinemStopsSpec)

/-- 'skeplaw09.KinemLaws', WHERE WHAT IT READS IS OF BULK AT MOST 1048576: true; the input reads as it did. -/
def kinemLawsUptoRow : OpenClaim := { program := "ytongkhanbpboaaa", sum := "4705cece01191b237b446e24e8c6c2eac8e769139fa01161a0057aa778bbbd46", func := "skep/skeplaw09.KinemLaws", spec := "kinemLaws", inPlace := ["sync/atomic.LoadUint32", "(*internal/sync.Mutex).Lock", "internal/race.Disable", "sync/atomic.CompareAndSwapInt32", "internal/race.Enable", "internal/race.Acquire", "(*internal/sync.Mutex).lockSlow", "internal/sync.runtime_canSpin", "internal/sync.runtime_doSpin", "internal/sync.throw", "internal/sync.runtime_nanotime", "internal/sync.runtime_SemacquireMutex", "sync/atomic.AddInt32", "(*internal/sync.Mutex).Unlock", "internal/race.ReleaseMerge", "(*internal/sync.Mutex).unlockSlow", "internal/sync.fatal", "internal/sync.runtime_Semrelease", "sync/atomic.StoreUint32"], unfollowed := true, recurses := true, apart := false, narrowed := true }
def KinemLawsUptoSaid : Prop := kinemLawsUptoRow.holds Try.pinned (OpenSpec.upto kinemLawsSpec)

/-- 'skeplaw09.KinemFast', WHERE WHAT IT READS IS OF BULK AT MOST 1048576: true; the input reads as it did. -/
def kinemFastUptoRow : OpenClaim := { program := "ytongkhanbpboaaa", sum := "4705cece01191b237b446e24e8c6c2eac8e769139fa01161a0057aa778bbbd46", func := "skep/skeplaw09.KinemFast", spec := "kinemFast", inPlace := ["sync/atomic.LoadUint32", "(*internal/sync.Mutex).Lock", "internal/race.Disable", "sync/atomic.CompareAndSwapInt32", "internal/race.Enable", "internal/race.Acquire", "(*internal/sync.Mutex).lockSlow", "internal/sync.runtime_canSpin", "internal/sync.runtime_doSpin", "internal/sync.throw", "internal/sync.runtime_nanotime", "internal/sync.runtime_SemacquireMutex", "sync/atomic.AddInt32", "(*internal/sync.Mutex).Unlock", "internal/race.ReleaseMerge", "(*internal/sync.Mutex).unlockSlow", "internal/sync.fatal", "internal/sync.runtime_Semrelease", "sync/atomic.StoreUint32"], unfollowed := true, recurses := true, apart := false, narrowed := true }
def KinemFastUptoSaid : Prop := kinemFastUptoRow.holds Try.pinned (OpenSpec.upto kinemFastSpec)

/-- 'skeplaw09.KinemStands', WHERE WHAT IT READS IS OF BULK AT MOST 1048576: true; the input reads as it did. -/
def kinemStandsUptoRow : OpenClaim := { program := "ytongkhanbpboaaa", sum := "4705cece01191b237b446e24e8c6c2eac8e769139fa01161a0057aa778bbbd46", func := "skep/skeplaw09.KinemStands", spec := "kinemStands", inPlace := ["sync/atomic.LoadUint32", "(*internal/sync.Mutex).Lock", "internal/race.Disable", "sync/atomic.CompareAndSwapInt32", "internal/race.Enable", "internal/race.Acquire", "(*internal/sync.Mutex).lockSlow", "internal/sync.runtime_canSpin", "internal/sync.runtime_doSpin", "internal/sync.throw", "internal/sync.runtime_nanotime", "internal/sync.runtime_SemacquireMutex", "sync/atomic.AddInt32", "(*internal/sync.Mutex).Unlock", "internal/race.ReleaseMerge", "(*internal/sync.Mutex).unlockSlow", "internal/sync.fatal", "internal/sync.runtime_Semrelease", "sync/atomic.StoreUint32"], unfollowed := true, recurses := true, apart := false, narrowed := true }
def KinemStandsUptoSaid : Prop := kinemStandsUptoRow.holds Try.pinned (OpenSpec.upto kinemStandsSpec)

/-- 'skeplaw09.KinemLater', WHERE WHAT IT READS IS OF BULK AT MOST 1048576: true; the input reads as it did. -/
def kinemLaterUptoRow : OpenClaim := { program := "ytongkhanbpboaaa", sum := "4705cece01191b237b446e24e8c6c2eac8e769139fa01161a0057aa778bbbd46", func := "skep/skeplaw09.KinemLater", spec := "kinemLater", inPlace := ["sync/atomic.LoadUint32", "(*internal/sync.Mutex).Lock", "internal/race.Disable", "sync/atomic.CompareAndSwapInt32", "internal/race.Enable", "internal/race.Acquire", "(*internal/sync.Mutex).lockSlow", "internal/sync.runtime_canSpin", "internal/sync.runtime_doSpin", "internal/sync.throw", "internal/sync.runtime_nanotime", "internal/sync.runtime_SemacquireMutex", "sync/atomic.AddInt32", "(*internal/sync.Mutex).Unlock", "internal/race.ReleaseMerge", "(*internal/sync.Mutex).unlockSlow", "internal/sync.fatal", "internal/sync.runtime_Semrelease", "sync/atomic.StoreUint32"], unfollowed := true, recurses := true, apart := false, narrowed := true }
def KinemLaterUptoSaid : Prop := kinemLaterUptoRow.holds Try.pinned (OpenSpec.upto kinemLaterSpec)

/-- 'skeplaw09.KinemWindows', WHERE WHAT IT READS IS OF BULK AT MOST 1048576: true; the input reads as it did. -/
def kinemWindowsUptoRow : OpenClaim := { program := "ytongkhanbpboaaa", sum := "4705cece01191b237b446e24e8c6c2eac8e769139fa01161a0057aa778bbbd46", func := "skep/skeplaw09.KinemWindows", spec := "kinemWindows", inPlace := ["sync/atomic.LoadUint32", "(*internal/sync.Mutex).Lock", "internal/race.Disable", "sync/atomic.CompareAndSwapInt32", "internal/race.Enable", "internal/race.Acquire", "(*internal/sync.Mutex).lockSlow", "internal/sync.runtime_canSpin", "internal/sync.runtime_doSpin", "internal/sync.throw", "internal/sync.runtime_nanotime", "internal/sync.runtime_SemacquireMutex", "sync/atomic.AddInt32", "(*internal/sync.Mutex).Unlock", "internal/race.ReleaseMerge", "(*internal/sync.Mutex).unlockSlow", "internal/sync.fatal", "internal/sync.runtime_Semrelease", "sync/atomic.StoreUint32"], unfollowed := true, recurses := true, apart := false, narrowed := true }
def KinemWindowsUptoSaid : Prop := kinemWindowsUptoRow.holds Try.pinned (OpenSpec.upto kinemWindowsSpec)

/-- 'skeplaw09.KinemTakes', WHERE WHAT IT READS IS OF BULK AT MOST 1048576: true; the input reads as it did. -/
def kinemTakesUptoRow : OpenClaim := { program := "ytongkhanbpboaaa", sum := "4705cece01191b237b446e24e8c6c2eac8e769139fa01161a0057aa778bbbd46", func := "skep/skeplaw09.KinemTakes", spec := "kinemTakes", inPlace := ["sync/atomic.LoadUint32", "(*internal/sync.Mutex).Lock", "internal/race.Disable", "sync/atomic.CompareAndSwapInt32", "internal/race.Enable", "internal/race.Acquire", "(*internal/sync.Mutex).lockSlow", "internal/sync.runtime_canSpin", "internal/sync.runtime_doSpin", "internal/sync.throw", "internal/sync.runtime_nanotime", "internal/sync.runtime_SemacquireMutex", "sync/atomic.AddInt32", "(*internal/sync.Mutex).Unlock", "internal/race.ReleaseMerge", "(*internal/sync.Mutex).unlockSlow", "internal/sync.fatal", "internal/sync.runtime_Semrelease", "sync/atomic.StoreUint32"], unfollowed := true, recurses := true, apart := false, narrowed := true }
def KinemTakesUptoSaid : Prop := kinemTakesUptoRow.holds Try.pinned (OpenSpec.upto kinemTakesSpec)

/-- 'skeplaw09.KinemCovers', WHERE WHAT IT READS IS OF BULK AT MOST 1048576: true; the input reads as it did. -/
def kinemCoversUptoRow : OpenClaim := { program := "ytongkhanbpboaaa", sum := "4705cece01191b237b446e24e8c6c2eac8e769139fa01161a0057aa778bbbd46", func := "skep/skeplaw09.KinemCovers", spec := "kinemCovers", inPlace := ["sync/atomic.LoadUint32", "(*internal/sync.Mutex).Lock", "internal/race.Disable", "sync/atomic.CompareAndSwapInt32", "internal/race.Enable", "internal/race.Acquire", "(*internal/sync.Mutex).lockSlow", "internal/sync.runtime_canSpin", "internal/sync.runtime_doSpin", "internal/sync.throw", "internal/sync.runtime_nanotime", "internal/sync.runtime_SemacquireMutex", "sync/atomic.AddInt32", "(*internal/sync.Mutex).Unlock", "internal/race.ReleaseMerge", "(*internal/sync.Mutex).unlockSlow", "internal/sync.fatal", "internal/sync.runtime_Semrelease", "sync/atomic.StoreUint32"], unfollowed := true, recurses := true, apart := false, narrowed := true }
def KinemCoversUptoSaid : Prop := kinemCoversUptoRow.holds Try.pinned (OpenSpec.upto kinemCoversSpec)

end Rows
end Go.Proofs.Ytongkhanbpboaaa
