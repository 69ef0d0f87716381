/- The walks of News, Profiles, Stops. No conditions. -/
import Derived.Test.YtongkhanbpboaaaKinL
namespace Go.Proofs.Ytongkhanbpboaaa
open Go.RowKit Go.Eng
set_option linter.unusedVariables false
theorem KinemNews_walk (u a v s : Int) (w : World) (hu : (Lit.int .i64 u).wf = true) (ha : (Lit.int .i64 a).wf = true) (hv : (Lit.int .i64 v).wf = true) (hs : (Lit.int .i64 s).wf = true) :
    Calls Try.prog 3 #[.int .i64 u, .int .i64 a, .int .i64 v, .int .i64 s] w fun e w' => e = .returned (.bool true) ∧ Below w.heap.size w w' := ret_true (KinemNews_s u a v s w)
theorem KinemProfiles_walk (u a v n t : Int) (w : World) (hu : (Lit.int .i64 u).wf = true) (ha : (Lit.int .i64 a).wf = true) (hv : (Lit.int .i64 v).wf = true) (hn : (Lit.int .i64 n).wf = true) (ht : (Lit.int .i64 t).wf = true) :
    Calls Try.prog 4 #[.int .i64 u, .int .i64 a, .int .i64 v, .int .i64 n, .int .i64 t] w fun e w' => e = .returned (.bool true) ∧ Below w.heap.size w w' := ret_true (KinemProfiles_s u a v n t w (wf_i64 ht))
theorem KinemStops_walk (u a v n t : Int) (w : World) (hu : (Lit.int .i64 u).wf = true) (ha : (Lit.int .i64 a).wf = true) (hv : (Lit.int .i64 v).wf = true) (hn : (Lit.int .i64 n).wf = true) (ht : (Lit.int .i64 t).wf = true) :
    Calls Try.prog 5 #[.int .i64 u, .int .i64 a, .int .i64 v, .int .i64 n, .int .i64 t] w fun e w' => e = .returned (.bool true) ∧ Below w.heap.size w w' := ret_true (KinemStops_s u a v n t w (wf_i64 ht))
end Go.Proofs.Ytongkhanbpboaaa
