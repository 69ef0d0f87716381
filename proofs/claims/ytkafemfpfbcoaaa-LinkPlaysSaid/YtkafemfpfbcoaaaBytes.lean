/- Contracts of the small functions that all laws share: copies of bytes, places. -/
import Derived.Test.YtkafemfpfbcoaaaMem
namespace Go.Proofs.Ytkafemfpfbcoaaa
open Go.RowKit
set_option linter.unusedVariables false

theorem place_calls (v n : Int) (w : World) (h : 0 < n) (h' : n ≤ 4611686018427387904) :
    Calls Try.prog 9 #[.int .i64 v, .int .i64 n] w fun e w' => e = .returned (.int .i64 (v % n)) ∧ w = w' := by
  have hb : (n == 0) = false := by simp; omega
  have h1 := Int.tmod_lt_of_pos v h
  have h2 := Int.lt_tmod_of_pos v h
  have h3 := Int.tmod_eq_emod (a := v) (b := n)
  by_cases h0 : v.tmod n < 0
  · have hr : v % n = v.tmod n + n := by
      by_cases hv : 0 ≤ v
      · have := Int.tmod_nonneg n hv; omega
      · rw [h3]
        split
        · rename_i hh
          rcases hh with hh | hh
          · omega
          · have := Int.tmod_eq_zero_of_dvd hh; omega
        · omega
    clear h3
    go_enter Try.func9, Try.ntmps9
    go_wp2
    go_ret
    exact ⟨ret_int (by omega), rfl⟩
  · have hr : v % n = v.tmod n := by
      by_cases hv : 0 ≤ v
      · exact (Int.tmod_eq_emod_of_nonneg hv).symm
      · rw [h3]
        split
        · simp
        · rename_i hh
          have h4 := Int.emod_lt_of_pos v h
          rw [h3, if_neg hh] at h0
          have : (n.natAbs : Int) = n := by omega
          omega
    clear h3
    go_enter Try.func9, Try.ntmps9
    go_wp2
    go_ret
    exact ⟨ret_int (by omega), rfl⟩
end Go.Proofs.Ytkafemfpfbcoaaa
