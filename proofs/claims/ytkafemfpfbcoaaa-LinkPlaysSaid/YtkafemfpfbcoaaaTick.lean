/- The contracts of package tick and of its reference. -/
import Derived.Test.YtkafemfpfbcoaaaCom
namespace Go.Proofs.Ytkafemfpfbcoaaa.T
open Go.RowKit
set_option linter.unusedVariables false

def cut (a : Int) : Int := if a < 0 then 0 else if a > 4611686018427387904 then 4611686018427387904 else a
theorem cut_rng (a : Int) : 0 ≤ cut a ∧ cut a ≤ 4611686018427387904 := by unfold cut; omega
theorem cut_cut {a : Int} (h : 0 ≤ a) (h' : a ≤ 4611686018427387904) : cut a = a := by unfold cut; omega

def sum (a b : Int) : Int := if cut a + cut b ≤ 4611686018427387904 then cut a + cut b else 4611686018427387904
def less (a b : Int) : Int := if cut a = 4611686018427387904 then 4611686018427387904 else if cut b ≤ cut a then cut a - cut b else 0
def times (a b : Int) : Int := if cut a * cut b ≤ 4611686018427387904 then cut a * cut b else 4611686018427387904
def up (a b : Int) : Int := if cut a = 0 ∨ cut b = 0 then 0 else if cut a = 4611686018427387904 then 4611686018427387904 else (cut a - 1) / cut b + 1

theorem cut_calls (a : Int) (w : World) :
    Calls Try.prog 28 #[.int .i64 a] w fun e w' => e = .returned (.int .i64 (cut a)) ∧ w = w' := by
  go_enter Try.func28, Try.ntmps28
  go_wp2
  all_goals go_ret
  all_goals exact ⟨ret_int (by unfold cut; omega), rfl⟩

theorem rcut_calls (a : Int) (w : World) :
    Calls Try.prog 27 #[.int .i64 a] w fun e w' => e = .returned (.int .i64 (cut a)) ∧ w = w' := by
  go_enter Try.func27, Try.ntmps27
  go_wp2
  all_goals go_ret
  all_goals exact ⟨ret_int (by unfold cut; omega), rfl⟩

theorem both_calls (a b : Int) (w : World) :
    Calls Try.prog 26 #[.int .i64 a, .int .i64 b] w fun e w' => e = .returned (.agg #[.int .i64 (cut a), .int .i64 (cut b)]) ∧ Below w.heap.size w w' := by
  go_enter Try.func26, Try.ntmps26
  go_wp2_with (go_at_call 28; ((with_reducible refine (cut_calls _ _).mono ?_); rintro e w' ⟨rfl, rfl⟩))
  go_returns
  exact ⟨rfl, by (repeat (first | exact Below.refl _ _ | assumption | exact BelT.out (by assumption) | refine Below.setCell ?_ (by first | assumption | (simp; done) | (simp; omega) | omega) _ | refine bAlloc ?_ _ | refine Below.drew ?_ | refine bDrewN ?_ _ | refine bThen ?_ (by assumption)))⟩



theorem less_calls (a b : Int) (w : World) :
    Calls Try.prog 24 #[.int .i64 a, .int .i64 b] w fun e w' => e = .returned (.int .i64 (less a b)) ∧ Below w.heap.size w w' := by
  have ha := cut_rng a
  have hb := cut_rng b
  go_enter Try.func24, Try.ntmps24
  go_wp2_with (go_at_call 26; ((with_reducible refine (both_calls _ _ _).mono ?_); rintro e w' ⟨rfl, hg⟩))
  all_goals go_ret
  all_goals exact ⟨ret_int (by simp only [beq_iff_eq, beq_eq_false_iff_ne] at *; unfold less; omega), by (repeat (first | exact Below.refl _ _ | assumption | exact BelT.out (by assumption) | refine Below.setCell ?_ (by first | assumption | (simp; done) | (simp; omega) | omega) _ | refine bAlloc ?_ _ | refine Below.drew ?_ | refine bDrewN ?_ _ | refine bThen ?_ (by assumption)))⟩

theorem rless_calls (a b : Int) (w : World) :
    Calls Try.prog 25 #[.int .i64 a, .int .i64 b] w fun e w' => e = .returned (.int .i64 (less a b)) ∧ w = w' := by
  have ha := cut_rng a
  have hb := cut_rng b
  go_enter Try.func25, Try.ntmps25
  go_wp2_with (go_at_call 27; ((with_reducible refine (rcut_calls _ _).mono ?_); rintro e w' ⟨rfl, rfl⟩))
  all_goals go_ret
  all_goals exact ⟨ret_int (by simp only [beq_iff_eq, beq_eq_false_iff_ne] at *; unfold less; omega), rfl⟩

theorem div_fits {x y F : Int} (hy : 0 < y) : (x > F / y) ↔ F < x * y := by
  rw [gt_iff_lt, Int.ediv_lt_iff_lt_mul hy]
theorem up_quot {x y : Int} (hx : 0 < x) (hy : 0 < y) : (x - 1) / y + 1 = if x / y * y < x then x / y + 1 else x / y := by
  have h1 := Int.emod_add_mul_ediv x y
  have h2 := Int.emod_nonneg x (by omega : y ≠ 0)
  have h3 := Int.emod_lt_of_pos x hy
  have h4 := Int.mul_comm y (x / y)
  split
  · rename_i h
    have : (x - 1) / y = x / y := by
      refine (Int.ediv_eq_iff_of_pos hy).2 ⟨by omega, by omega⟩
    omega
  · rename_i h
    have : (x - 1) / y = x / y - 1 := by
      refine (Int.ediv_eq_iff_of_pos hy).2 ⟨?_, ?_⟩
      · rw [Int.sub_mul]; omega
      · rw [Int.sub_mul]; omega
    omega





end Go.Proofs.Ytkafemfpfbcoaaa.T
