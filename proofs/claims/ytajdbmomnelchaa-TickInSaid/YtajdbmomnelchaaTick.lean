/- The contracts of package tick and of its reference. -/
import Derived.Test.YtajdbmomnelchaaCom
namespace Go.Proofs.Ytajdbmomnelchaa.T
open Go.RowKit
set_option linter.unusedVariables false

def cut (a : Int) : Int := if a < 0 then 0 else if a > 4611686018427387904 then 4611686018427387904 else a
theorem cut_rng (a : Int) : 0 ≤ cut a ∧ cut a ≤ 4611686018427387904 := by unfold cut; omega
theorem cut_cut {a : Int} (h : 0 ≤ a) (h' : a ≤ 4611686018427387904) : cut a = a := by unfold cut; omega

def sum (a b : Int) : Int := if cut a + cut b ≤ 4611686018427387904 then cut a + cut b else 4611686018427387904
def less (a b : Int) : Int := if cut a = 4611686018427387904 then 4611686018427387904 else if cut b ≤ cut a then cut a - cut b else 0
def times (a b : Int) : Int := if cut a * cut b ≤ 4611686018427387904 then cut a * cut b else 4611686018427387904
def up (a b : Int) : Int := if cut a = 0 ∨ cut b = 0 then 0 else if cut a = 4611686018427387904 then 4611686018427387904 else (cut a - 1) / cut b + 1

theorem cut_calls (a : Int) (w : World) :
    Calls Try.prog 10 #[.int .i64 a] w fun e w' => e = .returned (.int .i64 (cut a)) ∧ w = w' := by
  go_enter Try.func10, Try.ntmps10
  go_wp2
  all_goals go_ret
  all_goals exact ⟨ret_int (by unfold cut; omega), rfl⟩

theorem rcut_calls (a : Int) (w : World) :
    Calls Try.prog 11 #[.int .i64 a] w fun e w' => e = .returned (.int .i64 (cut a)) ∧ w = w' := by
  go_enter Try.func11, Try.ntmps11
  go_wp2
  all_goals go_ret
  all_goals exact ⟨ret_int (by unfold cut; omega), rfl⟩

theorem both_calls (a b : Int) (w : World) :
    Calls Try.prog 22 #[.int .i64 a, .int .i64 b] w fun e w' => e = .returned (.agg #[.int .i64 (cut a), .int .i64 (cut b)]) ∧ Below w.heap.size w w' := by
  go_enter Try.func22, Try.ntmps22
  go_wp2_with (go_at_call 10; refine (cut_calls _ _).mono ?_; rintro e w' ⟨rfl, rfl⟩)
  go_returns
  exact ⟨rfl, by (repeat (first | exact Below.refl _ _ | assumption | exact BelT.out (by assumption) | refine Below.setCell ?_ (by first | assumption | (simp; done) | (simp; omega) | omega) _ | refine bAlloc ?_ _ | refine Below.drew ?_ | refine bDrewN ?_ _ | refine bThen ?_ (by assumption)))⟩

theorem sum_calls (a b : Int) (w : World) :
    Calls Try.prog 12 #[.int .i64 a, .int .i64 b] w fun e w' => e = .returned (.int .i64 (sum a b)) ∧ Below w.heap.size w w' := by
  have ha := cut_rng a
  have hb := cut_rng b
  go_enter Try.func12, Try.ntmps12
  go_wp2_with (go_at_call 22; refine (both_calls _ _ _).mono ?_; rintro e w' ⟨rfl, hg⟩)
  all_goals go_ret
  all_goals exact ⟨ret_int (by unfold sum; omega), by (repeat (first | exact Below.refl _ _ | assumption | exact BelT.out (by assumption) | refine Below.setCell ?_ (by first | assumption | (simp; done) | (simp; omega) | omega) _ | refine bAlloc ?_ _ | refine Below.drew ?_ | refine bDrewN ?_ _ | refine bThen ?_ (by assumption)))⟩

theorem rsum_calls (a b : Int) (w : World) :
    Calls Try.prog 13 #[.int .i64 a, .int .i64 b] w fun e w' => e = .returned (.int .i64 (sum a b)) ∧ w = w' := by
  have ha := cut_rng a
  have hb := cut_rng b
  go_enter Try.func13, Try.ntmps13
  go_wp2_with (go_at_call 11; refine (rcut_calls _ _).mono ?_; rintro e w' ⟨rfl, rfl⟩)
  all_goals go_ret
  all_goals exact ⟨ret_int (by unfold sum; omega), rfl⟩

theorem less_calls (a b : Int) (w : World) :
    Calls Try.prog 14 #[.int .i64 a, .int .i64 b] w fun e w' => e = .returned (.int .i64 (less a b)) ∧ Below w.heap.size w w' := by
  have ha := cut_rng a
  have hb := cut_rng b
  go_enter Try.func14, Try.ntmps14
  go_wp2_with (go_at_call 22; refine (both_calls _ _ _).mono ?_; rintro e w' ⟨rfl, hg⟩)
  all_goals go_ret
  all_goals exact ⟨ret_int (by simp only [beq_iff_eq, beq_eq_false_iff_ne] at *; unfold less; omega), by (repeat (first | exact Below.refl _ _ | assumption | exact BelT.out (by assumption) | refine Below.setCell ?_ (by first | assumption | (simp; done) | (simp; omega) | omega) _ | refine bAlloc ?_ _ | refine Below.drew ?_ | refine bDrewN ?_ _ | refine bThen ?_ (by assumption)))⟩

theorem rless_calls (a b : Int) (w : World) :
    Calls Try.prog 15 #[.int .i64 a, .int .i64 b] w fun e w' => e = .returned (.int .i64 (less a b)) ∧ w = w' := by
  have ha := cut_rng a
  have hb := cut_rng b
  go_enter Try.func15, Try.ntmps15
  go_wp2_with (go_at_call 11; refine (rcut_calls _ _).mono ?_; rintro e w' ⟨rfl, rfl⟩)
  all_goals go_ret
  all_goals exact ⟨ret_int (by simp only [beq_iff_eq, beq_eq_false_iff_ne] at *; unfold less; omega), rfl⟩

theorem div_fits {x y F : Int} (hy : 0 < y) : (x > F / y) ↔ F < x * y := by
  rw [gt_iff_lt, Int.ediv_lt_iff_lt_mul hy]
theorem up_quot {x y : Int} (hx : 0 < x) (hy : 0 < y) : (x - 1) / y + 1 = if x / y * y < x then x / y + 1 else x / y := by
  have h1 := Int.emod_add_mul_ediv x y
  have h2 := Int.emod_nonneg x (by omega : y ≠ 0)
  have h3 := Int.emod_lt_of_pos x hy
  have h4 := Int.mul_comm y (x / y)
  split
  · rename_i h
    have : (x - 1) / y = x / y := by
      refine (Int.ediv_eq_iff_of_pos hy).2 ⟨by omega, by omega⟩
    omega
  · rename_i h
    have : (x - 1) / y = x / y - 1 := by
      refine (Int.ediv_eq_iff_of_pos hy).2 ⟨?_, ?_⟩
      · rw [Int.sub_mul]; omega
      · rw [Int.sub_mul]; omega
    omega

theorem times_calls (a b : Int) (w : World) :
    Calls Try.prog 17 #[.int .i64 a, .int .i64 b] w fun e w' => e = .returned (.int .i64 (times a b)) ∧ Below w.heap.size w w' := by
  have ha := cut_rng a
  have hb := cut_rng b
  by_cases h0 : cut a = 0
  · have hr : times a b = 0 := by unfold times; rw [h0]; simp
    go_enter Try.func17, Try.ntmps17
    go_wp2_with (go_at_call 22; refine (both_calls _ _ _).mono ?_; rintro e w' ⟨rfl, hg⟩)
    all_goals go_ret
    all_goals exact ⟨ret_int hr.symm, by (repeat (first | exact Below.refl _ _ | assumption | exact BelT.out (by assumption) | refine Below.setCell ?_ (by first | assumption | (simp; done) | (simp; omega) | omega) _ | refine bAlloc ?_ _ | refine Below.drew ?_ | refine bDrewN ?_ _ | refine bThen ?_ (by assumption)))⟩
  · have e0 : (cut a == 0) = false := by simpa using h0
    by_cases h1 : cut b = 0
    · have hr : times a b = 0 := by unfold times; rw [h1]; simp
      go_enter Try.func17, Try.ntmps17
      go_wp2_with (go_at_call 22; refine (both_calls _ _ _).mono ?_; rintro e w' ⟨rfl, hg⟩)
      all_goals go_ret
      all_goals exact ⟨ret_int hr.symm, by (repeat (first | exact Below.refl _ _ | assumption | exact BelT.out (by assumption) | refine Below.setCell ?_ (by first | assumption | (simp; done) | (simp; omega) | omega) _ | refine bAlloc ?_ _ | refine Below.drew ?_ | refine bDrewN ?_ _ | refine bThen ?_ (by assumption)))⟩
    · have e1 : (cut b == 0) = false := by simpa using h1
      have hp : 0 < cut b := by omega
      have hdd := @div_fits (cut a) (cut b) 4611686018427387904 hp
      have hx0 : 0 ≤ 4611686018427387904 / cut b := Int.ediv_nonneg (by omega) (by omega)
      have hx1 : 4611686018427387904 / cut b ≤ 4611686018427387904 := Int.ediv_le_self _ (by omega)
      have hn := Int.mul_nonneg ha.1 hb.1
      by_cases hov : 4611686018427387904 / cut b < cut a
      · have hlt := hdd.1 hov
        have hr : times a b = 4611686018427387904 := by unfold times; rw [if_neg (by omega)]
        clear hdd hlt
        go_enter Try.func17, Try.ntmps17
        go_wp2_with (go_at_call 22; refine (both_calls _ _ _).mono ?_; rintro e w' ⟨rfl, hg⟩)
        go_quiet (fail)
        go_wp2
        all_goals go_ret
        all_goals exact ⟨ret_int hr.symm, by (repeat (first | exact Below.refl _ _ | assumption | exact BelT.out (by assumption) | refine Below.setCell ?_ (by first | assumption | (simp; done) | (simp; omega) | omega) _ | refine bAlloc ?_ _ | refine Below.drew ?_ | refine bDrewN ?_ _ | refine bThen ?_ (by assumption)))⟩
      · have hle : cut a * cut b ≤ 4611686018427387904 := Int.not_lt.1 (fun h => hov (hdd.2 h))
        have hr : times a b = cut a * cut b := by unfold times; rw [if_pos hle]
        clear hdd
        go_enter Try.func17, Try.ntmps17
        go_wp2_with (go_at_call 22; refine (both_calls _ _ _).mono ?_; rintro e w' ⟨rfl, hg⟩)
        go_quiet (fail)
        go_wp2
        all_goals go_ret
        all_goals exact ⟨ret_int hr.symm, by (repeat (first | exact Below.refl _ _ | assumption | exact BelT.out (by assumption) | refine Below.setCell ?_ (by first | assumption | (simp; done) | (simp; omega) | omega) _ | refine bAlloc ?_ _ | refine Below.drew ?_ | refine bDrewN ?_ _ | refine bThen ?_ (by assumption)))⟩

theorem rtimes_calls (a b : Int) (w : World) :
    Calls Try.prog 18 #[.int .i64 a, .int .i64 b] w fun e w' => e = .returned (.int .i64 (times a b)) ∧ w = w' := by
  have ha := cut_rng a
  have hb := cut_rng b
  by_cases h0 : cut a = 0
  · have hr : times a b = 0 := by unfold times; rw [h0]; simp
    go_enter Try.func18, Try.ntmps18
    go_wp2_with (go_at_call 11; refine (rcut_calls _ _).mono ?_; rintro e w' ⟨rfl, rfl⟩)
    all_goals go_ret
    all_goals exact ⟨ret_int hr.symm, rfl⟩
  · have e0 : (cut a == 0) = false := by simpa using h0
    by_cases h1 : cut b = 0
    · have hr : times a b = 0 := by unfold times; rw [h1]; simp
      go_enter Try.func18, Try.ntmps18
      go_wp2_with (go_at_call 11; refine (rcut_calls _ _).mono ?_; rintro e w' ⟨rfl, rfl⟩)
      all_goals go_ret
      all_goals exact ⟨ret_int hr.symm, rfl⟩
    · have e1 : (cut b == 0) = false := by simpa using h1
      have hp : 0 < cut b := by omega
      have hdd := @div_fits (cut a) (cut b) 4611686018427387904 hp
      have hx0 : 0 ≤ 4611686018427387904 / cut b := Int.ediv_nonneg (by omega) (by omega)
      have hx1 : 4611686018427387904 / cut b ≤ 4611686018427387904 := Int.ediv_le_self _ (by omega)
      have hn := Int.mul_nonneg ha.1 hb.1
      by_cases hov : 4611686018427387904 / cut b < cut a
      · have hlt := hdd.1 hov
        have hr : times a b = 4611686018427387904 := by unfold times; rw [if_neg (by omega)]
        clear hdd hlt
        go_enter Try.func18, Try.ntmps18
        go_wp2_with (go_at_call 11; refine (rcut_calls _ _).mono ?_; rintro e w' ⟨rfl, rfl⟩)
        all_goals go_ret
        all_goals exact ⟨ret_int hr.symm, rfl⟩
      · have hle : cut a * cut b ≤ 4611686018427387904 := Int.not_lt.1 (fun h => hov (hdd.2 h))
        have hr : times a b = cut a * cut b := by unfold times; rw [if_pos hle]
        clear hdd
        go_enter Try.func18, Try.ntmps18
        go_wp2_with (go_at_call 11; refine (rcut_calls _ _).mono ?_; rintro e w' ⟨rfl, rfl⟩)
        all_goals go_ret
        all_goals exact ⟨ret_int hr.symm, rfl⟩

theorem up_calls (a b : Int) (w : World) :
    Calls Try.prog 19 #[.int .i64 a, .int .i64 b] w fun e w' => e = .returned (.int .i64 (up a b)) ∧ Below w.heap.size w w' := by
  have ha := cut_rng a
  have hb := cut_rng b
  by_cases h1 : cut b = 0
  · have hr : up a b = 0 := by unfold up; rw [if_pos (.inr h1)]
    go_enter Try.func19, Try.ntmps19
    go_wp2_with (go_at_call 22; refine (both_calls _ _ _).mono ?_; rintro e w' ⟨rfl, hg⟩)
    all_goals go_ret
    all_goals exact ⟨ret_int hr.symm, by (repeat (first | exact Below.refl _ _ | assumption | exact BelT.out (by assumption) | refine Below.setCell ?_ (by first | assumption | (simp; done) | (simp; omega) | omega) _ | refine bAlloc ?_ _ | refine Below.drew ?_ | refine bDrewN ?_ _ | refine bThen ?_ (by assumption)))⟩
  · have e1 : (cut b == 0) = false := by simpa using h1
    by_cases h0 : cut a = 0
    · have hr : up a b = 0 := by unfold up; rw [if_pos (.inl h0)]
      go_enter Try.func19, Try.ntmps19
      go_wp2_with (go_at_call 22; refine (both_calls _ _ _).mono ?_; rintro e w' ⟨rfl, hg⟩)
      all_goals go_ret
      all_goals exact ⟨ret_int hr.symm, by (repeat (first | exact Below.refl _ _ | assumption | exact BelT.out (by assumption) | refine Below.setCell ?_ (by first | assumption | (simp; done) | (simp; omega) | omega) _ | refine bAlloc ?_ _ | refine Below.drew ?_ | refine bDrewN ?_ _ | refine bThen ?_ (by assumption)))⟩
    · have e0 : (cut a == 0) = false := by simpa using h0
      by_cases h2 : cut a = 4611686018427387904
      · have hr : up a b = 4611686018427387904 := by unfold up; rw [if_neg (by omega), if_pos h2]
        go_enter Try.func19, Try.ntmps19
        go_wp2_with (go_at_call 22; refine (both_calls _ _ _).mono ?_; rintro e w' ⟨rfl, hg⟩)
        all_goals go_ret
        all_goals exact ⟨ret_int (by first | exact hr.symm | omega), by (repeat (first | exact Below.refl _ _ | assumption | exact BelT.out (by assumption) | refine Below.setCell ?_ (by first | assumption | (simp; done) | (simp; omega) | omega) _ | refine bAlloc ?_ _ | refine Below.drew ?_ | refine bDrewN ?_ _ | refine bThen ?_ (by assumption)))⟩
      · have e2 : (cut a == 4611686018427387904) = false := by simpa using h2
        have hp : 0 < cut b := by omega
        have hr : up a b = (cut a - 1) / cut b + 1 := by unfold up; rw [if_neg (by omega), if_neg h2]
        have hx0 : 0 ≤ (cut a - 1) / cut b := Int.ediv_nonneg (by omega) (by omega)
        have hx1 : (cut a - 1) / cut b ≤ cut a - 1 := Int.ediv_le_self _ (by omega)
        go_enter Try.func19, Try.ntmps19
        go_wp2_with (go_at_call 22; refine (both_calls _ _ _).mono ?_; rintro e w' ⟨rfl, hg⟩)
        all_goals go_ret
        all_goals exact ⟨ret_int (by omega), by (repeat (first | exact Below.refl _ _ | assumption | exact BelT.out (by assumption) | refine Below.setCell ?_ (by first | assumption | (simp; done) | (simp; omega) | omega) _ | refine bAlloc ?_ _ | refine Below.drew ?_ | refine bDrewN ?_ _ | refine bThen ?_ (by assumption)))⟩

theorem rup_calls (a b : Int) (w : World) :
    Calls Try.prog 20 #[.int .i64 a, .int .i64 b] w fun e w' => e = .returned (.int .i64 (up a b)) ∧ w = w' := by
  have ha := cut_rng a
  have hb := cut_rng b
  by_cases h1 : cut b = 0
  · have hr : up a b = 0 := by unfold up; rw [if_pos (.inr h1)]
    go_enter Try.func20, Try.ntmps20
    go_wp2_with (go_at_call 11; refine (rcut_calls _ _).mono ?_; rintro e w' ⟨rfl, rfl⟩)
    all_goals go_ret
    all_goals exact ⟨ret_int hr.symm, rfl⟩
  · have e1 : (cut b == 0) = false := by simpa using h1
    by_cases h0 : cut a = 0
    · have hr : up a b = 0 := by unfold up; rw [if_pos (.inl h0)]
      go_enter Try.func20, Try.ntmps20
      go_wp2_with (go_at_call 11; refine (rcut_calls _ _).mono ?_; rintro e w' ⟨rfl, rfl⟩)
      all_goals go_ret
      all_goals exact ⟨ret_int hr.symm, rfl⟩
    · have e0 : (cut a == 0) = false := by simpa using h0
      by_cases h2 : cut a = 4611686018427387904
      · have hr : up a b = 4611686018427387904 := by unfold up; rw [if_neg (by omega), if_pos h2]
        go_enter Try.func20, Try.ntmps20
        go_wp2_with (go_at_call 11; refine (rcut_calls _ _).mono ?_; rintro e w' ⟨rfl, rfl⟩)
        all_goals go_ret
        all_goals exact ⟨ret_int (by first | exact hr.symm | omega), rfl⟩
      · have e2 : (cut a == 4611686018427387904) = false := by simpa using h2
        have hp : 0 < cut b := by omega
        have hr : up a b = (cut a - 1) / cut b + 1 := by unfold up; rw [if_neg (by omega), if_neg h2]
        have hx0 : 0 ≤ (cut a - 1) / cut b := Int.ediv_nonneg (by omega) (by omega)
        have hx1 : (cut a - 1) / cut b ≤ cut a - 1 := Int.ediv_le_self _ (by omega)
        have hy0 : 0 ≤ cut a / cut b := Int.ediv_nonneg (by omega) (by omega)
        have hy1 : cut a / cut b ≤ cut a := Int.ediv_le_self _ (by omega)
        have hm0 : 0 ≤ cut a / cut b * cut b := Int.mul_nonneg hy0 hb.1
        have hm1 : cut a / cut b * cut b ≤ cut a := Int.ediv_mul_le _ (by omega)
        have hq := up_quot (x := cut a) (y := cut b) (by omega) hp
        go_enter Try.func20, Try.ntmps20
        go_wp2_with (go_at_call 11; refine (rcut_calls _ _).mono ?_; rintro e w' ⟨rfl, rfl⟩)
        all_goals go_ret
        all_goals exact ⟨ret_int (by simp only [beq_eq_false_iff_ne] at *; omega), rfl⟩

end Go.Proofs.Ytajdbmomnelchaa.T
