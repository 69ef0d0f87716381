/- The laws of layer 1, walked. -/
import Derived.Test.YtajdbmomnelchaaTick
namespace Go.Proofs.Ytajdbmomnelchaa.T
open Go.RowKit
set_option linter.unusedVariables false

theorem sum_closed : sum 4611686018427387904 5 = 4611686018427387904 ∧ sum 2 3 = 5 ∧ less 3 5 = 0 ∧ times 1099511627776 1099511627776 = 4611686018427387904 ∧ up 7 2 = 4 := by decide +kernel

theorem awake_calls (w : World) :
    Calls Try.prog 16 #[] w fun e w' => e = .returned (.bool true) ∧ Below w.heap.size w w' := by
  obtain ⟨h1, h2, h3, h4, h5⟩ := sum_closed
  go_enter Try.func16, Try.ntmps16
  go_wp2_with (first | (go_at_call 12; refine (sum_calls _ _ _).mono ?_; rintro e w' ⟨rfl, hg⟩) | (go_at_call 14; refine (less_calls _ _ _).mono ?_; rintro e w' ⟨rfl, hg⟩) | (go_at_call 17; refine (times_calls _ _ _).mono ?_; rintro e w' ⟨rfl, hg⟩) | (go_at_call 19; refine (up_calls _ _ _).mono ?_; rintro e w' ⟨rfl, hg⟩))
  go_ret
  exact ⟨rfl, by (repeat (first | exact Below.refl _ _ | assumption | exact BelT.out (by assumption) | refine Below.setCell ?_ (by first | assumption | (simp; done) | (simp; omega) | omega) _ | refine bAlloc ?_ _ | refine Below.drew ?_ | refine bDrewN ?_ _ | refine bThen ?_ (by assumption)))⟩

theorem in_calls (v : Int) (w : World) (h0 : 0 ≤ v) (h1 : v ≤ 4611686018427387904) :
    Calls Try.prog 21 #[.int .i64 v] w fun e w' => e = .returned (.bool true) ∧ w = w' := by
  go_enter Try.func21, Try.ntmps21
  go_wp2
  go_ret
  exact ⟨rfl, rfl⟩

/-! ### The plain laws -/
theorem sum_rng (a b : Int) : 0 ≤ sum a b ∧ sum a b ≤ 4611686018427387904 := by have := cut_rng a; have := cut_rng b; unfold sum; omega
theorem less_rng (a b : Int) : 0 ≤ less a b ∧ less a b ≤ 4611686018427387904 := by have := cut_rng a; have := cut_rng b; unfold less; omega
theorem times_rng (a b : Int) : 0 ≤ times a b ∧ times a b ≤ 4611686018427387904 := by
  have h1 := cut_rng a; have h2 := cut_rng b; have := Int.mul_nonneg h1.1 h2.1; unfold times; omega
theorem up_rng (a b : Int) : 0 ≤ up a b ∧ up a b ≤ 4611686018427387904 := by
  have h1 := cut_rng a; have h2 := cut_rng b
  unfold up
  split
  · omega
  · split
    · omega
    · have hx0 : 0 ≤ (cut a - 1) / cut b := Int.ediv_nonneg (by omega) (by omega)
      have hx1 : (cut a - 1) / cut b ≤ cut a - 1 := Int.ediv_le_self _ (by omega)
      omega
theorem cut_sum (a b : Int) : cut (sum a b) = sum a b := cut_cut (sum_rng a b).1 (sum_rng a b).2
theorem cut_less (a b : Int) : cut (less a b) = less a b := cut_cut (less_rng a b).1 (less_rng a b).2
theorem cut_times (a b : Int) : cut (times a b) = times a b := cut_cut (times_rng a b).1 (times_rng a b).2
theorem cut_up (a b : Int) : cut (up a b) = up a b := cut_cut (up_rng a b).1 (up_rng a b).2
theorem sum_comm (a b : Int) : sum a b = sum b a := by unfold sum; rw [Int.add_comm (cut a)]
theorem times_comm (a b : Int) : times a b = times b a := by unfold times; rw [Int.mul_comm (cut a)]
theorem sum_assoc (a b c : Int) : sum (sum a b) c = sum a (sum b c) := by
  have := cut_rng a; have := cut_rng b; have := cut_rng c
  have h1 : sum (sum a b) c = if sum a b + cut c ≤ 4611686018427387904 then sum a b + cut c else 4611686018427387904 := by rw [sum, cut_sum]
  have h2 : sum a (sum b c) = if cut a + sum b c ≤ 4611686018427387904 then cut a + sum b c else 4611686018427387904 := by rw [sum, cut_sum]
  rw [h1, h2]; unfold sum; omega
theorem mul_big {x y F : Int} (hx : F ≤ x) (hF : 0 ≤ F) (hy : 0 < y) : F ≤ x * y := by
  have := Int.mul_le_mul_of_nonneg_left (show 1 ≤ y by omega) (show 0 ≤ x by omega)
  omega
theorem cap_mul {x y F : Int} (hF : 0 ≤ F) (hx : 0 ≤ x) (hy : 0 ≤ y) : (if (if x ≤ F then x else F) * y ≤ F then (if x ≤ F then x else F) * y else F) = if x * y ≤ F then x * y else F := by
  by_cases h : x ≤ F
  · rw [if_pos h]
  · rw [if_neg h]
    by_cases hy0 : y = 0
    · subst hy0; simp
    · have h1 := mul_big (x := x) (y := y) (F := F) (by omega) hF (by omega)
      have h2 := mul_big (x := F) (y := y) (F := F) (by omega) hF (by omega)
      have h3 : F * y ≤ x * y := Int.mul_le_mul_of_nonneg_right (by omega) hy
      omega
theorem times_assoc (a b c : Int) : times (times a b) c = times a (times b c) := by
  have ha := cut_rng a; have hb := cut_rng b; have hc := cut_rng c
  have h1 : times (times a b) c = if cut a * cut b * cut c ≤ 4611686018427387904 then cut a * cut b * cut c else 4611686018427387904 := by
    rw [times, cut_times]; exact cap_mul (by omega) (Int.mul_nonneg ha.1 hb.1) hc.1
  have h2 : times a (times b c) = if cut b * cut c * cut a ≤ 4611686018427387904 then cut b * cut c * cut a else 4611686018427387904 := by
    rw [times_comm, times, cut_times]; exact cap_mul (by omega) (Int.mul_nonneg hb.1 hc.1) ha.1
  rw [h1, h2, Int.mul_assoc, Int.mul_comm (cut a)]
theorem cut_mono {a b : Int} (h : a ≤ b) : cut a ≤ cut b := by unfold cut; omega
theorem sum_mono {a b : Int} (c : Int) (h : a ≤ b) : sum a c ≤ sum b c := by have := cut_mono h; unfold sum; omega
theorem times_mono {a b : Int} (c : Int) (h : a ≤ b) : times a c ≤ times b c := by
  have h1 := Int.mul_le_mul_of_nonneg_right (cut_mono h) (cut_rng c).1; unfold times; omega
theorem less_mono {a b : Int} (c : Int) (h : a ≤ b) : less a c ≤ less b c := by
  have := cut_mono h; have := cut_rng a; have := cut_rng b; have := cut_rng c; unfold less; omega
theorem less_anti {a b : Int} (c : Int) (h : a ≤ b) : less c b ≤ less c a := by
  have := cut_mono h; have := cut_rng a; have := cut_rng b; have := cut_rng c; unfold less; omega
theorem less_sum (a b : Int) (h : sum a b < 4611686018427387904) : less (sum a b) b = cut a := by
  have := cut_rng a; have := cut_rng b
  rw [less, cut_sum]; unfold sum at *; omega
theorem up_eq (a b : Int) (h0 : cut a ≠ 0) (hb : 0 < cut b) (ha : cut a < 4611686018427387904) : up a b = (cut a - 1) / cut b + 1 := by
  unfold up; rw [if_neg (by omega), if_neg (by omega)]
theorem up_enough (a b : Int) (hb : 0 < cut b) (ha : cut a < 4611686018427387904) : cut a ≤ times (up a b) b := by
  have h1 := cut_rng a
  rw [times, cut_up]
  by_cases h0 : cut a = 0
  · have h2 := Int.mul_nonneg (up_rng a b).1 (show 0 ≤ cut b by omega)
    omega
  · rw [up_eq a b h0 hb ha]
    have h2 := Int.emod_add_mul_ediv (cut a - 1) (cut b)
    have h3 := Int.emod_lt_of_pos (cut a - 1) hb
    have h4 : ((cut a - 1) / cut b + 1) * cut b = cut b * ((cut a - 1) / cut b) + cut b := by rw [Int.add_mul, Int.mul_comm, Int.one_mul]
    omega
theorem up_least (a b : Int) (hb : 0 < cut b) (ha : cut a < 4611686018427387904) (hu : 0 < up a b) : times (up a b - 1) b < cut a := by
  have h1 := cut_rng a
  have hr := up_rng a b
  rw [times, cut_cut (by omega) (by omega)]
  by_cases h0 : cut a = 0
  · unfold up at hu; rw [if_pos (.inl h0)] at hu; omega
  · rw [up_eq a b h0 hb ha]
    have h2 := Int.emod_add_mul_ediv (cut a - 1) (cut b)
    have h3 := Int.emod_nonneg (cut a - 1) (show cut b ≠ 0 by omega)
    have h4 : ((cut a - 1) / cut b + 1 - 1) * cut b = cut b * ((cut a - 1) / cut b) := by rw [Int.add_sub_cancel, Int.mul_comm]
    omega
theorem times_cut (a b : Int) : times a (cut b) = times a b := by
  have := cut_rng b
  unfold times; rw [cut_cut (a := cut b) (by omega) (by omega)]
theorem up_enough' (a b : Int) (hb : 0 < cut b) (ha : cut a < 4611686018427387904) : cut a ≤ times (up a b) (cut b) := by rw [times_cut]; exact up_enough a b hb ha
theorem up_least' (a b : Int) (hb : 0 < cut b) (ha : cut a < 4611686018427387904) (hu : 0 < up a b) : times (up a b - 1) (cut b) < cut a := by rw [times_cut]; exact up_least a b hb ha hu
theorem less_less (a b c : Int) : less (less a b) c = less a (sum b c) := by
  have := cut_rng a; have := cut_rng b; have := cut_rng c
  have h1 : less (less a b) c = if less a b = 4611686018427387904 then 4611686018427387904 else if cut c ≤ less a b then less a b - cut c else 0 := by rw [less, cut_less]
  have h2 : less a (sum b c) = if cut a = 4611686018427387904 then 4611686018427387904 else if sum b c ≤ cut a then cut a - sum b c else 0 := by rw [less, cut_sum]
  rw [h1, h2]; unfold less sum; omega
theorem times_sum (a b c : Int) : times a (sum b c) = sum (times a b) (times a c) := by
  have ha := cut_rng a; have hb := cut_rng b; have hc := cut_rng c
  have h1 : times a (sum b c) = if (cut b + cut c) * cut a ≤ 4611686018427387904 then (cut b + cut c) * cut a else 4611686018427387904 := by
    rw [times_comm, times, cut_sum]; exact cap_mul (by omega) (by omega) ha.1
  have h2 : sum (times a b) (times a c) = if times a b + times a c ≤ 4611686018427387904 then times a b + times a c else 4611686018427387904 := by rw [sum, cut_times, cut_times]
  have h3 := Int.mul_nonneg ha.1 hb.1
  have h4 := Int.mul_nonneg ha.1 hc.1
  have h5 : (cut b + cut c) * cut a = cut a * cut b + cut a * cut c := by rw [Int.mul_comm, Int.mul_add]
  rw [h1, h2, h5]; unfold times; omega
theorem beq_t {a b : Int} (h : a = b) : (a == b) = true := by simpa using h
theorem bne_f {a b : Int} (h : a = b) : (a != b) = false := by simpa using h

set_option maxHeartbeats 800000 in
theorem TickSums_walk (a b : Int) (w : World) :
    Calls Try.prog 3 #[.int .i64 a, .int .i64 b] w fun e w' => e = .returned (.bool true) ∧ Below w.heap.size w w' := by
  go_enter Try.func3, Try.ntmps3
  go_wp2_with (first | (go_at_call 10; refine (cut_calls _ _).mono ?_; rintro e w' ⟨rfl, rfl⟩) | (go_at_call 11; refine (rcut_calls _ _).mono ?_; rintro e w' ⟨rfl, rfl⟩) | (go_at_call 12; refine (sum_calls _ _ _).mono ?_; rintro e w' ⟨rfl, hg⟩) | (go_at_call 14; refine (less_calls _ _ _).mono ?_; rintro e w' ⟨rfl, hg⟩) | (go_at_call 17; refine (times_calls _ _ _).mono ?_; rintro e w' ⟨rfl, hg⟩) | (go_at_call 19; refine (up_calls _ _ _).mono ?_; rintro e w' ⟨rfl, hg⟩) | (go_at_call 13; refine (rsum_calls _ _ _).mono ?_; rintro e w' ⟨rfl, rfl⟩) | (go_at_call 15; refine (rless_calls _ _ _).mono ?_; rintro e w' ⟨rfl, rfl⟩) | (go_at_call 18; refine (rtimes_calls _ _ _).mono ?_; rintro e w' ⟨rfl, rfl⟩) | (go_at_call 20; refine (rup_calls _ _ _).mono ?_; rintro e w' ⟨rfl, rfl⟩) | (go_at_call 16; refine (awake_calls _).mono ?_; rintro e w' ⟨rfl, hg⟩))
  all_goals go_ret
  all_goals exact ⟨rfl, by (repeat (first | exact Below.refl _ _ | assumption | exact BelT.out (by assumption) | refine Below.setCell ?_ (by first | assumption | (simp; done) | (simp; omega) | omega) _ | refine bAlloc ?_ _ | refine Below.drew ?_ | refine bDrewN ?_ _ | refine bThen ?_ (by assumption)))⟩

set_option maxHeartbeats 800000 in
theorem TickTimes_walk (a b : Int) (w : World) :
    Calls Try.prog 4 #[.int .i64 a, .int .i64 b] w fun e w' => e = .returned (.bool true) ∧ Below w.heap.size w w' := by
  go_enter Try.func4, Try.ntmps4
  go_wp2_with (first | (go_at_call 10; refine (cut_calls _ _).mono ?_; rintro e w' ⟨rfl, rfl⟩) | (go_at_call 11; refine (rcut_calls _ _).mono ?_; rintro e w' ⟨rfl, rfl⟩) | (go_at_call 12; refine (sum_calls _ _ _).mono ?_; rintro e w' ⟨rfl, hg⟩) | (go_at_call 14; refine (less_calls _ _ _).mono ?_; rintro e w' ⟨rfl, hg⟩) | (go_at_call 17; refine (times_calls _ _ _).mono ?_; rintro e w' ⟨rfl, hg⟩) | (go_at_call 19; refine (up_calls _ _ _).mono ?_; rintro e w' ⟨rfl, hg⟩) | (go_at_call 13; refine (rsum_calls _ _ _).mono ?_; rintro e w' ⟨rfl, rfl⟩) | (go_at_call 15; refine (rless_calls _ _ _).mono ?_; rintro e w' ⟨rfl, rfl⟩) | (go_at_call 18; refine (rtimes_calls _ _ _).mono ?_; rintro e w' ⟨rfl, rfl⟩) | (go_at_call 20; refine (rup_calls _ _ _).mono ?_; rintro e w' ⟨rfl, rfl⟩) | (go_at_call 16; refine (awake_calls _).mono ?_; rintro e w' ⟨rfl, hg⟩))
  all_goals go_ret
  all_goals exact ⟨rfl, by (repeat (first | exact Below.refl _ _ | assumption | exact BelT.out (by assumption) | refine Below.setCell ?_ (by first | assumption | (simp; done) | (simp; omega) | omega) _ | refine bAlloc ?_ _ | refine Below.drew ?_ | refine bDrewN ?_ _ | refine bThen ?_ (by assumption)))⟩

set_option maxHeartbeats 800000 in
theorem TickLaws_walk (a b c : Int) (w : World) :
    Calls Try.prog 5 #[.int .i64 a, .int .i64 b, .int .i64 c] w fun e w' => e = .returned (.bool true) ∧ Below w.heap.size w w' := by
  have f1 := bne_f (sum_comm a b)
  have f2 := bne_f (times_comm a b)
  have f3 := beq_t (sum_assoc a b c)
  have f4 := beq_t (times_assoc a b c)
  go_enter Try.func5, Try.ntmps5
  go_wp2_with (first | (go_at_call 10; refine (cut_calls _ _).mono ?_; rintro e w' ⟨rfl, rfl⟩) | (go_at_call 12; refine (sum_calls _ _ _).mono ?_; rintro e w' ⟨rfl, hg⟩) | (go_at_call 14; refine (less_calls _ _ _).mono ?_; rintro e w' ⟨rfl, hg⟩) | (go_at_call 17; refine (times_calls _ _ _).mono ?_; rintro e w' ⟨rfl, hg⟩) | (go_at_call 19; refine (up_calls _ _ _).mono ?_; rintro e w' ⟨rfl, hg⟩) | (go_at_call 16; refine (awake_calls _).mono ?_; rintro e w' ⟨rfl, hg⟩))
  all_goals go_ret
  all_goals exact ⟨rfl, by (repeat (first | exact Below.refl _ _ | assumption | exact BelT.out (by assumption) | refine Below.setCell ?_ (by first | assumption | (simp; done) | (simp; omega) | omega) _ | refine bAlloc ?_ _ | refine Below.drew ?_ | refine bDrewN ?_ _ | refine bThen ?_ (by assumption)))⟩

set_option maxHeartbeats 800000 in
theorem TickAway_walk (a b c : Int) (w : World) :
    Calls Try.prog 8 #[.int .i64 a, .int .i64 b, .int .i64 c] w fun e w' => e = .returned (.bool true) ∧ Below w.heap.size w w' := by
  have f1 := beq_t (less_less a b c)
  go_enter Try.func8, Try.ntmps8
  go_wp2_with (first | (go_at_call 10; refine (cut_calls _ _).mono ?_; rintro e w' ⟨rfl, rfl⟩) | (go_at_call 12; refine (sum_calls _ _ _).mono ?_; rintro e w' ⟨rfl, hg⟩) | (go_at_call 14; refine (less_calls _ _ _).mono ?_; rintro e w' ⟨rfl, hg⟩) | (go_at_call 17; refine (times_calls _ _ _).mono ?_; rintro e w' ⟨rfl, hg⟩) | (go_at_call 19; refine (up_calls _ _ _).mono ?_; rintro e w' ⟨rfl, hg⟩) | (go_at_call 16; refine (awake_calls _).mono ?_; rintro e w' ⟨rfl, hg⟩))
  all_goals go_ret
  all_goals exact ⟨rfl, by (repeat (first | exact Below.refl _ _ | assumption | exact BelT.out (by assumption) | refine Below.setCell ?_ (by first | assumption | (simp; done) | (simp; omega) | omega) _ | refine bAlloc ?_ _ | refine Below.drew ?_ | refine bDrewN ?_ _ | refine bThen ?_ (by assumption)))⟩

set_option maxHeartbeats 800000 in
theorem TickSplit_walk (a b c : Int) (w : World) :
    Calls Try.prog 9 #[.int .i64 a, .int .i64 b, .int .i64 c] w fun e w' => e = .returned (.bool true) ∧ Below w.heap.size w w' := by
  have f1 := beq_t (times_sum a b c)
  go_enter Try.func9, Try.ntmps9
  go_wp2_with (first | (go_at_call 10; refine (cut_calls _ _).mono ?_; rintro e w' ⟨rfl, rfl⟩) | (go_at_call 12; refine (sum_calls _ _ _).mono ?_; rintro e w' ⟨rfl, hg⟩) | (go_at_call 14; refine (less_calls _ _ _).mono ?_; rintro e w' ⟨rfl, hg⟩) | (go_at_call 17; refine (times_calls _ _ _).mono ?_; rintro e w' ⟨rfl, hg⟩) | (go_at_call 19; refine (up_calls _ _ _).mono ?_; rintro e w' ⟨rfl, hg⟩) | (go_at_call 16; refine (awake_calls _).mono ?_; rintro e w' ⟨rfl, hg⟩))
  all_goals go_ret
  all_goals exact ⟨rfl, by (repeat (first | exact Below.refl _ _ | assumption | exact BelT.out (by assumption) | refine Below.setCell ?_ (by first | assumption | (simp; done) | (simp; omega) | omega) _ | refine bAlloc ?_ _ | refine Below.drew ?_ | refine bDrewN ?_ _ | refine bThen ?_ (by assumption)))⟩

set_option maxHeartbeats 800000 in
theorem TickIn_walk (a b c : Int) (w : World) :
    Calls Try.prog 6 #[.int .i64 a, .int .i64 b, .int .i64 c] w fun e w' => e = .returned (.bool true) ∧ Below w.heap.size w w' := by
  by_cases h : b < a
  · have r1 := sum_rng b c
    have r2 := less_rng b c
    have r3 := times_rng b c
    have r4 := up_rng b c
    have r5 := cut_rng b
    have m1 := sum_mono c (show b ≤ a by omega)
    have m2 := times_mono c (show b ≤ a by omega)
    have m3 := less_mono c (show b ≤ a by omega)
    have m4 := less_anti c (show b ≤ a by omega)
    obtain ⟨r1a, r1b⟩ := r1
    obtain ⟨r2a, r2b⟩ := r2
    obtain ⟨r3a, r3b⟩ := r3
    obtain ⟨r4a, r4b⟩ := r4
    obtain ⟨r5a, r5b⟩ := r5
    go_enter Try.func6, Try.ntmps6
    go_wp2_with (first | (go_at_call 10; refine (cut_calls _ _).mono ?_; rintro e w' ⟨rfl, rfl⟩) | (go_at_call 12; refine (sum_calls _ _ _).mono ?_; rintro e w' ⟨rfl, hg⟩) | (go_at_call 14; refine (less_calls _ _ _).mono ?_; rintro e w' ⟨rfl, hg⟩) | (go_at_call 17; refine (times_calls _ _ _).mono ?_; rintro e w' ⟨rfl, hg⟩) | (go_at_call 19; refine (up_calls _ _ _).mono ?_; rintro e w' ⟨rfl, hg⟩) | (go_at_call 16; refine (awake_calls _).mono ?_; rintro e w' ⟨rfl, hg⟩) | (go_at_call 21; refine (in_calls _ _ (by assumption) (by assumption)).mono ?_; rintro e w' ⟨rfl, rfl⟩))
    all_goals go_ret
    all_goals exact ⟨rfl, by (repeat (first | exact Below.refl _ _ | assumption | exact BelT.out (by assumption) | refine Below.setCell ?_ (by first | assumption | (simp; done) | (simp; omega) | omega) _ | refine bAlloc ?_ _ | refine Below.drew ?_ | refine bDrewN ?_ _ | refine bThen ?_ (by assumption)))⟩
  · have r1 := sum_rng a c
    have r2 := less_rng a c
    have r3 := times_rng a c
    have r4 := up_rng a c
    have r5 := cut_rng a
    have m1 := sum_mono c (show a ≤ b by omega)
    have m2 := times_mono c (show a ≤ b by omega)
    have m3 := less_mono c (show a ≤ b by omega)
    have m4 := less_anti c (show a ≤ b by omega)
    obtain ⟨r1a, r1b⟩ := r1
    obtain ⟨r2a, r2b⟩ := r2
    obtain ⟨r3a, r3b⟩ := r3
    obtain ⟨r4a, r4b⟩ := r4
    obtain ⟨r5a, r5b⟩ := r5
    go_enter Try.func6, Try.ntmps6
    go_wp2_with (first | (go_at_call 10; refine (cut_calls _ _).mono ?_; rintro e w' ⟨rfl, rfl⟩) | (go_at_call 12; refine (sum_calls _ _ _).mono ?_; rintro e w' ⟨rfl, hg⟩) | (go_at_call 14; refine (less_calls _ _ _).mono ?_; rintro e w' ⟨rfl, hg⟩) | (go_at_call 17; refine (times_calls _ _ _).mono ?_; rintro e w' ⟨rfl, hg⟩) | (go_at_call 19; refine (up_calls _ _ _).mono ?_; rintro e w' ⟨rfl, hg⟩) | (go_at_call 16; refine (awake_calls _).mono ?_; rintro e w' ⟨rfl, hg⟩) | (go_at_call 21; refine (in_calls _ _ (by assumption) (by assumption)).mono ?_; rintro e w' ⟨rfl, rfl⟩))
    all_goals go_ret
    all_goals exact ⟨rfl, by (repeat (first | exact Below.refl _ _ | assumption | exact BelT.out (by assumption) | refine Below.setCell ?_ (by first | assumption | (simp; done) | (simp; omega) | omega) _ | refine bAlloc ?_ _ | refine Below.drew ?_ | refine bDrewN ?_ _ | refine bThen ?_ (by assumption)))⟩

set_option maxHeartbeats 800000 in
theorem TickBack_walk (a b : Int) (w : World) :
    Calls Try.prog 7 #[.int .i64 a, .int .i64 b] w fun e w' => e = .returned (.bool true) ∧ Below w.heap.size w w' := by
  have ca := cut_rng a
  have cb := cut_rng b
  have su := sum_rng a b
  have ur := up_rng a b
  have q1 : sum a b < 4611686018427387904 → (less (sum a b) b != cut a) = false ∧ (less (sum a b) a != cut b) = false := fun h => ⟨bne_f (less_sum a b h), bne_f (by rw [sum_comm] at h ⊢; exact less_sum b a h)⟩
  have hq1 : (sum a b < 4611686018427387904 ∧ (less (sum a b) b != cut a) = false ∧ (less (sum a b) a != cut b) = false) ∨ ¬ sum a b < 4611686018427387904 := by
    by_cases h : sum a b < 4611686018427387904
    · exact .inl ⟨h, q1 h⟩
    · exact .inr h
  clear q1
  have hq2 : (0 < cut b ∧ cut a < 4611686018427387904 ∧ cut a ≤ times (up a b) (cut b) ∧ 0 < up a b ∧ times (up a b - 1) (cut b) < cut a) ∨ (0 < cut b ∧ cut a < 4611686018427387904 ∧ cut a ≤ times (up a b) (cut b) ∧ ¬ 0 < up a b) ∨ (0 < cut b ∧ ¬ cut a < 4611686018427387904) ∨ ¬ 0 < cut b := by
    by_cases h1 : 0 < cut b
    · by_cases h2 : cut a < 4611686018427387904
      · by_cases h3 : 0 < up a b
        · exact .inl ⟨h1, h2, up_enough' a b h1 h2, h3, up_least' a b h1 h2 h3⟩
        · exact .inr (.inl ⟨h1, h2, up_enough' a b h1 h2, h3⟩)
      · exact .inr (.inr (.inl ⟨h1, h2⟩))
    · exact .inr (.inr (.inr h1))
  rcases hq1 with ⟨s1, s2, s3⟩ | s1 <;> rcases hq2 with ⟨u1, u2, u3, u4, u5⟩ | ⟨u1, u2, u3, u4⟩ | ⟨u1, u2⟩ | u1
  all_goals
    go_enter Try.func7, Try.ntmps7
    go_wp2_with (first | (go_at_call 10; refine (cut_calls _ _).mono ?_; rintro e w' ⟨rfl, rfl⟩) | (go_at_call 12; refine (sum_calls _ _ _).mono ?_; rintro e w' ⟨rfl, hg⟩) | (go_at_call 14; refine (less_calls _ _ _).mono ?_; rintro e w' ⟨rfl, hg⟩) | (go_at_call 17; refine (times_calls _ _ _).mono ?_; rintro e w' ⟨rfl, hg⟩) | (go_at_call 19; refine (up_calls _ _ _).mono ?_; rintro e w' ⟨rfl, hg⟩) | (go_at_call 16; refine (awake_calls _).mono ?_; rintro e w' ⟨rfl, hg⟩))
    all_goals go_ret
    all_goals exact ⟨rfl, by (repeat (first | exact Below.refl _ _ | assumption | exact BelT.out (by assumption) | refine Below.setCell ?_ (by first | assumption | (simp; done) | (simp; omega) | omega) _ | refine bAlloc ?_ _ | refine Below.drew ?_ | refine bDrewN ?_ _ | refine bThen ?_ (by assumption)))⟩

end Go.Proofs.Ytajdbmomnelchaa.T
