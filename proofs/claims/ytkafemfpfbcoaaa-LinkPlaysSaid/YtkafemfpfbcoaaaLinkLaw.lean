/- The laws of layer 17, walked: awake. -/
import Derived.Test.YtkafemfpfbcoaaaLink3
import Derived.Test.YtkafemfpfbcoaaaBytes
namespace Go.Proofs.Ytkafemfpfbcoaaa.K
open Go.RowKit
set_option linter.unusedVariables false

theorem gB {B : Nat} {w w1 w2 : World} {g : Nat} (h : Below B w w1) (k : w1.grownBy w2 (some g)) (hB : B ≤ w.heap.size) (hg : B ≤ g) : Below B w w2 := h.trans (gToBelow k (Nat.le_trans hB h.size) hg)
theorem ownT_form {B : Nat} {w : World} {v : Value} {l : List Tl} (h : OwnT B w v l) : ∃ A c, v = .slice A l.length c ∧ l.length ≤ c ∧ RdV w 19 A l.length (l.flatMap tlc) := by
  obtain ⟨A, c, rfl, hc⟩ := own_form h
  exact ⟨A, c, rfl, hc, RdV.of_own h⟩
def tA : Tl := ⟨1, 1, 0, 3, 0, 0, 0, 0, 0, false, 0, 0, false, 0, 0, 0, 0, false, 0⟩
def mA : Mp := upd (fun _ => none) 1 (some (tA, 5))
theorem awake_lens : (dueList mA 10 14 2).length = 0 ∧ (dueList (dueMap mA 10 14 2) 10 15 2).length = 1 ∧ (dueList (dueMap (dueMap mA 10 14 2) 10 15 2) 10 20 2).length = 0 := by decide +kernel
set_option maxHeartbeats 1000000 in
theorem awake_calls (w : World) :
    Calls Try.prog 13 #[] w fun e w' => e = .returned (.bool true) ∧ Below w.heap.size w w' := by
  obtain ⟨a1, a2, a3⟩ := awake_lens
  have A1 := Lib.hid a1
  have A2 := Lib.hid a2
  have A3 := Lib.hid a3
  clear a1 a2 a3
  go_enter Try.func13, Try.ntmps13
  go_wp2_with fail
  refine (new_yes 2 10 w (by omega) (by omega) (by omega)).mono ?_
  rintro e w1 ⟨rfl, hL1, hb1⟩
  go_wp2_with fail
  refine (send_yes _ _ 2 10 _ tA 5 w1 hL1 (by decide) (by decide) (by decide)).mono ?_
  rintro e w2 ⟨rfl, hL2, hg2⟩
  have hb2 := gB hb1 hg2 (Nat.le_refl _) (Nat.le_refl _)
  go_wp2_with (refine wpList_store_row rfl 35 (.tmp 3) (.tmp 19) rfl w2.heap.size rfl 35 #[.int .i64 0, .int .i64 0, .int .i64 0, .int .i64 0, .int .i64 0, .int .i64 0, .int .i64 0, .int .i64 0, .int .i64 0, .bool false, .int .i64 0, .int .i64 0, .bool false, .int .i64 0, .int .i64 0, .int .i64 0, .int .i64 0, .bool false, .int .i64 0] #[.int .i64 tA.k, .int .i64 tA.r, .int .i64 tA.e, .int .i64 tA.n, .int .i64 tA.mq, .int .i64 tA.md, .int .i64 tA.mn, .int .i64 tA.fx, .int .i64 tA.fy, .bool tA.fd, .int .i64 tA.tx, .int .i64 tA.ty, .bool tA.td, .int .i64 tA.ma, .int .i64 tA.me, .int .i64 tA.px, .int .i64 tA.py, .bool tA.pd, .int .i64 tA.ld] rfl (heap_alloc_new _ _) rfl (by kernel_rfl) (one_tele tA) ?_; intro w3 q3 hg3; have f3 : w3.cell? ⟨w2.heap.size, 3, none⟩ = some (.int .i64 3) := (by rw [cell_of_row _ _ _ _ _ _ q3]; rfl); clear q3)
  have hb23 : Below w2.heap.size w2 w3 := (bAlloc (Below.refl _ _) _).trans (gToBelow hg3 (B := w2.heap.size) (by simp) (Nat.le_refl _))
  have hL3 := hL2.below hb23
  have hb3 := bThen hb2 hb23
  clear f3
  refine (due_calls _ _ 2 10 14 mA w3 (by omega) hL3).mono ?_
  rintro e w4 ⟨v4, rfl, ho4, hL4, hg4⟩
  have hb4 := gB hb3 hg4 (Nat.le_refl _) (Nat.le_refl _)
  obtain ⟨A4, c4, rfl, _, _⟩ := ownT_form ho4
  rw [A1.out]
  go_wp2_with fail
  refine (due_calls _ _ 2 10 15 _ w4 (by omega) hL4).mono ?_
  rintro e w5 ⟨v5, rfl, ho5, hL5, hg5⟩
  have hb5 := gB hb4 hg5 (Nat.le_refl _) (Nat.le_refl _)
  obtain ⟨A5, c5, rfl, _, _⟩ := ownT_form ho5
  rw [A2.out]
  go_wp2_with fail
  refine (due_calls _ _ 2 10 20 _ w5 (by omega) hL5).mono ?_
  rintro e w6 ⟨v6, rfl, ho6, hL6, hg6⟩
  have hb6 := gB hb5 hg6 (Nat.le_refl _) (Nat.le_refl _)
  obtain ⟨A6, c6, rfl, _, _⟩ := ownT_form ho6
  rw [A3.out]
  go_wp2
  go_ret
  exact ⟨rfl, hb6⟩
end Go.Proofs.Ytkafemfpfbcoaaa.K
