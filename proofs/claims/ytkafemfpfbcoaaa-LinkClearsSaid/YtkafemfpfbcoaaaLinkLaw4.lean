/- The law LinkClears, walked. -/
import Derived.Test.YtkafemfpfbcoaaaLinkLaw2
import Derived.Test.YtkafemfpfbcoaaaOpenT
namespace Go.Proofs.Ytkafemfpfbcoaaa.K
open Go.RowKit
set_option linter.unusedVariables false

set_option maxHeartbeats 4000000 in
theorem LinkClears_walk (A : Option Addr) (c : Nat) (l : List Tl) (now0 : Int) (w : World) (hr : RdT w A l) :
    Calls Try.prog 8 #[.slice A l.length c, .int .i64 now0] w fun e w' => e = .returned (.bool true) ∧ Below w.heap.size w w' := by
  have hlen := hr.len
  unfold maxLen at hlen
  have p1 := fun (w : World) => place_calls now0 1000 w (by omega) (by omega)
  have hn0 : 0 ≤ now0 % 1000 := by omega
  obtain ⟨now, hnow⟩ : ∃ now, now0 % 1000 = now := ⟨_, rfl⟩
  rw [hnow] at p1
  clear hnow hn0
  go_enter Try.func8, Try.ntmps8
  go_wp2_with fail
  refine (new_yes 8 1 w (by omega) (by omega) (by omega)).mono ?_
  rintro e w1 ⟨rfl, hL1, hb1⟩
  go_wp2
  go_loopw [7] (fun i wr => ∃ (k : Nat) (m : Mp), k ≤ l.length ∧ i = .int .i64 k ∧ LinkIs wr (w.heap.size + 1) w.heap.size 8 1 m ∧ Below w.heap.size w wr) (fun i _ => l.length - (intOf i).toNat)
  case atStart => exact ⟨0, _, Nat.zero_le _, rfl, hL1, hb1⟩
  case round =>
    obtain ⟨k, m, hk, rfl, hL, hb⟩ := hrel
    by_cases hin : k < 40 ∧ k < l.length
    · obtain ⟨h40, hkl⟩ := hin
      obtain ⟨ad, t, rfl, hlt, hc⟩ := (hr.below hb).get k hkl
      have HC := Lib.hid hc
      clear hc hlt
      have p2 := fun (w : World) => place_calls t.r 8 w (by omega) (by omega)
      obtain ⟨r, hr8, hr0, hr1⟩ : ∃ r, t.r % 8 = r ∧ 0 ≤ r ∧ r < 8 := ⟨_, rfl, by omega, by omega⟩
      rw [hr8] at p2
      clear hr8
      go_wp2_with (first
        | (refine wpList_load_at rfl 35 (.tmp 34) rfl (ad.add (k * 19)) rfl #[.int .i64 t.k, .int .i64 t.r, .int .i64 t.e, .int .i64 t.n, .int .i64 t.mq, .int .i64 t.md, .int .i64 t.mn, .int .i64 t.fx, .int .i64 t.fy, .bool t.fd, .int .i64 t.tx, .int .i64 t.ty, .bool t.td, .int .i64 t.ma, .int .i64 t.me, .int .i64 t.px, .int .i64 t.py, .bool t.pd, .int .i64 t.ld] _ HC.out Try.underlying35 rfl (by kernel_rfl) ?_)
        | (refine wpList_store_row rfl 35 (.tmp 8) (.tmp 35) rfl wr.heap.size rfl 35 #[.int .i64 0, .int .i64 0, .int .i64 0, .int .i64 0, .int .i64 0, .int .i64 0, .int .i64 0, .int .i64 0, .int .i64 0, .bool false, .int .i64 0, .int .i64 0, .bool false, .int .i64 0, .int .i64 0, .int .i64 0, .int .i64 0, .bool false, .int .i64 0] #[.int .i64 t.k, .int .i64 t.r, .int .i64 t.e, .int .i64 t.n, .int .i64 t.mq, .int .i64 t.md, .int .i64 t.mn, .int .i64 t.fx, .int .i64 t.fy, .bool t.fd, .int .i64 t.tx, .int .i64 t.ty, .bool t.td, .int .i64 t.ma, .int .i64 t.me, .int .i64 t.px, .int .i64 t.py, .bool t.pd, .int .i64 t.ld] rfl (heap_alloc_new _ _) rfl (by kernel_rfl) (one_tele t) ?_; intro w3 q3 hg3; have Q3 := Lib.hid q3; have f0 : w3.cell? ⟨wr.heap.size, 0, none⟩ = some (.int .i64 t.k) := (by rw [cell_of_row _ _ _ _ _ _ q3]; rfl); have f1 : w3.cell? ⟨wr.heap.size, 1, none⟩ = some (.int .i64 t.r) := (by rw [cell_of_row _ _ _ _ _ _ q3]; rfl); have z0 := frozen_of_row _ _ 0 _ _ q3; have z1 := frozen_of_row _ _ 1 _ _ q3; clear q3)
        | (go_at_call 9; ((with_reducible refine (p2 _).mono ?_); rintro e w' ⟨rfl, rfl⟩)))
      obtain ⟨t2, ht2⟩ : ∃ t2 : Tl, t2 = ⟨2, r, t.e, t.n, t.mq, t.md, t.mn, t.fx, t.fy, t.fd, t.tx, t.ty, t.td, t.ma, t.me, t.px, t.py, t.pd, t.ld⟩ := ⟨_, rfl⟩
      obtain ⟨W, hW⟩ : ∃ W, W = (w3.setCell ⟨wr.heap.size, 1, none⟩ (.int .i64 r)).setCell ⟨wr.heap.size, 0, none⟩ (.int .i64 2) := ⟨_, rfl⟩
      have q5 : W.heap[wr.heap.size]? = some (.cells #[.int .i64 t2.k, .int .i64 t2.r, .int .i64 t2.e, .int .i64 t2.n, .int .i64 t2.mq, .int .i64 t2.md, .int .i64 t2.mn, .int .i64 t2.fx, .int .i64 t2.fy, .bool t2.fd, .int .i64 t2.tx, .int .i64 t2.ty, .bool t2.td, .int .i64 t2.ma, .int .i64 t2.me, .int .i64 t2.px, .int .i64 t2.py, .bool t2.pd, .int .i64 t2.ld] 35 (0, 0)) := by
        rw [hW, ht2]
        exact heap_setCell_same _ _ 0 _ _ _ (heap_setCell_same _ _ 1 _ _ _ Q3.out)
      have hbW : Below wr.heap.size wr W := by
        rw [hW]
        have h3 : Below wr.heap.size wr w3 := (bAlloc (Below.refl _ _) _).trans (gToBelow hg3 (B := wr.heap.size) (by simp) (Nat.le_refl _))
        exact (h3.setCell (Nat.le_refl _) _).setCell (Nat.le_refl _) _
      rw [← hW]
      have hLW := hL.below hbW
      have hbW2 := bThen hb hbW
      have Q5 := Lib.hid q5
      have hsend := send_yes _ _ 8 1 m t2 now W.drew (hLW.below (Below.refl _ _).drew) (by rw [ht2]; exact hr0) (by rw [ht2]; exact hr1) (by rw [ht2]; exact .inr rfl)
      clear hW f0 f1 z0 z1 q5 hbW ht2
      refine still_tail 4 (by kernel_rfl) (by kernel_rfl) ?_
      simp only [List.take_succ_cons, List.take_zero, List.drop_succ_cons, List.drop_zero]
      still_step
      refine wpStill_load_part rfl 35 (.tmp 8) rfl wr.heap.size 0 rfl 35 #[.int .i64 t2.k, .int .i64 t2.r, .int .i64 t2.e, .int .i64 t2.n, .int .i64 t2.mq, .int .i64 t2.md, .int .i64 t2.mn, .int .i64 t2.fx, .int .i64 t2.fy, .bool t2.fd, .int .i64 t2.tx, .int .i64 t2.ty, .bool t2.td, .int .i64 t2.ma, .int .i64 t2.me, .int .i64 t2.px, .int .i64 t2.py, .bool t2.pd, .int .i64 t2.ld] #[.int .i64 t2.k, .int .i64 t2.r, .int .i64 t2.e, .int .i64 t2.n, .int .i64 t2.mq, .int .i64 t2.md, .int .i64 t2.mn, .int .i64 t2.fx, .int .i64 t2.fy, .bool t2.fd, .int .i64 t2.tx, .int .i64 t2.ty, .bool t2.td, .int .i64 t2.ma, .int .i64 t2.me, .int .i64 t2.px, .int .i64 t2.py, .bool t2.pd, .int .i64 t2.ld] (0, 0) _ Q5.out (part_of rfl) Try.underlying35 rfl (by kernel_rfl) ?_
      still_step
      still_call (flipW (p1 _))
      refine wpStill_nil ?_
      go_wp2_with fail
      refine hsend.mono ?_
      rintro e w6 ⟨rfl, hL6, hg6⟩
      have hb6 := gB (hbW2.drew) hg6 (Nat.le_refl _) (Nat.le_refl _)
      clear hsend
      go_wp2
      go_roundw
      case rel => exact ⟨k + 1, _, by omega, by go_num, hL6, hb6⟩
      case measure => simp [intOf]; omega
    · have hout : l.length ≤ k ∨ (k < l.length ∧ 40 ≤ k) := by omega
      clear hin
      rcases hout with e1 | ⟨e1, e2⟩
      all_goals
        go_wp2_with fail
        refine (clear_calls _ _ 8 1 m wr hL).mono ?_
        rintro e w2 ⟨rfl, hL2, hg2⟩
        have hb2 := gB hb hg2 (Nat.le_refl _) (Nat.le_refl _)
        obtain ⟨wo, rfl⟩ : ∃ wo : World, wo = w2 := ⟨_, rfl⟩
        clear hg2 hL
        go_wp2
        go_loopw [9] (fun i wr => ∃ (j : Nat), j ≤ 8 ∧ i = .int .i64 j ∧ LinkIs wr (w.heap.size + 1) w.heap.size 8 1 (fun _ => none) ∧ Below w.heap.size w wr) (fun i _ => 8 - (intOf i).toNat)
        case atStart => exact ⟨0, by omega, rfl, hL2, hb2⟩
        case round =>
          obtain ⟨j, hj, rfl, hLj, hbj⟩ := hrel
          by_cases hj8 : j < 8
          · have c1 : Calls Try.prog 14 #[.pointer (some ⟨w.heap.size + 1, 0, none⟩), .int .i64 (j : Int)] wr fun e w' => e = .returned (.tuple #[.agg #[.int .i64 0, .int .i64 0, .int .i64 0, .int .i64 0, .int .i64 0, .int .i64 0, .int .i64 0, .int .i64 0, .int .i64 0, .bool false, .int .i64 0, .int .i64 0, .bool false, .int .i64 0, .int .i64 0, .int .i64 0, .int .i64 0, .bool false, .int .i64 0], .bool false]) ∧ Below wr.heap.size wr w' := waits_calls _ _ 8 1 (fun _ => none) j wr hLj
            go_wp2_with fail
            refine c1.mono ?_
            rintro e w4 ⟨rfl, hb4⟩
            have hL4 := hLj.below hb4
            clear c1
            go_wp2_with (refine wpList_store_row rfl 35 (.tmp 10) (.tmp 56) rfl w4.heap.size rfl 35 #[.int .i64 0, .int .i64 0, .int .i64 0, .int .i64 0, .int .i64 0, .int .i64 0, .int .i64 0, .int .i64 0, .int .i64 0, .bool false, .int .i64 0, .int .i64 0, .bool false, .int .i64 0, .int .i64 0, .int .i64 0, .int .i64 0, .bool false, .int .i64 0] #[.int .i64 0, .int .i64 0, .int .i64 0, .int .i64 0, .int .i64 0, .int .i64 0, .int .i64 0, .int .i64 0, .int .i64 0, .bool false, .int .i64 0, .int .i64 0, .bool false, .int .i64 0, .int .i64 0, .int .i64 0, .int .i64 0, .bool false, .int .i64 0] rfl (heap_alloc_new _ _) rfl (by kernel_rfl) (by decide) ?_; intro w5 q5 hg5; clear q5)
            have hb45 : Below w4.heap.size w4 w5 := (bAlloc (Below.refl _ _) _).trans (gToBelow hg5 (B := w4.heap.size) (by simp) (Nat.le_refl _))
            have hL5 := hL4.below hb45
            have hb5 := bThen (bThen hbj hb4) hb45
            have c2 : Calls Try.prog 15 #[.pointer (some ⟨w.heap.size + 1, 0, none⟩), .int .i64 (j : Int)] w5 fun e w' => e = .returned (.bool false) ∧ LinkIs w' (w.heap.size + 1) w.heap.size 8 1 (fun _ => none) ∧ w5.grownBy w' (some w.heap.size) := got_calls _ _ 8 1 (fun _ => none) j w5 hL5
            refine c2.mono ?_
            rintro e w6 ⟨rfl, hL6, hg6⟩
            have hb6 := gB hb5 hg6 (Nat.le_refl _) (Nat.le_refl _)
            clear c2 hg6 hg5
            go_wp2
            go_roundw
            case rel => exact ⟨j + 1, by omega, by go_num, hL6, hb6⟩
            case measure => simp [intOf]; omega
          · go_wp2_with fail
            refine (due_calls _ _ 8 1 1099511627776 _ _ (by omega) hLj).mono ?_
            rintro e w7 ⟨v7, rfl, ho7, hL7, hg7⟩
            have hb7 := gB hbj hg7 (Nat.le_refl _) (Nat.le_refl _)
            rw [(due_none 1 1099511627776 8).1] at ho7
            obtain ⟨A7, c7, rfl, _, _⟩ := ownT_form ho7
            rw [List.length_nil]
            clear hg7 hL7
            go_wp2_with (go_at_call 13; ((with_reducible refine (awake_calls _).mono ?_); rintro e w' ⟨rfl, hb9⟩))
            go_ret
            exact ⟨rfl, by (repeat (first | exact Below.refl _ _ | assumption | exact BelT.out (by assumption) | refine Below.setCell ?_ (by first | assumption | (simp; done) | (simp; omega) | omega) _ | refine bAlloc ?_ _ | refine Below.drew ?_ | refine bDrewN ?_ _ | refine bThen ?_ (by assumption)))⟩
end Go.Proofs.Ytkafemfpfbcoaaa.K
