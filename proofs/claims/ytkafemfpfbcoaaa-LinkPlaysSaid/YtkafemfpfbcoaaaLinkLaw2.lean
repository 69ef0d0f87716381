/- The law LinkNews, walked. -/
import Derived.Test.YtkafemfpfbcoaaaLinkLaw
namespace Go.Proofs.Ytkafemfpfbcoaaa.K
open Go.RowKit
set_option linter.unusedVariables false

theorem due_none (re now : Int) (k : Nat) : dueList (fun _ => none) re now k = [] ∧ dueMap (fun _ => none) re now k = fun _ => none := by
  induction k with
  | zero => exact ⟨rfl, rfl⟩
  | succ k ih =>
    have : isDue (fun _ => none) re now k = false := rfl
    unfold dueList dueMap
    rw [this]
    exact ih
def tB (j : Int) : Tl := ⟨2, j, 0, 0, 0, 0, 0, 0, 0, false, 0, 0, false, 0, 0, 0, 0, false, 0⟩
theorem tB_send (b bm : Nat) (ro re : Int) (m : Mp) (j now : Int) (w : World) (h : LinkIs w b bm ro re m) :
    Calls Try.prog 11 #[.pointer (some ⟨b, 0, none⟩), .agg #[.int .i64 2, .int .i64 j, .int .i64 0, .int .i64 0, .int .i64 0, .int .i64 0, .int .i64 0, .int .i64 0, .int .i64 0, .bool false, .int .i64 0, .int .i64 0, .bool false, .int .i64 0, .int .i64 0, .int .i64 0, .int .i64 0, .bool false, .int .i64 0], .int .i64 now] w fun e w' =>
      ∃ (t : Tl) (f : Int) (m' : Mp), e = .returned (.tuple #[.agg #[.int .i64 t.k, .int .i64 t.r, .int .i64 t.e, .int .i64 t.n, .int .i64 t.mq, .int .i64 t.md, .int .i64 t.mn, .int .i64 t.fx, .int .i64 t.fy, .bool t.fd, .int .i64 t.tx, .int .i64 t.ty, .bool t.td, .int .i64 t.ma, .int .i64 t.me, .int .i64 t.px, .int .i64 t.py, .bool t.pd, .int .i64 t.ld], .int .i64 f]) ∧ ((f == 0) = (decide (0 ≤ j) && decide (j < ro))) ∧ LinkIs w' b bm ro re m' ∧ (∀ x, x ≠ j → m' x = m x) ∧ w.grownBy w' (some bm) := by
  by_cases hin : 0 ≤ j ∧ j < ro
  · refine (send_yes b bm ro re m (tB j) now w h hin.1 hin.2 (.inr rfl)).mono ?_
    rintro e w' ⟨rfl, hL, hg⟩
    refine ⟨tB j, 0, _, rfl, ?_, hL, fun x hx => ?_, hg⟩
    · simp [hin.1, hin.2]
    · show upd m j _ x = m x
      unfold upd; rw [if_neg hx]
  · refine (send_no b bm ro re m (tB j) now w h ?_).mono ?_
    · rcases Int.lt_or_le j 0 with h1 | h1
      · exact .inl h1
      · exact .inr (.inl (by show ro ≤ j; omega))
    · rintro e w' ⟨rfl, hb⟩
      refine ⟨Tl.zero, 1, m, rfl, ?_, h.below hb, fun _ _ => rfl, ⟨hb.os, hb.tape, hb.output, hb.size, fun i hi _ => hb.block i hi⟩⟩
      have : (decide (0 ≤ j) && decide (j < ro)) = false := by
        rw [Bool.and_eq_false_iff, decide_eq_false_iff_not, decide_eq_false_iff_not]; omega
      rw [this]; rfl

set_option maxHeartbeats 1000000 in
theorem LinkNews_walk (ro re : Int) (w : World) :
    Calls Try.prog 4 #[.int .i64 ro, .int .i64 re] w fun e w' => e = .returned (.bool true) ∧ Below w.heap.size w w' := by
  by_cases hno : ro < 0 ∨ 8 < ro ∨ re < 1
  · have hc := new_no ro re w hno
    go_enter Try.func4, Try.ntmps4
    go_wp2_with (first | (go_at_call 10; ((with_reducible refine (hc).mono ?_); rintro e w' ⟨rfl, rfl⟩)) | (go_at_call 13; ((with_reducible refine (awake_calls _).mono ?_); rintro e w' ⟨rfl, hb⟩)))
    all_goals go_ret
    all_goals exact ⟨rfl, by (repeat (first | exact Below.refl _ _ | assumption | exact BelT.out (by assumption) | refine Below.setCell ?_ (by first | assumption | (simp; done) | (simp; omega) | omega) _ | refine bAlloc ?_ _ | refine Below.drew ?_ | refine bDrewN ?_ _ | refine bThen ?_ (by assumption)))⟩
  · have h0 : 0 ≤ ro := by omega
    have h1 : ro ≤ 8 := by omega
    have h2 : 1 ≤ re := by omega
    clear hno
    obtain ⟨n, rfl⟩ := Int.eq_ofNat_of_zero_le h0
    go_enter Try.func4, Try.ntmps4
    go_wp2_with fail
    refine (new_yes n re w h0 h1 h2).mono ?_
    rintro e w1 ⟨rfl, hL1, hb1⟩
    go_wp2_with fail
    refine (due_calls _ _ n re 1099511627776 _ w1 (by omega) hL1).mono ?_
    rintro e w2 ⟨v2, rfl, ho2, hL2, hg2⟩
    have hb2 := gB hb1 hg2 (Nat.le_refl _) (Nat.le_refl _)
    obtain ⟨A2, c2, rfl, _, _⟩ := ownT_form ho2
    rw [(due_none re 1099511627776 n).2] at hL2
    rw [(due_none re 1099511627776 n).1, List.length_nil]
    clear ho2 hg2 hL1 hb1
    go_wp2
    go_loopw [7] (fun i wr => ∃ (j : Int) (m : Mp), -1 ≤ j ∧ j ≤ n + 1 ∧ i = .int .i64 j ∧ (∀ x, j ≤ x → m x = none) ∧ LinkIs wr (w.heap.size + 1) w.heap.size n re m ∧ Below w.heap.size w wr) (fun i _ => (n + 1 - intOf i).toNat)
    case atStart => exact ⟨-1, _, by omega, by omega, rfl, fun _ _ => rfl, hL2, hb2⟩
    case round =>
      obtain ⟨j, m, hj0, hj1, rfl, hm, hL, hb⟩ := hrel
      by_cases hjn : j ≤ n
      · have c1 := waits_calls _ _ _ _ m j wr hL
        have hf : found m j = (Tl.zero, false) := by unfold found; rw [hm j (Int.le_refl _)]
        rw [hf] at c1
        have HM := Lib.hid hm
        clear hm hf
        go_wp2_with fail
        refine c1.mono ?_
        rintro e w3 ⟨rfl, hb3⟩
        have hL3 := hL.below hb3
        clear c1
        go_wp2_with (refine wpList_store_row rfl 35 (.tmp 8) (.tmp 58) rfl w3.heap.size rfl 35 #[.int .i64 0, .int .i64 0, .int .i64 0, .int .i64 0, .int .i64 0, .int .i64 0, .int .i64 0, .int .i64 0, .int .i64 0, .bool false, .int .i64 0, .int .i64 0, .bool false, .int .i64 0, .int .i64 0, .int .i64 0, .int .i64 0, .bool false, .int .i64 0] #[.int .i64 Tl.zero.k, .int .i64 Tl.zero.r, .int .i64 Tl.zero.e, .int .i64 Tl.zero.n, .int .i64 Tl.zero.mq, .int .i64 Tl.zero.md, .int .i64 Tl.zero.mn, .int .i64 Tl.zero.fx, .int .i64 Tl.zero.fy, .bool Tl.zero.fd, .int .i64 Tl.zero.tx, .int .i64 Tl.zero.ty, .bool Tl.zero.td, .int .i64 Tl.zero.ma, .int .i64 Tl.zero.me, .int .i64 Tl.zero.px, .int .i64 Tl.zero.py, .bool Tl.zero.pd, .int .i64 Tl.zero.ld] rfl (heap_alloc_new _ _) rfl (by kernel_rfl) (one_tele Tl.zero) ?_; intro w4 q4 hg4; clear q4)
        have hb34 : Below w3.heap.size w3 w4 := (bAlloc (Below.refl _ _) _).trans (gToBelow hg4 (B := w3.heap.size) (by simp) (Nat.le_refl _))
        have hL4 := hL3.below hb34
        have hb4 : Below w.heap.size w w4 := bThen (bThen hb hb3) hb34
        clear hg4
        refine (tB_send _ _ _ _ m j 0 w4 hL4).mono ?_
        rintro e w5 ⟨t5, f5, m5, rfl, hf5, hL5, hm5, hg5⟩
        have hb5 := gB hb4 hg5 (Nat.le_refl _) (Nat.le_refl _)
        have HM5 := Lib.hid hm5
        clear hm5 hg5
        go_wp2_with (refine wpList_store_row rfl 35 (.tmp 10) (.tmp 65) rfl w5.heap.size rfl 35 #[.int .i64 0, .int .i64 0, .int .i64 0, .int .i64 0, .int .i64 0, .int .i64 0, .int .i64 0, .int .i64 0, .int .i64 0, .bool false, .int .i64 0, .int .i64 0, .bool false, .int .i64 0, .int .i64 0, .int .i64 0, .int .i64 0, .bool false, .int .i64 0] #[.int .i64 t5.k, .int .i64 t5.r, .int .i64 t5.e, .int .i64 t5.n, .int .i64 t5.mq, .int .i64 t5.md, .int .i64 t5.mn, .int .i64 t5.fx, .int .i64 t5.fy, .bool t5.fd, .int .i64 t5.tx, .int .i64 t5.ty, .bool t5.td, .int .i64 t5.ma, .int .i64 t5.me, .int .i64 t5.px, .int .i64 t5.py, .bool t5.pd, .int .i64 t5.ld] rfl (heap_alloc_new _ _) rfl (by kernel_rfl) (one_tele t5) ?_; intro w6 q6 hg6; clear q6)
        all_goals have hb56 : Below w5.heap.size w5 w6 := (bAlloc (Below.refl _ _) _).trans (gToBelow hg6 (B := w5.heap.size) (by simp) (Nat.le_refl _))
        all_goals go_roundw
        all_goals first | exact ⟨j + 1, m5, by omega, by omega, rfl, fun x hx => by rw [HM5.out x (by omega)]; exact HM.out x (by omega), hL5.below hb56, bThen hb5 hb56⟩ | (simp [intOf]; omega)
      · go_wp2_with (go_at_call 13; ((with_reducible refine (awake_calls _).mono ?_); rintro e w' ⟨rfl, hb9⟩))
        go_ret
        exact ⟨rfl, by (repeat (first | exact Below.refl _ _ | assumption | exact BelT.out (by assumption) | refine Below.setCell ?_ (by first | assumption | (simp; done) | (simp; omega) | omega) _ | refine bAlloc ?_ _ | refine Below.drew ?_ | refine bDrewN ?_ _ | refine bThen ?_ (by assumption)))⟩
end Go.Proofs.Ytkafemfpfbcoaaa.K
