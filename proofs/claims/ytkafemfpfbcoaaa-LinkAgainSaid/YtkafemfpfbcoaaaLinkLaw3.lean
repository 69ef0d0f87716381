/- The law LinkAgain, walked. -/
import Derived.Test.YtkafemfpfbcoaaaLinkLaw2
namespace Go.Proofs.Ytkafemfpfbcoaaa.K
open Go.RowKit
set_option linter.unusedVariables false

def tC : Tl := ⟨1, 0, 4, 9, 0, 0, 0, 0, 0, false, 0, 0, false, 0, 0, 0, 0, false, 0⟩
def mC (last : Int) : Mp := upd (fun _ => none) 0 (some (tC, last))
theorem less_plain {now last : Int} (h0 : 0 ≤ last) (h1 : last ≤ now) (h2 : now < 4611686018427387904) : T.less now last = now - last := by
  unfold T.less
  rw [T.cut_cut (a := now) (by omega) (by omega), T.cut_cut (a := last) (by omega) (by omega), if_neg (by omega), if_pos h1]
theorem due_C {re now last : Int} (h0 : 0 ≤ last) (h1 : last ≤ now) (h2 : now < 4611686018427387904) :
    (re ≤ now - last → dueList (mC last) re now 1 = [tC] ∧ dueMap (mC last) re now 1 = mC now) ∧ (now - last < re → dueList (mC last) re now 1 = [] ∧ dueMap (mC last) re now 1 = mC last) := by
  have hl := less_plain h0 h1 h2
  have hf : found (mC last) ((0 : Nat) : Int) = (tC, true) := rfl
  have hfa : foundAt (mC last) ((0 : Nat) : Int) = last := rfl
  have hd : isDue (mC last) re now ((0 : Nat) : Int) = decide (re ≤ now - last) := by unfold isDue; rw [hf, hfa, hl]; rfl
  refine ⟨fun h => ?_, fun h => ?_⟩
  · have : isDue (mC last) re now ((0 : Nat) : Int) = true := by rw [hd]; exact decide_eq_true h
    refine ⟨?_, ?_⟩
    · unfold dueList; rw [if_pos this, hf]; rfl
    · unfold dueMap; rw [if_pos this, hf]
      funext j
      show upd (mC last) 0 (some (tC, now)) j = mC now j
      unfold mC upd
      split <;> rfl
  · have : isDue (mC last) re now ((0 : Nat) : Int) = false := by rw [hd]; exact decide_eq_false (by omega)
    refine ⟨?_, ?_⟩
    · unfold dueList; rw [if_neg (fun h => by rw [this] at h; cases h)]; rfl
    · unfold dueMap; rw [if_neg (fun h => by rw [this] at h; cases h)]; rfl
theorem got_C (last : Int) : found (mC last) 0 = (tC, true) ∧ upd (mC last) 0 none = fun _ => none := by
  refine ⟨rfl, ?_⟩
  funext j
  unfold mC upd
  split <;> rfl
set_option maxHeartbeats 4000000 in
theorem LinkAgain_walk (re0 : Int) (A : Option Addr) (c : Nat) (l : List Int) (got : Int) (w : World) (hr : Rd .i64 w A l) :
    Calls Try.prog 5 #[.int .i64 re0, .slice A l.length c, .int .i64 got] w fun e w' => e = .returned (.bool true) ∧ Below w.heap.size w w' := by
  have hlen := hr.len
  obtain ⟨re, hre, hre0, hre1⟩ : ∃ re : Int, re0 % 50 = re ∧ 0 ≤ re ∧ re < 50 := ⟨_, rfl, by omega, by omega⟩
  obtain ⟨n, hn, hn0, hn1⟩ : ∃ n : Int, got % 60 = n ∧ 0 ≤ n ∧ n < 60 := ⟨_, rfl, by omega, by omega⟩
  have p1 := fun w => place_calls re0 50 w (by omega) (by omega)
  have p2 := fun w => place_calls got 60 w (by omega) (by omega)
  rw [hre] at p1
  rw [hn] at p2
  have P2 := p2
  clear hre hn p2
  go_enter Try.func5, Try.ntmps5
  go_wp2_with (go_at_call 9; ((with_reducible refine (p1 _).mono ?_); rintro e w' ⟨rfl, rfl⟩))
  clear p1
  refine (new_yes 1 (1 + re) w (by omega) (by omega) (by omega)).mono ?_
  rintro e w1 ⟨rfl, hL1, hb1⟩
  go_wp2_with fail
  refine (send_yes _ _ 1 _ _ tC 100 w1 hL1 (by decide) (by decide) (by decide)).mono ?_
  rintro e w2 ⟨rfl, hL2, hg2⟩
  have hb2 := gB hb1 hg2 (Nat.le_refl _) (Nat.le_refl _)
  clear hb1 hL1 hg2
  go_wp2_with (first | (refine wpList_store_row rfl 35 (.tmp 9) (.tmp 34) rfl w2.heap.size rfl 35 #[.int .i64 0, .int .i64 0, .int .i64 0, .int .i64 0, .int .i64 0, .int .i64 0, .int .i64 0, .int .i64 0, .int .i64 0, .bool false, .int .i64 0, .int .i64 0, .bool false, .int .i64 0, .int .i64 0, .int .i64 0, .int .i64 0, .bool false, .int .i64 0] #[.int .i64 tC.k, .int .i64 tC.r, .int .i64 tC.e, .int .i64 tC.n, .int .i64 tC.mq, .int .i64 tC.md, .int .i64 tC.mn, .int .i64 tC.fx, .int .i64 tC.fy, .bool tC.fd, .int .i64 tC.tx, .int .i64 tC.ty, .bool tC.td, .int .i64 tC.ma, .int .i64 tC.me, .int .i64 tC.px, .int .i64 tC.py, .bool tC.pd, .int .i64 tC.ld] rfl (heap_alloc_new _ _) rfl (by kernel_rfl) (one_tele tC) ?_; intro w3 q3 hg3; have Q3 := Lib.hid q3; clear q3) | (go_at_call 9; ((with_reducible refine (P2 _).mono ?_); rintro e w' ⟨rfl, rfl⟩)))
  have hb23 : Below w2.heap.size w2 w3 := (bAlloc (Below.refl _ _) _).trans (gToBelow hg3 (B := w2.heap.size) (by simp) (Nat.le_refl _))
  have hL3 : LinkIs w3 (w.heap.size + 1) w.heap.size 1 (1 + re) (mC 100) := hL2.below hb23
  have hb3 := bThen hb2 hb23
  have hL2s := hL2.map.lt
  clear hg3 hL2 P2
  have hblt := hL3.map.lt
  have hL2lt : w.heap.size < w2.heap.size := hL2s
  go_loopw [11, 12, 14] (fun nw la i wr => ∃ (k : Nat) (now last : Int) (m : Mp), (k ≤ 60 ∧ k ≤ l.length ∧ 100 ≤ last ∧ last ≤ now ∧ now ≤ 100 + 40 * k) ∧ i = .int .i64 k ∧ nw = .int .i64 now ∧ la = .int .i64 last ∧
      Hid (((k : Int) ≤ n → m = mC last) ∧ (n < k → m = fun _ => none)) ∧ LinkIs wr (w.heap.size + 1) w.heap.size 1 (1 + re) m ∧ Below w.heap.size w wr ∧ Hid (wr.heap[w2.heap.size]? = some (.cells #[.int .i64 tC.k, .int .i64 tC.r, .int .i64 tC.e, .int .i64 tC.n, .int .i64 tC.mq, .int .i64 tC.md, .int .i64 tC.mn, .int .i64 tC.fx, .int .i64 tC.fy, .bool tC.fd, .int .i64 tC.tx, .int .i64 tC.ty, .bool tC.td, .int .i64 tC.ma, .int .i64 tC.me, .int .i64 tC.px, .int .i64 tC.py, .bool tC.pd, .int .i64 tC.ld] 35 (0, 0)))) (fun _ _ i _ => 60 - (intOf i).toNat)
  case atStart => exact ⟨0, 100, 100, _, by omega, rfl, rfl, rfl, ⟨fun _ => rfl, fun h => by omega⟩, hL3, hb3, Q3⟩
  case round =>
    obtain ⟨k, now, last, m, ⟨hk60, hkl, h100, hln, hnw⟩, rfl, rfl, rfl, HM, hL, hb, HQ⟩ := hrel
    by_cases hin : k < 60
    · by_cases hinl : k < l.length
      · obtain ⟨ad, rfl, hcell⟩ := hr.get k hinl
        obtain ⟨x, hx, hx0, hx1⟩ : ∃ x : Int, rd l k % 40 = x ∧ 0 ≤ x ∧ x < 40 := ⟨_, rfl, by omega, by omega⟩
        have p3 := fun w => place_calls (rd l k) 40 w (by omega) (by omega)
        rw [hx] at p3
        clear hx
        have hcW : ∀ W, Below w.heap.size w W → W.cell? (ad.add k) = some (.int .i64 (rd l k)) := fun W h => (h.cell (World.block_lt_of_cell? _ _ hcell)).trans hcell
        have hlt2 : w.heap.size < w2.heap.size := hL2lt
        rcases Int.lt_trichotomy (k : Int) n with hkn | hkn | hkn
        · obtain rfl : m = mC last := HM.out.1 (by omega)
          have e1 : ((k : Int) == n) = false := beq_f (by omega)
          have HQ5 := HQ
          have hkn' : ¬ n ≤ (k : Int) := by omega
          have hc5 := hcW wr hb
          go_wp2_with (go_at_call 9; ((with_reducible refine (p3 _).mono ?_); rintro e w' ⟨rfl, rfl⟩))
          clear hc5
          refine (due_calls _ _ 1 (1 + re) (now + x) _ wr (by omega) hL).mono ?_
          rintro e w6 ⟨v6, rfl, ho6, hL6, hg6⟩
          have hb6 := gB hb hg6 (Nat.le_refl _) (Nat.le_refl _)
          have hdue := due_C (re := 1 + re) (now := now + x) (last := last) (by omega) (by omega) (by omega)
          have hlt6 := (Array.getElem?_eq_some_iff.1 HQ5.out).1
          have q6 : w6.heap[w2.heap.size]? = some (.cells #[.int .i64 tC.k, .int .i64 tC.r, .int .i64 tC.e, .int .i64 tC.n, .int .i64 tC.mq, .int .i64 tC.md, .int .i64 tC.mn, .int .i64 tC.fx, .int .i64 tC.fy, .bool tC.fd, .int .i64 tC.tx, .int .i64 tC.ty, .bool tC.td, .int .i64 tC.ma, .int .i64 tC.me, .int .i64 tC.px, .int .i64 tC.py, .bool tC.pd, .int .i64 tC.ld] 35 (0, 0)) := (hg6.block _ hlt6 (by intro e; injection e with e; omega)).trans HQ5.out
          have HQ6 := Lib.hid q6
          clear q6
          by_cases hd : 1 + re ≤ now + x - last
          · rw [(hdue.1 hd).2] at hL6
            rw [(hdue.1 hd).1] at ho6
            clear hdue
            obtain ⟨A6, c6, rfl, hc6, hrd6⟩ := ownT_form ho6
            obtain ⟨g6, cur6, rfl, hh6, ht6⟩ : ∃ g cur, A6 = some ⟨g, 0, none⟩ ∧ w6.heap[g]? = some (.cells cur 35 (0, 0)) ∧ cur.toList.take 19 = tlc tC := by
              rcases ho6.2 with ⟨h1, _⟩ | ⟨g, cap, cur, hv, _, hh, _, _, _, ht⟩
              · injection h1 with _ h2 _
                simp at h2
              · injection hv with hv _ _
                exact ⟨g, cur, hv, hh, by simpa using ht⟩
            have Q7 := Lib.hid hh6
            have Q8 := Lib.hid ht6
            have hne := fun w => tele_neq tC tC w
            simp only [decide_true, Bool.not_true] at hne
            clear hh6 ht6 ho6
            rw [List.length_singleton]
            go_wp2
            refine still_tail 9 (by kernel_rfl) (by kernel_rfl) ?_
            simp only [List.take_succ_cons, List.take_zero, List.drop_succ_cons, List.drop_zero]
            iterate 6 still_step
            refine wpStill_load_part rfl 35 (.tmp 88) rfl g6 0 rfl 35 cur6 #[.int .i64 tC.k, .int .i64 tC.r, .int .i64 tC.e, .int .i64 tC.n, .int .i64 tC.mq, .int .i64 tC.md, .int .i64 tC.mn, .int .i64 tC.fx, .int .i64 tC.fy, .bool tC.fd, .int .i64 tC.tx, .int .i64 tC.ty, .bool tC.td, .int .i64 tC.ma, .int .i64 tC.me, .int .i64 tC.px, .int .i64 tC.py, .bool tC.pd, .int .i64 tC.ld] (0, 0) _ Q7.out (by
              intro j v hj
              have hj' : (cur6.toList.take 19)[j]? = some v := by rw [Q8.out]; exact hj
              rw [List.getElem?_take] at hj'
              split at hj'
              · simpa using hj'
              · cases hj') Try.underlying35 rfl (by kernel_rfl) ?_
            refine wpStill_load_part rfl 35 (.tmp 9) rfl w2.heap.size 0 rfl 35 #[.int .i64 tC.k, .int .i64 tC.r, .int .i64 tC.e, .int .i64 tC.n, .int .i64 tC.mq, .int .i64 tC.md, .int .i64 tC.mn, .int .i64 tC.fx, .int .i64 tC.fy, .bool tC.fd, .int .i64 tC.tx, .int .i64 tC.ty, .bool tC.td, .int .i64 tC.ma, .int .i64 tC.me, .int .i64 tC.px, .int .i64 tC.py, .bool tC.pd, .int .i64 tC.ld] #[.int .i64 tC.k, .int .i64 tC.r, .int .i64 tC.e, .int .i64 tC.n, .int .i64 tC.mq, .int .i64 tC.md, .int .i64 tC.mn, .int .i64 tC.fx, .int .i64 tC.fy, .bool tC.fd, .int .i64 tC.tx, .int .i64 tC.ty, .bool tC.td, .int .i64 tC.ma, .int .i64 tC.me, .int .i64 tC.px, .int .i64 tC.py, .bool tC.pd, .int .i64 tC.ld] (0, 0) _ HQ6.out (part_of rfl) Try.underlying35 rfl (by kernel_rfl) ?_
            still_step
            refine wpStill_nil ?_
            go_wp2
            all_goals go_roundw
            all_goals first | exact ⟨k + 1, now + x, now + x, _, by omega, by go_num, rfl, rfl, ⟨fun _ => rfl, fun h => by omega⟩, hL6.below (Below.refl _ _).drew, hb6.drew, HQ6⟩ | (simp [intOf]; omega)
          · have hd' : now + x - last < 1 + re := by omega
            rw [(hdue.2 hd').2] at hL6
            rw [(hdue.2 hd').1] at ho6
            clear hdue
            obtain ⟨A6, c6, rfl, _, _⟩ := ownT_form ho6
            rw [List.length_nil]
            go_wp2
            go_roundw
            case rel => exact ⟨k + 1, now + x, last, _, by omega, by go_num, rfl, rfl, ⟨fun _ => rfl, fun h => by omega⟩, hL6, hb6, HQ6⟩
            case measure => simp [intOf]; omega
        · obtain rfl : m = mC last := HM.out.1 (by omega)
          have e1 : ((k : Int) == n) = true := beq_t hkn
          have cg := got_calls _ _ 1 (1 + re) (mC last) 0 wr hL
          rw [(got_C last).1] at cg
          simp only [if_true] at cg
          rw [(got_C last).2] at cg
          clear hkn
          go_wp2_with fail
          refine cg.mono ?_
          rintro e w4 ⟨rfl, hL4, hg4⟩
          have hb4 := gB hb hg4 (Nat.le_refl _) (Nat.le_refl _)
          have cg2 : Calls Try.prog 15 #[.pointer (some ⟨w.heap.size + 1, 0, none⟩), .int .i64 0] w4 fun e w' => e = .returned (.bool false) ∧ LinkIs w' (w.heap.size + 1) w.heap.size 1 (1 + re) (fun _ => none) ∧ w4.grownBy w' (some w.heap.size) := got_calls _ _ 1 (1 + re) (fun _ => none) 0 w4 hL4
          clear cg
          go_wp2_with fail
          refine cg2.mono ?_
          rintro e w5 ⟨rfl, hL5, hg5⟩
          have hb5 := gB hb4 hg5 (Nat.le_refl _) (Nat.le_refl _)
          have q5 : w5.heap[w2.heap.size]? = some (.cells #[.int .i64 tC.k, .int .i64 tC.r, .int .i64 tC.e, .int .i64 tC.n, .int .i64 tC.mq, .int .i64 tC.md, .int .i64 tC.mn, .int .i64 tC.fx, .int .i64 tC.fy, .bool tC.fd, .int .i64 tC.tx, .int .i64 tC.ty, .bool tC.td, .int .i64 tC.ma, .int .i64 tC.me, .int .i64 tC.px, .int .i64 tC.py, .bool tC.pd, .int .i64 tC.ld] 35 (0, 0)) := (hg5.block _ (Nat.lt_of_lt_of_le (Array.getElem?_eq_some_iff.1 HQ.out).1 hg4.size) (by intro e; injection e with e; omega)).trans ((hg4.block _ (Array.getElem?_eq_some_iff.1 HQ.out).1 (by intro e; injection e with e; omega)).trans HQ.out)
          have HQ5 := Lib.hid q5
          have hkn' : n ≤ (k : Int) := by simp at e1; omega
          clear q5 cg2 hg4 hg5
          have hc5 := hcW w5 hb5
          go_wp2_with (go_at_call 9; ((with_reducible refine (p3 _).mono ?_); rintro e w' ⟨rfl, rfl⟩))
          clear hc5
          refine (due_calls _ _ 1 (1 + re) (now + x) _ w5 (by omega) hL5).mono ?_
          rintro e w6 ⟨v6, rfl, ho6, hL6, hg6⟩
          have hb6 := gB hb5 hg6 (Nat.le_refl _) (Nat.le_refl _)
          rw [(due_none (1 + re) (now + x) 1).2] at hL6
          rw [(due_none (1 + re) (now + x) 1).1] at ho6
          obtain ⟨A6, c6, rfl, _, _⟩ := ownT_form ho6
          rw [List.length_nil]
          have q6 : w6.heap[w2.heap.size]? = some (.cells #[.int .i64 tC.k, .int .i64 tC.r, .int .i64 tC.e, .int .i64 tC.n, .int .i64 tC.mq, .int .i64 tC.md, .int .i64 tC.mn, .int .i64 tC.fx, .int .i64 tC.fy, .bool tC.fd, .int .i64 tC.tx, .int .i64 tC.ty, .bool tC.td, .int .i64 tC.ma, .int .i64 tC.me, .int .i64 tC.px, .int .i64 tC.py, .bool tC.pd, .int .i64 tC.ld] 35 (0, 0)) := (hg6.block _ (Array.getElem?_eq_some_iff.1 HQ5.out).1 (by intro e; injection e with e; omega)).trans HQ5.out
          have HQ6 := Lib.hid q6
          clear q6
          go_wp2
          go_roundw
          case rel => exact ⟨k + 1, now + x, last, _, by omega, by go_num, rfl, rfl, ⟨fun h => by omega, fun _ => rfl⟩, hL6, hb6, HQ6⟩
          case measure => simp [intOf]; omega
        · obtain rfl : m = fun _ => none := HM.out.2 (by omega)
          have e1 : ((k : Int) == n) = false := beq_f (by omega)
          have HQ5 := HQ
          have hkn' : n ≤ (k : Int) := by omega
          have hc5 := hcW wr hb
          go_wp2_with (go_at_call 9; ((with_reducible refine (p3 _).mono ?_); rintro e w' ⟨rfl, rfl⟩))
          clear hc5
          refine (due_calls _ _ 1 (1 + re) (now + x) _ wr (by omega) hL).mono ?_
          rintro e w6 ⟨v6, rfl, ho6, hL6, hg6⟩
          have hb6 := gB hb hg6 (Nat.le_refl _) (Nat.le_refl _)
          rw [(due_none (1 + re) (now + x) 1).2] at hL6
          rw [(due_none (1 + re) (now + x) 1).1] at ho6
          obtain ⟨A6, c6, rfl, _, _⟩ := ownT_form ho6
          rw [List.length_nil]
          have q6 : w6.heap[w2.heap.size]? = some (.cells #[.int .i64 tC.k, .int .i64 tC.r, .int .i64 tC.e, .int .i64 tC.n, .int .i64 tC.mq, .int .i64 tC.md, .int .i64 tC.mn, .int .i64 tC.fx, .int .i64 tC.fy, .bool tC.fd, .int .i64 tC.tx, .int .i64 tC.ty, .bool tC.td, .int .i64 tC.ma, .int .i64 tC.me, .int .i64 tC.px, .int .i64 tC.py, .bool tC.pd, .int .i64 tC.ld] 35 (0, 0)) := (hg6.block _ (Array.getElem?_eq_some_iff.1 HQ5.out).1 (by intro e; injection e with e; omega)).trans HQ5.out
          have HQ6 := Lib.hid q6
          clear q6
          go_wp2
          go_roundw
          case rel => exact ⟨k + 1, now + x, last, _, by omega, by go_num, rfl, rfl, ⟨fun h => by omega, fun _ => rfl⟩, hL6, hb6, HQ6⟩
          case measure => simp [intOf]; omega
      · have hkk : decide ((k : Int) < (l.length : Int)) = false := by simp; omega
        go_wp2_with (go_at_call 13; ((with_reducible refine (awake_calls _).mono ?_); rintro e w' ⟨rfl, hb9⟩))
        go_ret
        exact ⟨rfl, by (repeat (first | exact Below.refl _ _ | assumption | exact BelT.out (by assumption) | refine Below.setCell ?_ (by first | assumption | (simp; done) | (simp; omega) | omega) _ | refine bAlloc ?_ _ | refine Below.drew ?_ | refine bDrewN ?_ _ | refine bThen ?_ (by assumption)))⟩
    · go_wp2_with (go_at_call 13; ((with_reducible refine (awake_calls _).mono ?_); rintro e w' ⟨rfl, hb9⟩))
      all_goals go_ret
      all_goals exact ⟨rfl, by (repeat (first | exact Below.refl _ _ | assumption | exact BelT.out (by assumption) | refine Below.setCell ?_ (by first | assumption | (simp; done) | (simp; omega) | omega) _ | refine bAlloc ?_ _ | refine Below.drew ?_ | refine bDrewN ?_ _ | refine bThen ?_ (by assumption)))⟩
end Go.Proofs.Ytkafemfpfbcoaaa.K
