/- The contracts of package link: what waits, what is got, what is due. -/
import Derived.Test.YtkafemfpfbcoaaaLink
namespace Go.Proofs.Ytkafemfpfbcoaaa.K
open Go.RowKit
set_option linter.unusedVariables false

theorem zero_sent (w : World) : (zeroValue 61).run Try.prog w = .ok (sentV Tl.zero 0) w := by kernel_rfl
theorem one_sent (t : Tl) (x : Int) : ∀ v ∈ (#[.int .i64 t.k, .int .i64 t.r, .int .i64 t.e, .int .i64 t.n, .int .i64 t.mq, .int .i64 t.md, .int .i64 t.mn, .int .i64 t.fx, .int .i64 t.fy, .bool t.fd, .int .i64 t.tx, .int .i64 t.ty, .bool t.td, .int .i64 t.ma, .int .i64 t.me, .int .i64 t.px, .int .i64 t.py, .bool t.pd, .int .i64 t.ld, .int .i64 x] : Array Value).toList, v.oneCell' = true := by
  intro v hv
  simp only [List.mem_cons, List.not_mem_nil, or_false] at hv
  rcases hv with rfl | rfl | rfl | rfl | rfl | rfl | rfl | rfl | rfl | rfl | rfl | rfl | rfl | rfl | rfl | rfl | rfl | rfl | rfl | rfl <;> rfl
def found (m : Mp) (r : Int) : Tl × Bool := match m r with
  | some p => (p.1, true)
  | none => (Tl.zero, false)
def foundAt (m : Mp) (r : Int) : Int := match m r with
  | some p => p.2
  | none => 0
theorem look_found (b bm : Nat) (ro re : Int) (m : Mp) (r : Int) (w : World) (h : LinkIs w b bm ro re m) :
    (Instr.lookup 57 (.map (some bm)) (.int .i64 r) true).run Try.prog w = .ok (.tuple #[sentV (found m r).1 (foundAt m r), .bool (found m r).2]) w := by
  unfold found foundAt
  cases hm : m r with
  | none => exact h.map.miss Try.underlying57 Try.underlying3 (zero_sent w) (by simp [encM, hm])
  | some p => exact h.map.look Try.underlying57 Try.underlying3 (by simp [encM, hm])

set_option maxHeartbeats 1000000 in
theorem waits_calls (b bm : Nat) (ro re : Int) (m : Mp) (r : Int) (w : World) (h : LinkIs w b bm ro re m) :
    Calls Try.prog 14 #[.pointer (some ⟨b, 0, none⟩), .int .i64 r] w fun e w' =>
      e = .returned (.tuple #[.agg #[.int .i64 (found m r).1.k, .int .i64 (found m r).1.r, .int .i64 (found m r).1.e, .int .i64 (found m r).1.n, .int .i64 (found m r).1.mq, .int .i64 (found m r).1.md, .int .i64 (found m r).1.mn, .int .i64 (found m r).1.fx, .int .i64 (found m r).1.fy, .bool (found m r).1.fd, .int .i64 (found m r).1.tx, .int .i64 (found m r).1.ty, .bool (found m r).1.td, .int .i64 (found m r).1.ma, .int .i64 (found m r).1.me, .int .i64 (found m r).1.px, .int .i64 (found m r).1.py, .bool (found m r).1.pd, .int .i64 (found m r).1.ld], .bool (found m r).2]) ∧ Below w.heap.size w w' := by
  obtain ⟨t, ht⟩ : ∃ t, (found m r).1 = t := ⟨_, rfl⟩
  obtain ⟨ok, hok⟩ : ∃ x, (found m r).2 = x := ⟨_, rfl⟩
  obtain ⟨at_, hat⟩ : ∃ x, foundAt m r = x := ⟨_, rfl⟩
  have hl := fun w' (h' : LinkIs w' b bm ro re m) => look_found b bm ro re m r w' h'
  rw [ht, hok, hat] at hl
  rw [ht, hok]
  clear ht hok hat
  obtain ⟨W, hW⟩ : ∃ W, W = w.alloc (.cells #[.int .i64 0, .int .i64 0, .int .i64 0, .int .i64 0, .int .i64 0, .int .i64 0, .int .i64 0, .int .i64 0, .int .i64 0, .bool false, .int .i64 0, .int .i64 0, .bool false, .int .i64 0, .int .i64 0, .int .i64 0, .int .i64 0, .bool false, .int .i64 0] 35) := ⟨_, rfl⟩
  have hbw : Below w.heap.size w W := by rw [hW]; (repeat (first | exact Below.refl _ _ | assumption | exact BelT.out (by assumption) | refine Below.setCell ?_ (by first | assumption | (simp; done) | (simp; omega) | omega) _ | refine bAlloc ?_ _ | refine Below.drew ?_ | refine bDrewN ?_ _ | refine bThen ?_ (by assumption)))
  have hL := h.below hbw
  have hl1 := hl W hL
  obtain ⟨c0, c1, c2, hlt⟩ := h.cell
  have q0 : ((w.alloc (.cells #[.int .i64 0, .int .i64 0, .int .i64 0, .int .i64 0, .int .i64 0, .int .i64 0, .int .i64 0, .int .i64 0, .int .i64 0, .bool false, .int .i64 0, .int .i64 0, .bool false, .int .i64 0, .int .i64 0, .int .i64 0, .int .i64 0, .bool false, .int .i64 0] 35)).alloc (.cells #[.int .i64 0, .int .i64 0, .int .i64 0, .int .i64 0, .int .i64 0, .int .i64 0, .int .i64 0, .int .i64 0, .int .i64 0, .bool false, .int .i64 0, .int .i64 0, .bool false, .int .i64 0, .int .i64 0, .int .i64 0, .int .i64 0, .bool false, .int .i64 0, .int .i64 0] 61)).heap[w.heap.size]? = some (.cells #[.int .i64 0, .int .i64 0, .int .i64 0, .int .i64 0, .int .i64 0, .int .i64 0, .int .i64 0, .int .i64 0, .int .i64 0, .bool false, .int .i64 0, .int .i64 0, .bool false, .int .i64 0, .int .i64 0, .int .i64 0, .int .i64 0, .bool false, .int .i64 0] 35 (0, 0)) := heap_alloc2_old _ _ _
  have q1 : ((w.alloc (.cells #[.int .i64 0, .int .i64 0, .int .i64 0, .int .i64 0, .int .i64 0, .int .i64 0, .int .i64 0, .int .i64 0, .int .i64 0, .bool false, .int .i64 0, .int .i64 0, .bool false, .int .i64 0, .int .i64 0, .int .i64 0, .int .i64 0, .bool false, .int .i64 0] 35)).alloc (.cells #[.int .i64 0, .int .i64 0, .int .i64 0, .int .i64 0, .int .i64 0, .int .i64 0, .int .i64 0, .int .i64 0, .int .i64 0, .bool false, .int .i64 0, .int .i64 0, .bool false, .int .i64 0, .int .i64 0, .int .i64 0, .int .i64 0, .bool false, .int .i64 0, .int .i64 0] 61)).heap[w.heap.size + 1]? = some (.cells #[.int .i64 0, .int .i64 0, .int .i64 0, .int .i64 0, .int .i64 0, .int .i64 0, .int .i64 0, .int .i64 0, .int .i64 0, .bool false, .int .i64 0, .int .i64 0, .bool false, .int .i64 0, .int .i64 0, .int .i64 0, .int .i64 0, .bool false, .int .i64 0, .int .i64 0] 61 (0, 0)) := heap_alloc2_new _ _ _
  have hb2 : Below w.heap.size w ((w.alloc (.cells #[.int .i64 0, .int .i64 0, .int .i64 0, .int .i64 0, .int .i64 0, .int .i64 0, .int .i64 0, .int .i64 0, .int .i64 0, .bool false, .int .i64 0, .int .i64 0, .bool false, .int .i64 0, .int .i64 0, .int .i64 0, .int .i64 0, .bool false, .int .i64 0] 35)).alloc (.cells #[.int .i64 0, .int .i64 0, .int .i64 0, .int .i64 0, .int .i64 0, .int .i64 0, .int .i64 0, .int .i64 0, .int .i64 0, .bool false, .int .i64 0, .int .i64 0, .bool false, .int .i64 0, .int .i64 0, .int .i64 0, .int .i64 0, .bool false, .int .i64 0, .int .i64 0] 61)) := by (repeat (first | exact Below.refl _ _ | assumption | exact BelT.out (by assumption) | refine Below.setCell ?_ (by first | assumption | (simp; done) | (simp; omega) | omega) _ | refine bAlloc ?_ _ | refine Below.drew ?_ | refine bDrewN ?_ _ | refine bThen ?_ (by assumption)))
  rw [hW] at hl1
  unfold sentV at hl1
  have Q0 := Lib.hid q0
  have Q1 := Lib.hid q1
  have HB := Lib.hid hb2
  clear q0 q1 hb2 hl hL hW hbw
  go_enter Try.func14, Try.ntmps14
  go_wp2_with (first
    | (refine wpList_store_row rfl 61 (.tmp 6) (.tmp 18) rfl (w.heap.size + 1) rfl 61 #[.int .i64 0, .int .i64 0, .int .i64 0, .int .i64 0, .int .i64 0, .int .i64 0, .int .i64 0, .int .i64 0, .int .i64 0, .bool false, .int .i64 0, .int .i64 0, .bool false, .int .i64 0, .int .i64 0, .int .i64 0, .int .i64 0, .bool false, .int .i64 0, .int .i64 0] #[.int .i64 t.k, .int .i64 t.r, .int .i64 t.e, .int .i64 t.n, .int .i64 t.mq, .int .i64 t.md, .int .i64 t.mn, .int .i64 t.fx, .int .i64 t.fy, .bool t.fd, .int .i64 t.tx, .int .i64 t.ty, .bool t.td, .int .i64 t.ma, .int .i64 t.me, .int .i64 t.px, .int .i64 t.py, .bool t.pd, .int .i64 t.ld, .int .i64 at_] rfl Q1.out rfl (by kernel_rfl) (one_sent t at_) ?_; intro w2 q2 hg2; have Q2 := Lib.hid q2; have Q3 := Lib.hid ((hg2.block _ (Array.getElem?_eq_some_iff.1 Q0.out).1 (by intro e; injection e with e; omega)).trans Q0.out); have HB2 := Lib.hid (HB.out.trans (gToBelow hg2 HB.out.size (by omega))); clear q2)
    | (refine wpList_load_part rfl 35 (.tmp 20) rfl (w.heap.size + 1) 0 rfl 61 #[.int .i64 t.k, .int .i64 t.r, .int .i64 t.e, .int .i64 t.n, .int .i64 t.mq, .int .i64 t.md, .int .i64 t.mn, .int .i64 t.fx, .int .i64 t.fy, .bool t.fd, .int .i64 t.tx, .int .i64 t.ty, .bool t.td, .int .i64 t.ma, .int .i64 t.me, .int .i64 t.px, .int .i64 t.py, .bool t.pd, .int .i64 t.ld, .int .i64 at_] #[.int .i64 t.k, .int .i64 t.r, .int .i64 t.e, .int .i64 t.n, .int .i64 t.mq, .int .i64 t.md, .int .i64 t.mn, .int .i64 t.fx, .int .i64 t.fy, .bool t.fd, .int .i64 t.tx, .int .i64 t.ty, .bool t.td, .int .i64 t.ma, .int .i64 t.me, .int .i64 t.px, .int .i64 t.py, .bool t.pd, .int .i64 t.ld] (0, 0) _ Q2.out (part_of rfl) Try.underlying35 rfl (by kernel_rfl) ?_)
    | (refine wpList_store_row rfl 35 (.tmp 4) (.tmp 21) rfl w.heap.size rfl 35 #[.int .i64 0, .int .i64 0, .int .i64 0, .int .i64 0, .int .i64 0, .int .i64 0, .int .i64 0, .int .i64 0, .int .i64 0, .bool false, .int .i64 0, .int .i64 0, .bool false, .int .i64 0, .int .i64 0, .int .i64 0, .int .i64 0, .bool false, .int .i64 0] #[.int .i64 t.k, .int .i64 t.r, .int .i64 t.e, .int .i64 t.n, .int .i64 t.mq, .int .i64 t.md, .int .i64 t.mn, .int .i64 t.fx, .int .i64 t.fy, .bool t.fd, .int .i64 t.tx, .int .i64 t.ty, .bool t.td, .int .i64 t.ma, .int .i64 t.me, .int .i64 t.px, .int .i64 t.py, .bool t.pd, .int .i64 t.ld] rfl Q3.out rfl (by kernel_rfl) (one_tele t) ?_; intro w3 q4 hg4; have Q4 := Lib.hid q4; have HB3 := Lib.hid (HB2.out.trans (gToBelow hg4 HB2.out.size (by omega))); clear q4))
  refine bodyPost_ret (res_cell_tmp (ty := 35) rfl _ _ w.heap.size 35 #[.int .i64 t.k, .int .i64 t.r, .int .i64 t.e, .int .i64 t.n, .int .i64 t.mq, .int .i64 t.md, .int .i64 t.mn, .int .i64 t.fx, .int .i64 t.fy, .bool t.fd, .int .i64 t.tx, .int .i64 t.ty, .bool t.td, .int .i64 t.ma, .int .i64 t.me, .int .i64 t.px, .int .i64 t.py, .bool t.pd, .int .i64 t.ld] (0, 0) _ rfl Q4.out Try.underlying35 rfl (by kernel_rfl)) rfl ?_
  exact ⟨rfl, HB3.out⟩

theorem got_calls (b bm : Nat) (ro re : Int) (m : Mp) (r : Int) (w : World) (h : LinkIs w b bm ro re m) :
    Calls Try.prog 15 #[.pointer (some ⟨b, 0, none⟩), .int .i64 r] w fun e w' =>
      e = .returned (.bool (found m r).2) ∧ LinkIs w' b bm ro re (if (found m r).2 then upd m r none else m) ∧ w.grownBy w' (some bm) := by
  obtain ⟨t, ht⟩ : ∃ t, (found m r).1 = t := ⟨_, rfl⟩
  have hc := waits_calls b bm ro re m r w h
  rw [ht] at hc
  clear ht
  cases hok : (found m r).2
  all_goals
    rw [hok] at hc
    clear hok
    go_enter Try.func15, Try.ntmps15
    go_wp2_with fail
    refine hc.mono ?_
    rintro e w1 ⟨rfl, hb1⟩
    have hL1 := h.below hb1
    obtain ⟨c0, c1, c2, hlt⟩ := hL1.cell
    have HC := Lib.hid hc
    clear hc
    go_wp2_with (first
      | (refine wpList_store_row rfl 35 (.tmp 5) (.tmp 11) rfl w1.heap.size rfl 35 #[.int .i64 0, .int .i64 0, .int .i64 0, .int .i64 0, .int .i64 0, .int .i64 0, .int .i64 0, .int .i64 0, .int .i64 0, .bool false, .int .i64 0, .int .i64 0, .bool false, .int .i64 0, .int .i64 0, .int .i64 0, .int .i64 0, .bool false, .int .i64 0] #[.int .i64 t.k, .int .i64 t.r, .int .i64 t.e, .int .i64 t.n, .int .i64 t.mq, .int .i64 t.md, .int .i64 t.mn, .int .i64 t.fx, .int .i64 t.fy, .bool t.fd, .int .i64 t.tx, .int .i64 t.ty, .bool t.td, .int .i64 t.ma, .int .i64 t.me, .int .i64 t.px, .int .i64 t.py, .bool t.pd, .int .i64 t.ld] rfl (heap_alloc_new _ _) rfl (by kernel_rfl) (one_tele t) ?_; intro w2 q2 hg2; have HB2 := gToBelow hg2 (B := w1.heap.size) (by simp) (Nat.le_refl _); have HB3 : Below w1.heap.size w1 w2 := (bAlloc (Below.refl _ _) _).trans HB2; have hL2 := hL1.below HB3; obtain ⟨e0, e1, e2, elt⟩ := hL2.cell; clear q2)
      | (refine wpList_del rfl (.tmp 17) (.tmp 18) _ rfl (t := 57) rfl Try.underlying57 Try.underlying3 (b := bm) r rfl rfl hL2.map ?_; intro w3 hm3 hg3))
    go_ret
    first
      | exact ⟨rfl, hL2, ⟨HB3.os.trans hb1.os, HB3.tape.trans hb1.tape, HB3.output.trans hb1.output, Nat.le_trans hb1.size HB3.size, fun i hi _ => (HB3.block i (Nat.lt_of_lt_of_le hi hb1.size)).trans (hb1.block i hi)⟩⟩
      | exact ⟨rfl, hL2.turned hg3 (by rw [enc_upd]; exact hm3), gThen (hb1.trans (HB3.mono hb1.size)) hg3⟩
theorem clear_calls (b bm : Nat) (ro re : Int) (m : Mp) (w : World) (h : LinkIs w b bm ro re m) :
    Calls Try.prog 21 #[.pointer (some ⟨b, 0, none⟩)] w fun e w' => e = .returned (.tuple #[]) ∧ LinkIs w' b bm ro re (fun _ => none) ∧ w.grownBy w' (some bm) := by
  obtain ⟨c0, c1, c2, hlt⟩ := h.cell
  go_enter Try.func21, Try.ntmps21
  go_wp2_with (refine wpList_clr rfl (.tmp 7) _ rfl (t := 57) rfl Try.underlying57 (b := bm) rfl h.map ?_; intro w3 hm3 hg3)
  go_end0
  exact ⟨rfl, h.turned hg3 hm3, hg3⟩
end Go.Proofs.Ytkafemfpfbcoaaa.K
