/- The contracts of package link. -/
import Derived.Test.YtkafemfpfbcoaaaMap
import Derived.Test.YtkafemfpfbcoaaaTele
import Derived.Test.YtkafemfpfbcoaaaTick
import Derived.StillTailTactics
import Derived.WalkSpells
namespace Go.Proofs.Ytkafemfpfbcoaaa.K
open Go.RowKit
set_option linter.unusedVariables false

/-- What is kept of a sent telegram. -/
def sentV (t : Tl) (at_ : Int) : Value := .agg #[.int .i64 t.k, .int .i64 t.r, .int .i64 t.e, .int .i64 t.n, .int .i64 t.mq, .int .i64 t.md, .int .i64 t.mn, .int .i64 t.fx, .int .i64 t.fy, .bool t.fd, .int .i64 t.tx, .int .i64 t.ty, .bool t.td, .int .i64 t.ma, .int .i64 t.me, .int .i64 t.px, .int .i64 t.py, .bool t.pd, .int .i64 t.ld, .int .i64 at_]
abbrev Mp := Int → Option (Tl × Int)
def encM (m : Mp) : Int → Option Value := fun k => (m k).map fun p => sentV p.1 p.2
def upd (m : Mp) (k : Int) (v : Option (Tl × Int)) : Mp := fun j => if j = k then v else m j
theorem enc_upd (m : Mp) (k : Int) (v : Option (Tl × Int)) : encM (upd m k v) = mput (encM m) k (v.map fun p => sentV p.1 p.2) := by
  funext j
  unfold encM upd mput
  split <;> rfl
/-- Block b is a link's, its map is block bm: it holds m. -/
structure LinkIs (w : World) (b bm : Nat) (ro re : Int) (m : Mp) : Prop where
  blk : w.heap[b]? = some (.cells #[.int .i64 ro, .int .i64 re, .map (some bm)] 59 (0, 0))
  map : MapI w bm (encM m)
theorem LinkIs.cell {w : World} {b bm : Nat} {ro re : Int} {m : Mp} (h : LinkIs w b bm ro re m) :
    w.cell? ⟨b, 0, none⟩ = some (.int .i64 ro) ∧ w.cell? ⟨b, 1, none⟩ = some (.int .i64 re) ∧ w.cell? ⟨b, 2, none⟩ = some (.map (some bm)) ∧ b < w.heap.size := by
  have hlt := (Array.getElem?_eq_some_iff.1 h.blk).1
  refine ⟨?_, ?_, ?_, hlt⟩ <;> simp [World.cell?, h.blk]
theorem one_tele (t : Tl) : ∀ v ∈ (#[.int .i64 t.k, .int .i64 t.r, .int .i64 t.e, .int .i64 t.n, .int .i64 t.mq, .int .i64 t.md, .int .i64 t.mn, .int .i64 t.fx, .int .i64 t.fy, .bool t.fd, .int .i64 t.tx, .int .i64 t.ty, .bool t.td, .int .i64 t.ma, .int .i64 t.me, .int .i64 t.px, .int .i64 t.py, .bool t.pd, .int .i64 t.ld] : Array Value).toList, v.oneCell' = true := by
  intro v hv
  simp only [List.mem_cons, List.not_mem_nil, or_false] at hv
  rcases hv with rfl | rfl | rfl | rfl | rfl | rfl | rfl | rfl | rfl | rfl | rfl | rfl | rfl | rfl | rfl | rfl | rfl | rfl | rfl <;> rfl
theorem new_no (ro re : Int) (w : World) (h : ro < 0 ∨ 8 < ro ∨ re < 1) :
    Calls Try.prog 10 #[.int .i64 ro, .int .i64 re] w fun e w' => e = .returned (.tuple #[.pointer none, .int .i64 1]) ∧ w = w' := by
  go_enter Try.func10, Try.ntmps10
  go_wp2
  all_goals go_ret2
  all_goals exact ⟨rfl, rfl⟩
theorem new_yes (ro re : Int) (w : World) (h0 : 0 ≤ ro) (h1 : ro ≤ 8) (h2 : 1 ≤ re) :
    Calls Try.prog 10 #[.int .i64 ro, .int .i64 re] w fun e w' => e = .returned (.tuple #[.pointer (some ⟨w.heap.size + 1, 0, none⟩), .int .i64 0]) ∧ LinkIs w' (w.heap.size + 1) w.heap.size ro re (fun _ => none) ∧ Below w.heap.size w w' := by
  have hmm := @run_makeMap Try.prog
  go_enter Try.func10, Try.ntmps10
  go_wp2
  go_ret2
  refine ⟨rfl, ⟨?_, ?_⟩, by (repeat (first | exact Below.refl _ _ | assumption | exact BelT.out (by assumption) | refine Below.setCell ?_ (by first | assumption | (simp; done) | (simp; omega) | omega) _ | refine bAlloc ?_ _ | refine Below.drew ?_ | refine bDrewN ?_ _ | refine bThen ?_ (by assumption)))⟩
  · have := heap_alloc_new (w.alloc (.map #[] 0)) (.cells #[.int .i64 ro, .int .i64 re, .map (some w.heap.size)] 59)
    simpa using this
  · exact (MapI.made w).of_block (heap_alloc_old _ _ (by simp))
theorem LinkIs.of {w w' : World} {b bm : Nat} {ro re : Int} {m m' : Mp} (h : LinkIs w b bm ro re m) (hb : w'.heap[b]? = w.heap[b]?) (hm : MapI w' bm (encM m')) : LinkIs w' b bm ro re m' := ⟨hb.trans h.blk, hm⟩
theorem LinkIs.lt {w : World} {b bm : Nat} {ro re : Int} {m : Mp} (h : LinkIs w b bm ro re m) : b < w.heap.size := h.cell.2.2.2
theorem LinkIs.below {w w' : World} {b bm : Nat} {ro re : Int} {m : Mp} (h : LinkIs w b bm ro re m) (hb : Below w.heap.size w w') : LinkIs w' b bm ro re m := ⟨(hb.block b h.lt).trans h.blk, h.map.belowS hb⟩
theorem LinkIs.ne {w : World} {b bm : Nat} {ro re : Int} {m : Mp} (h : LinkIs w b bm ro re m) : b ≠ bm := by
  rintro rfl
  obtain ⟨es, c, hb, _⟩ := h.map
  rw [h.blk] at hb
  cases hb
theorem LinkIs.turned {w w' : World} {b bm : Nat} {ro re : Int} {m m' : Mp} (h : LinkIs w b bm ro re m) (hg : w.grownBy w' (some bm)) (hm : MapI w' bm (encM m')) : LinkIs w' b bm ro re m' :=
  ⟨(hg.block b h.lt (by intro e; injection e with e; exact h.ne e)).trans h.blk, hm⟩
theorem gThen {w w1 w2 : World} {g : Nat} (h : Below w.heap.size w w1) (k : w1.grownBy w2 (some g)) : w.grownBy w2 (some g) :=
  ⟨k.os.trans h.os, k.tape.trans h.tape, k.output.trans h.output, Nat.le_trans h.size k.size, fun i hi hne => (k.block i (Nat.lt_of_lt_of_le hi h.size) hne).trans (h.block i hi)⟩
theorem gBelow {w w1 w2 : World} {g : Nat} (h : w.grownBy w1 (some g)) (k : Below w1.heap.size w1 w2) : w.grownBy w2 (some g) :=
  ⟨k.os.trans h.os, k.tape.trans h.tape, k.output.trans h.output, Nat.le_trans h.size k.size, fun i hi hne => (k.block i (Nat.lt_of_lt_of_le hi h.size)).trans (h.block i hi hne)⟩
theorem gBoth {w w1 w2 : World} {g : Nat} (h : w.grownBy w1 (some g)) (k : w1.grownBy w2 (some g)) : w.grownBy w2 (some g) :=
  ⟨k.os.trans h.os, k.tape.trans h.tape, k.output.trans h.output, Nat.le_trans h.size k.size, fun i hi hne => (k.block i (Nat.lt_of_lt_of_le hi h.size) hne).trans (h.block i hi hne)⟩
theorem gToBelow {B : Nat} {w w1 : World} {g : Nat} (h : w.grownBy w1 (some g)) (hB : B ≤ w.heap.size) (hg : B ≤ g) : Below B w w1 := below_of_grown h hB (by intro k e; injection e with e; omega)

theorem bDrewG {w w1 : World} {n g : Nat} (h : (w.drewN n).grownBy w1 (some g)) : w.grownBy w1 (some g) := ⟨h.os, h.tape, h.output, h.size, h.block⟩
set_option maxHeartbeats 1000000 in
theorem send_yes (b bm : Nat) (ro re : Int) (m : Mp) (t : Tl) (now : Int) (w : World) (h : LinkIs w b bm ro re m) (h0 : 0 ≤ t.r) (h1 : t.r < ro) (h2 : t.k = 1 ∨ t.k = 2) :
    Calls Try.prog 11 #[.pointer (some ⟨b, 0, none⟩), .agg #[.int .i64 t.k, .int .i64 t.r, .int .i64 t.e, .int .i64 t.n, .int .i64 t.mq, .int .i64 t.md, .int .i64 t.mn, .int .i64 t.fx, .int .i64 t.fy, .bool t.fd, .int .i64 t.tx, .int .i64 t.ty, .bool t.td, .int .i64 t.ma, .int .i64 t.me, .int .i64 t.px, .int .i64 t.py, .bool t.pd, .int .i64 t.ld], .int .i64 now] w fun e w' =>
      e = .returned (.tuple #[.agg #[.int .i64 t.k, .int .i64 t.r, .int .i64 t.e, .int .i64 t.n, .int .i64 t.mq, .int .i64 t.md, .int .i64 t.mn, .int .i64 t.fx, .int .i64 t.fy, .bool t.fd, .int .i64 t.tx, .int .i64 t.ty, .bool t.td, .int .i64 t.ma, .int .i64 t.me, .int .i64 t.px, .int .i64 t.py, .bool t.pd, .int .i64 t.ld], .int .i64 0]) ∧ LinkIs w' b bm ro re (upd m t.r (some (t, now))) ∧ w.grownBy w' (some bm) := by
  obtain ⟨c0, c1, c2, hlt⟩ := h.cell
  have hmap := h.map
  have d0 : decide (t.r < 0) = false := by simp; omega
  have d1 : decide (ro ≤ t.r) = false := by simp; omega
  have hmn : ∀ (w : World) (r : Option Nat), (binOp .eql 57 (.map r) (.map none)).run Try.prog w = .ok (.bool r.isNone) w := fun w r => Go.run_eql_map_nil w _ _ _ r Try.underlying57
  have hkk : (t.k != 1) = false ∨ ((t.k != 1) = true ∧ (t.k != 2) = false) := by
    rcases h2 with hk | hk
    · exact .inl (bne_f hk)
    · exact .inr ⟨by simp [hk], bne_f hk⟩
  clear h2
  rcases hkk with e1 | ⟨e1, e2⟩
  all_goals
    go_enter Try.func11, Try.ntmps11
    go_wp2
    obtain ⟨W, hW⟩ : ∃ W, W = (w.alloc (.cells #[.int .i64 t.k, .int .i64 t.r, .int .i64 t.e, .int .i64 t.n, .int .i64 t.mq, .int .i64 t.md, .int .i64 t.mn, .int .i64 t.fx, .int .i64 t.fy, .bool t.fd, .int .i64 t.tx, .int .i64 t.ty, .bool t.td, .int .i64 t.ma, .int .i64 t.me, .int .i64 t.px, .int .i64 t.py, .bool t.pd, .int .i64 t.ld] 35)).alloc (.cells #[.int .i64 0, .int .i64 0, .int .i64 0, .int .i64 0, .int .i64 0, .int .i64 0, .int .i64 0, .int .i64 0, .int .i64 0, .bool false, .int .i64 0, .int .i64 0, .bool false, .int .i64 0, .int .i64 0, .int .i64 0, .int .i64 0, .bool false, .int .i64 0] 35) := ⟨_, rfl⟩
    have hbw : Below w.heap.size w W := by rw [hW]; (repeat (first | exact Below.refl _ _ | assumption | exact BelT.out (by assumption) | refine Below.setCell ?_ (by first | assumption | (simp; done) | (simp; omega) | omega) _ | refine bAlloc ?_ _ | refine Below.drew ?_ | refine bDrewN ?_ _ | refine bThen ?_ (by assumption)))
    have q0 : W.heap[w.heap.size]? = some (.cells #[.int .i64 t.k, .int .i64 t.r, .int .i64 t.e, .int .i64 t.n, .int .i64 t.mq, .int .i64 t.md, .int .i64 t.mn, .int .i64 t.fx, .int .i64 t.fy, .bool t.fd, .int .i64 t.tx, .int .i64 t.ty, .bool t.td, .int .i64 t.ma, .int .i64 t.me, .int .i64 t.px, .int .i64 t.py, .bool t.pd, .int .i64 t.ld] 35 (0, 0)) := by rw [hW]; exact heap_alloc2_old _ _ _
    have q1 : W.heap[w.heap.size + 1]? = some (.cells #[.int .i64 0, .int .i64 0, .int .i64 0, .int .i64 0, .int .i64 0, .int .i64 0, .int .i64 0, .int .i64 0, .int .i64 0, .bool false, .int .i64 0, .int .i64 0, .bool false, .int .i64 0, .int .i64 0, .int .i64 0, .int .i64 0, .bool false, .int .i64 0] 35 (0, 0)) := by rw [hW]; exact heap_alloc2_new _ _ _
    have hL := h.below hbw
    clear c0 c1 c2
    obtain ⟨c0, c1, c2, hltW⟩ := hL.cell
    have f0 : ∀ j, W.cell? ⟨w.heap.size, j, none⟩ = (#[.int .i64 t.k, .int .i64 t.r, .int .i64 t.e, .int .i64 t.n, .int .i64 t.mq, .int .i64 t.md, .int .i64 t.mn, .int .i64 t.fx, .int .i64 t.fy, .bool t.fd, .int .i64 t.tx, .int .i64 t.ty, .bool t.td, .int .i64 t.ma, .int .i64 t.me, .int .i64 t.px, .int .i64 t.py, .bool t.pd, .int .i64 t.ld] : Array Value)[j]? := fun j => cell_of_row _ _ _ _ _ _ q0
    rw [← hW]
    clear hW
    have Q0 := Lib.hid q0
    have Q1 := Lib.hid q1
    clear q0 q1
    go_quiet (fail)
    go_wp2
    refine still_tail 9 (by kernel_rfl) (by kernel_rfl) ?_
    simp only [List.take_succ_cons, List.take_zero, List.drop_succ_cons, List.drop_zero]
    iterate 6 still_step
    refine wpStill_load_row rfl 35 (.tmp 4) rfl w.heap.size rfl 35 #[.int .i64 t.k, .int .i64 t.r, .int .i64 t.e, .int .i64 t.n, .int .i64 t.mq, .int .i64 t.md, .int .i64 t.mn, .int .i64 t.fx, .int .i64 t.fy, .bool t.fd, .int .i64 t.tx, .int .i64 t.ty, .bool t.td, .int .i64 t.ma, .int .i64 t.me, .int .i64 t.px, .int .i64 t.py, .bool t.pd, .int .i64 t.ld] (0, 0) _ Q0.out Try.underlying35 rfl (by kernel_rfl) ?_
    iterate 2 still_step
    refine wpStill_nil ?_
    refine wpList_put rfl (.tmp 45) (.tmp 47) (.tmp 50) _ rfl Try.underlying57 Try.underlying3 t.r (sentV t now) rfl rfl rfl (b := bm) (m := encM m) (by have := hL.map; (repeat (first | assumption | refine MapI.drew ?_ | refine MapI.drewN ?_ _ | refine MapI.alloc ?_ _ | refine MapI.setCell ?_ _ _))) ?_
    intro w1 hm1 hg1
    have hg0 : W.grownBy w1 (some bm) := gThen (by (repeat (first | exact Below.refl _ _ | assumption | exact BelT.out (by assumption) | refine Below.setCell ?_ (by first | assumption | (simp; done) | (simp; omega) | omega) _ | refine bAlloc ?_ _ | refine Below.drew ?_ | refine bDrewN ?_ _ | refine bThen ?_ (by assumption)))) hg1
    have hb0 := hL.ne
    have Q2 : w1.heap[w.heap.size]? = some (.cells #[.int .i64 t.k, .int .i64 t.r, .int .i64 t.e, .int .i64 t.n, .int .i64 t.mq, .int .i64 t.md, .int .i64 t.mn, .int .i64 t.fx, .int .i64 t.fy, .bool t.fd, .int .i64 t.tx, .int .i64 t.ty, .bool t.td, .int .i64 t.ma, .int .i64 t.me, .int .i64 t.px, .int .i64 t.py, .bool t.pd, .int .i64 t.ld] 35 (0, 0)) := (hg0.block _ (Array.getElem?_eq_some_iff.1 Q0.out).1 (by intro e; injection e with e; have := hL.map.lt; have := h.map.lt; omega)).trans Q0.out
    have Q3 : w1.heap[w.heap.size + 1]? = some (.cells #[.int .i64 0, .int .i64 0, .int .i64 0, .int .i64 0, .int .i64 0, .int .i64 0, .int .i64 0, .int .i64 0, .int .i64 0, .bool false, .int .i64 0, .int .i64 0, .bool false, .int .i64 0, .int .i64 0, .int .i64 0, .int .i64 0, .bool false, .int .i64 0] 35 (0, 0)) := (hg0.block _ (Array.getElem?_eq_some_iff.1 Q1.out).1 (by intro e; injection e with e; have := hL.map.lt; have := h.map.lt; omega)).trans Q1.out
    have Q2' := Lib.hid Q2
    have Q3' := Lib.hid Q3
    clear Q2 Q3 c0 c1 c2 f0
    go_wp2_with (first
      | (refine wpList_load_row rfl 35 (.tmp 4) rfl w.heap.size rfl 35 #[.int .i64 t.k, .int .i64 t.r, .int .i64 t.e, .int .i64 t.n, .int .i64 t.mq, .int .i64 t.md, .int .i64 t.mn, .int .i64 t.fx, .int .i64 t.fy, .bool t.fd, .int .i64 t.tx, .int .i64 t.ty, .bool t.td, .int .i64 t.ma, .int .i64 t.me, .int .i64 t.px, .int .i64 t.py, .bool t.pd, .int .i64 t.ld] (0, 0) _ Q2'.out Try.underlying35 rfl (by kernel_rfl) ?_)
      | (refine wpList_store_row rfl 35 (.tmp 6) (.tmp 51) rfl (w.heap.size + 1) rfl 35 #[.int .i64 0, .int .i64 0, .int .i64 0, .int .i64 0, .int .i64 0, .int .i64 0, .int .i64 0, .int .i64 0, .int .i64 0, .bool false, .int .i64 0, .int .i64 0, .bool false, .int .i64 0, .int .i64 0, .int .i64 0, .int .i64 0, .bool false, .int .i64 0] #[.int .i64 t.k, .int .i64 t.r, .int .i64 t.e, .int .i64 t.n, .int .i64 t.mq, .int .i64 t.md, .int .i64 t.mn, .int .i64 t.fx, .int .i64 t.fy, .bool t.fd, .int .i64 t.tx, .int .i64 t.ty, .bool t.td, .int .i64 t.ma, .int .i64 t.me, .int .i64 t.px, .int .i64 t.py, .bool t.pd, .int .i64 t.ld] rfl Q3'.out rfl (by kernel_rfl) (one_tele t) ?_; intro w2 q2 hg2; have Q4 := Lib.hid q2; clear q2))
    refine bodyPost_ret (res_cell_tmp (ty := 35) rfl _ _ (w.heap.size + 1) 35 #[.int .i64 t.k, .int .i64 t.r, .int .i64 t.e, .int .i64 t.n, .int .i64 t.mq, .int .i64 t.md, .int .i64 t.mn, .int .i64 t.fx, .int .i64 t.fy, .bool t.fd, .int .i64 t.tx, .int .i64 t.ty, .bool t.td, .int .i64 t.ma, .int .i64 t.me, .int .i64 t.px, .int .i64 t.py, .bool t.pd, .int .i64 t.ld] (0, 0) _ rfl Q4.out Try.underlying35 rfl (by kernel_rfl)) rfl ?_
    have hg3 : w.grownBy w2 (some bm) := by
      refine ⟨hg2.os.trans (hg0.os.trans hbw.os), hg2.tape.trans (hg0.tape.trans hbw.tape), hg2.output.trans (hg0.output.trans hbw.output), Nat.le_trans hbw.size (Nat.le_trans hg0.size hg2.size), fun i hi hne => ?_⟩
      exact (hg2.block i (Nat.lt_of_lt_of_le hi (Nat.le_trans hbw.size hg0.size)) (by intro e; injection e with e; omega)).trans ((hg0.block i (Nat.lt_of_lt_of_le hi hbw.size) hne).trans (hbw.block i hi))
    refine ⟨rfl, ⟨(hg3.block b hlt (by intro e; injection e with e; exact hb0 e)).trans h.blk, by rw [enc_upd]; exact hm1.grown hg2 (by intro e; injection e with e; have := h.map.lt; omega)⟩, hg3⟩

def Zt : Value := .agg #[.int .i64 0, .int .i64 0, .int .i64 0, .int .i64 0, .int .i64 0, .int .i64 0, .int .i64 0, .int .i64 0, .int .i64 0, .bool false, .int .i64 0, .int .i64 0, .bool false, .int .i64 0, .int .i64 0, .int .i64 0, .int .i64 0, .bool false, .int .i64 0]
set_option maxHeartbeats 1000000 in
theorem send_no (b bm : Nat) (ro re : Int) (m : Mp) (t : Tl) (now : Int) (w : World) (h : LinkIs w b bm ro re m) (h2 : t.r < 0 ∨ ro ≤ t.r ∨ (t.k ≠ 1 ∧ t.k ≠ 2)) :
    Calls Try.prog 11 #[.pointer (some ⟨b, 0, none⟩), .agg #[.int .i64 t.k, .int .i64 t.r, .int .i64 t.e, .int .i64 t.n, .int .i64 t.mq, .int .i64 t.md, .int .i64 t.mn, .int .i64 t.fx, .int .i64 t.fy, .bool t.fd, .int .i64 t.tx, .int .i64 t.ty, .bool t.td, .int .i64 t.ma, .int .i64 t.me, .int .i64 t.px, .int .i64 t.py, .bool t.pd, .int .i64 t.ld], .int .i64 now] w fun e w' =>
      e = .returned (.tuple #[.agg #[.int .i64 0, .int .i64 0, .int .i64 0, .int .i64 0, .int .i64 0, .int .i64 0, .int .i64 0, .int .i64 0, .int .i64 0, .bool false, .int .i64 0, .int .i64 0, .bool false, .int .i64 0, .int .i64 0, .int .i64 0, .int .i64 0, .bool false, .int .i64 0], .int .i64 1]) ∧ Below w.heap.size w w' := by
  obtain ⟨c0, c1, c2, hlt⟩ := h.cell
  have hmn : ∀ (w : World) (r : Option Nat), (binOp .eql 57 (.map r) (.map none)).run Try.prog w = .ok (.bool r.isNone) w := fun w r => Go.run_eql_map_nil w _ _ _ r Try.underlying57
  have hkk : decide (t.r < 0) = true ∨ (decide (t.r < 0) = false ∧ decide (ro ≤ t.r) = true) ∨ (decide (t.r < 0) = false ∧ decide (ro ≤ t.r) = false ∧ (t.k != 1) = true ∧ (t.k != 2) = true) := by
    by_cases a : t.r < 0
    · exact .inl (decide_eq_true a)
    · by_cases a2 : ro ≤ t.r
      · exact .inr (.inl ⟨decide_eq_false a, decide_eq_true a2⟩)
      · have a3 : t.k ≠ 1 ∧ t.k ≠ 2 := by omega
        exact .inr (.inr ⟨decide_eq_false a, decide_eq_false a2, bne_t a3.1, bne_t a3.2⟩)
  clear h2
  rcases hkk with e1 | ⟨e1, e2⟩ | ⟨e1, e2, e3, e4⟩
  all_goals
    go_enter Try.func11, Try.ntmps11
    go_wp2
    obtain ⟨W, hW⟩ : ∃ W, W = (w.alloc (.cells #[.int .i64 t.k, .int .i64 t.r, .int .i64 t.e, .int .i64 t.n, .int .i64 t.mq, .int .i64 t.md, .int .i64 t.mn, .int .i64 t.fx, .int .i64 t.fy, .bool t.fd, .int .i64 t.tx, .int .i64 t.ty, .bool t.td, .int .i64 t.ma, .int .i64 t.me, .int .i64 t.px, .int .i64 t.py, .bool t.pd, .int .i64 t.ld] 35)).alloc (.cells #[.int .i64 0, .int .i64 0, .int .i64 0, .int .i64 0, .int .i64 0, .int .i64 0, .int .i64 0, .int .i64 0, .int .i64 0, .bool false, .int .i64 0, .int .i64 0, .bool false, .int .i64 0, .int .i64 0, .int .i64 0, .int .i64 0, .bool false, .int .i64 0] 35) := ⟨_, rfl⟩
    have hbw : Below w.heap.size w W := by rw [hW]; (repeat (first | exact Below.refl _ _ | assumption | exact BelT.out (by assumption) | refine Below.setCell ?_ (by first | assumption | (simp; done) | (simp; omega) | omega) _ | refine bAlloc ?_ _ | refine Below.drew ?_ | refine bDrewN ?_ _ | refine bThen ?_ (by assumption)))
    have q1 : W.heap[w.heap.size + 1]? = some (.cells #[.int .i64 0, .int .i64 0, .int .i64 0, .int .i64 0, .int .i64 0, .int .i64 0, .int .i64 0, .int .i64 0, .int .i64 0, .bool false, .int .i64 0, .int .i64 0, .bool false, .int .i64 0, .int .i64 0, .int .i64 0, .int .i64 0, .bool false, .int .i64 0] 35 (0, 0)) := by rw [hW]; exact heap_alloc2_new _ _ _
    have hL := h.below hbw
    clear c0 c1 c2
    obtain ⟨c0, c1, c2, hltW⟩ := hL.cell
    have f0 : ∀ j, W.cell? ⟨w.heap.size, j, none⟩ = (#[.int .i64 t.k, .int .i64 t.r, .int .i64 t.e, .int .i64 t.n, .int .i64 t.mq, .int .i64 t.md, .int .i64 t.mn, .int .i64 t.fx, .int .i64 t.fy, .bool t.fd, .int .i64 t.tx, .int .i64 t.ty, .bool t.td, .int .i64 t.ma, .int .i64 t.me, .int .i64 t.px, .int .i64 t.py, .bool t.pd, .int .i64 t.ld] : Array Value)[j]? := fun j => cell_of_row _ _ _ _ _ _ (by rw [hW]; exact heap_alloc2_old _ _ _)
    rw [← hW]
    clear hW
    have Q1 := Lib.hid q1
    clear q1
    go_quiet (fail)
    go_wp2_with (refine wpList_store_row rfl 35 (.tmp 6) (.tmp 41) rfl (w.heap.size + 1) rfl 35 #[.int .i64 0, .int .i64 0, .int .i64 0, .int .i64 0, .int .i64 0, .int .i64 0, .int .i64 0, .int .i64 0, .int .i64 0, .bool false, .int .i64 0, .int .i64 0, .bool false, .int .i64 0, .int .i64 0, .int .i64 0, .int .i64 0, .bool false, .int .i64 0] #[.int .i64 0, .int .i64 0, .int .i64 0, .int .i64 0, .int .i64 0, .int .i64 0, .int .i64 0, .int .i64 0, .int .i64 0, .bool false, .int .i64 0, .int .i64 0, .bool false, .int .i64 0, .int .i64 0, .int .i64 0, .int .i64 0, .bool false, .int .i64 0] rfl Q1.out rfl (by kernel_rfl) (by decide) ?_; intro w2 q2 hg2; have Q4 := Lib.hid q2; clear q2)
    refine bodyPost_ret (res_cell_tmp (ty := 35) rfl _ _ (w.heap.size + 1) 35 #[.int .i64 0, .int .i64 0, .int .i64 0, .int .i64 0, .int .i64 0, .int .i64 0, .int .i64 0, .int .i64 0, .int .i64 0, .bool false, .int .i64 0, .int .i64 0, .bool false, .int .i64 0, .int .i64 0, .int .i64 0, .int .i64 0, .bool false, .int .i64 0] (0, 0) _ rfl Q4.out Try.underlying35 rfl (by kernel_rfl)) rfl ?_
    exact ⟨rfl, hbw.trans (gToBelow (bDrewG hg2) hbw.size (by omega))⟩
end Go.Proofs.Ytkafemfpfbcoaaa.K
