/- The contract of Due. -/
import Derived.Test.YtkafemfpfbcoaaaLink2
import Derived.Deep.RegionHeld3
namespace Go.Proofs.Ytkafemfpfbcoaaa.K
open Go.RowKit
set_option linter.unusedVariables false

def tlc (t : Tl) : List Value := [.int .i64 t.k, .int .i64 t.r, .int .i64 t.e, .int .i64 t.n, .int .i64 t.mq, .int .i64 t.md, .int .i64 t.mn, .int .i64 t.fx, .int .i64 t.fy, .bool t.fd, .int .i64 t.tx, .int .i64 t.ty, .bool t.td, .int .i64 t.ma, .int .i64 t.me, .int .i64 t.px, .int .i64 t.py, .bool t.pd, .int .i64 t.ld]
theorem tlc_one (l : List Tl) : ∀ u ∈ l.flatMap tlc, u.oneCell' = true := by
  intro u hu
  obtain ⟨t, _, h⟩ := List.mem_flatMap.1 hu
  exact one_tele t u h
theorem tlc_len (l : List Tl) : (l.flatMap tlc).length = l.length * 19 := by
  induction l with
  | nil => rfl
  | cons t l ih => simp only [List.flatMap_cons, List.length_append, ih, tlc, List.length_cons, List.length_nil]; omega
theorem tele_info : (Try.prog.info? 35).map (fun i => (i.zero, i.size, i.bytes)) = some (some (.agg #[.int .i64 0, .int .i64 0, .int .i64 0, .int .i64 0, .int .i64 0, .int .i64 0, .int .i64 0, .int .i64 0, .int .i64 0, .bool false, .int .i64 0, .int .i64 0, .bool false, .int .i64 0, .int .i64 0, .int .i64 0, .int .i64 0, .bool false, .int .i64 0]), 19, 152) := by kernel_rfl
/-- A slice of telegrams of the call's own. -/
def OwnT (B : Nat) (w : World) (v : Value) (l : List Tl) : Prop := w.ownsRow B 35 19 v l.length (l.flatMap tlc)
/-- Is it due? -/
def isDue (m : Mp) (re now i : Int) : Bool := (found m i).2 && decide (re ≤ T.less now (foundAt m i))
def dueMap (m : Mp) (re now : Int) : Nat → Mp
  | 0 => m
  | k + 1 => if isDue m re now k then upd (dueMap m re now k) k (some ((found m k).1, now)) else dueMap m re now k
def dueList (m : Mp) (re now : Int) : Nat → List Tl
  | 0 => []
  | k + 1 => if isDue m re now k then dueList m re now k ++ [(found m k).1] else dueList m re now k
theorem dueList_len (m : Mp) (re now : Int) (k : Nat) : (dueList m re now k).length ≤ k := by
  induction k with
  | zero => simp [dueList]
  | succ k ih =>
    unfold dueList
    split
    · rw [List.length_append]; simp; exact ih
    · omega
theorem dueMap_far (m : Mp) (re now : Int) (k : Nat) (j : Int) (h : (k : Int) ≤ j) : dueMap m re now k j = m j := by
  induction k with
  | zero => rfl
  | succ k ih =>
    unfold dueMap
    split
    · unfold upd; rw [if_neg (by omega)]; exact ih (by omega)
    · exact ih (by omega)
theorem due_found (m : Mp) (re now : Int) (k : Nat) : found (dueMap m re now k) k = found m k ∧ foundAt (dueMap m re now k) k = foundAt m k := by
  unfold found foundAt
  rw [dueMap_far m re now k k (Int.le_refl _)]
  exact ⟨rfl, rfl⟩

theorem own_grown {w w1 : World} {base n size : Nat} {e : TypeId} {v : Value} {xs : List Value} {g : Nat} (h : w.ownsRow base e size v n xs) (hg : w.grownBy w1 (some g)) (hne : v.ownBlock ≠ some g) : w1.ownsRow base e size v n xs :=
  h.kept hg (.inr hne)
theorem own_is_cells {w : World} {base n size : Nat} {e : TypeId} {v : Value} {xs : List Value} {g : Nat} (h : w.ownsRow base e size v n xs) (hv : v.ownBlock = some g) : ∃ cs t fr, w.heap[g]? = some (.cells cs t fr) := by
  rcases h.2 with ⟨rfl, _⟩ | ⟨g', cap, cur, rfl, _, hh, _⟩
  · simp [Value.ownBlock] at hv
  · have : g' = g := by simpa [Value.ownBlock] using hv
    subst this
    exact ⟨_, _, _, hh⟩
set_option maxHeartbeats 1000000 in
theorem due_calls (b bm : Nat) (n : Nat) (re now : Int) (m : Mp) (w : World) (hn : n ≤ 8) (h : LinkIs w b bm n re m) :
    Calls Try.prog 12 #[.pointer (some ⟨b, 0, none⟩), .int .i64 now] w fun e w' =>
      ∃ v, e = .returned v ∧ OwnT w.heap.size w' v (dueList m re now n) ∧ LinkIs w' b bm n re (dueMap m re now n) ∧ w.grownBy w' (some bm) := by
  obtain ⟨c0, c1, c2, hlt⟩ := h.cell
  go_enter Try.func12, Try.ntmps12
  go_wp2
  clear c0 c1 c2
  go_loopw [5, 15] (fun v i wr => ∃ k : Nat, k ≤ n ∧ i = .int .i64 k ∧ OwnT w.heap.size wr v (dueList m re now k) ∧ LinkIs wr b bm n re (dueMap m re now k) ∧ w.grownBy wr (some bm)) (fun _ i _ => n - (intOf i).toNat)
  case atStart => exact ⟨0, Nat.zero_le _, rfl, World.ownsRow_nil _ _ _ _, h, ⟨rfl, rfl, rfl, Nat.le_refl _, fun _ _ _ => rfl⟩⟩
  case round =>
    obtain ⟨k, hk, rfl, hown, hL, hg⟩ := hrel
    by_cases hkn : k < n
    · obtain ⟨c0, c1, c2, hlt2⟩ := hL.cell
      have hlook := look_found b bm n re _ (k : Int) wr hL
      obtain ⟨hf1, hf2⟩ := due_found m re now k
      rw [hf1, hf2] at hlook
      clear hf1 hf2
      obtain ⟨t, ht⟩ : ∃ t, (found m k).1 = t := ⟨_, rfl⟩
      obtain ⟨ok, hok⟩ : ∃ x, (found m k).2 = x := ⟨_, rfl⟩
      obtain ⟨at_, hat⟩ : ∃ x, foundAt m k = x := ⟨_, rfl⟩
      rw [ht, hok, hat] at hlook
      unfold sentV at hlook
      have HT := Lib.hid ht
      have HO := Lib.hid hok
      have HA := Lib.hid hat
      clear ht hok hat
      have hL' : ∀ w2, Below wr.heap.size wr w2 → LinkIs w2 b bm n re (dueMap m re now k) := fun w2 hb => hL.below hb
      have HG := Lib.hid hg
      have HOWN := Lib.hid hown
      clear hg hown
      cases ok
      · go_wp2_with (refine wpList_store_row rfl 61 (.tmp 7) (.tmp 25) rfl wr.heap.size rfl 61 #[.int .i64 0, .int .i64 0, .int .i64 0, .int .i64 0, .int .i64 0, .int .i64 0, .int .i64 0, .int .i64 0, .int .i64 0, .bool false, .int .i64 0, .int .i64 0, .bool false, .int .i64 0, .int .i64 0, .int .i64 0, .int .i64 0, .bool false, .int .i64 0, .int .i64 0] #[.int .i64 t.k, .int .i64 t.r, .int .i64 t.e, .int .i64 t.n, .int .i64 t.mq, .int .i64 t.md, .int .i64 t.mn, .int .i64 t.fx, .int .i64 t.fy, .bool t.fd, .int .i64 t.tx, .int .i64 t.ty, .bool t.td, .int .i64 t.ma, .int .i64 t.me, .int .i64 t.px, .int .i64 t.py, .bool t.pd, .int .i64 t.ld, .int .i64 at_] rfl (heap_alloc_new _ _) rfl (by kernel_rfl) (one_sent t at_) ?_; intro w2 q2 hg2; have HB2 := gToBelow hg2 (B := wr.heap.size) (by simp) (Nat.le_refl _); have HB3 : Below wr.heap.size wr w2 := (bAlloc (Below.refl _ _) _).trans HB2; have Q2 := Lib.hid q2; clear q2)
        go_quiet (fail)
        go_wp2
        go_roundw
        case rel =>
          have hnd : isDue m re now k = false := by unfold isDue; rw [HO.out]; rfl
          refine ⟨k + 1, by omega, by go_num, ?_, ?_, ?_⟩
          · unfold dueList; rw [if_neg (by simp [hnd])]; exact own_below HOWN.out (by (repeat (first | exact Below.refl _ _ | assumption | exact BelT.out (by assumption) | refine Below.setCell ?_ (by first | assumption | (simp; done) | (simp; omega) | omega) _ | refine bAlloc ?_ _ | refine Below.drew ?_ | refine bDrewN ?_ _ | refine bThen ?_ (by assumption))))
          · unfold dueMap; rw [if_neg (by simp [hnd])]; exact hL.below (by (repeat (first | exact Below.refl _ _ | assumption | exact BelT.out (by assumption) | refine Below.setCell ?_ (by first | assumption | (simp; done) | (simp; omega) | omega) _ | refine bAlloc ?_ _ | refine Below.drew ?_ | refine bDrewN ?_ _ | refine bThen ?_ (by assumption))))
          · exact gBelow HG.out (by (repeat (first | exact Below.refl _ _ | assumption | exact BelT.out (by assumption) | refine Below.setCell ?_ (by first | assumption | (simp; done) | (simp; omega) | omega) _ | refine bAlloc ?_ _ | refine Below.drew ?_ | refine bDrewN ?_ _ | refine bThen ?_ (by assumption))))
        case measure => simp [intOf]; omega
      · go_wp2_with (refine wpList_store_row rfl 61 (.tmp 7) (.tmp 25) rfl wr.heap.size rfl 61 #[.int .i64 0, .int .i64 0, .int .i64 0, .int .i64 0, .int .i64 0, .int .i64 0, .int .i64 0, .int .i64 0, .int .i64 0, .bool false, .int .i64 0, .int .i64 0, .bool false, .int .i64 0, .int .i64 0, .int .i64 0, .int .i64 0, .bool false, .int .i64 0, .int .i64 0] #[.int .i64 t.k, .int .i64 t.r, .int .i64 t.e, .int .i64 t.n, .int .i64 t.mq, .int .i64 t.md, .int .i64 t.mn, .int .i64 t.fx, .int .i64 t.fy, .bool t.fd, .int .i64 t.tx, .int .i64 t.ty, .bool t.td, .int .i64 t.ma, .int .i64 t.me, .int .i64 t.px, .int .i64 t.py, .bool t.pd, .int .i64 t.ld, .int .i64 at_] rfl (heap_alloc_new _ _) rfl (by kernel_rfl) (one_sent t at_) ?_; intro w2 q2 hg2; have HB2 := gToBelow hg2 (B := wr.heap.size) (by simp) (Nat.le_refl _); have HB3 : Below wr.heap.size wr w2 := (bAlloc (Below.refl _ _) _).trans HB2; have Q2 := Lib.hid q2; have f19 : w2.cell? ⟨wr.heap.size, 19, none⟩ = some (.int .i64 at_) := by rw [cell_of_row _ _ _ _ _ _ q2]; rfl)
        clear q2 c0 c1 c2
        have hL2 := hL' w2 HB3
        obtain ⟨c0, c1, c2, hlt3⟩ := hL2.cell
        have hlt4 := World.block_lt_of_cell? w2 _ f19
        go_region_held3 (fun w' => w'.cell? ⟨wr.heap.size, 19, none⟩ = some (.int .i64 at_) ∧ w'.cell? ⟨b, 1, none⟩ = some (.int .i64 re) ∧ Below w2.heap.size w2 w')
          (first
            | exact ⟨f19, c1, Below.refl _ _⟩
            | exact ⟨f19, c1, (Below.refl _ _).drew⟩
            | go_keep
            | (go_split_ands
               refine ⟨?_, ?_, ?_⟩
               · exact (hbl.cell (World.block_lt_of_cell? _ _ (by assumption))).trans (by assumption)
               · exact (hbl.cell (World.block_lt_of_cell? _ _ (by assumption))).trans (by assumption)
               · exact bThen (by assumption) hbl))
          (first
            | (go_at_call 24; ((with_reducible refine (T.less_calls _ _ _).mono ?_); rintro e w' ⟨rfl, hbl⟩)))
        rename World => w3
        have S1 : Below w2.heap.size w2 w3 := bThen (Below.refl _ _).drew hbl
        have q5 : w3.heap[wr.heap.size]? = some (.cells #[.int .i64 t.k, .int .i64 t.r, .int .i64 t.e, .int .i64 t.n, .int .i64 t.mq, .int .i64 t.md, .int .i64 t.mn, .int .i64 t.fx, .int .i64 t.fy, .bool t.fd, .int .i64 t.tx, .int .i64 t.ty, .bool t.td, .int .i64 t.ma, .int .i64 t.me, .int .i64 t.px, .int .i64 t.py, .bool t.pd, .int .i64 t.ld, .int .i64 at_] 61 (0, 0)) := (S1.block _ hlt4).trans Q2.out
        have hL3 := hL2.below S1
        have HB5 : Below wr.heap.size wr w3 := HB3.trans (S1.mono HB3.size)
        by_cases hd : T.less now at_ < re
        · go_wp2
          go_roundw
          case rel =>
            have hnd : isDue m re now k = false := by unfold isDue; rw [HO.out, HA.out]; simp; omega
            refine ⟨k + 1, by omega, by go_num, ?_, ?_, ?_⟩
            · unfold dueList; rw [if_neg (by simp [hnd])]; exact own_below HOWN.out HB5
            · unfold dueMap; rw [if_neg (by simp [hnd])]; exact hL3
            · exact gBelow HG.out HB5
          case measure => simp [intOf]; omega
        · have hdd : re ≤ T.less now at_ := by omega
          have f5 : w3.frozen? ⟨wr.heap.size, 19, none⟩ = false := frozen_of_row _ _ _ _ _ q5
          have f6 : w3.cell? ⟨wr.heap.size, 19, none⟩ = some (.int .i64 at_) := by rw [cell_of_row _ _ _ _ _ _ q5]; rfl
          have q6 : (w3.setCell ⟨wr.heap.size, 19, none⟩ (.int .i64 now)).heap[wr.heap.size]? = some (.cells #[.int .i64 t.k, .int .i64 t.r, .int .i64 t.e, .int .i64 t.n, .int .i64 t.mq, .int .i64 t.md, .int .i64 t.mn, .int .i64 t.fx, .int .i64 t.fy, .bool t.fd, .int .i64 t.tx, .int .i64 t.ty, .bool t.td, .int .i64 t.ma, .int .i64 t.me, .int .i64 t.px, .int .i64 t.py, .bool t.pd, .int .i64 t.ld, .int .i64 now] 61 (0, 0)) := heap_setCell_same w3 wr.heap.size 19 _ _ (.int .i64 now) q5
          have HB6 : Below wr.heap.size wr (w3.setCell ⟨wr.heap.size, 19, none⟩ (.int .i64 now)) := HB5.setCell (Nat.le_refl _) _
          have hL6 := hL.below HB6
          have Q6 := Lib.hid q6
          have Q5 := Lib.hid q5
          clear q5 q6 c0 c1 c2 hd
          obtain ⟨c0, c1, c2, hlt6⟩ := hL6.cell
          go_wp2
          refine still_tail 6 (by kernel_rfl) (by kernel_rfl) ?_
          simp only [List.take_succ_cons, List.take_zero, List.drop_succ_cons, List.drop_zero]
          iterate 5 still_step
          refine wpStill_load_row rfl 61 (.tmp 7) rfl wr.heap.size rfl 61 #[.int .i64 t.k, .int .i64 t.r, .int .i64 t.e, .int .i64 t.n, .int .i64 t.mq, .int .i64 t.md, .int .i64 t.mn, .int .i64 t.fx, .int .i64 t.fy, .bool t.fd, .int .i64 t.tx, .int .i64 t.ty, .bool t.td, .int .i64 t.ma, .int .i64 t.me, .int .i64 t.px, .int .i64 t.py, .bool t.pd, .int .i64 t.ld, .int .i64 now] (0, 0) _ Q6.out Try.underlying61 rfl (by kernel_rfl) ?_
          refine wpStill_nil ?_
          refine wpList_put rfl (.tmp 45) (.tmp 46) (.tmp 47) _ rfl Try.underlying57 Try.underlying3 (k : Int) (sentV t now) rfl rfl rfl (b := bm) (m := encM (dueMap m re now k)) hL6.map ?_
          intro w7 hm7 hg7
          have hg8 : wr.grownBy w7 (some bm) := gThen (by (repeat (first | exact Below.refl _ _ | assumption | exact BelT.out (by assumption) | refine Below.setCell ?_ (by first | assumption | (simp; done) | (simp; omega) | omega) _ | refine bAlloc ?_ _ | refine Below.drew ?_ | refine bDrewN ?_ _ | refine bThen ?_ (by assumption)))) hg7
          have hnebm : wr.heap.size ≠ bm := by have := hL.map.lt; omega
          have q7 : w7.heap[wr.heap.size]? = some (.cells #[.int .i64 t.k, .int .i64 t.r, .int .i64 t.e, .int .i64 t.n, .int .i64 t.mq, .int .i64 t.md, .int .i64 t.mn, .int .i64 t.fx, .int .i64 t.fy, .bool t.fd, .int .i64 t.tx, .int .i64 t.ty, .bool t.td, .int .i64 t.ma, .int .i64 t.me, .int .i64 t.px, .int .i64 t.py, .bool t.pd, .int .i64 t.ld, .int .i64 now] 61 (0, 0)) := (hg7.block _ (Array.getElem?_eq_some_iff.1 Q6.out).1 (by intro e; injection e with e; exact hnebm e)).trans Q6.out
          have hL7 : LinkIs w7 b bm n re (upd (dueMap m re now k) k (some (t, now))) := hL.turned hg8 (by rw [enc_upd]; exact hm7)
          have hown7 : OwnT w.heap.size w7 u5 (dueList m re now k) := own_grown HOWN.out hg8 (by
            intro e
            have := own_is_cells HOWN.out e
            obtain ⟨es, c, hb, _⟩ := hL.map
            obtain ⟨cs, tt, fr, hcs⟩ := this
            rw [hcs] at hb
            cases hb)
          have hdl := dueList_len m re now k
          have Q7 := Lib.hid q7
          have HL7 := Lib.hid hL7
          have HG8 := Lib.hid hg8
          clear q7 c0 c1 c2 hg8 hL7
          go_wp2_with (first
            | (refine wpList_load_part rfl 35 (.tmp 49) rfl wr.heap.size 0 rfl 61 #[.int .i64 t.k, .int .i64 t.r, .int .i64 t.e, .int .i64 t.n, .int .i64 t.mq, .int .i64 t.md, .int .i64 t.mn, .int .i64 t.fx, .int .i64 t.fy, .bool t.fd, .int .i64 t.tx, .int .i64 t.ty, .bool t.td, .int .i64 t.ma, .int .i64 t.me, .int .i64 t.px, .int .i64 t.py, .bool t.pd, .int .i64 t.ld, .int .i64 now] #[.int .i64 t.k, .int .i64 t.r, .int .i64 t.e, .int .i64 t.n, .int .i64 t.mq, .int .i64 t.md, .int .i64 t.mn, .int .i64 t.fx, .int .i64 t.fy, .bool t.fd, .int .i64 t.tx, .int .i64 t.ty, .bool t.td, .int .i64 t.ma, .int .i64 t.me, .int .i64 t.px, .int .i64 t.py, .bool t.pd, .int .i64 t.ld] (0, 0) _ Q7.out (part_of rfl) Try.underlying35 rfl (by kernel_rfl) ?_)
            | (at_builtin; refine wpList_app rfl (.tmp 48) (.tmp 51) _ rfl w.heap.size 35 _ 19 152 Try.underlying22 tele_info rfl (by omega) u5 (dueList m re now k).length ((dueList m re now k).flatMap tlc) rfl (World.ownsRow.alloc hown7 _) (some ⟨w7.heap.size, 0, none⟩) 1 1 (tlc t) rfl ⟨rfl, fun _ => ⟨_, rfl, World.news_of_block (cs := #[.int .i64 t.k, .int .i64 t.r, .int .i64 t.e, .int .i64 t.n, .int .i64 t.mq, .int .i64 t.md, .int .i64 t.mn, .int .i64 t.fx, .int .i64 t.fy, .bool t.fd, .int .i64 t.tx, .int .i64 t.ty, .bool t.td, .int .i64 t.ma, .int .i64 t.me, .int .i64 t.px, .int .i64 t.py, .bool t.pd, .int .i64 t.ld]) (heap_alloc_new _ _)⟩⟩ (one_tele t) (by unfold maxLen; omega) (by omega) (by have := HG8.out.size; have := HG.out.size; simp; omega) ?_; intro v9 w9 hown9 hg9 hat9))
          go_roundw
          case rel =>
            have hdt : isDue m re now k = true := by unfold isDue; rw [HO.out, HA.out]; simpa using hdd
            have hnb : v9.ownBlock ≠ some bm := by
              intro e
              rcases hat9 with e9 | e9
              · obtain ⟨cs, tt, fr, hcs⟩ := own_is_cells hown7 (e9.symm.trans e)
                obtain ⟨es, c, hb, _⟩ := HL7.out.map
                rw [hcs] at hb
                cases hb
              · rw [e] at e9
                injection e9 with e9
                have := HL7.out.map.lt
                simp at e9
                omega
            have hub : u5.ownBlock ≠ some bm := by
              intro e
              obtain ⟨cs, tt, fr, hcs⟩ := own_is_cells hown7 e
              obtain ⟨es, c, hb, _⟩ := HL7.out.map
              rw [hcs] at hb
              cases hb
            have hbk : u5.ownBlock ≠ some b := by
              intro e
              obtain ⟨cs, tt, fr, hcs⟩ := own_is_cells hown7 e
              have h1 := own_lo hown7 b e
              omega
            refine ⟨k + 1, by omega, by go_num, ?_, ?_, ?_⟩
            · unfold dueList
              rw [if_pos hdt, HT.out]
              unfold OwnT
              rw [List.flatMap_append, List.length_append]
              simpa [tlc] using hown9
            · unfold dueMap
              rw [if_pos hdt, HT.out]
              have hL8 := HL7.out.below (bAlloc (Below.refl _ _) (.cells #[.int .i64 t.k, .int .i64 t.r, .int .i64 t.e, .int .i64 t.n, .int .i64 t.mq, .int .i64 t.md, .int .i64 t.mn, .int .i64 t.fx, .int .i64 t.fy, .bool t.fd, .int .i64 t.tx, .int .i64 t.ty, .bool t.td, .int .i64 t.ma, .int .i64 t.me, .int .i64 t.px, .int .i64 t.py, .bool t.pd, .int .i64 t.ld] 35))
              exact ⟨(hg9.block b hL8.lt (fun e => hbk e.symm)).trans hL8.blk, hL8.map.grown hg9 (fun e => hub e.symm)⟩
            · have hB := bAlloc (Below.refl w7.heap.size w7) (.cells #[.int .i64 t.k, .int .i64 t.r, .int .i64 t.e, .int .i64 t.n, .int .i64 t.mq, .int .i64 t.md, .int .i64 t.mn, .int .i64 t.fx, .int .i64 t.fy, .bool t.fd, .int .i64 t.tx, .int .i64 t.ty, .bool t.td, .int .i64 t.ma, .int .i64 t.me, .int .i64 t.px, .int .i64 t.py, .bool t.pd, .int .i64 t.ld] 35)
              have h1 := gBelow HG8.out hB
              have h2 := HG.out
              refine ⟨hg9.os.trans (h1.os.trans h2.os), hg9.tape.trans (h1.tape.trans h2.tape), hg9.output.trans (h1.output.trans h2.output), Nat.le_trans h2.size (Nat.le_trans h1.size hg9.size), fun i hi hne => ?_⟩
              refine (hg9.block i (Nat.lt_of_lt_of_le hi (Nat.le_trans h2.size h1.size)) (fun e => ?_)).trans ((h1.block i (Nat.lt_of_lt_of_le hi h2.size) hne).trans (h2.block i hi hne))
              have := own_lo hown7 i e.symm
              omega
          case measure => simp [intOf]; omega
    · obtain rfl : k = n := by omega
      obtain ⟨c0, c1, c2, hlt2⟩ := hL.cell
      go_wp2
      go_ret
      exact ⟨_, rfl, hown, hL, hg⟩
end Go.Proofs.Ytkafemfpfbcoaaa.K
