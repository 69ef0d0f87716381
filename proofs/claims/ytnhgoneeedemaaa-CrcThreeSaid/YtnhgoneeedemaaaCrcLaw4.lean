/- The laws of layer 2 that write bytes of their own, walked. -/
import Derived.Test.YtnhgoneeedemaaaCrcLaw
import Derived.Test.YtnhgoneeedemaaaCrcMath
namespace Go.Proofs.Ytnhgoneeedemaaa.C
open Go.RowKit
set_option linter.unusedVariables false
set_option linter.unusedSimpArgs false

theorem set_snoc (xs : List Int) (k n : Nat) (v : Int) (hk : k < n) (hx : xs.length = k) : (xs ++ List.replicate (n - k) 0).set k v = (xs ++ [v]) ++ List.replicate (n - (k + 1)) 0 := by
  rw [List.set_append_right _ _ (by omega), hx, Nat.sub_self]
  obtain ⟨d, hd⟩ : ∃ d, n - k = d + 1 := ⟨n - k - 1, by omega⟩
  rw [hd, List.replicate_succ, List.set_cons_zero, show n - (k + 1) = d by omega]
  simp
theorem rd_take (l : List Int) (n k : Nat) (h : k < n) : rd (l.take n) k = rd l k := by
  simp [rd, List.getD_eq_getElem?_getD, List.getElem?_take, h]
theorem CrcThree_walk (A1 : Option Addr) (c1 : Nat) (l1 : List Int) (A2 : Option Addr) (c2 : Nat) (l2 : List Int) (A3 : Option Addr) (c3 : Nat) (l3 : List Int) (w : World)
    (hr1 : Rd .u8 w A1 l1) (hc1 : l1.length ≤ c1) (hr2 : Rd .u8 w A2 l2) (hc2 : l2.length ≤ c2) (hr3 : Rd .u8 w A3 l3) (hc3 : l3.length ≤ c3) :
    Calls Try.prog 8 #[.slice A1 l1.length c1, .slice A2 l2.length c2, .slice A3 l3.length c3] w fun e w' => e = .returned (.bool true) ∧ Below w.heap.size w w' := by
  have hlen1 := hr1.len
  have hlen2 := hr2.len
  have hlen3 := hr3.len
  obtain ⟨n, hn⟩ : ∃ n, n = min l1.length (min l2.length l3.length) := ⟨_, rfl⟩
  have hn1 : n ≤ l1.length := by omega
  have hn2 : n ≤ l2.length := by omega
  have hn3 : n ≤ l3.length := by omega
  have hmin : ∀ ats ty, Builtin.min_ ats ty #[.int .i64 (l1.length : Int), .int .i64 (l2.length : Int), .int .i64 (l3.length : Int)] = (pure (.int .i64 (n : Int)) : Sem Value) := by
    intro ats ty
    have h2 : ∀ (k k' : IntKind) (x y : Int), Builtin.min2 (.int k x) (.int k' y) = pure (.int k (if y < x then y else x)) := fun k k' x y => by simp only [Builtin.min2]
    have h3 : ∀ (a b c : Value), Builtin.min_ ats ty #[a, b, c] = (Builtin.min2 a b >>= fun s => Builtin.min2 s c >>= fun s => pure s) := fun a b c => by simp only [Builtin.min_, List.foldlM_cons, List.foldlM_nil]
    rw [h3, h2]
    show (Builtin.min2 _ _ >>= fun s => pure s) = _
    rw [h2]
    show (pure _ : Sem Value) = _
    congr 2
    omega
  have hmk := run_mk (P := Try.prog) 22 5 .u8 1 Try.underlying22 u8_info (by omega) n (by omega)
  clear hn
  go_enter Try.func8, Try.ntmps8
  go_wp2
  have hBw : w.heap.size < (w.alloc (.cells (madeCells #[.int .u8 0] n) 5)).heap.size := by simp
  have hT := Lib.hid (three_length (l1.take n) (l2.take n) (l3.take n) (by simp; omega) (by simp; omega))
  go_loopw [9] (fun i wr => ∃ k : Nat, k ≤ n ∧ i = .int .i64 k ∧ Own .u8 5 w.heap.size wr (.slice (some ⟨w.heap.size, 0, none⟩) n n) ((three (l1.take n) (l2.take n) (l3.take n)).take k ++ List.replicate (n - k) 0) ∧ Below w.heap.size w wr) (fun i _ => n - (intOf i).toNat)
  case atStart => exact ⟨0, Nat.zero_le _, rfl, by simpa using own_make w w.heap.size 5 .u8 n (Nat.le_refl _) (by omega), by (repeat (first | exact Below.refl _ _ | assumption | exact BelT.out (by assumption) | refine Below.setCell ?_ (by first | assumption | (simp; done) | (simp; omega) | omega) _ | refine bAlloc ?_ _ | refine Below.drew ?_ | refine bDrewN ?_ _ | refine bThen ?_ (by assumption)))⟩
  case round =>
    obtain ⟨k, hk, rfl, hown, hbw⟩ := hrel
    by_cases hlt : k < n
    · obtain ⟨ad1, rfl, hq1⟩ := (hr1.below hbw).get k (by omega)
      obtain ⟨ad2, rfl, hq2⟩ := (hr2.below hbw).get k (by omega)
      obtain ⟨ad3, rfl, hq3⟩ := (hr3.below hbw).get k (by omega)
      have i1 : k < l1.length := by omega
      have i2 : k < l2.length := by omega
      have i3 : k < l3.length := by omega
      have r1 := hr1.u8 k (by omega)
      have r2 := hr2.u8 k (by omega)
      have r3 := hr3.u8 k (by omega)
      have x1 := bits_bx r1 r2
      have x2 := bits_bx (bx_range r1 r2) r3
      have hl3 : ((three (l1.take n) (l2.take n) (l3.take n)).take k).length = k := by rw [List.length_take, hT.out]; simp; omega
      obtain ⟨g, hg, hgB, hglt, hcc, hff, hset⟩ := own_at hown (by simp [hl3]; omega) k hlt
      injection hg with hg
      injection hg with hg _
      subst hg
      have HST := Lib.hid (hset (bx (bx (rd l1 k) (rd l2 k)) (rd l3 k)))
      have hstep := three_take (l1.take n) (l2.take n) (l3.take n) k (by simp; omega) (by simp; omega) (by simp; omega)
      rw [rd_take _ _ _ hlt, rd_take _ _ _ hlt, rd_take _ _ _ hlt] at hstep
      have HS := Lib.hid hstep
      have HL := Lib.hid hl3
      clear hset hstep hl3
      go_wp2
      refine wp_region_still_tail 17 (by kernel_rfl) (by kernel_rfl) ?_
      simp only [List.take_succ_cons, List.take_zero, List.drop_succ_cons, List.drop_zero]
      iterate 17 still_step
      refine wpStill_nil ?_
      go_wp2
      go_roundw
      case rel =>
        refine ⟨k + 1, by omega, by go_num, ?_, by (repeat (first | exact Below.refl _ _ | assumption | exact BelT.out (by assumption) | refine Below.setCell ?_ (by first | assumption | (simp; done) | (simp; omega) | omega) _ | refine bAlloc ?_ _ | refine Below.drew ?_ | refine bDrewN ?_ _ | refine bThen ?_ (by assumption)))⟩
        have h := HST.out
        rw [set_snoc _ k n _ hlt HL.out, ← HS.out] at h
        first | exact h | (rw [x1, x2]; exact h)
      case measure => simp [intOf]; omega
    · obtain rfl : k = n := by omega
      have b1 : ∀ x ∈ l1.take k, 0 ≤ x ∧ x ≤ 255 := fun x hx => wf_u8 (hr1.wf x (List.mem_of_mem_take hx))
      have b2 : ∀ x ∈ l2.take k, 0 ≤ x ∧ x ≤ 255 := fun x hx => wf_u8 (hr2.wf x (List.mem_of_mem_take hx))
      have b3 : ∀ x ∈ l3.take k, 0 ≤ x ∧ x ≤ 255 := fun x hx => wf_u8 (hr3.wf x (List.mem_of_mem_take hx))
      have t1 : (l1.take k).length = k := by simp; omega
      have t2 : (l2.take k).length = k := by simp; omega
      have t3 : (l3.take k).length = k := by simp; omega
      have e1 : (bits .xor .u32 (bits .xor .u32 (more 0 (l1.take k)) (more 0 (l2.take k))) (more 0 (l3.take k)) == more 0 (three (l1.take k) (l2.take k) (l3.take k))) = true :=
        beq_t (more_three _ _ _ b1 b2 b3 (by omega) (by omega))
      have ht : (three (l1.take k) (l2.take k) (l3.take k)).length = k := hT.out.trans t1
      have hwf3 : ∀ x ∈ three (l1.take k) (l2.take k) (l3.take k), (Lit.int .u8 x).wf = true := by
        intro x hx
        obtain ⟨t, ht, rfl⟩ := List.mem_map.1 hx
        obtain ⟨u, v, z⟩ := t
        have m1 := List.of_mem_zip ht
        have m2 := List.of_mem_zip m1.2
        have q := bx_range (bx_range (b1 _ m1.1) (b2 _ m2.1)) (b3 _ m2.2)
        exact wf_of_u8 q.1 q.2
      rw [Nat.sub_self, List.replicate_zero, List.append_nil, List.take_of_length_le (by omega)] at hown
      have hrd := own_rd hown ht.symm (by omega) hwf3
      have k4 := flipW (of_calls _ k _ wr.drew hrd.drew)
      have k1 := flipW (of_calls A1 c1 _ wr.drew (((hr1.below hbw).take k).drew))
      have k2 := flipW (of_calls A2 c2 _ wr.drew (((hr2.below hbw).take k).drew))
      have k3 := flipW (of_calls A3 c3 _ wr.drew (((hr3.below hbw).take k).drew))
      rw [t1] at k1
      rw [t2] at k2
      rw [t3] at k3
      rw [ht] at k4
      have j1 : k ≤ c1 := by omega
      have j2 : k ≤ c2 := by omega
      have j3 : k ≤ c3 := by omega
      clear b1 b2 b3 t1 t2 t3 ht hwf3 hT
      go_wp2
      refine wp_region_still_tail 18 (by kernel_rfl) (by kernel_rfl) ?_
      simp only [List.take_succ_cons, List.take_zero, List.drop_succ_cons, List.drop_zero]
      iterate 3 still_step
      still_call k1
      iterate 3 still_step
      still_call k2
      iterate 4 still_step
      still_call k3
      iterate 2 still_step
      still_call k4
      iterate 2 still_step
      refine wpStill_nil ?_
      go_wp2_with (go_at_call 12; ((with_reducible refine (awake_calls _).mono ?_); rintro e w' ⟨rfl, hb2⟩))
      go_ret
      exact ⟨rfl, by (repeat (first | exact Below.refl _ _ | assumption | exact BelT.out (by assumption) | refine Below.setCell ?_ (by first | assumption | (simp; done) | (simp; omega) | omega) _ | refine bAlloc ?_ _ | refine Below.drew ?_ | refine bDrewN ?_ _ | refine bThen ?_ (by assumption)))⟩
end Go.Proofs.Ytnhgoneeedemaaa.C
