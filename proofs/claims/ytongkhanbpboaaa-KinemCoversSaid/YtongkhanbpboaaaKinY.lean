/- The laws of the runs: Stands, Later; walks. No conditions. -/
import Derived.Test.YtongkhanbpboaaaKinX
namespace Go.Proofs.Ytongkhanbpboaaa
open Go.RowKit Go.Eng
set_option linter.unusedVariables false
theorem stopE_le {U A V k : Nat} {M : Nat} {l : List Nat} (hU : 1 ≤ U) (h : StopF U A V l k (M * U)) (hp : 1 ≤ posA 0 l k) : 1 ≤ stopE U A l k ∧ stopE U A l k ≤ M := by
  have h1 := h.pb
  have h2 := h.lo
  have h3 := h.hi
  constructor
  · rcases Nat.eq_zero_or_pos (stopE U A l k) with e | e
    · rw [e, Nat.zero_mul] at h2; omega
    · exact e
  · have : stopE U A l k * U < (M + 1) * U := by rw [Nat.add_mul, Nat.one_mul]; omega
    exact Nat.le_of_lt_succ (Nat.lt_of_mul_lt_mul_right this)
theorem one_mod' (t : Int) {T : Nat} (hT : 1 ≤ T) (hT2 : T ≤ 16000) : ∃ k : Nat, IntKind.i64.wrap (1 + t % (T : Int)) = (k : Int) ∧ 1 ≤ k ∧ k ≤ T := by
  have h1 := Int.emod_nonneg t (show (T : Int) ≠ 0 by omega)
  have h2 := Int.emod_lt_of_pos t (show (0 : Int) < T by omega)
  exact ⟨(1 + t % (T : Int)).toNat, by rw [IntKind.wrap_i64]; omega, by omega, by omega⟩
theorem stopP_in {U A V k : Nat} {n : Int} (h1 : 1 ≤ k) (h : k < (pf U A V n).length) : stopP U A V n k = (((stopE U A (pf U A V n) k : Nat) : Int), (((stopL U A V (pf U A V n) k).length : Nat) : Int)) := by
  unfold stopP
  rw [if_neg (by omega), if_neg (by omega), if_neg (by omega), Int.toNat_natCast]
theorem stopP_end {U A V k : Nat} {n : Int} (h1 : 1 ≤ k) (h : (pf U A V n).length ≤ k) (h0 : 1 ≤ (pf U A V n).length) : stopP U A V n k = (n, 0) := by
  unfold stopP
  rw [if_neg (by omega), if_neg (by omega), if_pos (by omega)]
set_option maxHeartbeats 1000000 in
theorem KinemStands_s (u a v n t : Int) (w : World) : C.skeplaw09_KinemStands u a v n t w (fun v w' => v = .bool true ∧ Kp [] w w') noP := skeplaw09_KinemStands_of (by
  unfold W.skeplaw09_KinemStands
  refine use (few_s u a v w) ?_
  rintro _ _ ⟨⟨U, A, V, rfl, hN, hU, hA20, hV40⟩, rfl⟩
  refine ⟨((U : Int), (A : Int), (V : Int)), rfl, use (Place_s n 16 w (by decide) (by decide)) ?_⟩
  rintro _ _ ⟨rfl, rfl⟩
  refine ⟨_, rfl, start_s u a v (Kp.refl [] w) hN _ fun kb w7 hS hlo k7 => ?_⟩
  refine ⟨(PK kb, kS U A V, true), rfl, fun b10 w11 hA => ⟨⟨rfl, hA.blk.canN _ (Nat.le_refl _)⟩, fun w12 e12 => ?_⟩⟩
  have hL := LW.of (Kp.refl [] w) hS hlo k7 hA e12
  refine cond_f rfl (cond_f rfl ?_)
  dsimp only
  obtain ⟨M, hM, hM1, hM2⟩ := one_mod n
  rw [hM]
  have hr := pf_run hN (n := M) (by omega) (by omega)
  have hnu := nu_le hN (n := M) (by omega)
  have hne := pf_ne hN (n := M) (by omega) (by omega)
  have hlen := pf_len hN M
  refine use (Time_s hN M hL.ks) ?_
  rintro _ w13 ⟨rfl, h13, k13⟩
  replace hL := hL.step h13 k13
  refine ⟨_, rfl, cond_d (fun h => by omega) (fun _ => use (Time_s hN M hL.ks) ?_)⟩
  rintro _ w16 ⟨rfl, h16, k16⟩
  replace hL := hL.step h16 k16
  refine ⟨_, rfl, use (Place_s t ((pf U A V M).length : Nat) w16 (by omega) (by omega)) ?_⟩
  rintro _ _ ⟨rfl, rfl⟩
  obtain ⟨k, hk, hk1, hk2⟩ := one_mod' t hne hlen
  refine ⟨_, rfl, ?_⟩
  rw [hk]
  have hF := stop_f (k := k) hN (n := M) (by omega) (by omega) hk1 hk2
  rw [Int.toNat_natCast] at hr hnu hF
  refine use (Stop_s hN M hL.ks k (by omega)) ?_
  rintro _ w22 ⟨rfl, h22, k22⟩
  replace hL := hL.step h22 k22
  refine ⟨_, rfl, use (At_s hN M hL.ks k) ?_⟩
  rintro _ w25 ⟨rfl, h25, k25⟩
  replace hL := hL.step h25 k25
  refine ⟨_, rfl, use (Speed_s hN M hL.ks k (by omega)) ?_⟩
  rintro _ w28 ⟨rfl, h28, k28⟩
  replace hL := hL.step h28 k28
  refine ⟨_, rfl, use (Brake_s hN _ hL.ks.kc) ?_⟩
  rintro _ w31 ⟨rfl, k31⟩
  replace hL := hL.step0 k31
  have hsv := hF.sv
  rw [Int.toNat_natCast, Int.toNat_natCast, Nat.min_eq_left hsv]
  refine ⟨_, rfl, ?_⟩
  have hpk := hr.ge hN.a1 hN.v1 (fun h => by cases h) k hk2
  have hpb := hF.pb
  rcases Nat.lt_or_ge k (pf U A V M).length with hin | hout
  · rw [stopP_in hk1 hin]
    dsimp only
    obtain ⟨e1, e2⟩ := stopE_le hN.u1 hF (by omega)
    have e5 := hF.e5
    rw [mul_wrap (by omega)]
    have hlo2 := hF.lo
    have hhi := hF.hi
    have hrun := hF.run
    have hs1 := hF.s1
    have hll := hrun.len hN.a1 hN.v1 (fun _ => hs1)
    obtain ⟨_, hsl⟩ := hrun.slow _ (Nat.le_refl _)
    rw [hrun.last (Nat.le_refl _)] at hsl
    refine cond_d (fun h => by omega) (fun _ => cond_d (fun h => by omega) (fun _ => cond_d (fun h => by omega) (fun _ => cond_d (fun h => by omega) (fun _ => ?_))))
    refine use (Time_s hN M hL.ks) ?_
    rintro _ w34 ⟨rfl, h34, k34⟩
    replace hL := hL.step h34 k34
    have hme : (stopL U A V (pf U A V M) k).length * spdA 0 0 (pf U A V M) k ≤ 17000 * 40 := Nat.mul_le_mul (by omega) (by omega)
    refine ⟨_, rfl, cond_f (beq_f (by omega)) ?_⟩
    rw [add_wrap (by omega) (by omega), add_wrap (by omega) (by omega), mul_wrap (by omega), sub_wrap (by omega) (by omega)]
    refine cond_t (decide_eq_true (by omega)) (cond_t (decide_eq_true (by omega)) (cond_t (decide_eq_true (by omega)) (cond_t ?_ (aw_s hL.kp))))
    have hiff : (stopL U A V (pf U A V M) k).length = 0 ↔ stopE U A (pf U A V M) k * U = posA 0 (pf U A V M) k := by
      constructor
      · intro h0
        rw [h0, Nat.zero_mul] at hsl
        omega
      · intro he; omega
    by_cases h0 : (stopL U A V (pf U A V M) k).length = 0
    · have h1 := hiff.1 h0
      rw [beq_t (a := (((stopL U A V (pf U A V M) k).length : Nat) : Int)) (by omega), beq_t (a := ((stopE U A (pf U A V M) k * U : Nat) : Int)) (by omega)]
      rfl
    · have h1 : stopE U A (pf U A V M) k * U ≠ posA 0 (pf U A V M) k := fun h => h0 (hiff.2 h)
      rw [beq_f (a := (((stopL U A V (pf U A V M) k).length : Nat) : Int)) (by omega), beq_f (a := ((stopE U A (pf U A V M) k * U : Nat) : Int)) (by omega)]
      rfl
  · rw [stopP_end hk1 hout hne]
    dsimp only
    rw [mul_wrap (by omega)]
    refine cond_d (fun h => by omega) (fun _ => cond_d (fun h => by omega) (fun _ => cond_d (fun h => by omega) (fun _ => cond_d (fun h => by omega) (fun _ => ?_))))
    refine use (Time_s hN M hL.ks) ?_
    rintro _ w34 ⟨rfl, h34, k34⟩
    replace hL := hL.step h34 k34
    exact ⟨_, rfl, cond_t (beq_t (by omega)) (cond_t (beq_self_eq_true _) (cond_t rfl (aw_s hL.kp)))⟩)
set_option maxHeartbeats 1000000 in
theorem KinemLater_s (u a v n t : Int) (w : World) : C.skeplaw09_KinemLater u a v n t w (fun v w' => v = .bool true ∧ Kp [] w w') noP := skeplaw09_KinemLater_of (by
  unfold W.skeplaw09_KinemLater
  refine use (few_s u a v w) ?_
  rintro _ _ ⟨⟨U, A, V, rfl, hN, hU, hA20, hV40⟩, rfl⟩
  refine ⟨((U : Int), (A : Int), (V : Int)), rfl, use (Place_s n 16 w (by decide) (by decide)) ?_⟩
  rintro _ _ ⟨rfl, rfl⟩
  refine ⟨_, rfl, start_s u a v (Kp.refl [] w) hN _ fun kb w7 hS hlo k7 => ?_⟩
  refine ⟨(PK kb, kS U A V, true), rfl, fun b10 w11 hA => ⟨⟨rfl, hA.blk.canN _ (Nat.le_refl _)⟩, fun w12 e12 => ?_⟩⟩
  have hL := LW.of (Kp.refl [] w) hS hlo k7 hA e12
  refine cond_f rfl (cond_f rfl ?_)
  dsimp only
  obtain ⟨M, hM, hM1, hM2⟩ := one_mod n
  rw [hM]
  have hr := pf_run hN (n := M) (by omega) (by omega)
  have hnu := nu_le hN (n := M) (by omega)
  have hne := pf_ne hN (n := M) (by omega) (by omega)
  have hlen := pf_len hN M
  refine use (Time_s hN M hL.ks) ?_
  rintro _ w13 ⟨rfl, h13, k13⟩
  replace hL := hL.step h13 k13
  refine ⟨_, rfl, cond_d (fun h => by omega) (fun _ => use (Time_s hN M hL.ks) ?_)⟩
  rintro _ w16 ⟨rfl, h16, k16⟩
  replace hL := hL.step h16 k16
  refine ⟨_, rfl, use (Place_s t ((pf U A V M).length : Nat) w16 (by omega) (by omega)) ?_⟩
  rintro _ _ ⟨rfl, rfl⟩
  obtain ⟨k, hk, hk1, hk2⟩ := one_mod' t hne hlen
  refine ⟨_, rfl, ?_⟩
  rw [hk, wlk k (by omega)]
  have hF := stop_f (k := k) hN (n := M) (by omega) (by omega) hk1 hk2
  rw [Int.toNat_natCast] at hr hnu hF
  refine use (Stop_s hN M hL.ks k (by omega)) ?_
  rintro _ w22 ⟨rfl, h22, k22⟩
  replace hL := hL.step h22 k22
  refine ⟨_, rfl, use (Stop_s hN M hL.ks (k + 1 : Nat) (by omega)) ?_⟩
  rintro _ w25 ⟨rfl, h25, k25⟩
  replace hL := hL.step h25 k25
  refine ⟨_, rfl, ?_⟩
  have h0 : 0 + brk A 0 ≤ M * U := by rw [brk_small (by omega)]; omega
  have hpk := hr.ge hN.a1 hN.v1 (fun h => by cases h) k hk2
  have hpk1 := hr.mono k
  have hfar := hr.far hN.a1 (Nat.zero_le _) h0 k
  have hst := hr.stop hN.a1 h0 (k + 1)
  have hst0 := hr.stop hN.a1 h0 k
  have hsp0 := hr.spd_le (Nat.zero_le _) k
  have hsp1 := hr.spd_le (Nat.zero_le _) (k + 1)
  have hu1 := hN.u1
  have ord : (stopP U A V M k).1 ≤ (stopP U A V M (k + 1 : Nat)).1 ∧ (stopP U A V M (k + 1 : Nat)).1 ≤ (M : Int) := by
    rcases Nat.lt_or_ge (k + 1) (pf U A V M).length with hin | hout
    · rw [stopP_in hk1 (by omega), stopP_in (by omega) hin]
      have hF1 := stop_f (k := k + 1) hN (n := M) (by omega) (by omega) (by omega) (by omega)
      rw [Int.toNat_natCast] at hF1
      obtain ⟨e1, e2⟩ := stopE_le hN.u1 hF1 (by omega)
      have : stopE U A (pf U A V M) k ≤ stopE U A (pf U A V M) (k + 1) := by
        unfold stopE
        exact Nat.div_le_div_right (by omega)
      dsimp only
      omega
    · rw [stopP_end (k := k + 1) (by omega) hout hne]
      rcases Nat.lt_or_ge k (pf U A V M).length with hin | hout
      · rw [stopP_in hk1 hin]
        obtain ⟨e1, e2⟩ := stopE_le hN.u1 hF (by omega)
        dsimp only
        omega
      · rw [stopP_end hk1 hout hne]
        exact ⟨Int.le_refl _, Int.le_refl _⟩
  refine cond_d (fun h => by omega) (fun _ => cond_d (fun h => by omega) (fun _ => ?_))
  refine use (At_s hN M hL.ks k) ?_
  rintro _ w28 ⟨rfl, h28, k28⟩
  replace hL := hL.step h28 k28
  refine ⟨_, rfl, use (Speed_s hN M hL.ks k (by omega)) ?_⟩
  rintro _ w31 ⟨rfl, h31, k31⟩
  replace hL := hL.step h31 k31
  refine ⟨_, rfl, use (Brake_s hN _ hL.ks.kc) ?_⟩
  rintro _ w34 ⟨rfl, k34⟩
  replace hL := hL.step0 k34
  refine ⟨_, rfl, use (At_s hN M hL.ks (k + 1 : Nat)) ?_⟩
  rintro _ w37 ⟨rfl, h37, k37⟩
  replace hL := hL.step h37 k37
  refine ⟨_, rfl, use (Speed_s hN M hL.ks (k + 1 : Nat) (by omega)) ?_⟩
  rintro _ w40 ⟨rfl, h40, k40⟩
  replace hL := hL.step h40 k40
  refine ⟨_, rfl, use (Brake_s hN _ hL.ks.kc) ?_⟩
  rintro _ w43 ⟨rfl, k43⟩
  replace hL := hL.step0 k43
  simp only [Int.toNat_natCast]
  refine ⟨_, rfl, ?_⟩
  simp only [Nat.min_eq_left hsp0, Nat.min_eq_left hsp1]
  rw [add_wrap (by omega) (by omega), add_wrap (by omega) (by omega)]
  exact cond_t (decide_eq_true (by omega)) (aw_s hL.kp))
theorem KinemLaws_walk (u a v n : Int) (w : World) (hu : (Lit.int .i64 u).wf = true) (ha : (Lit.int .i64 a).wf = true) (hv : (Lit.int .i64 v).wf = true) (hn : (Lit.int .i64 n).wf = true) :
    Calls Try.prog 6 #[.int .i64 u, .int .i64 a, .int .i64 v, .int .i64 n] w fun e w' => e = .returned (.bool true) ∧ Below w.heap.size w w' := ret_true (KinemLaws_s u a v n w)
theorem KinemFast_walk (u a v n : Int) (w : World) (hu : (Lit.int .i64 u).wf = true) (ha : (Lit.int .i64 a).wf = true) (hv : (Lit.int .i64 v).wf = true) (hn : (Lit.int .i64 n).wf = true) :
    Calls Try.prog 7 #[.int .i64 u, .int .i64 a, .int .i64 v, .int .i64 n] w fun e w' => e = .returned (.bool true) ∧ Below w.heap.size w w' := ret_true (KinemFast_s u a v n w)
theorem KinemStands_walk (u a v n t : Int) (w : World) (hu : (Lit.int .i64 u).wf = true) (ha : (Lit.int .i64 a).wf = true) (hv : (Lit.int .i64 v).wf = true) (hn : (Lit.int .i64 n).wf = true) (ht : (Lit.int .i64 t).wf = true) :
    Calls Try.prog 8 #[.int .i64 u, .int .i64 a, .int .i64 v, .int .i64 n, .int .i64 t] w fun e w' => e = .returned (.bool true) ∧ Below w.heap.size w w' := ret_true (KinemStands_s u a v n t w)
theorem KinemLater_walk (u a v n t : Int) (w : World) (hu : (Lit.int .i64 u).wf = true) (ha : (Lit.int .i64 a).wf = true) (hv : (Lit.int .i64 v).wf = true) (hn : (Lit.int .i64 n).wf = true) (ht : (Lit.int .i64 t).wf = true) :
    Calls Try.prog 9 #[.int .i64 u, .int .i64 a, .int .i64 v, .int .i64 n, .int .i64 t] w fun e w' => e = .returned (.bool true) ∧ Below w.heap.size w w' := ret_true (KinemLater_s u a v n t w)
end Go.Proofs.Ytongkhanbpboaaa
