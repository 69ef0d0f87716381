/- The laws of the runs: Laws, Fast, Stands, Later. No conditions. -/
import Derived.Test.YtongkhanbpboaaaKinL
namespace Go.Proofs.Ytongkhanbpboaaa
open Go.RowKit Go.Eng
set_option linter.unusedVariables false
theorem Run.far {a v E p s : Nat} {l : List Nat} (h : Run false a v E p s l) (ha : 1 ≤ a) (hs : s ≤ v) (h0 : p + brk a s ≤ E) (k : Nat) : posA p l k + brk a (spdA p s l k) ≤ posA p l (k + 1) + brk a (spdA p s l (k + 1)) := by
  have h1 := h.stop ha h0 k
  rcases Nat.lt_or_ge k l.length with hk | hk
  · obtain ⟨t1, t2, t3⟩ := h.tick hk
    rw [t3, t2]
    have : brk a (spdA p s l k) ≤ nz false a v (E - posA p l k) (spdA p s l k) + brk a (nz false a v (E - posA p l k) (spdA p s l k)) := nx_far ha (h.spd_le hs k) (by omega)
    omega
  · have := h.last (k := k + 1) (by omega)
    omega
theorem Run.slow {a v E p s : Nat} {l : List Nat} (h : Run true a v E p s l) : ∀ k, k ≤ l.length → spdA p s l k ≤ s ∧ posA p l k ≤ p + k * s
  | 0, _ => by rw [posA_zero, spdA_zero]; omega
  | k + 1, hk => by
    obtain ⟨i1, i2⟩ := h.slow k (by omega)
    obtain ⟨t1, t2, t3⟩ := h.tick (k := k) (by omega)
    have h1 : nz true a v (E - posA p l k) (spdA p s l k) ≤ spdA p s l k := (nz_le true a v (E - posA p l k) (spdA p s l k)).2.1
    rw [Nat.add_mul, Nat.one_mul]
    omega
theorem Run.ge {F : Bool} {a v E p s : Nat} {l : List Nat} (h : Run F a v E p s l) (ha : 1 ≤ a) (hv : 1 ≤ v) (hs : F = true → 1 ≤ s) : ∀ k, k ≤ l.length → p + k ≤ posA p l k
  | 0, _ => by rw [posA_zero]; omega
  | k + 1, hk => by
    have h1 := h.ge ha hv hs k (by omega)
    have h2 := (h.tick (k := k) (by omega)).2.2
    have h3 := h.pos ha hv hs k (by omega)
    omega
theorem sub_wrap {x y : Nat} (h : y ≤ x) (hx : x ≤ 1000000) : IntKind.i64.wrap ((x : Int) - (y : Int)) = ((x - y : Nat) : Int) := by rw [IntKind.wrap_i64]; omega
theorem add_wrap {x y : Nat} (hx : x ≤ 1000000000) (hy : y ≤ 1000000000) : IntKind.i64.wrap ((x : Int) + (y : Int)) = ((x + y : Nat) : Int) := by rw [IntKind.wrap_i64]; omega
theorem one_mod (n : Int) : ∃ M : Nat, IntKind.i64.wrap (1 + n % 16) = (M : Int) ∧ 1 ≤ M ∧ M ≤ 16 := by
  have h1 := Int.emod_nonneg n (show (16 : Int) ≠ 0 by decide)
  have h2 := Int.emod_lt_of_pos n (show (0 : Int) < 16 by decide)
  exact ⟨(1 + n % 16).toNat, by rw [IntKind.wrap_i64]; omega, by omega, by omega⟩
set_option maxHeartbeats 1000000 in
theorem KinemLaws_s (u a v n : Int) (w : World) : C.skeplaw09_KinemLaws u a v n w (fun v w' => v = .bool true ∧ Kp [] w w') noP := skeplaw09_KinemLaws_of (by
  unfold W.skeplaw09_KinemLaws
  refine use (few_s u a v w) ?_
  rintro _ _ ⟨⟨U, A, V, rfl, hN, hU, hA20, hV40⟩, rfl⟩
  refine ⟨((U : Int), (A : Int), (V : Int)), rfl, use (Place_s n 16 w (by decide) (by decide)) ?_⟩
  rintro _ _ ⟨rfl, rfl⟩
  refine ⟨_, rfl, start_s u a v (Kp.refl [] w) hN _ fun kb w7 hS hlo k7 => ?_⟩
  refine ⟨(PK kb, kS U A V, true), rfl, fun b10 w11 hA => ⟨⟨rfl, hA.blk.canN _ (Nat.le_refl _)⟩, fun w12 e12 => ?_⟩⟩
  have hL := LW.of (Kp.refl [] w) hS hlo k7 hA e12
  refine cond_f rfl (cond_f rfl ?_)
  dsimp only
  obtain ⟨M, hM, hM1, hM2⟩ := one_mod n
  rw [hM]
  have hr := pf_run hN (n := M) (by omega) (by omega)
  have hnu := nu_le hN (n := M) (by omega)
  rw [Int.toNat_natCast] at hr hnu
  have hmw := mul_wrap (e := M) (u := U) (by omega)
  show C.kinem_Kin_Profile (PK kb) M w12 _ noP
  refine use (Profile_s hN M hL.ks) ?_
  rintro _ w13 ⟨s, rfl, ho, h13, k13⟩
  have hkb := hL.ks.lt
  replace hL := hL.step h13 k13
  have hlen := pf_len hN M
  have hsz := ni_size ho.rds
  have h0 : 0 + brk A 0 ≤ M * U := by rw [brk_small (by omega)]; omega
  refine ⟨s, rfl, fun x y i w' => ∃ j : Nat, j ≤ (pf U A V M).length ∧ x = (posA 0 (pf U A V M) j : Nat) ∧ y = (spdA 0 0 (pf U A V M) j : Nat) ∧ i = j ∧ LW w w' kb b10 U A V ∧ Go.Eng.Own w' (kb + 1) 1 s (iv (ni (pf U A V M))), fun _ _ i _ => (pf U A V M).length - i.toNat, ⟨_, rfl, _, rfl, _, rfl, 0, by omega, by rw [posA_zero]; rfl, rfl, rfl, hL, ho.mono (by omega)⟩, ?_⟩
  clear hL ho
  rintro e0 _ _ _ w24 ⟨j, hj, rfl, rfl, rfl, hL, ho⟩
  refine cond_d (fun hc => ?_) (fun hc => ?_)
  · obtain ⟨a25, ha25, hcell⟩ := ni_at ho.rds (i := j) (by omega)
    rw [ha25]
    have hj2 : j < (pf U A V M).length := by omega
    obtain ⟨t1, t2, t3⟩ := hr.tick hj2
    have hmono := hr.mono j
    have hend := hr.end_le (j + 1)
    have hspd := hr.spd_le (Nat.zero_le _) (j + 1)
    have hstop := hr.stop hN.a1 h0 (j + 1)
    have hpos := hr.pos hN.a1 hN.v1 (fun h => by cases h) j hj2
    have hacc : spdA 0 0 (pf U A V M) (j + 1) ≤ spdA 0 0 (pf U A V M) j + A := by rw [t2]; exact (nz_le false A V _ _).1
    have hspd0 := hr.spd_le (Nat.zero_le _) j
    rw [Int.toNat_natCast]
    refine ⟨⟨by omega, hc⟩, _, ⟨rfl, hcell⟩, fun w27 hD => ?_⟩
    have hcell' := cell_keep hcell hD.kp (by simp)
    replace hL := hL.step0 hD.kp
    replace ho := ho.keep0 hD.kp
    rw [sub_wrap hmono (by omega), ← spdA_S 0 0, add_wrap (by omega) (by omega)]
    refine cond_d (fun h => by omega) (fun _ => cond_d (fun h => by omega) (fun _ => cond_d (fun h => by omega) (fun _ => ⟨⟨by omega, hc⟩, _, ⟨rfl, hcell'⟩, use (Brake_s hN _ hL.ks.kc) ?_⟩)))
    rintro _ w30 ⟨rfl, k30⟩
    rw [Int.toNat_natCast, Nat.min_eq_left hspd]
    have hcell2 := cell_keep hcell' k30 (by simp)
    replace hL := hL.step0 k30
    replace ho := ho.keep0 k30
    refine ⟨_, rfl, hcell2, ?_⟩
    rw [hmw, add_wrap (by omega) (by omega)]
    refine cond_d (fun h => by omega) (fun _ => ⟨⟨by omega, hc⟩, _, ⟨rfl, hcell2⟩, ?_⟩)
    rw [wlk j (by omega)]
    refine use (At_s hN M hL.ks _) ?_
    rintro _ w35 ⟨rfl, h35, k35⟩
    replace ho := ho.keep k35 (own_far ho)
    obtain ⟨a25', ha25', hcell3⟩ := ni_at ho.rds (i := j) (by omega)
    rw [ha25] at ha25'
    injection ha25' with ha25'
    subst ha25'
    replace hL := hL.step h35 k35
    rw [Int.toNat_natCast]
    refine ⟨_, rfl, hcell3, cond_f (bne_f rfl) (use (Speed_s hN M hL.ks _ (by omega)) ?_)⟩
    rintro _ w38 ⟨rfl, h38, k38⟩
    replace ho := ho.keep k38 (own_far ho)
    obtain ⟨a25', ha25', hcell4⟩ := ni_at ho.rds (i := j) (by omega)
    rw [ha25] at ha25'
    injection ha25' with ha25'
    subst ha25'
    replace hL := hL.step h38 k38
    rw [Int.toNat_natCast]
    exact ⟨_, rfl, cond_f (bne_f rfl) ⟨⟨by omega, hc⟩, _, ⟨rfl, hcell4⟩, _, rfl, _, rfl, _, rfl, ⟨j + 1, by omega, rfl, rfl, rfl, hL, ho⟩, by simp only [Int.toNat_natCast]; omega⟩⟩
  · have : j = (pf U A V M).length := by omega
    subst this
    rw [hr.last (Nat.le_refl _), hmw]
    refine cond_t (beq_self_eq_true _) (use (Time_s hN M hL.ks) ?_)
    rintro _ w46 ⟨rfl, h46, k46⟩
    replace hL := hL.step h46 k46
    exact ⟨_, rfl, cond_t (beq_t (by omega)) (aw_s hL.kp)⟩)
theorem mm3 (r v s : Nat) : (if (r : Int) < (if (v : Int) < (s : Int) then (v : Int) else (s : Int)) then (r : Int) else (if (v : Int) < (s : Int) then (v : Int) else (s : Int))) = ((min s (min v r) : Nat) : Int) := by
  split <;> split <;> omega
set_option maxHeartbeats 1000000 in
theorem KinemFast_s (u a v n : Int) (w : World) : C.skeplaw09_KinemFast u a v n w (fun v w' => v = .bool true ∧ Kp [] w w') noP := skeplaw09_KinemFast_of (by
  unfold W.skeplaw09_KinemFast
  refine use (few_s u a v w) ?_
  rintro _ _ ⟨⟨U, A, V, rfl, hN, hU, hA20, hV40⟩, rfl⟩
  refine ⟨((U : Int), (A : Int), (V : Int)), rfl, use (Place_s n 16 w (by decide) (by decide)) ?_⟩
  rintro _ _ ⟨rfl, rfl⟩
  refine ⟨_, rfl, start_s u a v (Kp.refl [] w) hN _ fun kb w7 hS hlo k7 => ?_⟩
  refine ⟨(PK kb, kS U A V, true), rfl, fun b10 w11 hA => ⟨⟨rfl, hA.blk.canN _ (Nat.le_refl _)⟩, fun w12 e12 => ?_⟩⟩
  have hL := LW.of (Kp.refl [] w) hS hlo k7 hA e12
  refine cond_f rfl (cond_f rfl ?_)
  dsimp only
  obtain ⟨M, hM, hM1, hM2⟩ := one_mod n
  rw [hM]
  have hr := pf_run hN (n := M) (by omega) (by omega)
  have hnu := nu_le hN (n := M) (by omega)
  rw [Int.toNat_natCast] at hr hnu
  have hmw := mul_wrap (e := M) (u := U) (by omega)
  show C.kinem_Kin_Profile (PK kb) M w12 _ noP
  refine use (Profile_s hN M hL.ks) ?_
  rintro _ w13 ⟨s, rfl, ho, h13, k13⟩
  have hkb := hL.ks.lt
  replace hL := hL.step h13 k13
  have hlen := pf_len hN M
  have hsz := ni_size ho.rds
  refine ⟨s, rfl, fun x y i w' => ∃ j : Nat, j ≤ (pf U A V M).length ∧ x = (posA 0 (pf U A V M) j : Nat) ∧ y = (spdA 0 0 (pf U A V M) j : Nat) ∧ i = j ∧ LW w w' kb b10 U A V ∧ Go.Eng.Own w' (kb + 1) 1 s (iv (ni (pf U A V M))), fun _ _ i _ => (pf U A V M).length - i.toNat, ⟨_, rfl, _, rfl, _, rfl, 0, by omega, by rw [posA_zero]; rfl, rfl, rfl, hL, ho.mono (by omega)⟩, ?_⟩
  clear hL ho
  rintro e0 _ _ _ w24 ⟨j, hj, rfl, rfl, rfl, hL, ho⟩
  refine cond_d (fun hc => ?_) (fun hc => aw_s hL.kp)
  obtain ⟨a25, ha25, hcell⟩ := ni_at ho.rds (i := j) (by omega)
  rw [ha25]
  have hj2 : j < (pf U A V M).length := by omega
  obtain ⟨t1, t2, t3⟩ := hr.tick hj2
  have hmono := hr.mono j
  have hend := hr.end_le (j + 1)
  have hspd := hr.spd_le (Nat.zero_le _) (j + 1)
  have hspd0 := hr.spd_le (Nat.zero_le _) j
  rw [Int.toNat_natCast]
  refine ⟨⟨by omega, hc⟩, _, ⟨rfl, hcell⟩, ?_⟩
  rw [sub_wrap hmono (by omega), ← spdA_S 0 0, add_wrap (by omega) (by omega), hmw, sub_wrap (by omega) (by omega), mm3]
  obtain ⟨q, hq⟩ : ∃ q, spdA 0 0 (pf U A V M) (j + 1) = q := ⟨_, rfl⟩
  rw [hq] at t2 t3 hspd ⊢
  refine ⟨fun x w' => ∃ z : Nat, x = z ∧ q < z ∧ z ≤ 41 ∧ LW w w' kb b10 U A V ∧ Go.Eng.Own w' (kb + 1) 1 s (iv (ni (pf U A V M))), fun x _ => 100 - x.toNat, ⟨_, rfl, q + 1, wlk q (by omega), by omega, by omega, hL, ho⟩, ?_⟩
  clear hL ho hcell
  rintro e1 _ w31 ⟨z, rfl, hz, hz2, hL, ho⟩
  refine cond_d (fun hin => ?_) (fun hout => ?_)
  · have hz3 : z ≤ min (spdA 0 0 (pf U A V M) j + A) (min V (M * U - posA 0 (pf U A V M) j)) := by omega
    have hmx : M * U - posA 0 (pf U A V M) j < z + brk A z := nx_max (a := A) (v := V) (s := spdA 0 0 (pf U A V M) j) (by have : nx A V (M * U - posA 0 (pf U A V M) j) (spdA 0 0 (pf U A V M) j) = q := t2.symm; omega) (by omega) (by omega) (by omega)
    refine use (Brake_s hN _ hL.ks.kc) ?_
    rintro _ w32 ⟨rfl, k32⟩
    rw [Int.toNat_natCast, Nat.min_eq_left (by omega)]
    have hb := brk_1e6 (a := A) (s := z) hN.a1 (by omega)
    refine ⟨_, rfl, ?_⟩
    rw [add_wrap (by omega) (by omega), add_wrap (by omega) (by omega), wlk z (by omega)]
    exact cond_d (fun h => by omega) (fun _ => ⟨_, rfl, ⟨z + 1, rfl, by omega, by omega, hL.step0 k32, ho.keep0 k32⟩, by simp only [Int.toNat_natCast]; omega⟩)
  · obtain ⟨a25', ha25', hcell⟩ := ni_at ho.rds (i := j) (by omega)
    rw [ha25] at ha25'
    injection ha25' with ha25'
    subst ha25'
    rw [wlk j (by omega)]
    exact ⟨⟨by omega, hc⟩, _, ⟨rfl, hcell⟩, _, rfl, _, rfl, _, rfl, ⟨j + 1, by omega, rfl, by rw [hq], rfl, hL, ho⟩, by simp only [Int.toNat_natCast]; omega⟩)
end Go.Proofs.Ytongkhanbpboaaa
