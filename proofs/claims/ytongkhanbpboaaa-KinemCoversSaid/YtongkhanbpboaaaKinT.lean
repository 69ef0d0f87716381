/- The laws of the runs: Takes, Covers. No conditions. -/
import Derived.Test.YtongkhanbpboaaaKinQ
namespace Go.Proofs.Ytongkhanbpboaaa
open Go.RowKit Go.Eng
set_option linter.unusedVariables false
theorem Run.dist {F : Bool} {a v E p s : Nat} {l : List Nat} (h : Run F a v E p s l) (hs : s ≤ v) : ∀ k, k ≤ l.length → posA p l k ≤ p + k * v
  | 0, _ => by rw [posA_zero]; omega
  | k + 1, hk => by
    have h1 := h.dist hs k (by omega)
    have h2 := (h.tick (k := k) (by omega)).2.2
    have h3 := h.spd_le hs (k + 1)
    rw [Nat.add_mul, Nat.one_mul]
    omega
theorem stopP_none {u a v : Nat} {n t : Int} (h : ¬ (1 ≤ n ∧ n ≤ 16)) : stopP u a v n t = (0, 0) := by
  unfold stopP
  split
  · rfl
  · rw [if_pos (by rw [pf_no h]; rfl)]
set_option maxHeartbeats 1000000 in
theorem KinemTakes_s (u a v n t : Int) (w : World) (hn : in64 n) (ht : in64 t) : C.skeplaw09_KinemTakes u a v n t w (fun v w' => v = .bool true ∧ Kp [] w w') noP := skeplaw09_KinemTakes_of (by
  unfold W.skeplaw09_KinemTakes
  refine use (few_s u a v w) ?_
  rintro _ _ ⟨⟨U, A, V, rfl, hN, hU, hA20, hV40⟩, rfl⟩
  refine ⟨((U : Int), (A : Int), (V : Int)), rfl, start_s u a v (Kp.refl [] w) hN _ fun kb w4 hS hlo k4 => ?_⟩
  refine ⟨(PK kb, kS U A V, true), rfl, fun b7 w8 hA => ⟨⟨rfl, hA.blk.canN _ (Nat.le_refl _)⟩, fun w9 e9 => ?_⟩⟩
  have hL := LW.of (Kp.refl [] w) hS hlo k4 hA e9
  refine cond_f rfl (cond_f rfl ?_)
  dsimp only
  have out : ¬ (1 ≤ n ∧ n ≤ 16) → C.kinem_Kin_Stop (PK kb) n t w9 (fun r12 w10 => ∃ p11 : (Int × Int), r12 = .tuple #[.int .i64 p11.1, .int .i64 p11.2] ∧
    C.kinem_Kin_Profile (PK kb) n w10 (fun r15 w13 => ∃ p14 : Sl, r15 = .slice p14.a p14.len p14.cap ∧
    (cond (((p14.len : Int) : Int) == 0)
    (C.kinem_Kin_Time (PK kb) n w13 (fun r18 w16 => ∃ p17 : Int, r18 = .int .i64 p17 ∧
    (cond ((p17 : Int) == 0)
    (C.kinem_Kin_At (PK kb) n t w16 (fun r21 w19 => ∃ p20 : Int, r21 = .int .i64 p20 ∧
    (cond ((p20 : Int) == 0)
    (C.kinem_Kin_Speed (PK kb) n t w19 (fun r24 w22 => ∃ p23 : Int, r24 = .int .i64 p23 ∧
    (cond ((p23 : Int) == 0)
    ((cond ((p11.1 : Int) == 0)
    ((cond ((p11.2 : Int) == 0)
    (C.kinem_Kin_Windows (PK kb) n 1 w22 (fun r27 w25 => ∃ p26 : Sl, r27 = .slice p26.a p26.len p26.cap ∧
    (cond (((p26.len : Int) : Int) == 0)
    (C.skeplaw09_awake  w25 (fun r30 w28 => ∃ p29 : Bool, r30 = .bool p29 ∧
    ((.bool p29 : Value) = .bool true ∧ Kp [] w w28)) noP)
    ((.bool false : Value) = .bool true ∧ Kp [] w w25))) noP)
    ((.bool false : Value) = .bool true ∧ Kp [] w w22)))
    ((.bool false : Value) = .bool true ∧ Kp [] w w22)))
    ((.bool false : Value) = .bool true ∧ Kp [] w w22))) noP)
    ((.bool false : Value) = .bool true ∧ Kp [] w w19))) noP)
    ((.bool false : Value) = .bool true ∧ Kp [] w w16))) noP)
    ((.bool false : Value) = .bool true ∧ Kp [] w w13))) noP) noP := fun ho => by
    have hp : pf U A V n = [] := pf_no ho
    refine use (Stop_s hN n hL.ks t ht.2) ?_
    rintro _ w10 ⟨rfl, h10, k10⟩
    replace hL := hL.step h10 k10
    rw [stopP_none ho]
    refine ⟨(0, 0), rfl, use (Profile_s hN n hL.ks) ?_⟩
    rintro _ w13 ⟨s, rfl, hs, h13, k13⟩
    replace hL := hL.step h13 k13
    have hsz := ni_size hs.rds
    rw [hp] at hsz
    refine ⟨s, rfl, cond_t (by rw [← hsz]; rfl) (use (Time_s hN n hL.ks) ?_)⟩
    rintro _ w16 ⟨rfl, h16, k16⟩
    replace hL := hL.step h16 k16
    rw [hp]
    refine ⟨_, rfl, cond_t rfl (use (At_s hN n hL.ks t) ?_)⟩
    rintro _ w19 ⟨rfl, h19, k19⟩
    replace hL := hL.step h19 k19
    rw [hp, posA_nil]
    refine ⟨_, rfl, cond_t rfl (use (Speed_s hN n hL.ks t ht.2) ?_)⟩
    rintro _ w22 ⟨rfl, h22, k22⟩
    replace hL := hL.step h22 k22
    have e : spdA 0 0 (pf U A V n) t.toNat = 0 := by
      rw [hp]
      cases t.toNat with
      | zero => rfl
      | succ k => rw [spdA_S, posA_nil, posA_nil]
    rw [e]
    refine ⟨_, rfl, cond_t rfl (cond_t rfl (cond_t rfl (use (Windows_s hN n 1 hL.ks hn) ?_)))⟩
    rintro r w25 ⟨hno, _, h25, k25⟩
    replace hL := hL.step h25 k25
    rw [hno (fun hw => ho hw.1)]
    exact ⟨⟨none, 0, 0⟩, rfl, cond_t rfl (aw_s hL.kp)⟩
  refine cond_d (fun h1 => out (by omega)) (fun h1 => cond_d (fun h2 => out (by omega)) (fun h2 => ?_))
  clear out
  obtain ⟨M, rfl⟩ : ∃ M : Nat, n = M := ⟨n.toNat, by omega⟩
  have hr := pf_run hN (n := M) (by omega) (by omega)
  have hnu := nu_le hN (n := M) (by omega)
  have hne := pf_ne hN (n := M) (by omega) (by omega)
  have hlen := pf_len hN M
  rw [Int.toNat_natCast] at hr hnu
  have hll := hr.len hN.a1 hN.v1 (fun h => by cases h)
  have hd := hr.dist (Nat.zero_le _) _ (Nat.le_refl _)
  rw [hr.last (Nat.le_refl _)] at hd
  refine use (Time_s hN M hL.ks) ?_
  rintro _ w52 ⟨rfl, h52, k52⟩
  replace hL := hL.step h52 k52
  obtain ⟨T, hT⟩ : ∃ T, (pf U A V M).length = T := ⟨_, rfl⟩
  rw [hT] at hlen hne hll hd ⊢
  refine ⟨_, rfl, ?_⟩
  have e9 : IntKind.i64.wrap ((T : Int) + 9) = (T : Int) + 9 := by rw [IntKind.wrap_i64]; omega
  rw [e9]
  refine use (Place_s t ((T : Int) + 9) w52 (by omega) (by omega)) ?_
  rintro _ _ ⟨rfl, rfl⟩
  have z1 := Int.emod_nonneg t (show (T : Int) + 9 ≠ 0 by omega)
  have z2 := Int.emod_lt_of_pos t (show (0 : Int) < (T : Int) + 9 by omega)
  obtain ⟨z, hz⟩ : ∃ z, t % ((T : Int) + 9) = z := ⟨_, rfl⟩
  rw [hz] at z1 z2
  refine ⟨z, by rw [hz], ?_⟩
  have e4 : IntKind.i64.wrap (z - 4) = z - 4 := by rw [IntKind.wrap_i64]; omega
  have e3 : IntKind.i64.wrap (z - 4 + 1) = z - 3 := by rw [IntKind.wrap_i64]; omega
  rw [e4, e3, mul_wrap (e := M) (u := U) (by omega)]
  refine use (Time_s hN M hL.ks) ?_
  rintro _ w58 ⟨rfl, h58, k58⟩
  replace hL := hL.step h58 k58
  rw [hT]
  have hTV : T * V ≤ 16000 * 40 := Nat.mul_le_mul hlen hV40
  refine ⟨_, rfl, ?_⟩
  rw [mul_wrap (by omega)]
  refine cond_t (decide_eq_true (by omega)) (use (Time_s hN M hL.ks) ?_)
  rintro _ w61 ⟨rfl, h61, k61⟩
  replace hL := hL.step h61 k61
  rw [hT]
  have le1 := hr.end_le (z - 4).toNat
  have le2 := hr.end_le t.toNat
  refine ⟨_, rfl, cond_t (decide_eq_true (by omega)) (use (At_s hN M hL.ks (z - 4)) ?_)⟩
  rintro _ w64 ⟨rfl, h64, k64⟩
  replace hL := hL.step h64 k64
  refine ⟨_, rfl, cond_t (decide_eq_true (by omega)) (use (At_s hN M hL.ks (z - 4)) ?_)⟩
  rintro _ w67 ⟨rfl, h67, k67⟩
  replace hL := hL.step h67 k67
  refine ⟨_, rfl, cond_t (decide_eq_true (by omega)) (use (At_s hN M hL.ks (z - 4)) ?_)⟩
  rintro _ w70 ⟨rfl, h70, k70⟩
  replace hL := hL.step h70 k70
  refine ⟨_, rfl, use (At_s hN M hL.ks (z - 3)) ?_⟩
  rintro _ w73 ⟨rfl, h73, k73⟩
  replace hL := hL.step h73 k73
  have mo := hr.mono' (j := (z - 4).toNat) (k := (z - 3).toNat) (by omega)
  refine ⟨_, rfl, cond_t (decide_eq_true (by omega)) (use (At_s hN M hL.ks t) ?_)⟩
  rintro _ w76 ⟨rfl, h76, k76⟩
  replace hL := hL.step h76 k76
  refine ⟨_, rfl, cond_t (decide_eq_true (by omega)) (use (At_s hN M hL.ks t) ?_)⟩
  rintro _ w79 ⟨rfl, h79, k79⟩
  replace hL := hL.step h79 k79
  exact ⟨_, rfl, cond_t (decide_eq_true (by omega)) (aw_s hL.kp)⟩)
theorem wcell {w : World} {b u ln N : Nat} {l : List Nat} (h : Blk w b ((winL u l ln N).flatMap wc)) {i : Nat} (hi : i < N) :
    w.cell? (Addr.add ⟨b, 0, none⟩ (i * 2)) = some (.int .i64 (loW u l ln i : Nat)) ∧ w.cell? (Addr.add (Addr.add ⟨b, 0, none⟩ (i * 2)) 1) = some (.int .i64 (hiW u l i : Nat)) := by
  rw [add_blk, add_blk, Nat.zero_add]
  constructor
  · refine h.at ?_
    have := flat_get (n := 2) wc_len (winL u l ln N) i 0 (by omega)
    rw [winL_get _ _ _ _ _ hi, Nat.add_zero] at this
    rw [this]; rfl
  · refine h.at ?_
    have := flat_get (n := 2) wc_len (winL u l ln N) i 1 (by omega)
    rw [winL_get _ _ _ _ _ hi] at this
    rw [this]; rfl
end Go.Proofs.Ytongkhanbpboaaa
