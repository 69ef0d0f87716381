/- The document's windows; the law. No conditions. -/
import Derived.Test.YtongkhanbpboaaaKinV
namespace Go.Proofs.Ytongkhanbpboaaa
open Go.RowKit Go.Eng
set_option linter.unusedVariables false
theorem win_info : (Try.prog.info? 41).map (fun i => (i.zero, i.size, i.bytes)) = some (some (.agg #[.int .i64 0, .int .i64 0]), 2, 16) := by kernel_rfl
theorem wat_zero (u : Nat) (l : List Nat) (ln i : Nat) (z : Int) : wat u l ln i 0 z = [.int .i64 z, .int .i64 z] := by
  unfold wat
  rw [if_neg (by omega), if_neg (by omega)]
def wI (u : Nat) (l : List Nat) (ln i t : Nat) (z : Int) : Int × Int := (if loW u l ln i < t then ((loW u l ln i : Nat) : Int) else z, if loW u l ln i < t then ((min t (hiW u l i) : Nat) : Int) else z)
theorem wat_wI (u : Nat) (l : List Nat) (ln i t : Nat) (z : Int) : wat u l ln i t z = [.int .i64 (wI u l ln i t z).1, .int .i64 (wI u l ln i t z).2] := rfl
set_option maxHeartbeats 4000000 in
theorem rWindows_s {u a v : Nat} (hN : Nums u a v) (n ln : Int) (w : World) :
    C.skepref09_K_Windows (kS u a v) n ln w (fun r w' => ∃ s : Sl, r = slv s ∧ (¬ WinOk n ln → s.len = 0) ∧ (WinOk n ln → Go.Eng.Own w' w.heap.size 2 s ((winL u (pf u a v n) ln.toNat (n + ln).toNat).flatMap wc)) ∧ Kp [] w w') noP := skepref09_K_Windows_of (by
  unfold W.skepref09_K_Windows
  intro b1 w2 hA
  rw [kS_cells] at hA
  refine ⟨kS u a v, ⟨rfl, hA.blk.rd0⟩, use (rProfile_s hN n w2) ?_⟩
  rintro _ w4 ⟨s, rfl, ho, k4⟩
  have hB1 := hA.blk.keep k4 (by simp)
  have hsz := ni_size ho.rds
  have kk4 := hA.kp.then0 k4
  refine ⟨s, rfl, ?_⟩
  by_cases h0 : (pf u a v n).length = 0
  · refine cond_t (by rw [← hsz, h0]; rfl) ⟨⟨none, 0, 0⟩, rfl, fun _ => rfl, fun hw => ?_, kk4⟩
    have := pf_ne hN hw.1.1 hw.1.2
    omega
  refine cond_f (beq_f (by omega)) ?_
  have hn := in_pf h0
  refine cond_d (fun hc => ⟨⟨none, 0, 0⟩, rfl, fun _ => rfl, fun hw => by have := hw.2.1; omega, kk4⟩) (fun l1 => cond_d (fun hc => ⟨⟨none, 0, 0⟩, rfl, fun _ => rfl, fun hw => by have := hw.2.2; omega, kk4⟩) (fun l2 => ?_))
  have hok : WinOk n ln := ⟨hn, by omega, by omega⟩
  obtain ⟨n, rfl⟩ : ∃ m : Nat, n = m := ⟨n.toNat, by omega⟩
  obtain ⟨ln, rfl⟩ : ∃ m : Nat, ln = m := ⟨ln.toNat, by omega⟩
  have hr := pf_run hN hn.1 hn.2
  have hlen := pf_len hN n
  have hu1 := hN.u1; have hu2 := hN.u2
  rw [Int.toNat_natCast] at hr
  rw [add_wrap (by omega) (by omega)]
  have eN : ((n : Int) + (ln : Int)).toNat = n + ln := by omega
  rw [eN, Int.toNat_natCast]
  have hpos : ∀ k, posA 0 (pf u a v n) k ≤ 16000 := fun k => pf_pos hN n k
  obtain ⟨l, hl⟩ : ∃ l, pf u a v n = l := ⟨_, rfl⟩
  rw [hl] at hr hlen h0 hsz hpos ho ⊢
  have hWF : ∀ i, i < n + ln → WinF u l ln i := fun i hi => win_f hr hu1 (by omega) (by omega) hi
  have l18 : ln * u ≤ 2 * 1000 := Nat.mul_le_mul (by omega) hu2
  have hlo := ho.lo
  refine ⟨fun q x w' => ∃ i, x = ((i : Nat) : Int) ∧ i ≤ n + ln ∧ Go.Eng.Own w' w4.heap.size 2 q ((winL u l ln i).flatMap wc) ∧ Kp [] w4 w', fun _ x _ => 100 - x.toNat, ⟨⟨none, 0, 0⟩, rfl, _, rfl, 0, rfl, by omega, Go.Eng.Own.nil _ _ _, Kp.refl _ _⟩, ?_⟩
  rintro e0 q _ w13 ⟨i, rfl, hi, hq, k13⟩
  refine cond_d (fun hc => ?_) (fun hc => ?_)
  · have hi2 : i < n + ln := by omega
    have hF := hWF i hi2
    intro b14 w15 hA14
    refine ⟨⟨rfl, hA14.blk.canN _ (Nat.le_refl _)⟩, fun w16 e16 => ?_⟩
    obtain ⟨g1, g2, g3⟩ := hA14.blk.putAll (vs := #[.int .i64 (-1), .int .i64 (-1)]) rfl e16
    have s15 := hA14.eq
    have s13 := k13.size
    have k16 : Kp [] w13 w16 := hA14.kp.then g2 (by simp; omega)
    refine ⟨fun x w' => ∃ t, x = ((t : Nat) : Int) ∧ t ≤ l.length ∧ Blk w' b14 (wat u l ln i t (-1)) ∧ Kp [] w13 w', fun x _ => 20000 - x.toNat, ⟨_, rfl, 0, rfl, by omega, by rw [wat_zero]; exact g1, k16⟩, ?_⟩
    clear g1 g2 g3 e16 k16
    rintro e1 _ w21 ⟨t, rfl, ht, hB, k21⟩
    have i18 : (i + 1) * u ≤ 18 * 1000 := Nat.mul_le_mul (by omega) hu2
    have i17 : i * u ≤ 18 * 1000 := Nat.mul_le_mul (by omega) hu2
    refine cond_d (fun ht2 => ?_) (fun ht2 => ?_)
    · have ht3 : t < l.length := by omega
      have p1 := hpos t
      have p2 := hpos (t + 1)
      have hoR : Rds w21 1 s (iv (ni l)) := ho.rds.keep0 (k13.then0 k21)
      refine ⟨fun x w' => x = ((posA 0 l t : Nat) : Int) ∧ w21 = w', cond_d (fun h => ?_) (fun h => ⟨_, rfl, by rw [show t = 0 by omega, posA_zero]; rfl, rfl⟩), ?_⟩
      · obtain ⟨j, rfl⟩ : ∃ j, t = j + 1 := ⟨t - 1, by omega⟩
        have hw : IntKind.i64.wrap (((j + 1 : Nat) : Int) - 1) = (j : Nat) := by rw [IntKind.wrap_i64]; omega
        rw [hw, Int.toNat_natCast]
        obtain ⟨A, hA', hc'⟩ := ni_at hoR (i := j) (by omega)
        rw [hA']
        exact ⟨⟨by omega, by omega⟩, _, ⟨rfl, hc'⟩, _, rfl, rfl, rfl⟩
      rintro e2 _ _ ⟨rfl, rfl⟩ w29 hD
      obtain ⟨A, hA', hc'⟩ := ni_at (hoR.keep0 hD.kp) (i := t) ht3
      rw [hA', Int.toNat_natCast]
      replace hB := hB.keep hD.kp (by simp)
      have k29 := k21.then0 hD.kp
      have hB29 := hB1.keep (k13.then0 k29) (by simp)
      refine ⟨⟨by omega, by omega⟩, _, ⟨rfl, hc'⟩, _, ⟨rfl, hB29.at rfl⟩, _, ⟨rfl, hB29.at rfl⟩, ?_⟩
      rw [wlk i (by omega), wlk t (by omega), mul_wrap (by omega)]
      have skip : ¬ (loW u l ln i ≤ t ∧ t < hiW u l i) → ∃ u41 : Int, (.int .i64 ((t + 1 : Nat) : Int) : Value) = .int .i64 u41 ∧ ((∃ t, u41 = ((t : Nat) : Int) ∧ t ≤ l.length ∧ Blk w29 b14 (wat u l ln i t (-1)) ∧ Kp [] w13 w29) ∧ 20000 - u41.toNat < 20000 - t) := fun hno =>
        ⟨_, rfl, ⟨t + 1, rfl, by omega, by rw [wat_out hF ht3 hno]; exact hB, k29⟩, by simp only [Int.toNat_natCast]; omega⟩
      have ifP := hF.ifP t ht3
      have ifQ := hF.ifQ t ht3
      refine cond_d (fun hlt => ⟨_, ⟨rfl, hB29.at rfl⟩, ?_⟩) (fun hge => skip (by omega))
      rw [mul_wrap (by omega), mul_wrap (by omega), add_wrap (by omega) (by omega)]
      refine cond_d (fun hlt2 => ?_) (fun hge => skip (by omega))
      have q1 : loW u l ln i ≤ t := by omega
      have q2 : t < hiW u l i := by omega
      refine ⟨⟨by omega, by omega⟩, (wI u l ln i t (-1)).1, ⟨rfl, by rw [wat_wI] at hB; exact hB.at rfl⟩, ?_⟩
      by_cases hfd : loW u l ln i < t
      · have e : (wI u l ln i t (-1)).1 = ((loW u l ln i : Nat) : Int) := by unfold wI; rw [if_pos hfd]
        rw [e]
        refine cond_d (fun h => by omega) (fun _ => ⟨⟨by omega, by omega⟩, ⟨rfl, hB.can1 _ rfl (Nat.le_of_ble_eq_true rfl)⟩, fun w39 e39 => ?_⟩)
        obtain ⟨j1, j2, j3⟩ := hB.put1 rfl e39
        exact ⟨_, rfl, ⟨t + 1, rfl, by omega, by rw [wat_next hF q2 hfd]; exact j1, k29.then j2 (by simp; omega)⟩, by simp only [Int.toNat_natCast]; omega⟩
      · have e : (wI u l ln i t (-1)).1 = -1 := by unfold wI; rw [if_neg hfd]
        rw [e]
        refine cond_t rfl ⟨⟨by omega, by omega⟩, ⟨rfl, hB.can1 _ rfl (Nat.le_of_ble_eq_true rfl)⟩, fun w36 e36 => ?_⟩
        obtain ⟨j1, j2, j3⟩ := hB.put1 rfl e36
        refine ⟨⟨by omega, by omega⟩, ⟨rfl, j1.can1 _ rfl (Nat.le_of_ble_eq_true rfl)⟩, fun w37 e37 => ?_⟩
        obtain ⟨m1, m2, m3⟩ := j1.put1 rfl e37
        exact ⟨_, rfl, ⟨t + 1, rfl, by omega, by rw [wat_first hF q1 q2 hfd]; exact m1, (k29.then j2 (by simp; omega)).then m2 (by simp; omega)⟩, by simp only [Int.toNat_natCast]; omega⟩
    · have : t = l.length := by omega
      subst this
      rw [wat_end hF] at hB
      refine ⟨⟨(loW u l ln i : Nat), (hiW u l i : Nat)⟩, ⟨rfl, hB.rd0⟩, fun b44 w45 hA44 => ?_⟩
      have s21 := k21.size
      have hq' := hq.keep0 (k21.then0 hA44.kp)
      have hql := hq.len
      rw [flat_len2 wc_len, winL_len] at hql
      have hqm : q.len ≤ 100 := by omega
      have hnew : Rds w45 2 ⟨some ⟨b44, 0, none⟩, 1, 1⟩ [.int .i64 (loW u l ln i : Nat), .int .i64 (hiW u l i : Nat)] := ⟨rfl, fun _ => ⟨_, rfl, hA44.blk.has 0 _ (fun i u hi => by rw [Nat.zero_add]; exact hi)⟩⟩
      obtain ⟨q46, n47, c48, w49, hrun, hnn, ho1, k49, hqq⟩ := app_any (ty := 39) Try.underlying39 win_info rfl (by decide) hq' hnew (fun u hu => by simp at hu; rcases hu with rfl | rfl <;> rfl) (by have := hA44.eq; omega) (by dsimp only; omega) (by dsimp only; omega)
      have hqlo := hq.lo
      refine ⟨q46, n47, c48, w49, hrun, ⟨q46, n47, c48⟩, rfl, _, rfl, ⟨i + 1, wlk i (by omega), by omega, ?_, ((k13.then0 k21).then0 hA44.kp).then k49 (fun y hy => .inr (hqlo y hy).1)⟩, by rw [wlk i (by omega)]; simp only [Int.toNat_natCast]; omega⟩
      have : (winL u l ln (i + 1)).flatMap wc = (winL u l ln i).flatMap wc ++ [.int .i64 (loW u l ln i : Nat), .int .i64 (hiW u l i : Nat)] := by
        unfold winL
        rw [List.range_succ, List.map_append, List.flatMap_append]
        rfl
      rw [this]
      exact ho1
  · have : i = n + ln := by omega
    subst this
    have := k4.size
    have := hA.eq
    exact ⟨q, rfl, fun hno => absurd hok hno, fun _ => hq.mono (by omega), kk4.then0 k13⟩)
set_option maxHeartbeats 1000000 in
theorem KinemWindows_s (u a v n ln : Int) (w : World) (hn : in64 n) : C.skeplaw09_KinemWindows u a v n ln w (fun v w' => v = .bool true ∧ Kp [] w w') noP := skeplaw09_KinemWindows_of (by
  unfold W.skeplaw09_KinemWindows
  refine use (few_s u a v w) ?_
  rintro _ _ ⟨⟨U, A, V, rfl, hN, hU, hA20, hV40⟩, rfl⟩
  refine ⟨((U : Int), (A : Int), (V : Int)), rfl, start_s u a v (Kp.refl [] w) hN _ fun kb w4 hS hlo k4 => ?_⟩
  refine ⟨(PK kb, kS U A V, true), rfl, fun b7 w8 hA => ⟨⟨rfl, hA.blk.canN _ (Nat.le_refl _)⟩, fun w9 e9 => ?_⟩⟩
  have hL := LW.of (Kp.refl [] w) hS hlo k4 hA e9
  refine cond_f rfl (cond_f rfl ?_)
  refine use (Windows_s hN n ln hL.ks hn) ?_
  rintro r w10 ⟨hno, hyes, h10, k10⟩
  have hkb := hL.ks.lt
  replace hL := hL.step h10 k10
  by_cases hok : WinOk n ln
  · obtain ⟨b, rfl, hB, hb⟩ := hyes hok
    have h1 := hok.1.1
    have h2 := hok.1.2
    have h3 := hok.2.1
    have h4 := hok.2.2
    refine ⟨⟨PK b, (n + ln).toNat, (n + ln).toNat⟩, rfl, _, hL.rd, use (rWindows_s hN n ln w10) ?_⟩
    rintro _ w14 ⟨s, rfl, _, hs, k14⟩
    replace hL := hL.step0 k14
    replace hs := hs hok
    have hl := hs.len
    rw [flat_len2 wc_len, winL_len] at hl
    refine ⟨s, rfl, cond_f (bne_f (by dsimp only; omega)) ?_⟩
    obtain ⟨L, hLe⟩ : ∃ L, winL U (pf U A V n) ln.toNat (n + ln).toNat = L := ⟨_, rfl⟩
    have hLl : L.length = (n + ln).toNat := by rw [← hLe, winL_len]
    rw [hLe] at hB hs
    have r1 : RdL w14 2 (fun x : Nat × Nat => S.Ar41.v ⟨x.1, x.2⟩) ⟨PK b, (n + ln).toNat, (n + ln).toNat⟩ L := Rds.rdl (f := wc) wc_len (show Rds w14 2 ⟨PK b, (n + ln).toNat, (n + ln).toNat⟩ (L.flatMap wc) from ⟨by rw [flat_len2 wc_len]; dsimp only; omega, fun _ => ⟨_, rfl, (hB.keep k14 (by simp)).has 0 _ (fun i u hi => by rw [Nat.zero_add]; exact hi)⟩⟩) (fun _ => rfl) hLl
    have r2 : RdL w14 2 (fun x : Nat × Nat => S.Ar41.v ⟨x.1, x.2⟩) s L := Rds.rdl (f := wc) wc_len hs.rds (fun _ => rfl) (by omega)
    refine ⟨fun x w' => ∃ i, x = ((i : Nat) : Int) ∧ i ≤ (n + ln).toNat ∧ LW w w' kb b7 U A V ∧ Kp [] w14 w', fun x _ => 100 - x.toNat, ⟨_, rfl, 0, rfl, by omega, hL, Kp.refl _ _⟩, ?_⟩
    clear hL
    rintro e0 _ w21 ⟨i, rfl, hi, hL, k21⟩
    refine cond_d (fun hc w22 hD => ?_) (fun _ => aw_s hL.kp)
    dsimp only at hc
    have hi2 : i < L.length := by omega
    obtain ⟨a1, ha1, g1⟩ := (r1.keep0 (k21.then0 hD.kp)).get hi2
    obtain ⟨a2, ha2, g2⟩ := (r2.keep0 (k21.then0 hD.kp)).get hi2
    injection ha1 with ha1
    subst ha1
    rw [ha2, Int.toNat_natCast, wlk i (by omega)]
    exact ⟨⟨by omega, by dsimp only; omega⟩, ⟨L[i].1, L[i].2⟩, ⟨rfl, g1⟩, ⟨by omega, by omega⟩, ⟨L[i].1, L[i].2⟩, ⟨rfl, g2⟩, cond_f (by simp) ⟨_, rfl, ⟨i + 1, rfl, by omega, hL.step0 hD.kp, k21.then0 hD.kp⟩, by simp only [Int.toNat_natCast]; omega⟩⟩
  · rw [hno hok]
    refine ⟨⟨none, 0, 0⟩, rfl, _, hL.rd, use (rWindows_s hN n ln w10) ?_⟩
    rintro _ w14 ⟨s, rfl, hs, _, k14⟩
    replace hL := hL.step0 k14
    refine ⟨s, rfl, cond_f (bne_f (by rw [hs hok])) ?_⟩
    refine ⟨fun x w' => x = 0 ∧ LW w w' kb b7 U A V, fun x _ => 0, ⟨_, rfl, rfl, hL⟩, ?_⟩
    clear hL
    rintro e0 _ w21 ⟨rfl, hL⟩
    exact cond_f rfl (aw_s hL.kp))
theorem KinemWindows_walk (u a v n t : Int) (w : World) (hu : (Lit.int .i64 u).wf = true) (ha : (Lit.int .i64 a).wf = true) (hv : (Lit.int .i64 v).wf = true) (hn : (Lit.int .i64 n).wf = true) (ht : (Lit.int .i64 t).wf = true) :
    Calls Try.prog 10 #[.int .i64 u, .int .i64 a, .int .i64 v, .int .i64 n, .int .i64 t] w fun e w' => e = .returned (.bool true) ∧ Below w.heap.size w w' := ret_true (KinemWindows_s u a v n t w (wf_i64 hn))
end Go.Proofs.Ytongkhanbpboaaa
