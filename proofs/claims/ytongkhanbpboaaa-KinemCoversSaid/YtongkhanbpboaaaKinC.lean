/- The law Covers; walks. No conditions. -/
import Derived.Test.YtongkhanbpboaaaKinT
namespace Go.Proofs.Ytongkhanbpboaaa
open Go.RowKit Go.Eng
set_option linter.unusedVariables false
theorem one_mod2 (n : Int) : ∃ M : Nat, IntKind.i64.wrap (1 + n % 2) = (M : Int) ∧ 1 ≤ M ∧ M ≤ 2 := by
  have h1 := Int.emod_nonneg n (show (2 : Int) ≠ 0 by decide)
  have h2 := Int.emod_lt_of_pos n (show (0 : Int) < 2 by decide)
  exact ⟨(1 + n % 2).toNat, by rw [IntKind.wrap_i64]; omega, by omega, by omega⟩
theorem cell00 {w : World} {b : Nat} {v : Value} (h : w.cell? (Addr.add ⟨b, 0, none⟩ (0 * 2)) = some v) : w.cell? ⟨b, 0, none⟩ = some v := h
set_option maxHeartbeats 2000000 in
theorem KinemCovers_s (u a v n ln : Int) (w : World) : C.skeplaw09_KinemCovers u a v n ln w (fun v w' => v = .bool true ∧ Kp [] w w') noP := skeplaw09_KinemCovers_of (by
  unfold W.skeplaw09_KinemCovers
  refine use (few_s u a v w) ?_
  rintro _ _ ⟨⟨U, A, V, rfl, hN, hU, hA20, hV40⟩, rfl⟩
  refine ⟨((U : Int), (A : Int), (V : Int)), rfl, use (Place_s n 16 w (by decide) (by decide)) ?_⟩
  rintro _ _ ⟨rfl, rfl⟩
  refine ⟨_, rfl, use (Place_s ln 2 w (by decide) (by decide)) ?_⟩
  rintro _ _ ⟨rfl, rfl⟩
  refine ⟨_, rfl, start_s u a v (Kp.refl [] w) hN _ fun kb w10 hS hlo k10 => ?_⟩
  refine ⟨(PK kb, kS U A V, true), rfl, fun b13 w14 hA => ⟨⟨rfl, hA.blk.canN _ (Nat.le_refl _)⟩, fun w15 e15 => ?_⟩⟩
  have hL := LW.of (Kp.refl [] w) hS hlo k10 hA e15
  refine cond_f rfl (cond_f rfl ?_)
  dsimp only
  obtain ⟨M, hM, hM1, hM2⟩ := one_mod n
  obtain ⟨Q, hQ, hQ1, hQ2⟩ := one_mod2 ln
  rw [hM, hQ, add_wrap (by omega) (by omega)]
  have hr := pf_run hN (n := M) (by omega) (by omega)
  have hnu := nu_le hN (n := M) (by omega)
  have hne := pf_ne hN (n := M) (by omega) (by omega)
  have hlen := pf_len hN M
  have hpos : ∀ k, posA 0 (pf U A V M) k ≤ 16000 := fun k => pf_pos hN M k
  rw [Int.toNat_natCast] at hr hnu
  refine use (Windows_s hN M Q hL.ks ⟨by omega, by omega⟩) ?_
  rintro r w16 ⟨_, hyes, h16, k16⟩
  obtain ⟨b, rfl, hB, hb⟩ := hyes ⟨⟨by omega, by omega⟩, by omega, by omega⟩
  have hkb := hL.ks.lt
  replace hL := hL.step h16 k16
  have hbk : b ≠ kb := by omega
  have eN : ((M : Int) + (Q : Int)).toNat = M + Q := by omega
  rw [eN, Int.toNat_natCast] at hB
  rw [eN]
  have hu1 := hN.u1
  obtain ⟨l, hl⟩ : ∃ l, pf U A V M = l := ⟨_, rfl⟩
  rw [hl] at hr hlen hne hpos hB
  have hWF : ∀ i, i < M + Q → WinF U l Q i := fun i hi => win_f hr hu1 hne hQ1 hi
  refine ⟨⟨PK b, M + Q, M + Q⟩, rfl, fun w19 hD => cond_f (bne_f rfl) ?_⟩
  replace hB := hB.keep hD.kp (by simp)
  replace hL := hL.step0 hD.kp
  have f0 := hWF 0 (by omega)
  have fE := hWF (M + Q - 1) (by omega)
  have lo0 : loW U l Q 0 = 0 := by
    have := (f0.ifP 0 (by omega)).1 (by rw [Nat.zero_mul]; have := Nat.mul_le_mul_right U hQ1; omega)
    omega
  have hiE : hiW U l (M + Q - 1) = l.length := by
    rcases Nat.lt_or_ge (hiW U l (M + Q - 1)) l.length with h | h
    · have h1 : ¬ posA 0 l (hiW U l (M + Q - 1)) < (M + Q - 1 + 1) * U := fun hh => by have := (fE.ifQ _ h).1 hh; omega
      have h2 := hr.end_le (hiW U l (M + Q - 1))
      rw [show M + Q - 1 + 1 = M + Q by omega, Nat.add_mul] at h1
      have := Nat.mul_le_mul_right U hQ1
      omega
    · have := fE.hi; omega
  refine ⟨⟨by omega, by dsimp only; omega⟩, ⟨by omega, by omega⟩, _, ⟨rfl, cell00 (wcell hB (i := 0) (by omega)).1⟩, ?_⟩
  rw [lo0]
  refine cond_f rfl ?_
  have eL : IntKind.i64.wrap (((M + Q : Nat) : Int) - 1) = ((M + Q - 1 : Nat) : Int) := by rw [IntKind.wrap_i64]; omega
  dsimp only
  rw [eL, Int.toNat_natCast]
  refine ⟨⟨by omega, by omega⟩, ⟨by omega, by omega⟩, _, ⟨rfl, (wcell hB (i := M + Q - 1) (by omega)).2⟩, use (Time_s hN M hL.ks) ?_⟩
  rintro _ w24 ⟨rfl, h24, k24⟩
  replace hB := hB.keep k24 (by simpa using hbk)
  replace hL := hL.step h24 k24
  refine ⟨_, rfl, (wcell hB (i := M + Q - 1) (by omega)).2, cond_f (bne_f (by rw [hiE, hl])) ?_⟩
  have i18 : ∀ i, i ≤ 18 → i * U ≤ 18 * 60 := fun i hi => Nat.mul_le_mul hi hU
  have l18 : Q * U ≤ 2 * 60 := Nat.mul_le_mul hQ2 hU
  refine ⟨fun x w' => ∃ i, x = ((i : Nat) : Int) ∧ i ≤ M + Q ∧ LW w w' kb b13 U A V ∧ Blk w' b ((winL U l Q (M + Q)).flatMap wc), fun x _ => 100 - x.toNat, ⟨_, rfl, 0, rfl, by omega, hL, hB⟩, ?_⟩
  clear hL hB
  rintro e0 _ w31 ⟨i, rfl, hi, hL, hB⟩
  refine cond_d (fun hc w32 hD => ?_) (fun _ => ?_)
  · replace hB := hB.keep hD.kp (by simp)
    replace hL := hL.step0 hD.kp
    have hi2 : i < M + Q := by omega
    have hF := hWF i hi2
    have o := hF.ord
    rw [Int.toNat_natCast, wlk i (by omega)]
    obtain ⟨c0, c1⟩ := wcell hB hi2
    have step : ∃ u50 : Int, (.int .i64 ((i + 1 : Nat) : Int) : Value) = .int .i64 u50 ∧ ((∃ i, u50 = ((i : Nat) : Int) ∧ i ≤ M + Q ∧ LW w w32 kb b13 U A V ∧ Blk w32 b ((winL U l Q (M + Q)).flatMap wc)) ∧ 100 - u50.toNat < 100 - i) := ⟨_, rfl, ⟨i + 1, rfl, by omega, hL, hB⟩, by simp only [Int.toNat_natCast]; omega⟩
    refine ⟨⟨by omega, by omega⟩, ⟨by omega, by omega⟩, _, ⟨rfl, c0⟩, ⟨by omega, by omega⟩, ⟨by omega, by omega⟩, _, ⟨rfl, c1⟩, cond_d (fun h => by omega) (fun _ => cond_d (fun hpos => ?_) (fun _ => step))⟩
    obtain ⟨j, rfl⟩ : ∃ j, i = j + 1 := ⟨i - 1, by omega⟩
    have e1 : IntKind.i64.wrap (((j + 1 : Nat) : Int) - 1) = (j : Nat) := by rw [IntKind.wrap_i64]; omega
    rw [e1, Int.toNat_natCast]
    obtain ⟨d0, d1⟩ := wcell hB (i := j) (by omega)
    obtain ⟨m1, m2, m3⟩ := win_mono (hWF j (by omega)) hF hQ1 hr.mono
    exact ⟨⟨by omega, by omega⟩, ⟨by omega, by omega⟩, _, ⟨rfl, c0⟩, ⟨by omega, by omega⟩, ⟨by omega, by omega⟩, _, ⟨rfl, d0⟩, cond_d (fun h => by omega) (fun _ =>
      ⟨⟨by omega, by omega⟩, ⟨by omega, by omega⟩, _, ⟨rfl, c1⟩, ⟨by omega, by omega⟩, ⟨by omega, by omega⟩, _, ⟨rfl, d1⟩, cond_d (fun h => by omega) (fun _ =>
      ⟨⟨by omega, by omega⟩, ⟨by omega, by omega⟩, _, ⟨rfl, c0⟩, ⟨by omega, by omega⟩, ⟨by omega, by omega⟩, _, ⟨rfl, d1⟩, cond_d (fun h => by omega) (fun _ => step)⟩)⟩)⟩
  · refine ⟨fun x w' => ∃ t, x = ((t : Nat) : Int) ∧ t ≤ l.length ∧ LW w w' kb b13 U A V ∧ Blk w' b ((winL U l Q (M + Q)).flatMap wc), fun x _ => 20000 - x.toNat, ⟨_, rfl, 0, rfl, by omega, hL, hB⟩, ?_⟩
    clear hL hB
    rintro e1 _ w55 ⟨t, rfl, ht, hL, hB⟩
    refine use (Time_s hN M hL.ks) ?_
    rintro _ w56 ⟨rfl, h56, k56⟩
    rw [hl]
    replace hB := hB.keep k56 (by simpa using hbk)
    replace hL := hL.step h56 k56
    refine ⟨_, rfl, cond_d (fun htl => ?_) (fun _ => aw_s hL.kp)⟩
    have ht2 : t < l.length := by omega
    refine ⟨fun x w' => ∃ i, x = ((i : Nat) : Int) ∧ i ≤ M + Q ∧ LW w w' kb b13 U A V ∧ Blk w' b ((winL U l Q (M + Q)).flatMap wc), fun x _ => 100 - x.toNat, ⟨_, rfl, 0, rfl, by omega, hL, hB⟩, ?_⟩
    clear hL hB
    rintro e2 _ w63 ⟨i, rfl, hi, hL, hB⟩
    rw [wlk t (by omega)]
    refine cond_d (fun hc => ?_) (fun _ => ⟨_, rfl, ⟨t + 1, rfl, by omega, hL, hB⟩, by simp only [Int.toNat_natCast]; omega⟩)
    have hi2 : i < M + Q := by omega
    have hF := hWF i hi2
    have ifP := hF.ifP t ht2
    have ifQ := hF.ifQ t ht2
    have p1 := hpos t
    have p2 := hpos (t + 1)
    have j1 := i18 (i + 1) (by omega)
    have j2 := i18 i (by omega)
    rw [wlk i (by omega)]
    refine ⟨fun x w' => x = decide (loW U l Q i ≤ t ∧ t < hiW U l i) ∧ LW w w' kb b13 U A V ∧ Blk w' b ((winL U l Q (M + Q)).flatMap wc), ?_, ?_⟩
    · refine use (At_s hN M hL.ks t) ?_
      rintro _ w65 ⟨rfl, h65, k65⟩
      replace hB := hB.keep k65 (by simpa using hbk)
      replace hL := hL.step h65 k65
      rw [hl, Int.toNat_natCast]
      refine ⟨_, rfl, ?_⟩
      rw [mul_wrap (by omega)]
      refine cond_d (fun hq => use (At_s hN M hL.ks (t + 1 : Nat)) ?_) (fun hq => ⟨_, rfl, (decide_eq_false (by omega)).symm, hL, hB⟩)
      rintro _ w68 ⟨rfl, h68, k68⟩
      replace hB := hB.keep k68 (by simpa using hbk)
      replace hL := hL.step h68 k68
      rw [hl, Int.toNat_natCast]
      refine ⟨_, rfl, _, rfl, ?_, hL, hB⟩
      rw [mul_wrap (by omega), mul_wrap (by omega), add_wrap (by omega) (by omega)]
      exact decide_eq_decide.2 (by omega)
    clear hL hB
    rintro e3 _ w74 ⟨rfl, hL, hB⟩
    obtain ⟨c0, c1⟩ := wcell hB hi2
    rw [Int.toNat_natCast]
    have step : ∃ u50 : Int, (.int .i64 ((i + 1 : Nat) : Int) : Value) = .int .i64 u50 ∧ ((∃ i, u50 = ((i : Nat) : Int) ∧ i ≤ M + Q ∧ LW w w74 kb b13 U A V ∧ Blk w74 b ((winL U l Q (M + Q)).flatMap wc)) ∧ 100 - u50.toNat < 100 - i) := ⟨_, rfl, ⟨i + 1, rfl, by omega, hL, hB⟩, by simp only [Int.toNat_natCast]; omega⟩
    refine ⟨⟨by omega, by omega⟩, ⟨by omega, by omega⟩, _, ⟨rfl, c0⟩, cond_d (fun h1 => ⟨⟨by omega, by omega⟩, ⟨by omega, by omega⟩, _, ⟨rfl, c1⟩, cond_f ?_ step⟩) (fun h1 => cond_f ?_ step)⟩
    · by_cases h2 : t < hiW U l i
      · rw [decide_eq_true (show loW U l Q i ≤ t ∧ t < hiW U l i by omega), decide_eq_true (show (t : Int) < (hiW U l i : Nat) by omega)]; rfl
      · rw [decide_eq_false (show ¬ (loW U l Q i ≤ t ∧ t < hiW U l i) by omega), decide_eq_false (show ¬ (t : Int) < (hiW U l i : Nat) by omega)]; rfl
    · rw [decide_eq_false (show ¬ (loW U l Q i ≤ t ∧ t < hiW U l i) by omega)]; rfl)
theorem KinemTakes_walk (u a v n t : Int) (w : World) (hu : (Lit.int .i64 u).wf = true) (ha : (Lit.int .i64 a).wf = true) (hv : (Lit.int .i64 v).wf = true) (hn : (Lit.int .i64 n).wf = true) (ht : (Lit.int .i64 t).wf = true) :
    Calls Try.prog 11 #[.int .i64 u, .int .i64 a, .int .i64 v, .int .i64 n, .int .i64 t] w fun e w' => e = .returned (.bool true) ∧ Below w.heap.size w w' := ret_true (KinemTakes_s u a v n t w (wf_i64 hn) (wf_i64 ht))
theorem KinemCovers_walk (u a v n t : Int) (w : World) (hu : (Lit.int .i64 u).wf = true) (ha : (Lit.int .i64 a).wf = true) (hv : (Lit.int .i64 v).wf = true) (hn : (Lit.int .i64 n).wf = true) (ht : (Lit.int .i64 t).wf = true) :
    Calls Try.prog 12 #[.int .i64 u, .int .i64 a, .int .i64 v, .int .i64 n, .int .i64 t] w fun e w' => e = .returned (.bool true) ∧ Below w.heap.size w w' := ret_true (KinemCovers_s u a v n t w)
end Go.Proofs.Ytongkhanbpboaaa
