/- The laws WalReads, WalRecords. No conditions. -/
import Derived.Test.YthbablipimdaoaaWalT
namespace Go.Proofs.Ythbablipimdaoaa
open Go.RowKit Go.Eng
set_option linter.unusedVariables false
set_option maxHeartbeats 4000000 in
set_option maxRecDepth 20000 in
/-- What WalReads does with each record. -/
theorem reads_yield {A : List Bs} {w : World} {b4 b51 b53 b57 k : Nat} {q x : Sl} (hk : k < A.length) (hAl : A.length ≤ 40) (h4 : Blk w b4 [slv q]) (hq : RL w q A) (h57 : Blk w b57 [.bool true]) (h51 : Blk w b51 [.int .i64 k]) (h53 : Blk w b53 [.int .i64 (endL (A.take k))]) (hx : RdB w x A[k])
    (n1 : b51 ≠ b53) (n2 : b51 ≠ b57) (n3 : b53 ≠ b57) (hok : okR A[k]) (he : endL (A.take k) ≤ 3008 * 40) :
    C.skeplaw04_WalReads_1 (endL (A.take k)) x (PD b57) (PD b51) (PD b4) (PD b53) w (fun v w' => v = .bool true ∧ Blk w' b57 [.bool true] ∧ Blk w' b51 [.int .i64 ((k + 1 : Nat) : Int)] ∧ Blk w' b53 [.int .i64 (endL (A.take (k + 1)))] ∧ Kp [b57, b51, b53] w w') noP := skeplaw04_WalReads_1_of (by
  unfold W.skeplaw04_WalReads_1
  intro w1 hD
  have hql := hq.len
  have hxl := hx.bsize
  replace h4 := h4.keep hD.kp (by simp)
  replace hq := hq.keep0 hD.kp
  replace h57 := h57.keep hD.kp (by simp)
  replace h51 := h51.keep hD.kp (by simp)
  replace h53 := h53.keep hD.kp (by simp)
  replace hx := hx.keep0 hD.kp
  obtain ⟨a, z, ea, hc, hz⟩ := hq.get hk
  have c4 := h4.at (i := 0) rfl
  have c57 := h57.at (i := 0) rfl
  have c51 := h51.at (i := 0) rfl
  have c53 := h53.at (i := 0) rfl
  refine ⟨true, ⟨rfl, c57⟩, cond_t rfl ⟨_, ⟨rfl, c51⟩, q, ⟨rfl, c4⟩, cond_t (by simp; omega) ⟨_, ⟨rfl, c53⟩, cond_t (by simp) ⟨str _, hx.str, q, ⟨rfl, c4⟩, _, ⟨rfl, c51⟩, ⟨by omega, by omega⟩, ?_⟩⟩⟩⟩
  rw [ea, Int.toNat_natCast]
  refine ⟨z, ⟨rfl, hc⟩, str _, hz.str, ?_⟩
  rw [strEq_str, decide_eq_true (rfl : A[k] = A[k])]
  refine ⟨⟨rfl, h57.can1 _ rfl (Nat.le_of_ble_eq_true rfl)⟩, fun w18 e18 => ?_⟩
  obtain ⟨u57, k18, s18⟩ := h57.put1 rfl e18
  have u53 := h53.keep k18 (by simp; omega)
  have u51 := h51.keep k18 (by simp; omega)
  have hv : IntKind.i64.wrap (IntKind.i64.wrap (((endL (A.take k) : Nat) : Int) + 8) + (x.len : Int)) = ((endL (A.take (k + 1)) : Nat) : Int) := by
    have e1 : endL (A.take (k + 1)) = endL (A.take k) + (8 + A[k].length) := by rw [take_snoc A hk, endL_app]; rfl
    have h2 := hok.2
    have : IntKind.i64.wrap (((endL (A.take k) : Nat) : Int) + 8) = ((endL (A.take k) + 8 : Nat) : Int) := by rw [IntKind.wrap_i64]; omega
    rw [this, IntKind.wrap_i64, e1]
    omega
  refine ⟨_, ⟨rfl, u53.at (i := 0) rfl⟩, ?_⟩
  rw [hv]
  refine ⟨⟨rfl, u53.can1 _ rfl (Nat.le_of_ble_eq_true rfl)⟩, fun w22 e22 => ?_⟩
  obtain ⟨v53, k22, s22⟩ := u53.put1 rfl e22
  have v57 := u57.keep k22 (by simp; omega)
  have v51 := u51.keep k22 (by simp; omega)
  refine ⟨_, ⟨rfl, v51.at (i := 0) rfl⟩, ?_⟩
  rw [wlk k (by omega)]
  refine ⟨⟨rfl, v51.can1 _ rfl (Nat.le_of_ble_eq_true rfl)⟩, fun w26 e26 => ?_⟩
  obtain ⟨t51, k26, s26⟩ := v51.put1 rfl e26
  have t57 := v57.keep k26 (by simp; omega)
  have t53 := v53.keep k26 (by simp; omega)
  exact ⟨true, ⟨rfl, t57.at (i := 0) rfl⟩, rfl, t57, t51, t53, (((hD.kp.up [b57, b51, b53]).then k18 (by simp)).then k22 (by simp)).then k26 (by simp)⟩)
set_option maxHeartbeats 4000000 in
set_option maxRecDepth 20000 in
theorem WalReads_s (l more : Sl) {L : List Bs} {o : Bs} (w : World) (hl : RL w l L) (ho : RdB w more o) : C.skeplaw04_WalReads l more w (fun v w' => v = .bool true ∧ Kp [] w w') noP := skeplaw04_WalReads_of (by
  unfold W.skeplaw04_WalReads
  have hol := ho.bsize
  refine use (say_s l hl) ?_
  rintro _ w1 ⟨q, rfl, hq, k1⟩
  obtain ⟨A, hA⟩ : ∃ A, sayL L = A := ⟨_, rfl⟩
  have hAok := sayL_okR L
  have hAe := endL_say L
  have hAe' := endL_say' L
  have hAl := sayL_len L
  rw [hA] at hq hAok hAe hAe' hAl
  have hql := hq.len
  refine ⟨q, rfl, fun b4 w5 h4 => ?_⟩
  have s5 := h4.eq
  refine ⟨⟨rfl, h4.blk.can1 _ rfl (Nat.le_of_ble_eq_true rfl)⟩, fun w6 e6 => ?_⟩
  obtain ⟨hB4, k6, s6⟩ := h4.blk.put1 rfl e6
  have k16 : Kp [] w1 w6 := h4.kp.then k6 (by simp; omega)
  replace hq := hq.keep0 k16
  have k06 := k1.then0 k16
  refine use (New_g w6 w6 (Kp.refl _ _)) ?_
  rintro _ w7 ⟨d, rfl, hD, k7⟩
  refine ⟨PD d, rfl, ?_⟩
  refine use (Start_s (f := 0) (by omega) hD) ?_
  rintro _ w10 ⟨lg, q0, G, rfl, hW, -⟩
  refine ⟨(PD lg, q0, 0), rfl, cond_f rfl (cond_f rfl (cond_i (fun _ => cond_t rfl (cond_t rfl (awk (k06.then0 hW.dg.kp)))) (fun h3 => ?_)))⟩
  replace h3 := of_decide_eq_false h3
  refine ⟨fun v w' => ∃ k : Nat, v = k ∧ k ≤ A.length ∧ LW w6 w' G lg d 0 (mAdd m00 0 (A.take k)), fun v _ => A.length - v.toNat, ⟨_, rfl, 0, rfl, by omega, by rw [List.take_zero, mAdd_nil]; exact hW⟩, fun e0 v w26 hI => ?_⟩
  clear hW
  obtain ⟨k, rfl, hk, hW⟩ := hI
  have hu : uK (mAdd m00 0 (A.take k)) := fun i hi => Nat.le_trans (mAdd_units m00 0 _ i) (by have := hAe k; simp [m00, unitsL]; omega)
  have c4 := (hB4.keep hW.dg.kp (by simp)).at (i := 0) rfl
  refine ⟨q, ⟨rfl, c4⟩, cond_d (fun c1 => ?_) (fun c1 => ?_)⟩
  · obtain ⟨a, x, ea, hx, hxb⟩ := (hq.keep0 hW.dg.kp).get (i := k) (by omega)
    have hsok := hAok A[k] (List.getElem_mem _)
    refine ⟨q, ⟨rfl, c4⟩, ⟨by omega, c1⟩, ?_⟩
    rw [ea, Int.toNat_natCast, wlk k (by omega)]
    refine ⟨x, ⟨rfl, hx⟩, ?_⟩
    refine use (CopyBytes_s x hxb (by have := hsok.2; omega)) ?_
    rintro _ w31 ⟨p, rfl, hp, k31⟩
    refine ⟨p, rfl, ?_⟩
    have := hAe k
    refine use ((hW.keep k31).add (by omega) hp.rds hsok (by have := hsok.2; simp [m00]; omega) hu) ?_
    rintro _ w34 ⟨rfl, hW2, k34⟩
    exact ⟨_, rfl, cond_f rfl ⟨_, rfl, ⟨k + 1, rfl, by omega, by rw [take_snoc A (by omega)]; exact hW2⟩, by simp only [Int.toNat_natCast]; omega⟩⟩
  have hke : k = A.length := by omega
  subst hke
  rw [List.take_length] at hW hu
  obtain ⟨m, hm⟩ : ∃ m, mAdd m00 0 A = m := ⟨_, rfl⟩
  have hmn : (m 0).now = flatR A := by rw [← hm, mAdd_now]; rfl
  rw [hm] at hW hu
  clear hm
  refine use (Size_g ((0 : Nat) : Int) hW.dg) ?_
  rintro _ _ ⟨rfl, rfl⟩
  rw [readF_i m (by omega), hmn, flatR_len]
  refine ⟨((endL A : Nat) : Int), rfl, ?_⟩
  refine use (Read_g ((0 : Nat) : Int) hW.dg) ?_
  rintro _ w41 ⟨r, rfl, hr, k41⟩
  rw [readF_i m (by omega), hmn] at hr
  have hrl := hr.rds.bsize
  rw [flatR_len] at hrl
  refine ⟨r, rfl, ?_⟩
  have s26 := hW.dg.kp.size
  have k041 := k06.then0 (hW.dg.kp.then0 k41)
  obtain ⟨q44, n45, c46, w47, hrun47, hn45, ho47, k47', _⟩ := app_bytes (ty := 22) Try.underlying22 byte_inf hr (ho.keep0 k041) k41.size (by rw [flatR_len]; omega)
  have k47 : Kp [] w26 w47 := k41.then k47' (fun y hy => .inr (hr.lo y hy).1)
  refine ⟨q44, n45, c46, w47, hrun47, ?_⟩
  have hlc := ho47.lc
  dsimp only at hlc
  refine ⟨⟨by omega, by omega⟩, ?_⟩
  simp only [Int.toNat_natCast, ite_same, Nat.sub_zero]
  have hcut : RdB w47 ⟨q44, endL A, c46⟩ (flatR A) := by
    have := ho47.rds.bcut (n := endL A) (by dsimp only; omega) c46
    rwa [List.take_left' (flatR_len A)] at this
  refine use (Records_s lg _ hcut (by rw [flatR_len]; omega)) ?_
  rintro _ w48 ⟨bl, bb, qi, rfl, hit, -, -, k48⟩
  refine ⟨_, rfl, .inr ⟨_, _, _, rfl⟩, cond_f rfl fun b51 w52 h51 b53 w54 h53 => ?_⟩
  have s52 := h51.eq
  have s54 := h53.eq
  have hB51 := h51.blk.keep h53.kp (by simp)
  refine ⟨⟨rfl, hB51.can1 _ rfl (Nat.le_of_ble_eq_true rfl)⟩, fun w55 e55 => ?_⟩
  obtain ⟨u51, k55, s55⟩ := hB51.put1 rfl e55
  have u53 := h53.blk.keep k55 (by simp; omega)
  refine ⟨⟨rfl, u53.can1 _ rfl (Nat.le_of_ble_eq_true rfl)⟩, fun w56 e56 b57 w58 h57 => ?_⟩
  obtain ⟨v53, k56, s56⟩ := u53.put1 rfl e56
  have v51 := (u51.keep k56 (by simp; omega)).keep h57.kp (by simp)
  replace v53 := v53.keep h57.kp (by simp)
  have s58 := h57.eq
  refine ⟨⟨rfl, h57.blk.can1 _ rfl (Nat.le_of_ble_eq_true rfl)⟩, fun w59 e59 => ?_⟩
  obtain ⟨t57, k59, s59⟩ := h57.blk.put1 rfl e59
  have t51 := v51.keep k59 (by simp; omega)
  have t53 := v53.keep k59 (by simp; omega)
  have kB : Kp [] w48 w59 := (((((h51.kp.then0 h53.kp).then k55 (by simp; omega)).then k56 (by simp; omega)).then0 h57.kp).then k59 (by simp; omega))
  have k648 : Kp [] w6 w48 := (hW.dg.kp.then0 k47).then0 k48
  refine ⟨by kernel_rfl, ?_⟩
  change C.wal_Log_Records_1 _ (PD bl) (PD bb) w59 _ _
  have hra : recs (flatR A) = A := recs_all hAok
  refine use (recs_it (b := flatR A) (lg := lg) (q := qi) (by rw [flatR_len]; omega) _ (fun k W => Blk W b57 [.bool true] ∧ Blk W b51 [.int .i64 (k : Nat)] ∧ Blk W b53 [.int .i64 (endL (A.take k))] ∧ Kp [] w48 W) (fun _ => False) ?_ ?_ ?_ ?_) ?_
  · rintro k W ⟨_, _, _, kk⟩
    exact hit.keep0 kk
  · rintro k W W' ⟨x1, x2, x3, x4⟩ kk
    exact ⟨x1.keep kk (by simp), x2.keep kk (by simp), x3.keep kk (by simp), x4.then0 kk⟩
  · intro k hk2 W W1 x hj kW hox
    obtain ⟨x1, x2, x3, x4⟩ := hj
    refine ⟨by kernel_rfl, ?_⟩
    simp only [hra] at hk2 hox ⊢
    have kk := x4.then0 kW
    change C.skeplaw04_WalReads_1 _ x (PD b57) (PD b51) (PD b4) (PD b53) W1 _ _
    refine use (reads_yield (A := A) hk2 hAl ((hB4.keep k648 (by simp)).keep kk (by simp)) ((hq.keep0 k648).keep0 kk) (x1.keep kW (by simp)) (x2.keep kW (by simp)) (x3.keep kW (by simp)) hox.rds (by omega) (by omega) (by omega) (hAok _ (List.getElem_mem _)) (hAe k)) ?_
    rintro _ w' ⟨rfl, y1, y2, y3, y4⟩
    exact ⟨true, rfl, y1, y2, y3, kk.then y4 (by simp; omega)⟩
  · exact ⟨t57, t51, t53, kB⟩
  · rintro _ w60 ⟨rfl, hj | hf⟩
    rotate_left
    · exact hf.elim
    rw [hra] at hj
    obtain ⟨x1, x2, x3, x4⟩ := hj
    rw [List.take_length] at x3
    refine ⟨(), rfl, ?_⟩
    have k2660 : Kp [] w26 w60 := (k47.then0 k48).then0 x4
    have hDg := hW.dg.grow k2660
    have hb51 := x2.lt
    have hb53 := x3.lt
    have hb57 := x1.lt
    have s2648 := (k47.then0 k48).size
    refine use (Open_g (f := 0) (by omega) hDg hu) ?_
    rintro _ w63 ⟨lg2, q2, G2, rfl, hD2, k63, -, hLg2, hg2, hS2, hSG2⟩
    rw [hmn, hra] at hS2
    have y1 := x1.keepF k63 (fun hn => hn (.inr ⟨by omega, by omega⟩))
    have y2 := x2.keepF k63 (fun hn => hn (.inr ⟨by omega, by omega⟩))
    have y3 := x3.keepF k63 (fun hn => hn (.inr ⟨by omega, by omega⟩))
    have hq63 := hq.keep0 hD2.kp
    have c4' := (hB4.keep hD2.kp (by simp)).at (i := 0) rfl
    refine ⟨(PD lg2, q2, 0), rfl, true, ⟨rfl, y1.at (i := 0) rfl⟩, cond_t rfl ⟨_, ⟨rfl, y2.at (i := 0) rfl⟩, q, ⟨rfl, c4'⟩, cond_t (by simp; omega) ⟨_, ⟨rfl, y3.at (i := 0) rfl⟩, cond_t (by simp) (cond_t rfl ⟨q, ⟨rfl, c4'⟩, ?_⟩)⟩⟩⟩
    refine use (lsame_s q2 q (tagL_rl hS2) hq63 (by omega)) ?_
    rintro _ w71 ⟨rfl, k71⟩
    exact ⟨_, rfl, cond_t (by simp) (awk ((k06.then0 hD2.kp).then0 k71))⟩)
theorem WalReads_walk (s : Sl) (L : List (List Int)) (a : Option Addr) (c : Nat) (l : List Int) (w : World) (_ : s.len ≤ s.cap ∧ s.cap ≤ maxLen) (h : IsL w 1 (fun s : Sl => Value.slice s.a s.len s.cap) (fun s L => RdL w 1 (Value.int .u8) s L) s L) (hq : ∀ x ∈ L, ∀ y ∈ x, in8 y) (h2 : Rd .u8 w a l) (_ : l.length ≤ c) :
    Calls Try.prog 6 #[.slice s.a s.len s.cap, .slice a l.length c] w fun e w' => e = .returned (.bool true) ∧ Below w.heap.size w w' := ret_true (WalReads_s s ⟨a, l.length, c⟩ w (rl_of_isL h hq) (rdb_of_rd h2 c))
end Go.Proofs.Ythbablipimdaoaa
