/- The law WalRecords. No conditions. -/
import Derived.Test.YthbablipimdaoaaWalT
namespace Go.Proofs.Ythbablipimdaoaa
open Go.RowKit Go.Eng
set_option linter.unusedVariables false
/-- How many were told: n, or one if none was wanted and there is one. -/
def toldK (n len k : Nat) : Prop := k = n ∨ (n = 0 ∧ k = 1 ∧ 1 ≤ len)
set_option maxHeartbeats 4000000 in
set_option maxRecDepth 20000 in
theorem records_yield {R : List Bs} {w : World} {lo b19 b34 b44 b47 k n : Nat} {El : Nat → Prop} {wq x : Sl} (hk : k < R.length) (hRl : R.length ≤ 1000000) (h19 : Blk w b19 [slv wq]) (hW : LS w lo 2 cf2 El wq (pos 0 R)) (h47 : Blk w b47 [.bool true]) (h44 : Blk w b44 [.int .i64 k]) (h34 : Blk w b34 [.int .i64 n]) (hx : RdB w x R[k])
    (n1 : b44 ≠ b47) (n2 : b34 ≠ b44) (n3 : b34 ≠ b47) (n4 : b19 ≠ b47) (n5 : b19 ≠ b44) (hq1 : ∀ y ∈ blkOf wq, y ≠ b47) :
    C.skeplaw04_WalRecords_1 (endL (R.take k)) x (PD b47) (PD b44) (PD b19) (PD b34) w (fun v w' => v = .bool (decide (((k + 1 : Nat) : Int) < (n : Int))) ∧ Blk w' b47 [.bool true] ∧ Blk w' b44 [.int .i64 ((k + 1 : Nat) : Int)] ∧ Blk w' b34 [.int .i64 n] ∧ Kp [b47, b44] w w') noP := skeplaw04_WalRecords_1_of (by
  unfold W.skeplaw04_WalRecords_1
  intro w1 hD
  have hwl := hW.len cf2_len (by decide)
  rw [pos_len] at hwl
  have hxl := hx.bsize
  replace h19 := h19.keep hD.kp (by simp)
  replace hW := hW.keep0 hD.kp
  replace h47 := h47.keep hD.kp (by simp)
  replace h44 := h44.keep hD.kp (by simp)
  replace h34 := h34.keep hD.kp (by simp)
  replace hx := hx.keep0 hD.kp
  obtain ⟨a, z, ea, hc, hz, _⟩ := hW.get cf2_len (by decide) (i := k) (by rw [pos_len]; exact hk)
  have hpg := pos_get R 0 k hk
  rw [hpg] at hc hz
  rw [Nat.zero_add] at hc
  have cA := hc 0 _ rfl
  have cB := hc 1 _ rfl
  rw [add_add', Nat.add_zero] at cA
  have c19 := h19.at (i := 0) rfl
  have c47 := h47.at (i := 0) rfl
  have c44 := h44.at (i := 0) rfl
  refine ⟨true, ⟨rfl, c47⟩, cond_t rfl ⟨_, ⟨rfl, c44⟩, wq, ⟨rfl, c19⟩, cond_t (by simp; omega) ⟨wq, ⟨rfl, c19⟩, _, ⟨rfl, c44⟩, ⟨by omega, by omega⟩, ?_⟩⟩⟩
  rw [ea, Int.toNat_natCast]
  refine ⟨_, ⟨rfl, cA⟩, cond_t (by simp) ⟨str _, hx.str, wq, ⟨rfl, c19⟩, _, ⟨rfl, c44⟩, ⟨by omega, by omega⟩, ?_⟩⟩
  rw [ea, Int.toNat_natCast]
  refine ⟨z, ⟨rfl, cB⟩, str _, hz.str, ?_⟩
  rw [strEq_str, decide_eq_true (rfl : R[k] = R[k])]
  refine ⟨⟨rfl, h47.can1 _ rfl (Nat.le_of_ble_eq_true rfl)⟩, fun w22 e22 => ?_⟩
  obtain ⟨u47, k22, s22⟩ := h47.put1 rfl e22
  have u44 := h44.keep k22 (by simp; omega)
  have u34 := h34.keep k22 (by simp; omega)
  refine ⟨_, ⟨rfl, u44.at (i := 0) rfl⟩, ?_⟩
  rw [wlk k (by omega)]
  refine ⟨⟨rfl, u44.can1 _ rfl (Nat.le_of_ble_eq_true rfl)⟩, fun w26 e26 => ?_⟩
  obtain ⟨v44, k26, s26⟩ := u44.put1 rfl e26
  have v47 := u47.keep k26 (by simp; omega)
  have v34 := u34.keep k26 (by simp; omega)
  exact ⟨_, ⟨rfl, v44.at (i := 0) rfl⟩, _, ⟨rfl, v34.at (i := 0) rfl⟩, rfl, v47, v44, v34, ((hD.kp.up [b47, b44]).then k22 (by simp)).then k26 (by simp)⟩)
set_option maxHeartbeats 4000000 in
set_option maxRecDepth 20000 in
theorem WalRecords_s (s : Sl) (most : Int) {b : Bs} (w : World) (hs : RdB w s b) (hc : s.len ≤ s.cap) : C.skeplaw04_WalRecords s most w (fun v w' => v = .bool true ∧ Kp [] w w') noP := skeplaw04_WalRecords_of (by
  unfold W.skeplaw04_WalRecords
  have hsl := hs.bsize
  refine use (awake_s w) ?_
  rintro _ w1 ⟨rfl, k1⟩
  refine ⟨_, rfl, cond_f rfl (cond_i (fun _ => awk k1) (fun h1 => ?_))⟩
  replace h1 := of_decide_eq_false h1
  refine use (New_g w w1 k1) ?_
  rintro _ w10 ⟨d, rfl, hD, k10⟩
  refine ⟨PD d, rfl, ?_⟩
  refine use (Start_s (f := 0) (by omega) hD) ?_
  rintro _ w13 ⟨lg, q0, G, rfl, hW, -⟩
  refine ⟨(PD lg, q0, 0), rfl, cond_f rfl (cond_f rfl ?_)⟩
  have k013 := hW.dg.kp
  clear hW hD
  refine use (rRecords_s s (hs.keep0 k013) hc (by omega)) ?_
  rintro _ w16 ⟨wq, rfl, hL, k16⟩
  refine ⟨(wq, ((endL (recs b) : Nat) : Int)), rfl, fun b19 w20 h19 => ?_⟩
  have s20 := h19.eq
  refine ⟨⟨rfl, h19.blk.can1 _ rfl (Nat.le_of_ble_eq_true rfl)⟩, fun w21 e21 => ?_⟩
  obtain ⟨hB19, k21, s21⟩ := h19.blk.put1 rfl e21
  have k1621 : Kp [] w16 w21 := h19.kp.then k21 (by simp; omega)
  have k021 := (k013.then0 k16).then0 k1621
  replace hL := hL.keep0 k1621
  refine use (CopyBytes_s s (hs.keep0 k021) (by omega)) ?_
  rintro _ w22 ⟨p, rfl, hp, k22⟩
  refine ⟨p, rfl, ?_⟩
  refine use (Records_s lg p hp.rds (by omega)) ?_
  rintro _ w25 ⟨bl, bb, qi, rfl, hit, -, -, k25⟩
  have k2125 := k22.then0 k25
  have k025 := k021.then0 k2125
  replace hL := hL.keep0 k2125
  have hB := hB19.keep k2125 (by simp)
  have hLlen := hL.len cf2_len (by decide)
  have hLlo := hL.lo
  rw [pos_len] at hLlen
  have hcnt := recs_count b
  refine ⟨_, rfl, .inr ⟨_, _, _, rfl⟩, cond_f rfl ⟨fun v W => ∃ j : Nat, v = j ∧ j ≤ 2 ∧ Kp [] w25 W, fun v _ => 2 - v.toNat, ⟨_, rfl, 0, rfl, by omega, Kp.refl _ _⟩, fun e0 v w32 hI => ?_⟩⟩
  obtain ⟨j, rfl, hj, k32⟩ := hI
  refine cond_d (fun hj2 => ?_) (fun _ => ⟨rfl, k025.then0 k32⟩)
  have hB32 := hB.keep k32 (by simp)
  have hL32 := hL.keep0 k32
  have hit32 := hit.keep0 k32
  have s32 := k32.size
  have hb19 := hB32.lt
  refine ⟨wq, ⟨rfl, hB32.at (i := 0) rfl⟩, fun b34 w35 h34 => ?_⟩
  have s35 := h34.eq
  refine ⟨⟨rfl, h34.blk.can1 _ rfl (Nat.le_of_ble_eq_true rfl)⟩, fun w36 e36 => ?_⟩
  obtain ⟨u34, k36, s36⟩ := h34.blk.put1 rfl e36
  have k3236 : Kp [] w32 w36 := h34.kp.then k36 (by simp; omega)
  refine ⟨fun W => ∃ n : Nat, n ≤ (recs b).length ∧ Blk W b34 [.int .i64 (n : Int)] ∧ Kp [] w32 W ∧ W.heap.size = w36.heap.size, cond_e (fun h0 => ?_) (fun h0 => ?_), ?_⟩
  · refine ⟨wq, ⟨rfl, (hB32.keep k3236 (by simp)).at (i := 0) rfl⟩, ?_⟩
    have hwl : IntKind.i64.wrap ((wq.len : Int) + 1) = (wq.len : Int) + 1 := by rw [IntKind.wrap_i64]; omega
    rw [hwl]
    refine use (Place_s most ((wq.len : Int) + 1) w36 (by omega) (by omega)) ?_
    rintro _ _ ⟨rfl, rfl⟩
    obtain ⟨n, hn, hnl⟩ : ∃ n : Nat, most % ((wq.len : Int) + 1) = n ∧ n ≤ wq.len := ⟨(most % ((wq.len : Int) + 1)).toNat, by have := Int.emod_nonneg most (show (wq.len : Int) + 1 ≠ 0 by omega); omega, by have := Int.emod_lt_of_pos most (show 0 < (wq.len : Int) + 1 by omega); omega⟩
    rw [hn]
    refine ⟨_, rfl, ⟨rfl, u34.can1 _ rfl (Nat.le_of_ble_eq_true rfl)⟩, fun w42 e42 => ?_⟩
    obtain ⟨v34, k42, s42⟩ := u34.put1 rfl e42
    exact ⟨n, by omega, v34, k3236.then k42 (by simp; omega), s42⟩
  · exact ⟨(recs b).length, Nat.le_refl _, by rw [hLlen]; exact u34, k3236, rfl⟩
  rintro e1 w43 ⟨n, hn, hB34, k43, s43⟩ b44 w45 h44
  have s45 := h44.eq
  refine ⟨⟨rfl, h44.blk.can1 _ rfl (Nat.le_of_ble_eq_true rfl)⟩, fun w46 e46 b47 w48 h47 => ?_⟩
  obtain ⟨u44, k46, s46⟩ := h44.blk.put1 rfl e46
  have s48 := h47.eq
  refine ⟨⟨rfl, h47.blk.can1 _ rfl (Nat.le_of_ble_eq_true rfl)⟩, fun w49 e49 => ?_⟩
  obtain ⟨u47, k49, s49⟩ := h47.blk.put1 rfl e49
  have v44 := (u44.keep h47.kp (by simp)).keep k49 (by simp; omega)
  have v34 := (((hB34.keep h44.kp (by simp)).keep k46 (by simp; omega)).keep h47.kp (by simp)).keep k49 (by simp; omega)
  have k3249 : Kp [] w32 w49 := (((k43.then0 h44.kp).then k46 (by simp; omega)).then0 h47.kp).then k49 (by simp; omega)
  refine ⟨by kernel_rfl, ?_⟩
  change C.wal_Log_Records_1 _ (PD bl) (PD bb) w49 _ _
  have fin : ∀ (w50 : World) (K : Nat), (Blk w50 b47 [.bool true] ∧ Blk w50 b44 [.int .i64 ((K : Nat) : Int)] ∧ Blk w50 b34 [.int .i64 (n : Int)] ∧ Kp [] w32 w50) → toldK n (recs b).length K → ∃ _p51 : Unit, (Value.tuple #[]) = .tuple #[] ∧
    ∃ y53 : Bool, (okVal false 1 (.bool y53) = true ∧ w50.cell? ⟨b47, 0, none⟩ = some (.bool y53)) ∧
    (cond (!y53)
    (Value.bool false = .bool true ∧ Kp [] w w50)
    (∃ y54 : Int, (okVal false 1 (.int .i64 y54) = true ∧ w50.cell? ⟨b44, 0, none⟩ = some (.int .i64 y54)) ∧
    ∃ y55 : Int, (okVal false 1 (.int .i64 y55) = true ∧ w50.cell? ⟨b34, 0, none⟩ = some (.int .i64 y55)) ∧
    (cond ((y54 : Int) != y55)
    (∃ y56 : Int, (okVal false 1 (.int .i64 y56) = true ∧ w50.cell? ⟨b34, 0, none⟩ = some (.int .i64 y56)) ∧
    (cond ((y56 : Int) == 0)
    (∃ y57 : Int, (okVal false 1 (.int .i64 y57) = true ∧ w50.cell? ⟨b44, 0, none⟩ = some (.int .i64 y57)) ∧
    ∃ y58 : Sl, (okVal false 1 (.slice y58.a y58.len y58.cap) = true ∧ w50.cell? ⟨b19, 0, none⟩ = some (.slice y58.a y58.len y58.cap)) ∧
    (cond (!((y57 : Int) == (if ((y58.len : Int) : Int) < 1 then (y58.len : Int) else 1)))
    (Value.bool false = .bool true ∧ Kp [] w w50)
    (∃ u59 : Int, (.int .i64 (IntKind.i64.wrap ((j : Int) + 1)) : Value) = .int .i64 u59 ∧ ((∃ j' : Nat, u59 = j' ∧ j' ≤ 2 ∧ Kp [] w25 w50) ∧ 2 - u59.toNat < 2 - ((j : Int)).toNat))))
    (Value.bool false = .bool true ∧ Kp [] w w50)))
    (∃ u60 : Int, (.int .i64 (IntKind.i64.wrap ((j : Int) + 1)) : Value) = .int .i64 u60 ∧ ((∃ j' : Nat, u60 = j' ∧ j' ≤ 2 ∧ Kp [] w25 w50) ∧ 2 - u60.toNat < 2 - ((j : Int)).toNat))))) := fun w50 K h ht => by
    obtain ⟨x1, x2, x3, x4⟩ := h
    have hgo : ∃ u60 : Int, (.int .i64 (IntKind.i64.wrap ((j : Int) + 1)) : Value) = .int .i64 u60 ∧ ((∃ j' : Nat, u60 = j' ∧ j' ≤ 2 ∧ Kp [] w25 w50) ∧ 2 - u60.toNat < 2 - ((j : Int)).toNat) := by
      rw [wlk j (by omega)]
      exact ⟨_, rfl, ⟨j + 1, rfl, by omega, k32.then0 x4⟩, by simp only [Int.toNat_natCast]; omega⟩
    refine ⟨(), rfl, true, ⟨rfl, x1.at (i := 0) rfl⟩, cond_f rfl ⟨_, ⟨rfl, x2.at (i := 0) rfl⟩, _, ⟨rfl, x3.at (i := 0) rfl⟩, cond_n (fun hne => ?_) (fun _ => hgo)⟩⟩
    rcases ht with ht | ⟨h0, hk1, hl1⟩
    · omega
    · refine ⟨_, ⟨rfl, x3.at (i := 0) rfl⟩, cond_t (by simp [h0]) ⟨_, ⟨rfl, x2.at (i := 0) rfl⟩, wq, ⟨rfl, (hB32.keep x4 (by simp)).at (i := 0) rfl⟩, cond_f ?_ hgo⟩⟩
      rw [if_neg (by omega), hk1]
      rfl
  refine use (recs_it (b := b) (lg := lg) (q := qi) (by omega) _ (fun k W => (Blk W b47 [.bool true] ∧ Blk W b44 [.int .i64 ((k : Nat) : Int)] ∧ Blk W b34 [.int .i64 (n : Int)] ∧ Kp [] w32 W) ∧ (k = 0 ∨ k < n)) (fun W => ∃ K, (Blk W b47 [.bool true] ∧ Blk W b44 [.int .i64 ((K : Nat) : Int)] ∧ Blk W b34 [.int .i64 (n : Int)] ∧ Kp [] w32 W) ∧ toldK n (recs b).length K) ?_ ?_ ?_ ?_) ?_
  · rintro k W ⟨⟨_, _, _, kk⟩, _⟩
    exact hit32.keep0 kk
  · rintro k W W' ⟨⟨x1, x2, x3, x4⟩, h⟩ kk
    exact ⟨⟨x1.keep kk (by simp), x2.keep kk (by simp), x3.keep kk (by simp), x4.then0 kk⟩, h⟩
  · rintro k hk2 W W1 x ⟨⟨x1, x2, x3, x4⟩, hkn⟩ kW hox
    refine ⟨by kernel_rfl, ?_⟩
    have kk := x4.then0 kW
    change C.skeplaw04_WalRecords_1 _ x (PD b47) (PD b44) (PD b19) (PD b34) W1 _ _
    refine use (records_yield (R := recs b) (n := n) hk2 (by omega) (hB32.keep kk (by simp)) (hL32.keep0 kk) (x1.keep kW (by simp)) (x2.keep kW (by simp)) (x3.keep kW (by simp)) hox.rds (by omega) (by omega) (by omega) (by omega) (by omega) (fun y hy => by have := hLlo y hy; omega)) ?_
    rintro _ w' ⟨rfl, y1, y2, y3, y4⟩
    have kk' : Kp [] w32 w' := kk.then y4 (by simp; omega)
    refine ⟨_, rfl, cond_d (fun h => ⟨⟨y1, y2, y3, kk'⟩, .inr (by omega)⟩) (fun h => ⟨k + 1, ⟨y1, y2, y3, kk'⟩, ?_⟩)⟩
    unfold toldK
    omega
  · exact ⟨⟨u47, v44, v34, k3249⟩, .inl rfl⟩
  · rintro _ w50 ⟨rfl, ⟨hj', hkn⟩ | ⟨K, hj', ht⟩⟩
    · exact fin w50 _ hj' (by unfold toldK; omega)
    · exact fin w50 K hj' ht)
theorem WalRecords_walk (a : Option Addr) (c : Nat) (l : List Int) (most : Int) (w : World) (h : Rd .u8 w a l) (hc : l.length ≤ c) (_ : (Lit.int .i64 most).wf = true) :
    Calls Try.prog 3 #[.slice a l.length c, .int .i64 most] w fun e w' => e = .returned (.bool true) ∧ Below w.heap.size w w' :=
  ret_true (WalRecords_s ⟨a, l.length, c⟩ most w (rdb_of_rd h c) hc)
end Go.Proofs.Ythbablipimdaoaa
