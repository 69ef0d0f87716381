/- Cells, poses, moves, telegrams read. Printed by gen_tele4.py. No conditions. -/
import Derived.Test.YtocbjadhcfjfiaaCod8
namespace Go.Proofs.Ytocbjadhcfjfiaa
open Go.RowKit Go.Eng
set_option linter.unusedVariables false
set_option linter.unusedSimpArgs false
theorem RdR.fresh {w w1 w2 : World} {r p0 p : Nat} {s : Sl} {l : Bs} {B : List Nat} (h : RdR w r s l p0) (h1 : RdR w1 r s l p) (k : Kp B w1 w2) (hB : ∀ b ∈ B, w.heap.size ≤ b) : RdR w2 r s l p := by
  refine ⟨h1.b.keep k (fun hm => by have := hB _ hm; have := h.b.lt; omega), Rds.keepZ h1.d k (fun h0 y hy hm => ?_), h1.n, h1.le, h1.sm⟩
  have := h.d.ltB (by omega) h0 y hy
  have := hB _ hm
  omega
theorem RsR.fresh {w w1 w2 : World} {r : Nat} {s : Sl} {l : Bs} {st0 st : Option Nat} {B : List Nat} (h : RsR w r s l st0) (h1 : RsR w1 r s l st) (k : Kp B w1 w2) (hB : ∀ b ∈ B, w.heap.size ≤ b) : RsR w2 r s l st :=
  h1.keep k (fun hm => by have := hB _ hm; have := h.lt; omega) (fun h0 y hy hm => by
    have := h.d.ltB (by omega) h0 y hy
    have := hB _ hm
    omega)
theorem reader_bool_p (r : Nat) : Par flagP Value.bool (fun w K KP => C.codec_reader_bool (some ⟨r, 0, none⟩) w K KP) r := fun w s l k h => codec_reader_bool_of (by
  unfold W.codec_reader_bool
  have hle := h.le
  have hsm := h.sm
  have hsz := h.d.bsize
  refine ⟨fun w' => ∃ hk : k < l.length, (l[k]).toNat ≤ 1 ∧ Kp [] w w', fun w2 hD => ?_, ?_⟩
  · have h2 := h.keep0 hD.kp
    refine ⟨_, ⟨rfl, h2.b.at rfl⟩, s, ⟨rfl, h2.b.at rfl⟩, cond_d (fun hc => ?_) (fun hc => ⟨s, ⟨rfl, h2.b.at rfl⟩, _, ⟨rfl, h2.b.at rfl⟩, ?_⟩)⟩
    · exact ⟨by rw [List.drop_eq_nil_of_le (by omega)]; rfl, rfl, hD.kp.up _⟩
    have hk : k < l.length := by omega
    obtain ⟨A, hA, hcell⟩ := h2.d.byte hk
    rw [hA, Int.toNat_natCast]
    refine ⟨⟨by omega, by omega⟩, _, ⟨rfl, hcell⟩, cond_d (fun hg => ?_) (fun hg => ⟨hk, by omega, hD.kp⟩)⟩
    exact ⟨by rw [drop_cons hk]; simp only [flagP]; rw [if_pos (by omega)], rfl, hD.kp.up _⟩
  · rintro e0 w13 ⟨hk, h1, k13⟩
    have h13 := h.keep0 k13
    have e1 : IntKind.i64.wrap ((k : Int) + 1) = ((k + 1 : Nat) : Int) := by rw [IntKind.wrap_i64]; omega
    refine ⟨_, ⟨rfl, h13.b.at rfl⟩, ?_⟩
    rw [e1]
    refine ⟨⟨rfl, h13.b.can1 _ rfl (Nat.le_of_ble_eq_true rfl)⟩, fun w17 e17 w18 hD18 => ?_⟩
    obtain ⟨g1, g2, g3⟩ := h13.b.put1 (i := 1) rfl e17
    have h18 : RdR w18 r s l (k + 1) := RdR.keep0 ⟨g1, Rds.keepL h13.d g2 (fun y hy => by simp; intro e; exact h.n (e ▸ hy)), h.n, hk, hsm⟩ hD18.kp
    have e2 : IntKind.i64.wrap (((k + 1 : Nat) : Int) - 1) = (k : Nat) := by rw [IntKind.wrap_i64]; omega
    obtain ⟨A, hA, hcell⟩ := h18.d.byte hk
    refine ⟨s, ⟨rfl, h18.b.at rfl⟩, _, ⟨rfl, h18.b.at rfl⟩, ?_⟩
    rw [e2, hA, Int.toNat_natCast]
    refine ⟨⟨by omega, by omega⟩, _, ⟨rfl, hcell⟩, (l[k]).toNat == 1, k + 1, ?_, ?_, h18, ((k13.up _).then g2 (by simp)).then0 hD18.kp⟩
    · rw [drop_cons hk]; simp only [flagP]; rw [if_neg (by omega)]
    · congr 1
      by_cases e : (l[k]).toNat = 1
      · rw [beq_t (by omega), e]; rfl
      · rw [beq_f (by omega)]; simp [e])
set_option maxHeartbeats 1000000 in
theorem reader_cell_p (r : Nat) : Par pCell S.api_Cell.v (fun w K KP => C.codec_reader_cell (some ⟨r, 0, none⟩) w K KP) r := fun w s l k h => codec_reader_cell_of (by
  unfold W.codec_reader_cell
  intro b1 w2 hA
  have s2 := hA.eq
  have hr := h.b.lt
  have k2 : Kp [r] w w2 := hA.kp.up _
  refine use2 (reader_number_p r w2 s l k (h.keep0 hA.kp)) ?_ (fun c w' ⟨h1, h2, h3⟩ => ⟨by simp [pCell, mp, nx, h1], h2, k2.then h3 (by simp)⟩)
  rintro _ w3 ⟨x1, k1, e1, rfl, h3, k3⟩
  refine ⟨x1, rfl, use2 (reader_number_p r w3 s l k1 h3) ?_ (fun c w' ⟨h1, h2, h3⟩ => ⟨by simp [pCell, mp, nx, e1, h1], h2, (k2.then k3 (by simp)).then h3 (by simp)⟩)⟩
  rintro _ w6 ⟨x2, kk2, e2, rfl, h6, k6⟩
  have q1 := (hA.blk.keep k3 (by simp; omega)).keep k6 (by simp; omega)
  refine ⟨x2, rfl, ⟨rfl, q1.canN _ (Nat.le_refl _)⟩, fun w9 e9 => ?_⟩
  obtain ⟨g1, g2, _⟩ := q1.putAll (vs := #[.int .i64 x1, .int .i64 x2]) rfl e9
  exact ⟨⟨x1, x2⟩, ⟨rfl, g1.rd0⟩, ⟨x1, x2⟩, kk2, by simp [pCell, mp, nx, fCell, e1, e2], rfl, h.fresh h6 g2 (by simp; omega), ((k2.then k3 (by simp)).then k6 (by simp)).then g2 (by simp; omega)⟩)
set_option maxHeartbeats 1000000 in
theorem reader_pose_p (r : Nat) : Par pPose S.api_Pose.v (fun w K KP => C.codec_reader_pose (some ⟨r, 0, none⟩) w K KP) r := fun w s l k h => codec_reader_pose_of (by
  unfold W.codec_reader_pose
  intro b1 w2 hA
  have s2 := hA.eq
  have hr := h.b.lt
  have k2 : Kp [r] w w2 := hA.kp.up _
  refine use2 (reader_cell_p r w2 s l k (h.keep0 hA.kp)) ?_ (fun c w' ⟨h1, h2, h3⟩ => ⟨by simp [pPose, mp, nx, h1], h2, k2.then h3 (by simp)⟩)
  rintro _ w3 ⟨x1, k1, e1, rfl, h3, k3⟩
  refine ⟨x1, rfl, fun b6 w7 hA6 => ⟨⟨rfl, hA6.blk.canN _ (Nat.le_refl _)⟩, fun w8 e8 w9 hD => ?_⟩⟩
  obtain ⟨g6, gk6, _⟩ := hA6.blk.putAll (vs := #[.int .i64 x1.X, .int .i64 x1.Y]) rfl e8
  have s7 := hA6.eq
  have s3 := k3.size
  have k39 : Kp [] w3 w9 := (hA6.kp.then gk6 (by simp; omega)).then0 hD.kp
  have q6 := g6.keep hD.kp (by simp)
  have k9 := (k2.then k3 (by simp)).then0 k39
  refine ⟨x1, ⟨rfl, q6.rd0⟩, use2 (reader_bool_p r w9 s l k1 (h3.keep0 k39)) ?_ (fun c w' ⟨h1, h2, h3⟩ => ⟨by simp [pPose, mp, nx, e1, h1], h2, k9.then h3 (by simp)⟩)⟩
  rintro _ w11 ⟨x2, kk2, e2, rfl, h11, k11⟩
  have q6' := q6.keep k11 (by simp; omega)
  have q1 := ((hA.blk.keep k3 (by simp; omega)).keep k39 (by simp)).keep k11 (by simp; omega)
  refine ⟨x2, rfl, q6'.rd0, ⟨rfl, q1.canN _ (Nat.le_refl _)⟩, fun w14 e14 => ?_⟩
  obtain ⟨g1, g2, _⟩ := q1.putAll (vs := #[.int .i64 x1.X, .int .i64 x1.Y, .bool x2]) rfl e14
  exact ⟨⟨x1, x2⟩, ⟨rfl, g1.rd0⟩, ⟨x1, x2⟩, kk2, by simp [pPose, mp, nx, fPose, e1, e2], rfl, h.fresh h11 g2 (by simp; omega), (k9.then k11 (by simp)).then g2 (by simp; omega)⟩)
set_option maxHeartbeats 2000000 in
theorem reader_move_p (r : Nat) : Par pMove S.api_Move.v (fun w K KP => C.codec_reader_move (some ⟨r, 0, none⟩) w K KP) r := fun w s l k h => codec_reader_move_of (by
  unfold W.codec_reader_move
  intro b1 v2 hA1 b3 v4 hA3
  have s2 := hA1.eq
  have s4 := hA3.eq
  have hr := h.b.lt
  have kp0 : Kp [r, b3] w v4 := (hA1.kp.then0 hA3.kp).up _
  have q1 := hA1.blk.keep hA3.kp (by simp)
  have q3 := hA3.blk
  have h0 := (h.keep0 hA1.kp).keep0 hA3.kp
  refine use2 (reader_number_p r v4 s l k h0) ?_ (fun c w' ⟨h1, h2, h3⟩ => ⟨by simp [pMove, mp, nx, h1], h2, (kp0.then h3 (by simp)).mono (by simp; omega)⟩)
  rintro _ u1 ⟨x1, k1, e1, rfl, h1, m1⟩
  have kp1 := kp0.then m1 (by simp)
  replace q1 := q1.keep m1 (by simp; omega)
  replace q3 := q3.keep m1 (by simp; omega)
  refine ⟨x1, rfl, use2 (reader_number_p r u1 s l k1 h1) ?_ (fun c w' ⟨h1, h2, h3⟩ => ⟨by simp [pMove, mp, nx, e1, h1], h2, (kp1.then h3 (by simp)).mono (by simp; omega)⟩)⟩
  rintro _ u2 ⟨x2, k2, e2, rfl, h2, m2⟩
  have kp2 := kp1.then m2 (by simp)
  replace q1 := q1.keep m2 (by simp; omega)
  replace q3 := q3.keep m2 (by simp; omega)
  refine ⟨x2, rfl, use2 (reader_number_p r u2 s l k2 h2) ?_ (fun c w' ⟨h1, h2, h3⟩ => ⟨by simp [pMove, mp, nx, e1, e2, h1], h2, (kp2.then h3 (by simp)).mono (by simp; omega)⟩)⟩
  rintro _ u3 ⟨x3, k3, e3, rfl, h3, m3⟩
  have kp3 := kp2.then m3 (by simp)
  replace q1 := q1.keep m3 (by simp; omega)
  replace q3 := q3.keep m3 (by simp; omega)
  refine ⟨x3, rfl, ⟨rfl, q3.can1 _ rfl (Nat.le_of_ble_eq_true rfl)⟩, fun wp0_3 ep0_3 => ?_⟩
  obtain ⟨q3', g0_3, _⟩ := q3.put1 (i := 0) rfl ep0_3
  replace q3 := q3'
  clear q3'
  replace q1 := q1.keep g0_3 (by simp; omega)
  have hq0_3 := h.fresh h3 g0_3 (by simp; omega)
  have kq0_3 := kp3.then g0_3 (by simp)
  refine ⟨⟨rfl, q3.can1 _ rfl (Nat.le_of_ble_eq_true rfl)⟩, fun wp1_3 ep1_3 => ?_⟩
  obtain ⟨q3', g1_3, _⟩ := q3.put1 (i := 1) rfl ep1_3
  replace q3 := q3'
  clear q3'
  replace q1 := q1.keep g1_3 (by simp; omega)
  have hq1_3 := h.fresh hq0_3 g1_3 (by simp; omega)
  have kq1_3 := kq0_3.then g1_3 (by simp)
  refine ⟨⟨rfl, q3.can1 _ rfl (Nat.le_of_ble_eq_true rfl)⟩, fun wp2_3 ep2_3 => ?_⟩
  obtain ⟨q3', g2_3, _⟩ := q3.put1 (i := 2) rfl ep2_3
  replace q3 := q3'
  clear q3'
  replace q1 := q1.keep g2_3 (by simp; omega)
  have hq2_3 := h.fresh hq1_3 g2_3 (by simp; omega)
  have kq2_3 := kq1_3.then g2_3 (by simp)
  refine use2 (reader_pose_p r wp2_3 s l k3 hq2_3) ?_ (fun c w' ⟨h1, h2, h3⟩ => ⟨by simp [pMove, mp, nx, e1, e2, e3, h1], h2, (kq2_3.then h3 (by simp)).mono (by simp; omega)⟩)
  rintro _ u4 ⟨x4, k4, e4, rfl, h4, m4⟩
  have kp4 := kq2_3.then m4 (by simp)
  replace q1 := q1.keep m4 (by simp; omega)
  replace q3 := q3.keep m4 (by simp; omega)
  refine ⟨x4, rfl, use2 (reader_pose_p r u4 s l k4 h4) ?_ (fun c w' ⟨h1, h2, h3⟩ => ⟨by simp [pMove, mp, nx, e1, e2, e3, e4, h1], h2, (kp4.then h3 (by simp)).mono (by simp; omega)⟩)⟩
  rintro _ u5 ⟨x5, k5, e5, rfl, h5, m5⟩
  have kp5 := kp4.then m5 (by simp)
  replace q1 := q1.keep m5 (by simp; omega)
  replace q3 := q3.keep m5 (by simp; omega)
  refine ⟨x5, rfl, ⟨rfl, q3.canN _ (Nat.le_of_ble_eq_true rfl)⟩, fun wp3_5 ep3_5 => ?_⟩
  obtain ⟨q3', g3_5, _⟩ := q3.putN (o := 3) (vs := #[.int .i64 x4.At.X, .int .i64 x4.At.Y, .bool x4.Down]) (Nat.le_of_ble_eq_true rfl) ep3_5
  replace q3 := q3'
  clear q3'
  replace q1 := q1.keep g3_5 (by simp; omega)
  have hq3_5 := h.fresh h5 g3_5 (by simp; omega)
  have kq3_5 := kp5.then g3_5 (by simp)
  refine ⟨⟨rfl, q3.canN _ (Nat.le_of_ble_eq_true rfl)⟩, fun wp6_5 ep6_5 => ?_⟩
  obtain ⟨q3', g6_5, _⟩ := q3.putN (o := 6) (vs := #[.int .i64 x5.At.X, .int .i64 x5.At.Y, .bool x5.Down]) (Nat.le_of_ble_eq_true rfl) ep6_5
  replace q3 := q3'
  clear q3'
  replace q1 := q1.keep g6_5 (by simp; omega)
  have hq6_5 := h.fresh hq3_5 g6_5 (by simp; omega)
  have kq6_5 := kq3_5.then g6_5 (by simp)
  refine use2 (reader_number_p r wp6_5 s l k5 hq6_5) ?_ (fun c w' ⟨h1, h2, h3⟩ => ⟨by simp [pMove, mp, nx, e1, e2, e3, e4, e5, h1], h2, (kq6_5.then h3 (by simp)).mono (by simp; omega)⟩)
  rintro _ u6 ⟨x6, k6, e6, rfl, h6, m6⟩
  have kp6 := kq6_5.then m6 (by simp)
  replace q1 := q1.keep m6 (by simp; omega)
  replace q3 := q3.keep m6 (by simp; omega)
  refine ⟨x6, rfl, use2 (reader_number_p r u6 s l k6 h6) ?_ (fun c w' ⟨h1, h2, h3⟩ => ⟨by simp [pMove, mp, nx, e1, e2, e3, e4, e5, e6, h1], h2, (kp6.then h3 (by simp)).mono (by simp; omega)⟩)⟩
  rintro _ u7 ⟨x7, k7, e7, rfl, h7, m7⟩
  have kp7 := kp6.then m7 (by simp)
  replace q1 := q1.keep m7 (by simp; omega)
  replace q3 := q3.keep m7 (by simp; omega)
  refine ⟨x7, rfl, ⟨rfl, q3.can1 _ rfl (Nat.le_of_ble_eq_true rfl)⟩, fun wp9_7 ep9_7 => ?_⟩
  obtain ⟨q3', g9_7, _⟩ := q3.put1 (i := 9) rfl ep9_7
  replace q3 := q3'
  clear q3'
  replace q1 := q1.keep g9_7 (by simp; omega)
  have hq9_7 := h.fresh h7 g9_7 (by simp; omega)
  have kq9_7 := kp7.then g9_7 (by simp)
  refine ⟨⟨rfl, q3.can1 _ rfl (Nat.le_of_ble_eq_true rfl)⟩, fun wp10_7 ep10_7 => ?_⟩
  obtain ⟨q3', g10_7, _⟩ := q3.put1 (i := 10) rfl ep10_7
  replace q3 := q3'
  clear q3'
  replace q1 := q1.keep g10_7 (by simp; omega)
  have hq10_7 := h.fresh hq9_7 g10_7 (by simp; omega)
  have kq10_7 := kq9_7.then g10_7 (by simp)
  have q3e : Blk wp10_7 b3 [.int .i64 x1, .int .i64 x2, .int .i64 x3, .int .i64 x4.At.X, .int .i64 x4.At.Y, .bool x4.Down, .int .i64 x5.At.X, .int .i64 x5.At.Y, .bool x5.Down, .int .i64 x6, .int .i64 x7] := q3
  refine ⟨⟨x1, x2, x3, x4, x5, x6, x7⟩, ⟨rfl, q3e.rd0⟩, ⟨rfl, q1.canN _ (Nat.le_refl _)⟩, fun wz ez => ?_⟩
  obtain ⟨g1, gz, _⟩ := q1.putAll (vs := #[.int .i64 x1, .int .i64 x2, .int .i64 x3, .int .i64 x4.At.X, .int .i64 x4.At.Y, .bool x4.Down, .int .i64 x5.At.X, .int .i64 x5.At.Y, .bool x5.Down, .int .i64 x6, .int .i64 x7]) rfl ez
  exact ⟨⟨x1, x2, x3, x4, x5, x6, x7⟩, ⟨rfl, g1.rd0⟩, ⟨x1, x2, x3, x4, x5, x6, x7⟩, k7, by simp [pMove, mp, nx, fMove, e1, e2, e3, e4, e5, e6, e7], rfl, h.fresh hq10_7 gz (by simp; omega), (kq10_7.mono (by simp; omega)).then gz (by simp; omega)⟩)
set_option maxHeartbeats 2000000 in
theorem GetTele1_p (r : Nat) : Par pTele S.api_Tele.v (fun w K KP => C.codec_GetTele_1 (some ⟨r, 0, none⟩) w K KP) r := fun w s l k h => codec_GetTele_1_of (by
  unfold W.codec_GetTele_1
  intro b1 v2 hA1 b3 v4 hA3
  have s2 := hA1.eq
  have s4 := hA3.eq
  have hr := h.b.lt
  have kp0 : Kp [r, b3] w v4 := (hA1.kp.then0 hA3.kp).up _
  have q1 := hA1.blk.keep hA3.kp (by simp)
  have q3 := hA3.blk
  have h0 := (h.keep0 hA1.kp).keep0 hA3.kp
  refine use2 (reader_number_p r v4 s l k h0) ?_ (fun c w' ⟨h1, h2, h3⟩ => ⟨by simp [pTele, mp, nx, h1], h2, (kp0.then h3 (by simp)).mono (by simp; omega)⟩)
  rintro _ u1 ⟨x1, k1, e1, rfl, h1, m1⟩
  have kp1 := kp0.then m1 (by simp)
  replace q1 := q1.keep m1 (by simp; omega)
  replace q3 := q3.keep m1 (by simp; omega)
  refine ⟨x1, rfl, use2 (reader_number_p r u1 s l k1 h1) ?_ (fun c w' ⟨h1, h2, h3⟩ => ⟨by simp [pTele, mp, nx, e1, h1], h2, (kp1.then h3 (by simp)).mono (by simp; omega)⟩)⟩
  rintro _ u2 ⟨x2, k2, e2, rfl, h2, m2⟩
  have kp2 := kp1.then m2 (by simp)
  replace q1 := q1.keep m2 (by simp; omega)
  replace q3 := q3.keep m2 (by simp; omega)
  refine ⟨x2, rfl, use2 (reader_number_p r u2 s l k2 h2) ?_ (fun c w' ⟨h1, h2, h3⟩ => ⟨by simp [pTele, mp, nx, e1, e2, h1], h2, (kp2.then h3 (by simp)).mono (by simp; omega)⟩)⟩
  rintro _ u3 ⟨x3, k3, e3, rfl, h3, m3⟩
  have kp3 := kp2.then m3 (by simp)
  replace q1 := q1.keep m3 (by simp; omega)
  replace q3 := q3.keep m3 (by simp; omega)
  refine ⟨x3, rfl, use2 (reader_number_p r u3 s l k3 h3) ?_ (fun c w' ⟨h1, h2, h3⟩ => ⟨by simp [pTele, mp, nx, e1, e2, e3, h1], h2, (kp3.then h3 (by simp)).mono (by simp; omega)⟩)⟩
  rintro _ u4 ⟨x4, k4, e4, rfl, h4, m4⟩
  have kp4 := kp3.then m4 (by simp)
  replace q1 := q1.keep m4 (by simp; omega)
  replace q3 := q3.keep m4 (by simp; omega)
  refine ⟨x4, rfl, ⟨rfl, q3.can1 _ rfl (Nat.le_of_ble_eq_true rfl)⟩, fun wp0_4 ep0_4 => ?_⟩
  obtain ⟨q3', g0_4, _⟩ := q3.put1 (i := 0) rfl ep0_4
  replace q3 := q3'
  clear q3'
  replace q1 := q1.keep g0_4 (by simp; omega)
  have hq0_4 := h.fresh h4 g0_4 (by simp; omega)
  have kq0_4 := kp4.then g0_4 (by simp)
  refine ⟨⟨rfl, q3.can1 _ rfl (Nat.le_of_ble_eq_true rfl)⟩, fun wp1_4 ep1_4 => ?_⟩
  obtain ⟨q3', g1_4, _⟩ := q3.put1 (i := 1) rfl ep1_4
  replace q3 := q3'
  clear q3'
  replace q1 := q1.keep g1_4 (by simp; omega)
  have hq1_4 := h.fresh hq0_4 g1_4 (by simp; omega)
  have kq1_4 := kq0_4.then g1_4 (by simp)
  refine ⟨⟨rfl, q3.can1 _ rfl (Nat.le_of_ble_eq_true rfl)⟩, fun wp2_4 ep2_4 => ?_⟩
  obtain ⟨q3', g2_4, _⟩ := q3.put1 (i := 2) rfl ep2_4
  replace q3 := q3'
  clear q3'
  replace q1 := q1.keep g2_4 (by simp; omega)
  have hq2_4 := h.fresh hq1_4 g2_4 (by simp; omega)
  have kq2_4 := kq1_4.then g2_4 (by simp)
  refine ⟨⟨rfl, q3.can1 _ rfl (Nat.le_of_ble_eq_true rfl)⟩, fun wp3_4 ep3_4 => ?_⟩
  obtain ⟨q3', g3_4, _⟩ := q3.put1 (i := 3) rfl ep3_4
  replace q3 := q3'
  clear q3'
  replace q1 := q1.keep g3_4 (by simp; omega)
  have hq3_4 := h.fresh hq2_4 g3_4 (by simp; omega)
  have kq3_4 := kq2_4.then g3_4 (by simp)
  refine use2 (reader_move_p r wp3_4 s l k4 hq3_4) ?_ (fun c w' ⟨h1, h2, h3⟩ => ⟨by simp [pTele, mp, nx, e1, e2, e3, e4, h1], h2, (kq3_4.then h3 (by simp)).mono (by simp; omega)⟩)
  rintro _ u5 ⟨x5, k5, e5, rfl, h5, m5⟩
  have kp5 := kq3_4.then m5 (by simp)
  replace q1 := q1.keep m5 (by simp; omega)
  replace q3 := q3.keep m5 (by simp; omega)
  refine ⟨x5, rfl, ⟨rfl, q3.canN _ (Nat.le_of_ble_eq_true rfl)⟩, fun wp4_5 ep4_5 => ?_⟩
  obtain ⟨q3', g4_5, _⟩ := q3.putN (o := 4) (vs := #[.int .i64 x5.Kind, .int .i64 x5.Dir, .int .i64 x5.N, .int .i64 x5.From.At.X, .int .i64 x5.From.At.Y, .bool x5.From.Down, .int .i64 x5.To.At.X, .int .i64 x5.To.At.Y, .bool x5.To.Down, .int .i64 x5.At, .int .i64 x5.End]) (Nat.le_of_ble_eq_true rfl) ep4_5
  replace q3 := q3'
  clear q3'
  replace q1 := q1.keep g4_5 (by simp; omega)
  have hq4_5 := h.fresh h5 g4_5 (by simp; omega)
  have kq4_5 := kp5.then g4_5 (by simp)
  refine use2 (reader_pose_p r wp4_5 s l k5 hq4_5) ?_ (fun c w' ⟨h1, h2, h3⟩ => ⟨by simp [pTele, mp, nx, e1, e2, e3, e4, e5, h1], h2, (kq4_5.then h3 (by simp)).mono (by simp; omega)⟩)
  rintro _ u6 ⟨x6, k6, e6, rfl, h6, m6⟩
  have kp6 := kq4_5.then m6 (by simp)
  replace q1 := q1.keep m6 (by simp; omega)
  replace q3 := q3.keep m6 (by simp; omega)
  refine ⟨x6, rfl, ⟨rfl, q3.canN _ (Nat.le_of_ble_eq_true rfl)⟩, fun wp15_6 ep15_6 => ?_⟩
  obtain ⟨q3', g15_6, _⟩ := q3.putN (o := 15) (vs := #[.int .i64 x6.At.X, .int .i64 x6.At.Y, .bool x6.Down]) (Nat.le_of_ble_eq_true rfl) ep15_6
  replace q3 := q3'
  clear q3'
  replace q1 := q1.keep g15_6 (by simp; omega)
  have hq15_6 := h.fresh h6 g15_6 (by simp; omega)
  have kq15_6 := kp6.then g15_6 (by simp)
  refine use2 (reader_number_p r wp15_6 s l k6 hq15_6) ?_ (fun c w' ⟨h1, h2, h3⟩ => ⟨by simp [pTele, mp, nx, e1, e2, e3, e4, e5, e6, h1], h2, (kq15_6.then h3 (by simp)).mono (by simp; omega)⟩)
  rintro _ u7 ⟨x7, k7, e7, rfl, h7, m7⟩
  have kp7 := kq15_6.then m7 (by simp)
  replace q1 := q1.keep m7 (by simp; omega)
  replace q3 := q3.keep m7 (by simp; omega)
  refine ⟨x7, rfl, ⟨rfl, q3.can1 _ rfl (Nat.le_of_ble_eq_true rfl)⟩, fun wp18_7 ep18_7 => ?_⟩
  obtain ⟨q3', g18_7, _⟩ := q3.put1 (i := 18) rfl ep18_7
  replace q3 := q3'
  clear q3'
  replace q1 := q1.keep g18_7 (by simp; omega)
  have hq18_7 := h.fresh h7 g18_7 (by simp; omega)
  have kq18_7 := kp7.then g18_7 (by simp)
  have q3e : Blk wp18_7 b3 [.int .i64 x1, .int .i64 x2, .int .i64 x3, .int .i64 x4, .int .i64 x5.Kind, .int .i64 x5.Dir, .int .i64 x5.N, .int .i64 x5.From.At.X, .int .i64 x5.From.At.Y, .bool x5.From.Down, .int .i64 x5.To.At.X, .int .i64 x5.To.At.Y, .bool x5.To.Down, .int .i64 x5.At, .int .i64 x5.End, .int .i64 x6.At.X, .int .i64 x6.At.Y, .bool x6.Down, .int .i64 x7] := q3
  refine ⟨⟨x1, x2, x3, x4, x5, x6, x7⟩, ⟨rfl, q3e.rd0⟩, ⟨rfl, q1.canN _ (Nat.le_refl _)⟩, fun wz ez => ?_⟩
  obtain ⟨g1, gz, _⟩ := q1.putAll (vs := #[.int .i64 x1, .int .i64 x2, .int .i64 x3, .int .i64 x4, .int .i64 x5.Kind, .int .i64 x5.Dir, .int .i64 x5.N, .int .i64 x5.From.At.X, .int .i64 x5.From.At.Y, .bool x5.From.Down, .int .i64 x5.To.At.X, .int .i64 x5.To.At.Y, .bool x5.To.Down, .int .i64 x5.At, .int .i64 x5.End, .int .i64 x6.At.X, .int .i64 x6.At.Y, .bool x6.Down, .int .i64 x7]) rfl ez
  exact ⟨⟨x1, x2, x3, x4, x5, x6, x7⟩, ⟨rfl, g1.rd0⟩, ⟨x1, x2, x3, x4, x5, x6, x7⟩, k7, by simp [pTele, mp, nx, fTele, e1, e2, e3, e4, e5, e6, e7], rfl, h.fresh hq18_7 gz (by simp; omega), (kq18_7.mono (by simp; omega)).then gz (by simp; omega)⟩)
end Go.Proofs.Ytocbjadhcfjfiaa
