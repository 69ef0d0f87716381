/- Telegrams got; the laws Teles, Unlike. Printed by gen_tele5.py. No conditions. -/
import Derived.Test.YtocbjadhcfjfiaaCod9
namespace Go.Proofs.Ytocbjadhcfjfiaa
open Go.RowKit Go.Eng
set_option linter.unusedVariables false
set_option linter.unusedSimpArgs false
set_option maxHeartbeats 1000000 in
theorem readTele_s {w : World} {s : Sl} {l : Bs} (hd : RdB w s l) (hl : l.length ≤ 140737488355328) (hs : ∀ y ∈ blkOf s, y < w.heap.size) : C.codec_read_api_Tele s (.func (.func 48) #[] #[]) w (fun r w' => Got pTele S.api_Tele.v ⟨0, 0, 0, 0, ⟨0, 0, 0, ⟨⟨0, 0⟩, false⟩, ⟨⟨0, 0⟩, false⟩, 0, 0⟩, ⟨⟨0, 0⟩, false⟩, 0⟩ l r ∧ Kp [] w w') noP := codec_read_api_Tele_of (by
  unfold W.codec_read_api_Tele
  intro b1 w2 hA1 b3 w4 hA3 b5 w6 hA5
  have s2 := hA1.eq
  have s4 := hA3.eq
  have s6 := hA5.eq
  have k6 : Kp [] w w6 := (hA1.kp.then0 hA3.kp).then0 hA5.kp
  have hsz := hd.bsize
  have hR : RdR w6 b5 s l 0 := ⟨hA5.blk, hd.keep0 k6, fun h => by have := hs _ h; omega, Nat.zero_le _, hl⟩
  have y1 := (hA1.blk.keep hA3.kp (by simp)).keep hA5.kp (by simp)
  have y3 := hA3.blk.keep hA5.kp (by simp)
  -- what was deferred, in a panic
  have bad : ∀ (w7 : World) (cs0 : List Value), Blk w7 b1 cs0 → cs0.length = 19 → Blk w7 b3 [.int .i64 0] → Kp [] w w7 → whole pTele l = none → xleave Try.prog [{ target := .fn (.func 104) #[.pointer (some ⟨b1, 0, none⟩), .pointer (some ⟨b3, 0, none⟩)], args := #[] }] (.panicking noneE) w7 (xendF (fun w14 => ∃ y15 : S.api_Tele, (okVal true 19 (S.api_Tele.v y15) = true ∧ Go.Eng.rd w14 ⟨b1, 0, none⟩ (S.api_Tele.v y15)) ∧ ∃ y16 : Int, (okVal false 1 (.int .i64 y16) = true ∧ w14.cell? ⟨b3, 0, none⟩ = some (.int .i64 y16)) ∧ (Got pTele S.api_Tele.v ⟨0, 0, 0, 0, ⟨0, 0, 0, ⟨⟨0, 0⟩, false⟩, ⟨⟨0, 0⟩, false⟩, 0, 0⟩, ⟨⟨0, 0⟩, false⟩, 0⟩ l (.tuple #[S.api_Tele.v y15, .int .i64 y16]) ∧ Kp [] w w14)) noP) := fun w7 cs0 c1 cl c3 k7 hw => by
    show bodied Try.prog _ = true ∧ _
    refine ⟨by kernel_rfl, CallsDIn.mono (catch_Tele c1 cl c3 (by omega)) ?_⟩
    rintro e u' w8 ⟨rfl, rfl, g1, g2, g3⟩
    refine ⟨by simp [settle], ?_⟩
    exact ⟨⟨0, 0, 0, 0, ⟨0, 0, 0, ⟨⟨0, 0⟩, false⟩, ⟨⟨0, 0⟩, false⟩, 0, 0⟩, ⟨⟨0, 0⟩, false⟩, 0⟩, ⟨rfl, g1.rd0⟩, _, ⟨rfl, g2.at rfl⟩, .inr ⟨hw, rfl⟩, k7.then g3 (by simp; omega)⟩
  refine callV_mono2 rfl (by kernel_rfl) (GetTele1_p b5 w6 s l 0 hR) ?_ ?_
  · rintro _ w7 ⟨x, k', e, rfl, h7, k7⟩
    rw [List.drop_zero] at e
    have hw := whole_at e h7.le
    have c1 := y1.keep k7 (by simp; omega)
    have c3 := y3.keep k7 (by simp; omega)
    have kk7 : Kp [] w w7 := k6.then k7 (by simp; omega)
    refine ⟨x, rfl, ⟨rfl, c1.canN _ (Nat.le_refl _)⟩, fun w10 e10 => ?_⟩
    obtain ⟨g1, k10, _⟩ := c1.putAll (vs := #[.int .i64 x.Kind, .int .i64 x.Robot, .int .i64 x.Epoch, .int .i64 x.Num, .int .i64 x.Move.Kind, .int .i64 x.Move.Dir, .int .i64 x.Move.N, .int .i64 x.Move.From.At.X, .int .i64 x.Move.From.At.Y, .bool x.Move.From.Down, .int .i64 x.Move.To.At.X, .int .i64 x.Move.To.At.Y, .bool x.Move.To.Down, .int .i64 x.Move.At, .int .i64 x.Move.End, .int .i64 x.Pose.At.X, .int .i64 x.Pose.At.Y, .bool x.Pose.Down, .int .i64 x.Load]) rfl e10
    have g3 := c3.keep k10 (by simp; omega)
    have g5 := h7.b.keep k10 (by simp; omega)
    have kk10 : Kp [] w w10 := kk7.then k10 (by simp; omega)
    refine ⟨_, ⟨rfl, g5.at rfl⟩, ?_⟩
    by_cases hk : k' = l.length
    · rw [if_pos hk] at hw
      refine cond_f (bne_f (by omega)) ⟨x, ⟨rfl, g1.rd0⟩, ⟨rfl, g1.canN _ (Nat.le_refl _)⟩, fun w18 e18 => ?_⟩
      obtain ⟨j1, k18, _⟩ := g1.putAll (vs := #[.int .i64 x.Kind, .int .i64 x.Robot, .int .i64 x.Epoch, .int .i64 x.Num, .int .i64 x.Move.Kind, .int .i64 x.Move.Dir, .int .i64 x.Move.N, .int .i64 x.Move.From.At.X, .int .i64 x.Move.From.At.Y, .bool x.Move.From.Down, .int .i64 x.Move.To.At.X, .int .i64 x.Move.To.At.Y, .bool x.Move.To.Down, .int .i64 x.Move.At, .int .i64 x.Move.End, .int .i64 x.Pose.At.X, .int .i64 x.Pose.At.Y, .bool x.Pose.Down, .int .i64 x.Load]) rfl e18
      have j3 := g3.keep k18 (by simp; omega)
      refine ⟨⟨rfl, j3.can1 _ rfl (Nat.le_of_ble_eq_true rfl)⟩, fun w19 e19 => ?_⟩
      obtain ⟨m3, k19, _⟩ := j3.put1 (i := 0) rfl e19
      have m1 := j1.keep k19 (by simp; omega)
      show bodied Try.prog _ = true ∧ _
      refine ⟨by kernel_rfl, CallsDIn.mono idle_Tele ?_⟩
      rintro e u' w20 ⟨rfl, rfl, rfl⟩
      refine ⟨by simp [settle], ?_⟩
      exact ⟨x, ⟨rfl, m1.rd0⟩, _, ⟨rfl, m3.at rfl⟩, .inl ⟨x, hw, rfl⟩, (kk10.then k18 (by simp; omega)).then k19 (by simp; omega)⟩
    · rw [if_neg hk] at hw
      exact cond_t (bne_t (by omega)) (bad w10 _ g1 rfl g3 kk10 hw)
  · rintro c w7 ⟨e, rfl, k7⟩
    rw [List.drop_zero] at e
    exact bad w7 _ (y1.keep k7 (by simp; omega)) rfl (y3.keep k7 (by simp; omega)) (k6.then k7 (by simp; omega)) (whole_none e))
theorem GetTele_s {w : World} {s : Sl} {l : Bs} (hd : RdB w s l) (hl : l.length ≤ 140737488355328) (hs : ∀ y ∈ blkOf s, y < w.heap.size) : C.codec_GetTele s w (fun r w' => Got pTele S.api_Tele.v ⟨0, 0, 0, 0, ⟨0, 0, 0, ⟨⟨0, 0⟩, false⟩, ⟨⟨0, 0⟩, false⟩, 0, 0⟩, ⟨⟨0, 0⟩, false⟩, 0⟩ l r ∧ Kp [] w w') noP := codec_GetTele_of (by
  unfold W.codec_GetTele
  intro b1 w2 hA
  have s2 := hA.eq
  refine use (readTele_s (hd.keep0 hA.kp) hl (fun y hy => by have := hs y hy; omega)) ?_
  rintro r w3 ⟨hG, k3⟩
  have c1 := hA.blk.keep k3 (by simp)
  have go : ∀ (o : S.api_Tele) (e : Int), r = .tuple #[S.api_Tele.v o, .int .i64 e] → ∃ p4 : S.api_Tele × Int, r = .tuple #[S.api_Tele.v p4.1, .int .i64 p4.2] ∧ (okVal true 19 (S.api_Tele.v p4.1) = true ∧ canPut w3 ⟨b1, 0, none⟩ (S.api_Tele.v p4.1)) ∧ ∀ w6 : World, w6 = putAt w3 ⟨b1, 0, none⟩ (S.api_Tele.v p4.1) → ∃ y7 : S.api_Tele, (okVal true 19 (S.api_Tele.v y7) = true ∧ Go.Eng.rd w6 ⟨b1, 0, none⟩ (S.api_Tele.v y7)) ∧ (Got pTele S.api_Tele.v ⟨0, 0, 0, 0, ⟨0, 0, 0, ⟨⟨0, 0⟩, false⟩, ⟨⟨0, 0⟩, false⟩, 0, 0⟩, ⟨⟨0, 0⟩, false⟩, 0⟩ l (.tuple #[S.api_Tele.v y7, .int .i64 p4.2]) ∧ Kp [] w w6) := fun o e he => by
    refine ⟨(o, e), he, ⟨rfl, c1.canN _ (Nat.le_refl _)⟩, fun w6 e6 => ?_⟩
    obtain ⟨g1, k6, _⟩ := c1.putAll (vs := #[.int .i64 o.Kind, .int .i64 o.Robot, .int .i64 o.Epoch, .int .i64 o.Num, .int .i64 o.Move.Kind, .int .i64 o.Move.Dir, .int .i64 o.Move.N, .int .i64 o.Move.From.At.X, .int .i64 o.Move.From.At.Y, .bool o.Move.From.Down, .int .i64 o.Move.To.At.X, .int .i64 o.Move.To.At.Y, .bool o.Move.To.Down, .int .i64 o.Move.At, .int .i64 o.Move.End, .int .i64 o.Pose.At.X, .int .i64 o.Pose.At.Y, .bool o.Pose.Down, .int .i64 o.Load]) rfl e6
    exact ⟨o, ⟨rfl, g1.rd0⟩, he ▸ hG, (hA.kp.then0 k3).then k6 (by simp; omega)⟩
  rcases hG with ⟨o, h1, h2⟩ | ⟨h1, h2⟩
  · exact go o 0 h2
  · exact go _ 4 h2)
theorem R_Flag_p (r : Nat) : ParR flagP Value.bool (fun w K KP => C.skepref05_R_Flag (some ⟨r, 0, none⟩) w K KP) r := fun w s l st hR => skepref05_R_Flag_of (by
  unfold W.skepref05_R_Flag
  intro w1 hD
  obtain ⟨⟨at0, bad0, hB, hst⟩, hd, hn, hsm⟩ := hR.keep0 hD.kp
  have hsz := hd.bsize
  have nn : 0 < s.len → ∀ y ∈ blkOf s, y ∉ [r] := fun h0 y hy => by simp; intro e; exact hn h0 (e ▸ hy)
  have fail : ∀ (W' : World), (∀ k, st = some k → flagP (l.drop k) = none) → Blk w1 r [slv s, .int .i64 at0, .bool bad0] → W' = putAt w1 ⟨r, 2, none⟩ (.bool true) → ∃ (y : Bool) (st' : Option Nat), (.bool false : Value) = .bool y ∧ Res flagP l st y st' ∧ RsR W' r s l st' ∧ Kp [r] w W' := fun W' hx hW e => by
    obtain ⟨g1, g2, g3⟩ := hW.put1 (i := 2) rfl e
    exact ⟨false, none, rfl, .inr ⟨rfl, hx⟩, ⟨⟨at0, true, g1, rfl⟩, Rds.keepZ hd g2 nn, hn, hsm⟩, (hD.kp.up _).then g2 (by simp)⟩
  cases st with
  | none =>
    subst hst
    exact ⟨true, ⟨rfl, hB.at rfl⟩, cond_t rfl ⟨⟨rfl, hB.can1 _ rfl (Nat.le_of_ble_eq_true rfl)⟩, fun w5 e5 => fail w5 (fun k h => by cases h) hB e5⟩⟩
  | some k =>
    obtain ⟨rfl, rfl, hk⟩ := hst
    refine ⟨false, ⟨rfl, hB.at rfl⟩, cond_f rfl ⟨_, ⟨rfl, hB.at rfl⟩, s, ⟨rfl, hB.at rfl⟩, cond_d (fun hc => ?_) (fun hc => ⟨s, ⟨rfl, hB.at rfl⟩, _, ⟨rfl, hB.at rfl⟩, ?_⟩)⟩⟩
    · exact ⟨⟨rfl, hB.can1 _ rfl (Nat.le_of_ble_eq_true rfl)⟩, fun w11 e11 => fail w11 (fun k' h => by injection h with h; subst h; rw [List.drop_eq_nil_of_le (by omega)]; rfl) hB e11⟩
    have hk2 : k < l.length := by omega
    obtain ⟨A, hA, hcell⟩ := hd.byte hk2
    rw [hA, Int.toNat_natCast]
    refine ⟨⟨by omega, by omega⟩, _, ⟨rfl, hcell⟩, cond_d (fun hg => ?_) (fun hg => ?_)⟩
    · exact ⟨⟨rfl, hB.can1 _ rfl (Nat.le_of_ble_eq_true rfl)⟩, fun w19 e19 => fail w19 (fun k' h => by injection h with h; subst h; rw [drop_cons hk2]; simp only [flagP]; rw [if_pos (by omega)]) hB e19⟩
    have e1 : IntKind.i64.wrap ((k : Int) + 1) = ((k + 1 : Nat) : Int) := by rw [IntKind.wrap_i64]; omega
    refine ⟨_, ⟨rfl, hB.at rfl⟩, ?_⟩
    rw [e1]
    refine ⟨⟨rfl, hB.can1 _ rfl (Nat.le_of_ble_eq_true rfl)⟩, fun w23 e23 w24 hD24 => ?_⟩
    obtain ⟨g1, g2, g3⟩ := hB.put1 (i := 1) rfl e23
    have h24 : RsR w24 r s l (some (k + 1)) := RsR.keep0 ⟨⟨_, false, g1, rfl, rfl, hk2⟩, Rds.keepZ hd g2 nn, hn, hsm⟩ hD24.kp
    have d24 := h24.d
    have q24 : Blk w24 r [slv s, .int .i64 ((k + 1 : Nat) : Int), .bool false] := Blk.keep (l := []) g1 hD24.kp (by simp)
    have e2 : IntKind.i64.wrap (((k + 1 : Nat) : Int) - 1) = (k : Nat) := by rw [IntKind.wrap_i64]; omega
    obtain ⟨A', hA', hcell'⟩ := d24.byte hk2
    refine ⟨s, ⟨rfl, q24.at rfl⟩, _, ⟨rfl, q24.at rfl⟩, ?_⟩
    rw [e2, hA', Int.toNat_natCast]
    refine ⟨⟨by omega, by omega⟩, _, ⟨rfl, hcell'⟩, (l[k]).toNat == 1, some (k + 1), ?_, .inl ⟨k, k + 1, rfl, rfl, ?_⟩, h24, ((hD.kp.up _).then g2 (by simp)).then0 hD24.kp⟩
    · congr 1
      by_cases e : (l[k]).toNat = 1
      · rw [beq_t (by omega), e]; rfl
      · rw [beq_f (by omega)]; simp [e]
    · rw [drop_cons hk2]; simp only [flagP]; rw [if_neg (by omega)])
set_option maxHeartbeats 1000000 in
theorem R_cell_p (r : Nat) : ParR pCell S.api_Cell.v (fun w K KP => C.skepref05_R_cell (some ⟨r, 0, none⟩) w K KP) r := fun w s l st h => skepref05_R_cell_of (by
  unfold W.skepref05_R_cell
  intro b1 w2 hA
  have s2 := hA.eq
  have hr := h.lt
  refine use (R_Number_p r w2 s l st (h.keep0 hA.kp)) ?_
  rintro _ w3 ⟨x1, t1, rfl, e1, h3, k3⟩
  refine ⟨x1, rfl, use (R_Number_p r w3 s l t1 h3) ?_⟩
  rintro _ w6 ⟨x2, t2, rfl, e2, h6, k6⟩
  have q1 := (hA.blk.keep k3 (by simp; omega)).keep k6 (by simp; omega)
  refine ⟨x2, rfl, ⟨rfl, q1.canN _ (Nat.le_refl _)⟩, fun w9 e9 => ?_⟩
  obtain ⟨g1, g2, _⟩ := q1.putAll (vs := #[.int .i64 x1, .int .i64 x2]) rfl e9
  exact ⟨⟨x1, x2⟩, ⟨rfl, g1.rd0⟩, ⟨x1, x2⟩, t2, rfl, (e1.nx e2).mp fCell, h.fresh h6 g2 (by simp; omega), (((hA.kp.up [r]).then k3 (by simp)).then k6 (by simp)).then g2 (by simp; omega)⟩)
set_option maxHeartbeats 1000000 in
theorem R_pose_p (r : Nat) : ParR pPose S.api_Pose.v (fun w K KP => C.skepref05_R_pose (some ⟨r, 0, none⟩) w K KP) r := fun w s l st h => skepref05_R_pose_of (by
  unfold W.skepref05_R_pose
  intro b1 w2 hA
  have s2 := hA.eq
  have hr := h.lt
  refine use (R_cell_p r w2 s l st (h.keep0 hA.kp)) ?_
  rintro _ w3 ⟨x1, t1, rfl, e1, h3, k3⟩
  refine ⟨x1, rfl, fun b6 w7 hA6 => ⟨⟨rfl, hA6.blk.canN _ (Nat.le_refl _)⟩, fun w8 e8 => ?_⟩⟩
  obtain ⟨g6, gk6, _⟩ := hA6.blk.putAll (vs := #[.int .i64 x1.X, .int .i64 x1.Y]) rfl e8
  have s7 := hA6.eq
  have s3 := k3.size
  have k38 : Kp [] w3 w8 := hA6.kp.then gk6 (by simp; omega)
  refine use (R_Flag_p r w8 s l t1 (h3.keep0 k38)) ?_
  rintro _ w9 ⟨x2, t2, rfl, e2, h9, k9⟩
  have q6' := g6.keep k9 (by simp; omega)
  have q1 := ((hA.blk.keep k3 (by simp; omega)).keep k38 (by simp)).keep k9 (by simp; omega)
  refine ⟨x2, rfl, x1, ⟨rfl, q6'.rd0⟩, ⟨rfl, q1.canN _ (Nat.le_refl _)⟩, fun w13 e13 => ?_⟩
  obtain ⟨g1, g2, _⟩ := q1.putAll (vs := #[.int .i64 x1.X, .int .i64 x1.Y, .bool x2]) rfl e13
  exact ⟨⟨x1, x2⟩, ⟨rfl, g1.rd0⟩, ⟨x1, x2⟩, t2, rfl, (e1.nx e2).mp fPose, h.fresh h9 g2 (by simp; omega), ((((hA.kp.up [r]).then k3 (by simp)).then0 k38).then k9 (by simp)).then g2 (by simp; omega)⟩)
set_option maxHeartbeats 2000000 in
theorem R_move_p (r : Nat) : ParR pMove S.api_Move.v (fun w K KP => C.skepref05_R_move (some ⟨r, 0, none⟩) w K KP) r := fun w s l st h => skepref05_R_move_of (by
  unfold W.skepref05_R_move
  intro b1 v2 hA1 b3 v4 hA3
  have s2 := hA1.eq
  have s4 := hA3.eq
  have hr := h.lt
  refine ⟨⟨rfl, hA3.blk.canN _ (Nat.le_refl _)⟩, fun w5 e5 => ?_⟩
  obtain ⟨q3, k5, _⟩ := hA3.blk.putAll (vs := #[.int .i64 0, .int .i64 0, .int .i64 0, .int .i64 0, .int .i64 0, .bool false, .int .i64 0, .int .i64 0, .bool false, .int .i64 0, .int .i64 0]) rfl e5
  have kp0 : Kp [r, b3] w w5 := ((hA1.kp.then0 hA3.kp).up [r, b3]).then k5 (by simp)
  have q1 := (hA1.blk.keep hA3.kp (by simp)).keep k5 (by simp; omega)
  have h0 := h.fresh ((h.keep0 hA1.kp).keep0 hA3.kp) k5 (by simp; omega)
  refine use (R_Number_p r w5 s l st h0) ?_
  rintro _ u1 ⟨x1, t1, rfl, e1, h1, m1⟩
  have kp1 := kp0.then m1 (by simp)
  replace q1 := q1.keep m1 (by simp; omega)
  replace q3 := q3.keep m1 (by simp; omega)
  refine ⟨x1, rfl, ⟨rfl, q3.can1 _ rfl (Nat.le_of_ble_eq_true rfl)⟩, fun wp0_1 ep0_1 => ?_⟩
  obtain ⟨q3', g0_1, _⟩ := q3.put1 (i := 0) rfl ep0_1
  replace q3 := q3'
  clear q3'
  replace q1 := q1.keep g0_1 (by simp; omega)
  have hq0_1 := h.fresh h1 g0_1 (by simp; omega)
  have kq0_1 := kp1.then g0_1 (by simp)
  refine use (R_Number_p r wp0_1 s l t1 hq0_1) ?_
  rintro _ u2 ⟨x2, t2, rfl, e2, h2, m2⟩
  have kp2 := kq0_1.then m2 (by simp)
  replace q1 := q1.keep m2 (by simp; omega)
  replace q3 := q3.keep m2 (by simp; omega)
  refine ⟨x2, rfl, ⟨rfl, q3.can1 _ rfl (Nat.le_of_ble_eq_true rfl)⟩, fun wp1_2 ep1_2 => ?_⟩
  obtain ⟨q3', g1_2, _⟩ := q3.put1 (i := 1) rfl ep1_2
  replace q3 := q3'
  clear q3'
  replace q1 := q1.keep g1_2 (by simp; omega)
  have hq1_2 := h.fresh h2 g1_2 (by simp; omega)
  have kq1_2 := kp2.then g1_2 (by simp)
  refine use (R_Number_p r wp1_2 s l t2 hq1_2) ?_
  rintro _ u3 ⟨x3, t3, rfl, e3, h3, m3⟩
  have kp3 := kq1_2.then m3 (by simp)
  replace q1 := q1.keep m3 (by simp; omega)
  replace q3 := q3.keep m3 (by simp; omega)
  refine ⟨x3, rfl, ⟨rfl, q3.can1 _ rfl (Nat.le_of_ble_eq_true rfl)⟩, fun wp2_3 ep2_3 => ?_⟩
  obtain ⟨q3', g2_3, _⟩ := q3.put1 (i := 2) rfl ep2_3
  replace q3 := q3'
  clear q3'
  replace q1 := q1.keep g2_3 (by simp; omega)
  have hq2_3 := h.fresh h3 g2_3 (by simp; omega)
  have kq2_3 := kp3.then g2_3 (by simp)
  refine use (R_pose_p r wp2_3 s l t3 hq2_3) ?_
  rintro _ u4 ⟨x4, t4, rfl, e4, h4, m4⟩
  have kp4 := kq2_3.then m4 (by simp)
  replace q1 := q1.keep m4 (by simp; omega)
  replace q3 := q3.keep m4 (by simp; omega)
  refine ⟨x4, rfl, ⟨rfl, q3.canN _ (Nat.le_of_ble_eq_true rfl)⟩, fun wp3_4 ep3_4 => ?_⟩
  obtain ⟨q3', g3_4, _⟩ := q3.putN (o := 3) (vs := #[.int .i64 x4.At.X, .int .i64 x4.At.Y, .bool x4.Down]) (Nat.le_of_ble_eq_true rfl) ep3_4
  replace q3 := q3'
  clear q3'
  replace q1 := q1.keep g3_4 (by simp; omega)
  have hq3_4 := h.fresh h4 g3_4 (by simp; omega)
  have kq3_4 := kp4.then g3_4 (by simp)
  refine use (R_pose_p r wp3_4 s l t4 hq3_4) ?_
  rintro _ u5 ⟨x5, t5, rfl, e5, h5, m5⟩
  have kp5 := kq3_4.then m5 (by simp)
  replace q1 := q1.keep m5 (by simp; omega)
  replace q3 := q3.keep m5 (by simp; omega)
  refine ⟨x5, rfl, ⟨rfl, q3.canN _ (Nat.le_of_ble_eq_true rfl)⟩, fun wp6_5 ep6_5 => ?_⟩
  obtain ⟨q3', g6_5, _⟩ := q3.putN (o := 6) (vs := #[.int .i64 x5.At.X, .int .i64 x5.At.Y, .bool x5.Down]) (Nat.le_of_ble_eq_true rfl) ep6_5
  replace q3 := q3'
  clear q3'
  replace q1 := q1.keep g6_5 (by simp; omega)
  have hq6_5 := h.fresh h5 g6_5 (by simp; omega)
  have kq6_5 := kp5.then g6_5 (by simp)
  refine use (R_Number_p r wp6_5 s l t5 hq6_5) ?_
  rintro _ u6 ⟨x6, t6, rfl, e6, h6, m6⟩
  have kp6 := kq6_5.then m6 (by simp)
  replace q1 := q1.keep m6 (by simp; omega)
  replace q3 := q3.keep m6 (by simp; omega)
  refine ⟨x6, rfl, ⟨rfl, q3.can1 _ rfl (Nat.le_of_ble_eq_true rfl)⟩, fun wp9_6 ep9_6 => ?_⟩
  obtain ⟨q3', g9_6, _⟩ := q3.put1 (i := 9) rfl ep9_6
  replace q3 := q3'
  clear q3'
  replace q1 := q1.keep g9_6 (by simp; omega)
  have hq9_6 := h.fresh h6 g9_6 (by simp; omega)
  have kq9_6 := kp6.then g9_6 (by simp)
  refine use (R_Number_p r wp9_6 s l t6 hq9_6) ?_
  rintro _ u7 ⟨x7, t7, rfl, e7, h7, m7⟩
  have kp7 := kq9_6.then m7 (by simp)
  replace q1 := q1.keep m7 (by simp; omega)
  replace q3 := q3.keep m7 (by simp; omega)
  refine ⟨x7, rfl, ⟨rfl, q3.can1 _ rfl (Nat.le_of_ble_eq_true rfl)⟩, fun wp10_7 ep10_7 => ?_⟩
  obtain ⟨q3', g10_7, _⟩ := q3.put1 (i := 10) rfl ep10_7
  replace q3 := q3'
  clear q3'
  replace q1 := q1.keep g10_7 (by simp; omega)
  have hq10_7 := h.fresh h7 g10_7 (by simp; omega)
  have kq10_7 := kp7.then g10_7 (by simp)
  have q3e : Blk wp10_7 b3 [.int .i64 x1, .int .i64 x2, .int .i64 x3, .int .i64 x4.At.X, .int .i64 x4.At.Y, .bool x4.Down, .int .i64 x5.At.X, .int .i64 x5.At.Y, .bool x5.Down, .int .i64 x6, .int .i64 x7] := q3
  refine ⟨⟨x1, x2, x3, x4, x5, x6, x7⟩, ⟨rfl, q3e.rd0⟩, ⟨rfl, q1.canN _ (Nat.le_refl _)⟩, fun wz ez => ?_⟩
  obtain ⟨g1, gz, _⟩ := q1.putAll (vs := #[.int .i64 x1, .int .i64 x2, .int .i64 x3, .int .i64 x4.At.X, .int .i64 x4.At.Y, .bool x4.Down, .int .i64 x5.At.X, .int .i64 x5.At.Y, .bool x5.Down, .int .i64 x6, .int .i64 x7]) rfl ez
  exact ⟨⟨x1, x2, x3, x4, x5, x6, x7⟩, ⟨rfl, g1.rd0⟩, ⟨x1, x2, x3, x4, x5, x6, x7⟩, t7, rfl, (((((((e1.nx e2).nx e3).nx e4).nx e5).nx e6).nx e7)).mp fMove, h.fresh hq10_7 gz (by simp; omega), (kq10_7.mono (by simp; omega)).then gz (by simp; omega)⟩)
set_option maxHeartbeats 4000000 in
theorem rGetTele_s {w : World} {s : Sl} {l : Bs} (hd : RdB w s l) (hl : l.length ≤ 140737488355328) : C.skepref05_GetTele s w (fun v w' => GotR pTele S.api_Tele.v ⟨0, 0, 0, 0, ⟨0, 0, 0, ⟨⟨0, 0⟩, false⟩, ⟨⟨0, 0⟩, false⟩, 0, 0⟩, ⟨⟨0, 0⟩, false⟩, 0⟩ l v ∧ Kp [] w w') noP := skepref05_GetTele_of (by
  unfold W.skepref05_GetTele
  intro b1 v2 hA1 r v4 hAr b3 v6 hA3
  have s2 := hA1.eq
  have s4 := hAr.eq
  have s6 := hA3.eq
  have k4 : Kp [] w v4 := hA1.kp.then0 hAr.kp
  have h : RsR v4 r s l (some 0) := ⟨⟨0, false, hAr.blk, rfl, rfl, Nat.zero_le _⟩, hd.keep0 k4, fun h0 h => by have := hd.ltB (by omega) h0 _ h; omega, hl⟩
  refine ⟨⟨rfl, hA3.blk.canN _ (Nat.le_refl _)⟩, fun w5 e5 => ?_⟩
  obtain ⟨q3, k5, _⟩ := hA3.blk.putAll (vs := #[.int .i64 0, .int .i64 0, .int .i64 0, .int .i64 0, .int .i64 0, .int .i64 0, .int .i64 0, .int .i64 0, .int .i64 0, .bool false, .int .i64 0, .int .i64 0, .bool false, .int .i64 0, .int .i64 0, .int .i64 0, .int .i64 0, .bool false, .int .i64 0]) rfl e5
  have kp0 : Kp [r, b3] v4 w5 := (hA3.kp.up [r, b3]).then k5 (by simp)
  have q1 := ((hA1.blk.keep hAr.kp (by simp)).keep hA3.kp (by simp)).keep k5 (by simp; omega)
  have h0 := h.fresh (h.keep0 hA3.kp) k5 (by simp; omega)
  refine use (R_Number_p r w5 s l (some 0) h0) ?_
  rintro _ u1 ⟨x1, t1, rfl, e1, h1, m1⟩
  have kp1 := kp0.then m1 (by simp)
  replace q1 := q1.keep m1 (by simp; omega)
  replace q3 := q3.keep m1 (by simp; omega)
  refine ⟨x1, rfl, ⟨rfl, q3.can1 _ rfl (Nat.le_of_ble_eq_true rfl)⟩, fun wp0_1 ep0_1 => ?_⟩
  obtain ⟨q3', g0_1, _⟩ := q3.put1 (i := 0) rfl ep0_1
  replace q3 := q3'
  clear q3'
  replace q1 := q1.keep g0_1 (by simp; omega)
  have hq0_1 := h.fresh h1 g0_1 (by simp; omega)
  have kq0_1 := kp1.then g0_1 (by simp)
  refine use (R_Number_p r wp0_1 s l t1 hq0_1) ?_
  rintro _ u2 ⟨x2, t2, rfl, e2, h2, m2⟩
  have kp2 := kq0_1.then m2 (by simp)
  replace q1 := q1.keep m2 (by simp; omega)
  replace q3 := q3.keep m2 (by simp; omega)
  refine ⟨x2, rfl, ⟨rfl, q3.can1 _ rfl (Nat.le_of_ble_eq_true rfl)⟩, fun wp1_2 ep1_2 => ?_⟩
  obtain ⟨q3', g1_2, _⟩ := q3.put1 (i := 1) rfl ep1_2
  replace q3 := q3'
  clear q3'
  replace q1 := q1.keep g1_2 (by simp; omega)
  have hq1_2 := h.fresh h2 g1_2 (by simp; omega)
  have kq1_2 := kp2.then g1_2 (by simp)
  refine use (R_Number_p r wp1_2 s l t2 hq1_2) ?_
  rintro _ u3 ⟨x3, t3, rfl, e3, h3, m3⟩
  have kp3 := kq1_2.then m3 (by simp)
  replace q1 := q1.keep m3 (by simp; omega)
  replace q3 := q3.keep m3 (by simp; omega)
  refine ⟨x3, rfl, ⟨rfl, q3.can1 _ rfl (Nat.le_of_ble_eq_true rfl)⟩, fun wp2_3 ep2_3 => ?_⟩
  obtain ⟨q3', g2_3, _⟩ := q3.put1 (i := 2) rfl ep2_3
  replace q3 := q3'
  clear q3'
  replace q1 := q1.keep g2_3 (by simp; omega)
  have hq2_3 := h.fresh h3 g2_3 (by simp; omega)
  have kq2_3 := kp3.then g2_3 (by simp)
  refine use (R_Number_p r wp2_3 s l t3 hq2_3) ?_
  rintro _ u4 ⟨x4, t4, rfl, e4, h4, m4⟩
  have kp4 := kq2_3.then m4 (by simp)
  replace q1 := q1.keep m4 (by simp; omega)
  replace q3 := q3.keep m4 (by simp; omega)
  refine ⟨x4, rfl, ⟨rfl, q3.can1 _ rfl (Nat.le_of_ble_eq_true rfl)⟩, fun wp3_4 ep3_4 => ?_⟩
  obtain ⟨q3', g3_4, _⟩ := q3.put1 (i := 3) rfl ep3_4
  replace q3 := q3'
  clear q3'
  replace q1 := q1.keep g3_4 (by simp; omega)
  have hq3_4 := h.fresh h4 g3_4 (by simp; omega)
  have kq3_4 := kp4.then g3_4 (by simp)
  refine use (R_move_p r wp3_4 s l t4 hq3_4) ?_
  rintro _ u5 ⟨x5, t5, rfl, e5, h5, m5⟩
  have kp5 := kq3_4.then m5 (by simp)
  replace q1 := q1.keep m5 (by simp; omega)
  replace q3 := q3.keep m5 (by simp; omega)
  refine ⟨x5, rfl, ⟨rfl, q3.canN _ (Nat.le_of_ble_eq_true rfl)⟩, fun wp4_5 ep4_5 => ?_⟩
  obtain ⟨q3', g4_5, _⟩ := q3.putN (o := 4) (vs := #[.int .i64 x5.Kind, .int .i64 x5.Dir, .int .i64 x5.N, .int .i64 x5.From.At.X, .int .i64 x5.From.At.Y, .bool x5.From.Down, .int .i64 x5.To.At.X, .int .i64 x5.To.At.Y, .bool x5.To.Down, .int .i64 x5.At, .int .i64 x5.End]) (Nat.le_of_ble_eq_true rfl) ep4_5
  replace q3 := q3'
  clear q3'
  replace q1 := q1.keep g4_5 (by simp; omega)
  have hq4_5 := h.fresh h5 g4_5 (by simp; omega)
  have kq4_5 := kp5.then g4_5 (by simp)
  refine use (R_pose_p r wp4_5 s l t5 hq4_5) ?_
  rintro _ u6 ⟨x6, t6, rfl, e6, h6, m6⟩
  have kp6 := kq4_5.then m6 (by simp)
  replace q1 := q1.keep m6 (by simp; omega)
  replace q3 := q3.keep m6 (by simp; omega)
  refine ⟨x6, rfl, ⟨rfl, q3.canN _ (Nat.le_of_ble_eq_true rfl)⟩, fun wp15_6 ep15_6 => ?_⟩
  obtain ⟨q3', g15_6, _⟩ := q3.putN (o := 15) (vs := #[.int .i64 x6.At.X, .int .i64 x6.At.Y, .bool x6.Down]) (Nat.le_of_ble_eq_true rfl) ep15_6
  replace q3 := q3'
  clear q3'
  replace q1 := q1.keep g15_6 (by simp; omega)
  have hq15_6 := h.fresh h6 g15_6 (by simp; omega)
  have kq15_6 := kp6.then g15_6 (by simp)
  refine use (R_Number_p r wp15_6 s l t6 hq15_6) ?_
  rintro _ u7 ⟨x7, t7, rfl, e7, h7, m7⟩
  have kp7 := kq15_6.then m7 (by simp)
  replace q1 := q1.keep m7 (by simp; omega)
  replace q3 := q3.keep m7 (by simp; omega)
  refine ⟨x7, rfl, ⟨rfl, q3.can1 _ rfl (Nat.le_of_ble_eq_true rfl)⟩, fun wp18_7 ep18_7 => ?_⟩
  obtain ⟨q3', g18_7, _⟩ := q3.put1 (i := 18) rfl ep18_7
  replace q3 := q3'
  clear q3'
  replace q1 := q1.keep g18_7 (by simp; omega)
  have hq18_7 := h.fresh h7 g18_7 (by simp; omega)
  have kq18_7 := kp7.then g18_7 (by simp)
  have q3e : Blk wp18_7 b3 [.int .i64 x1, .int .i64 x2, .int .i64 x3, .int .i64 x4, .int .i64 x5.Kind, .int .i64 x5.Dir, .int .i64 x5.N, .int .i64 x5.From.At.X, .int .i64 x5.From.At.Y, .bool x5.From.Down, .int .i64 x5.To.At.X, .int .i64 x5.To.At.Y, .bool x5.To.Down, .int .i64 x5.At, .int .i64 x5.End, .int .i64 x6.At.X, .int .i64 x6.At.Y, .bool x6.Down, .int .i64 x7] := q3
  refine use (R_whole_s hq18_7) ?_
  rintro _ w20 ⟨rfl, k20⟩
  have hw := whole_st ((((((((e1.nx e2).nx e3).nx e4).nx e5).nx e6).nx e7)).mp fTele) hq18_7.le
  replace q3e := q3e.keep k20 (by simp)
  replace q1 := q1.keep k20 (by simp)
  have k20' : Kp [] w w20 := (k4.then kq18_7 (by simp; omega)).then0 k20
  refine ⟨_, rfl, ?_⟩
  have bad : whole pTele l = none → (okVal true 19 (.agg #[.int .i64 0, .int .i64 0, .int .i64 0, .int .i64 0, .int .i64 0, .int .i64 0, .int .i64 0, .int .i64 0, .int .i64 0, .bool false, .int .i64 0, .int .i64 0, .bool false, .int .i64 0, .int .i64 0, .int .i64 0, .int .i64 0, .bool false, .int .i64 0]) = true ∧ canPut w20 ⟨b1, 0, none⟩ (.agg #[.int .i64 0, .int .i64 0, .int .i64 0, .int .i64 0, .int .i64 0, .int .i64 0, .int .i64 0, .int .i64 0, .int .i64 0, .bool false, .int .i64 0, .int .i64 0, .bool false, .int .i64 0, .int .i64 0, .int .i64 0, .int .i64 0, .bool false, .int .i64 0])) ∧ ∀ w23 : World, w23 = putAt w20 ⟨b1, 0, none⟩ (.agg #[.int .i64 0, .int .i64 0, .int .i64 0, .int .i64 0, .int .i64 0, .int .i64 0, .int .i64 0, .int .i64 0, .int .i64 0, .bool false, .int .i64 0, .int .i64 0, .bool false, .int .i64 0, .int .i64 0, .int .i64 0, .int .i64 0, .bool false, .int .i64 0]) → ∃ y24 : S.api_Tele, (okVal true 19 (S.api_Tele.v y24) = true ∧ Go.Eng.rd w23 ⟨b1, 0, none⟩ (S.api_Tele.v y24)) ∧ (GotR pTele S.api_Tele.v ⟨0, 0, 0, 0, ⟨0, 0, 0, ⟨⟨0, 0⟩, false⟩, ⟨⟨0, 0⟩, false⟩, 0, 0⟩, ⟨⟨0, 0⟩, false⟩, 0⟩ l (.tuple #[S.api_Tele.v y24, .bool false]) ∧ Kp [] w w23) := fun hn => by
    refine ⟨⟨rfl, q1.canN _ (Nat.le_refl _)⟩, fun w23 e23 => ?_⟩
    obtain ⟨g1, k23, _⟩ := q1.putAll (vs := #[.int .i64 0, .int .i64 0, .int .i64 0, .int .i64 0, .int .i64 0, .int .i64 0, .int .i64 0, .int .i64 0, .int .i64 0, .bool false, .int .i64 0, .int .i64 0, .bool false, .int .i64 0, .int .i64 0, .int .i64 0, .int .i64 0, .bool false, .int .i64 0]) rfl e23
    exact ⟨⟨0, 0, 0, 0, ⟨0, 0, 0, ⟨⟨0, 0⟩, false⟩, ⟨⟨0, 0⟩, false⟩, 0, 0⟩, ⟨⟨0, 0⟩, false⟩, 0⟩, ⟨rfl, g1.rd0⟩, .inr ⟨hn, rfl⟩, k20'.then k23 (by simp; omega)⟩
  cases t7 with
  | none => exact cond_t rfl (bad hw)
  | some k =>
    dsimp only at hw ⊢
    by_cases hk : k = l.length
    · rw [if_pos hk] at hw
      refine cond_f (by simp [hk]) ⟨⟨x1, x2, x3, x4, x5, x6, x7⟩, ⟨rfl, q3e.rd0⟩, ⟨rfl, q1.canN _ (Nat.le_refl _)⟩, fun w26 e26 => ?_⟩
      obtain ⟨g1, k26, _⟩ := q1.putAll (vs := #[.int .i64 x1, .int .i64 x2, .int .i64 x3, .int .i64 x4, .int .i64 x5.Kind, .int .i64 x5.Dir, .int .i64 x5.N, .int .i64 x5.From.At.X, .int .i64 x5.From.At.Y, .bool x5.From.Down, .int .i64 x5.To.At.X, .int .i64 x5.To.At.Y, .bool x5.To.Down, .int .i64 x5.At, .int .i64 x5.End, .int .i64 x6.At.X, .int .i64 x6.At.Y, .bool x6.Down, .int .i64 x7]) rfl e26
      exact ⟨⟨x1, x2, x3, x4, x5, x6, x7⟩, ⟨rfl, g1.rd0⟩, .inl ⟨_, hw, rfl⟩, k20'.then k26 (by simp; omega)⟩
    · rw [if_neg hk] at hw
      exact cond_t (by simp [hk]) (bad hw))
theorem wholeT_b (o : S.api_Tele) (h : okTele o) : whole pTele (bTele o) = some o := by
  have := tele_cod.put o h []
  rw [List.append_nil] at this
  unfold whole
  rw [this]
set_option maxHeartbeats 4000000 in
theorem CodecTeles_s (o : S.api_Tele) (s : Sl) {l : Bs} (ho : okTele o) (w : World) (hd : RdB w s l) (hl : l.length ≤ 140737488355328) : C.skeplaw05_CodecTeles o s w (fun v w' => v = .bool true ∧ Kp [] w w') noP := skeplaw05_CodecTeles_of (by
  unfold W.skeplaw05_CodecTeles
  intro b1 w2 hA
  have s2 := hA.eq
  have y1 : Blk w2 b1 [.int .i64 o.Kind, .int .i64 o.Robot, .int .i64 o.Epoch, .int .i64 o.Num, .int .i64 o.Move.Kind, .int .i64 o.Move.Dir, .int .i64 o.Move.N, .int .i64 o.Move.From.At.X, .int .i64 o.Move.From.At.Y, .bool o.Move.From.Down, .int .i64 o.Move.To.At.X, .int .i64 o.Move.To.At.Y, .bool o.Move.To.Down, .int .i64 o.Move.At, .int .i64 o.Move.End, .int .i64 o.Pose.At.X, .int .i64 o.Pose.At.Y, .bool o.Pose.Down, .int .i64 o.Load] := hA.blk
  refine ⟨o, ⟨rfl, y1.rd0⟩, use (PutTele_s o ho w2) ?_⟩
  rintro _ w4 ⟨x, rfl, ox, k4⟩
  have bl := bTele_len o
  refine ⟨x, rfl, use (CopyBytes_s x ox.rds (by omega)) ?_⟩
  rintro _ w7 ⟨x', rfl, ox', k7⟩
  refine ⟨x', rfl, use (GetTele_s ox'.rds (by omega) (own_lt ox')) ?_⟩
  rintro r w10 ⟨hG, k10⟩
  have hG1 : r = .tuple #[S.api_Tele.v o, .int .i64 0] := by
    rcases hG with ⟨o', h1, h2⟩ | ⟨h1, h2⟩
    · rw [wholeT_b o ho] at h1; injection h1 with h1; subst h1; exact h2
    · rw [wholeT_b o ho] at h1; cases h1
  have kk10 : Kp [] w w10 := ((hA.kp.then0 k4).then0 k7).then0 k10
  have s10 := kk10.size
  refine ⟨(o, 0), hG1, fun b13 w14 hA13 => ⟨⟨rfl, hA13.blk.canN _ (Nat.le_refl _)⟩, fun w15 e15 => ?_⟩⟩
  obtain ⟨y13, k15, _⟩ := hA13.blk.putAll (vs := #[.int .i64 o.Kind, .int .i64 o.Robot, .int .i64 o.Epoch, .int .i64 o.Num, .int .i64 o.Move.Kind, .int .i64 o.Move.Dir, .int .i64 o.Move.N, .int .i64 o.Move.From.At.X, .int .i64 o.Move.From.At.Y, .bool o.Move.From.Down, .int .i64 o.Move.To.At.X, .int .i64 o.Move.To.At.Y, .bool o.Move.To.Down, .int .i64 o.Move.At, .int .i64 o.Move.End, .int .i64 o.Pose.At.X, .int .i64 o.Pose.At.Y, .bool o.Pose.Down, .int .i64 o.Load]) rfl e15
  have s14 := hA13.eq
  have k1015 : Kp [] w10 w15 := hA13.kp.then k15 (by simp; omega)
  have kk15 := kk10.then0 k1015
  refine use (CopyBytes_s s (hd.keep0 kk15) (by omega)) ?_
  rintro _ w16 ⟨z, rfl, oz, k16⟩
  refine ⟨z, rfl, use (GetTele_s oz.rds hl (own_lt oz)) ?_⟩
  rintro r2 w19 ⟨hG2, k19⟩
  have kk19 := (kk15.then0 k16).then0 k19
  have s19 := kk19.size
  obtain ⟨o2, c2, hr2, hc2⟩ : ∃ (o2 : S.api_Tele) (c2 : Int), r2 = .tuple #[S.api_Tele.v o2, .int .i64 c2] ∧ ((whole pTele l = some o2 ∧ c2 = 0) ∨ (whole pTele l = none ∧ o2 = ⟨0, 0, 0, 0, ⟨0, 0, 0, ⟨⟨0, 0⟩, false⟩, ⟨⟨0, 0⟩, false⟩, 0, 0⟩, ⟨⟨0, 0⟩, false⟩, 0⟩ ∧ c2 = 4)) := by
    rcases hG2 with ⟨o', h1, h2⟩ | ⟨h1, h2⟩
    · exact ⟨o', 0, h2, .inl ⟨h1, rfl⟩⟩
    · exact ⟨_, 4, h2, .inr ⟨h1, rfl, rfl⟩⟩
  refine ⟨(o2, c2), hr2, fun b22 w23 hA22 => ⟨⟨rfl, hA22.blk.canN _ (Nat.le_refl _)⟩, fun w24 e24 => ?_⟩⟩
  obtain ⟨y22, k24, _⟩ := hA22.blk.putAll (vs := #[.int .i64 o2.Kind, .int .i64 o2.Robot, .int .i64 o2.Epoch, .int .i64 o2.Num, .int .i64 o2.Move.Kind, .int .i64 o2.Move.Dir, .int .i64 o2.Move.N, .int .i64 o2.Move.From.At.X, .int .i64 o2.Move.From.At.Y, .bool o2.Move.From.Down, .int .i64 o2.Move.To.At.X, .int .i64 o2.Move.To.At.Y, .bool o2.Move.To.Down, .int .i64 o2.Move.At, .int .i64 o2.Move.End, .int .i64 o2.Pose.At.X, .int .i64 o2.Pose.At.Y, .bool o2.Pose.Down, .int .i64 o2.Load]) rfl e24
  have s23 := hA22.eq
  have k1924 : Kp [] w19 w24 := hA22.kp.then k24 (by simp; omega)
  have kk24 := kk19.then0 k1924
  refine use (rGetTele_s (hd.keep0 kk24) hl) ?_
  rintro r3 w25 ⟨hG3, k25⟩
  obtain ⟨b3, hr3, hb3⟩ : ∃ (b3 : Bool), r3 = .tuple #[S.api_Tele.v o2, .bool b3] ∧ b3 = (c2 == 0) ∧ (b3 = false → c2 = 4) := by
    rcases hG3 with ⟨o', h1, h2⟩ | ⟨h1, h2⟩
    · rcases hc2 with ⟨g1, g2⟩ | ⟨g1, g2, g3⟩
      · rw [h1] at g1; injection g1 with g1; subst g1 g2; exact ⟨true, h2, rfl, fun h => by cases h⟩
      · rw [h1] at g1; cases g1
    · rcases hc2 with ⟨g1, g2⟩ | ⟨g1, g2, g3⟩
      · rw [h1] at g1; cases g1
      · subst g2 g3; exact ⟨false, h2, rfl, fun _ => rfl⟩
  have kk25 := kk24.then0 k25
  have s25 := kk25.size
  refine ⟨(o2, b3), hr3, fun b28 w29 hA28 => ⟨⟨rfl, hA28.blk.canN _ (Nat.le_refl _)⟩, fun w30 e30 w31 hD => ?_⟩⟩
  obtain ⟨y28, k30, _⟩ := hA28.blk.putAll (vs := #[.int .i64 o2.Kind, .int .i64 o2.Robot, .int .i64 o2.Epoch, .int .i64 o2.Num, .int .i64 o2.Move.Kind, .int .i64 o2.Move.Dir, .int .i64 o2.Move.N, .int .i64 o2.Move.From.At.X, .int .i64 o2.Move.From.At.Y, .bool o2.Move.From.Down, .int .i64 o2.Move.To.At.X, .int .i64 o2.Move.To.At.Y, .bool o2.Move.To.Down, .int .i64 o2.Move.At, .int .i64 o2.Move.End, .int .i64 o2.Pose.At.X, .int .i64 o2.Pose.At.Y, .bool o2.Pose.Down, .int .i64 o2.Load]) rfl e30
  have s29 := hA28.eq
  have k2531 : Kp [] w25 w31 := (hA28.kp.then k30 (by simp; omega)).then0 hD.kp
  have kk31 := kk25.then0 k2531
  -- what lies where, at w31
  have k431 : Kp [] w4 w31 := (((((k7.then0 k10).then0 k1015).then0 k16).then0 k19).then0 k1924).then0 (k25.then0 k2531)
  have z1 : Blk w31 b1 [.int .i64 o.Kind, .int .i64 o.Robot, .int .i64 o.Epoch, .int .i64 o.Num, .int .i64 o.Move.Kind, .int .i64 o.Move.Dir, .int .i64 o.Move.N, .int .i64 o.Move.From.At.X, .int .i64 o.Move.From.At.Y, .bool o.Move.From.Down, .int .i64 o.Move.To.At.X, .int .i64 o.Move.To.At.Y, .bool o.Move.To.Down, .int .i64 o.Move.At, .int .i64 o.Move.End, .int .i64 o.Pose.At.X, .int .i64 o.Pose.At.Y, .bool o.Pose.Down, .int .i64 o.Load] := (y1.keep k4 (by simp)).keep k431 (by simp)
  have zx := ox.rds.keep0 k431
  refine ⟨str _, zx.str, o, ⟨rfl, z1.rd0⟩, use (rPutTele_s o ho w31) ?_⟩
  rintro _ w34 ⟨u, rfl, ou, k34⟩
  have kk34 := kk31.then0 k34
  have z13 : Blk w34 b13 [.int .i64 o.Kind, .int .i64 o.Robot, .int .i64 o.Epoch, .int .i64 o.Num, .int .i64 o.Move.Kind, .int .i64 o.Move.Dir, .int .i64 o.Move.N, .int .i64 o.Move.From.At.X, .int .i64 o.Move.From.At.Y, .bool o.Move.From.Down, .int .i64 o.Move.To.At.X, .int .i64 o.Move.To.At.Y, .bool o.Move.To.Down, .int .i64 o.Move.At, .int .i64 o.Move.End, .int .i64 o.Pose.At.X, .int .i64 o.Pose.At.Y, .bool o.Pose.Down, .int .i64 o.Load] := (y13.keep ((((k16.then0 k19).then0 k1924).then0 k25).then0 k2531) (by simp)).keep k34 (by simp)
  have z22 : Blk w34 b22 [.int .i64 o2.Kind, .int .i64 o2.Robot, .int .i64 o2.Epoch, .int .i64 o2.Num, .int .i64 o2.Move.Kind, .int .i64 o2.Move.Dir, .int .i64 o2.Move.N, .int .i64 o2.Move.From.At.X, .int .i64 o2.Move.From.At.Y, .bool o2.Move.From.Down, .int .i64 o2.Move.To.At.X, .int .i64 o2.Move.To.At.Y, .bool o2.Move.To.Down, .int .i64 o2.Move.At, .int .i64 o2.Move.End, .int .i64 o2.Pose.At.X, .int .i64 o2.Pose.At.Y, .bool o2.Pose.Down, .int .i64 o2.Load] := (y22.keep (k25.then0 k2531) (by simp)).keep k34 (by simp)
  have z28 : Blk w34 b28 [.int .i64 o2.Kind, .int .i64 o2.Robot, .int .i64 o2.Epoch, .int .i64 o2.Num, .int .i64 o2.Move.Kind, .int .i64 o2.Move.Dir, .int .i64 o2.Move.N, .int .i64 o2.Move.From.At.X, .int .i64 o2.Move.From.At.Y, .bool o2.Move.From.Down, .int .i64 o2.Move.To.At.X, .int .i64 o2.Move.To.At.Y, .bool o2.Move.To.Down, .int .i64 o2.Move.At, .int .i64 o2.Move.End, .int .i64 o2.Pose.At.X, .int .i64 o2.Pose.At.Y, .bool o2.Pose.Down, .int .i64 o2.Load] := (y28.keep hD.kp (by simp)).keep k34 (by simp)
  have z1' := z1.keep k34 (by simp)
  refine ⟨u, rfl, (zx.keep0 k34).str.2, str _, ou.rds.str, cond_t (by rw [strEq_str]; simp) (cond_t rfl ⟨o, ⟨rfl, z13.rd0⟩, o, ⟨rfl, z1'.rd0⟩, cond_t (by simp) (cond_t (by rw [hb3.1]; simp) ?_)⟩)⟩
  cases hbb : b3
  · refine cond_f rfl (cond_t (by rw [hb3.2 hbb]; rfl) ⟨o2, ⟨rfl, z22.rd0⟩, o2, ⟨rfl, z28.rd0⟩, cond_t (by simp) (aw_s kk34)⟩)
  · exact cond_t rfl ⟨o2, ⟨rfl, z22.rd0⟩, o2, ⟨rfl, z28.rd0⟩, cond_t (by simp) (aw_s kk34)⟩)
end Go.Proofs.Ytocbjadhcfjfiaa
