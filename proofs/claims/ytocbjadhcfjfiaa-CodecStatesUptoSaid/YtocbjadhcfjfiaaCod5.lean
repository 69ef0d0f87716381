/- The laws Numbers, Ops. No conditions. -/
import Derived.Test.YtocbjadhcfjfiaaCod4
namespace Go.Proofs.Ytocbjadhcfjfiaa
open Go.RowKit Go.Eng
set_option linter.unusedVariables false
theorem pOp_res {l : Bs} {st s1 s2 s3 : Option Nat} {x y z : Int} (h1 : Res num l st x s1) (h2 : Res num l s1 y s2) (h3 : Res num l s2 z s3) : Res pOp l st ⟨x, y, z⟩ s3 := by
  rcases h1 with ⟨a, b, rfl, rfl, e1⟩ | ⟨rfl, e1⟩
  · rcases h2 with ⟨c, d, g, rfl, e2⟩ | ⟨rfl, e2⟩
    · injection g with g
      subst g
      rcases h3 with ⟨c', d', g, rfl, e3⟩ | ⟨rfl, e3⟩
      · injection g with g
        subst g
        exact .inl ⟨a, d', rfl, rfl, by simp [pOp, e1, e2, e3]⟩
      · exact .inr ⟨rfl, fun i hi => by injection hi with hi; subst hi; simp [pOp, e1, e2, e3 _ rfl]⟩
    · rcases h3 with ⟨c', d', g, rfl, e3⟩ | ⟨rfl, e3⟩
      · cases g
      · exact .inr ⟨rfl, fun i hi => by injection hi with hi; subst hi; simp [pOp, e1, e2 _ rfl]⟩
  · rcases h2 with ⟨c, d, g, rfl, e2⟩ | ⟨rfl, e2⟩
    · cases g
    · rcases h3 with ⟨c', d', g, rfl, e3⟩ | ⟨rfl, e3⟩
      · cases g
      · exact .inr ⟨rfl, fun i hi => by simp [pOp, e1 i hi]⟩
set_option maxHeartbeats 1000000 in
theorem rGetOp_s {w : World} {s : Sl} {l : Bs} (hd : RdB w s l) (hl : l.length ≤ 140737488355328) : C.skepref05_GetOp s w (fun r w' => GotR pOp S.api_Op.v ⟨0, 0, 0⟩ l r ∧ Kp [] w w') noP := skepref05_GetOp_of (by
  unfold W.skepref05_GetOp
  intro b1 w2 hA1 b3 w4 hA3 b5 w6 hA5
  have s2 := hA1.eq
  have s4 := hA3.eq
  have s6 := hA5.eq
  refine ⟨⟨rfl, hA5.blk.canN _ (Nat.le_refl _)⟩, fun w7 e7 => ?_⟩
  obtain ⟨q5, k7', _⟩ := hA5.blk.putAll (vs := #[.int .i64 0, .int .i64 0, .int .i64 0]) rfl e7
  have k6 : Kp [] w w6 := (hA1.kp.then0 hA3.kp).then0 hA5.kp
  have k7 : Kp [] w w7 := k6.then k7' (by simp; omega)
  have hR : RsR w7 b3 s l (some 0) := ⟨⟨0, false, (hA3.blk.keep hA5.kp (by simp)).keep k7' (by simp; omega), rfl, rfl, Nat.zero_le _⟩, hd.keep0 k7, fun h0 h => by have := hd.ltB (by omega) h0 _ h; omega, hl⟩
  have q1 := ((hA1.blk.keep hA3.kp (by simp)).keep hA5.kp (by simp)).keep k7' (by simp; omega)
  have nb : ∀ b, w.heap.size ≤ b → 0 < s.len → ∀ y ∈ blkOf s, y ∉ [b] := fun b hb h0 y hy => by have := hd.ltB (by omega) h0 y hy; simp; omega
  refine use (R_Number_p b3 w7 s l _ hR) ?_
  rintro _ w8 ⟨x1, t1, rfl, r1, R1, m1⟩
  replace q5 := q5.keep m1 (by simp; omega)
  refine ⟨x1, rfl, ⟨rfl, q5.can1 _ rfl (Nat.le_of_ble_eq_true rfl)⟩, fun w11 e11 => ?_⟩
  obtain ⟨q5, k11, _⟩ := q5.put1 (i := 0) rfl e11
  refine use (R_Number_p b3 w11 s l _ (R1.keep k11 (by simp; omega) (nb b5 (by omega)))) ?_
  rintro _ w12 ⟨x2, t2, rfl, r2, R2, m2⟩
  replace q5 := q5.keep m2 (by simp; omega)
  refine ⟨x2, rfl, ⟨rfl, q5.can1 _ rfl (Nat.le_of_ble_eq_true rfl)⟩, fun w15 e15 => ?_⟩
  obtain ⟨q5, k15, _⟩ := q5.put1 (i := 1) rfl e15
  refine use (R_Number_p b3 w15 s l _ (R2.keep k15 (by simp; omega) (nb b5 (by omega)))) ?_
  rintro _ w16 ⟨x3, t3, rfl, r3, R3, m3⟩
  replace q5 := q5.keep m3 (by simp; omega)
  refine ⟨x3, rfl, ⟨rfl, q5.can1 _ rfl (Nat.le_of_ble_eq_true rfl)⟩, fun w19 e19 => ?_⟩
  obtain ⟨q5, k19, _⟩ := q5.put1 (i := 2) rfl e19
  have R4 := R3.keep k19 (by simp; omega) (nb b5 (by omega))
  have kk : Kp [b3, b5] w7 w19 := (((((m1.mono (by simp)).then k11 (by simp)).then m2 (by simp)).then k15 (by simp)).then m3 (by simp)).then k19 (by simp)
  refine use (R_whole_s R4) ?_
  rintro _ w20 ⟨rfl, k20⟩
  have hw := whole_st (pOp_res r1 r2 r3) R4.le
  replace q5 := q5.keep k20 (by simp)
  replace q1 := (q1.keep kk (by simp; omega)).keep k20 (by simp)
  have k20' : Kp [] w w20 := (k7.then kk (by simp; omega)).then0 k20
  refine ⟨_, rfl, ?_⟩
  have bad : whole pOp l = none → (okVal true 3 (.agg #[.int .i64 0, .int .i64 0, .int .i64 0]) = true ∧ canPut w20 ⟨b1, 0, none⟩ (.agg #[.int .i64 0, .int .i64 0, .int .i64 0])) ∧ ∀ w23 : World, w23 = putAt w20 ⟨b1, 0, none⟩ (.agg #[.int .i64 0, .int .i64 0, .int .i64 0]) → ∃ y24 : S.api_Op, (okVal true 3 (S.api_Op.v y24) = true ∧ Go.Eng.rd w23 ⟨b1, 0, none⟩ (S.api_Op.v y24)) ∧ (GotR pOp S.api_Op.v ⟨0, 0, 0⟩ l (.tuple #[S.api_Op.v y24, .bool false]) ∧ Kp [] w w23) := fun hn => by
    refine ⟨⟨rfl, q1.canN _ (Nat.le_refl _)⟩, fun w23 e23 => ?_⟩
    obtain ⟨g1, k23, _⟩ := q1.putAll (vs := #[.int .i64 0, .int .i64 0, .int .i64 0]) rfl e23
    exact ⟨⟨0, 0, 0⟩, ⟨rfl, g1.rd0⟩, .inr ⟨hn, rfl⟩, k20'.then k23 (by simp; omega)⟩
  cases t3 with
  | none => exact cond_t rfl (bad hw)
  | some k =>
    dsimp only at hw ⊢
    by_cases hk : k = l.length
    · rw [if_pos hk] at hw
      refine cond_f (by simp [hk]) ⟨⟨x1, x2, x3⟩, ⟨rfl, q5.rd0⟩, ⟨rfl, q1.canN _ (Nat.le_refl _)⟩, fun w26 e26 => ?_⟩
      obtain ⟨g1, k26, _⟩ := q1.putAll (vs := #[.int .i64 x1, .int .i64 x2, .int .i64 x3]) rfl e26
      exact ⟨⟨x1, x2, x3⟩, ⟨rfl, g1.rd0⟩, .inl ⟨_, hw, rfl⟩, k20'.then k26 (by simp; omega)⟩
    · rw [if_neg hk] at hw
      exact cond_t (by simp [hk]) (bad hw))
theorem own_lt {w : World} {B sz : Nat} {s : Sl} {xs : List Value} (h : Go.Eng.Own w B sz s xs) : ∀ y ∈ blkOf s, y < w.heap.size := fun y hy => (h.lo y hy).2
theorem whole_b (o : S.api_Op) (h : okOp o) : whole pOp (bOp o) = some o := by
  have := p_bOp h []
  rw [List.append_nil] at this
  unfold whole
  rw [this]
theorem opEq (o : S.api_Op) : (((o.Kind : Int) == o.Kind) && (((o.A : Int) == o.A) && (((o.B : Int) == o.B) && true))) = true := by simp
set_option maxHeartbeats 2000000 in
theorem CodecOps_s (o : S.api_Op) (s : Sl) {l : Bs} (ho : okOp o) (w : World) (hd : RdB w s l) (hl : l.length ≤ 140737488355328) : C.skeplaw05_CodecOps o s w (fun v w' => v = .bool true ∧ Kp [] w w') noP := skeplaw05_CodecOps_of (by
  unfold W.skeplaw05_CodecOps
  intro b1 w2 hA
  have s2 := hA.eq
  have y1 : Blk w2 b1 [.int .i64 o.Kind, .int .i64 o.A, .int .i64 o.B] := hA.blk
  refine ⟨o, ⟨rfl, y1.rd0⟩, use (PutOp_s o ho w2) ?_⟩
  rintro _ w4 ⟨x, rfl, ox, k4⟩
  have bl := bOp_len o
  refine ⟨x, rfl, use (CopyBytes_s x ox.rds (by omega)) ?_⟩
  rintro _ w7 ⟨x', rfl, ox', k7⟩
  refine ⟨x', rfl, use (GetOp_s ox'.rds (by omega) (own_lt ox')) ?_⟩
  rintro r w10 ⟨hG, k10⟩
  have hG1 : r = .tuple #[S.api_Op.v o, .int .i64 0] := by
    rcases hG with ⟨o', h1, h2⟩ | ⟨h1, h2⟩
    · rw [whole_b o ho] at h1; injection h1 with h1; subst h1; exact h2
    · rw [whole_b o ho] at h1; cases h1
  have kk10 : Kp [] w w10 := ((hA.kp.then0 k4).then0 k7).then0 k10
  have s10 := kk10.size
  refine ⟨(o, 0), hG1, fun b13 w14 hA13 => ⟨⟨rfl, hA13.blk.canN _ (Nat.le_refl _)⟩, fun w15 e15 => ?_⟩⟩
  obtain ⟨y13, k15, _⟩ := hA13.blk.putAll (vs := #[.int .i64 o.Kind, .int .i64 o.A, .int .i64 o.B]) rfl e15
  have s14 := hA13.eq
  have k1015 : Kp [] w10 w15 := hA13.kp.then k15 (by simp; omega)
  have kk15 := kk10.then0 k1015
  refine use (CopyBytes_s s (hd.keep0 kk15) (by omega)) ?_
  rintro _ w16 ⟨z, rfl, oz, k16⟩
  refine ⟨z, rfl, use (GetOp_s oz.rds hl (own_lt oz)) ?_⟩
  rintro r2 w19 ⟨hG2, k19⟩
  have kk19 := (kk15.then0 k16).then0 k19
  have s19 := kk19.size
  obtain ⟨o2, c2, hr2, hc2⟩ : ∃ (o2 : S.api_Op) (c2 : Int), r2 = .tuple #[S.api_Op.v o2, .int .i64 c2] ∧ ((whole pOp l = some o2 ∧ c2 = 0) ∨ (whole pOp l = none ∧ o2 = ⟨0, 0, 0⟩ ∧ c2 = 4)) := by
    rcases hG2 with ⟨o', h1, h2⟩ | ⟨h1, h2⟩
    · exact ⟨o', 0, h2, .inl ⟨h1, rfl⟩⟩
    · exact ⟨_, 4, h2, .inr ⟨h1, rfl, rfl⟩⟩
  refine ⟨(o2, c2), hr2, fun b22 w23 hA22 => ⟨⟨rfl, hA22.blk.canN _ (Nat.le_refl _)⟩, fun w24 e24 => ?_⟩⟩
  obtain ⟨y22, k24, _⟩ := hA22.blk.putAll (vs := #[.int .i64 o2.Kind, .int .i64 o2.A, .int .i64 o2.B]) rfl e24
  have s23 := hA22.eq
  have k1924 : Kp [] w19 w24 := hA22.kp.then k24 (by simp; omega)
  have kk24 := kk19.then0 k1924
  refine use (rGetOp_s (hd.keep0 kk24) hl) ?_
  rintro r3 w25 ⟨hG3, k25⟩
  obtain ⟨b3, hr3, hb3⟩ : ∃ (b3 : Bool), r3 = .tuple #[S.api_Op.v o2, .bool b3] ∧ b3 = (c2 == 0) ∧ (b3 = false → c2 = 4) := by
    rcases hG3 with ⟨o', h1, h2⟩ | ⟨h1, h2⟩
    · rcases hc2 with ⟨g1, g2⟩ | ⟨g1, g2, g3⟩
      · rw [h1] at g1; injection g1 with g1; subst g1 g2; exact ⟨true, h2, rfl, fun h => by cases h⟩
      · rw [h1] at g1; cases g1
    · rcases hc2 with ⟨g1, g2⟩ | ⟨g1, g2, g3⟩
      · rw [h1] at g1; cases g1
      · subst g2 g3; exact ⟨false, h2, rfl, fun _ => rfl⟩
  have kk25 := kk24.then0 k25
  have s25 := kk25.size
  refine ⟨(o2, b3), hr3, fun b28 w29 hA28 => ⟨⟨rfl, hA28.blk.canN _ (Nat.le_refl _)⟩, fun w30 e30 w31 hD => ?_⟩⟩
  obtain ⟨y28, k30, _⟩ := hA28.blk.putAll (vs := #[.int .i64 o2.Kind, .int .i64 o2.A, .int .i64 o2.B]) rfl e30
  have s29 := hA28.eq
  have k2531 : Kp [] w25 w31 := (hA28.kp.then k30 (by simp; omega)).then0 hD.kp
  have kk31 := kk25.then0 k2531
  -- what lies where, at w31
  have k431 : Kp [] w4 w31 := (((((k7.then0 k10).then0 k1015).then0 k16).then0 k19).then0 k1924).then0 (k25.then0 k2531)
  have z1 : Blk w31 b1 [.int .i64 o.Kind, .int .i64 o.A, .int .i64 o.B] := (y1.keep k4 (by simp)).keep k431 (by simp)
  have zx := ox.rds.keep0 k431
  refine ⟨str _, zx.str, o, ⟨rfl, z1.rd0⟩, use (rPutOp_s o ho w31) ?_⟩
  rintro _ w34 ⟨u, rfl, ou, k34⟩
  have kk34 := kk31.then0 k34
  have z13 : Blk w34 b13 [.int .i64 o.Kind, .int .i64 o.A, .int .i64 o.B] := (y13.keep ((((k16.then0 k19).then0 k1924).then0 k25).then0 k2531) (by simp)).keep k34 (by simp)
  have z22 : Blk w34 b22 [.int .i64 o2.Kind, .int .i64 o2.A, .int .i64 o2.B] := (y22.keep (k25.then0 k2531) (by simp)).keep k34 (by simp)
  have z28 : Blk w34 b28 [.int .i64 o2.Kind, .int .i64 o2.A, .int .i64 o2.B] := (y28.keep hD.kp (by simp)).keep k34 (by simp)
  have z1' := z1.keep k34 (by simp)
  refine ⟨u, rfl, (zx.keep0 k34).str.2, str _, ou.rds.str, cond_t (by rw [strEq_str]; simp) (cond_t rfl ⟨o, ⟨rfl, z13.rd0⟩, o, ⟨rfl, z1'.rd0⟩, cond_t (opEq o) (cond_t (by rw [hb3.1]; simp) ?_)⟩)⟩
  cases hbb : b3
  · refine cond_f rfl (cond_t (by rw [hb3.2 hbb]; rfl) ⟨o2, ⟨rfl, z22.rd0⟩, o2, ⟨rfl, z28.rd0⟩, cond_t (opEq o2) (aw_s kk34)⟩)
  · exact cond_t rfl ⟨o2, ⟨rfl, z22.rd0⟩, o2, ⟨rfl, z28.rd0⟩, cond_t (opEq o2) (aw_s kk34)⟩)
end Go.Proofs.Ytocbjadhcfjfiaa
