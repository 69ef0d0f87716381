/- Items of a state's lists, read through the captured reader. No conditions. -/
import Derived.Test.YtocbjadhcfjfiaaCodP
namespace Go.Proofs.Ytocbjadhcfjfiaa
open Go.RowKit Go.Eng
set_option linter.unusedVariables false
set_option linter.unusedSimpArgs false
set_option maxHeartbeats 2000000 in
theorem order_p (r c : Nat) {w : World} {s : Sl} {l : Bs} {k : Nat} (h : RdR w r s l k) (hc : Blk w c [.pointer (PK r)]) (hne : c ≠ r) :
    C.codec_GetState_1_4 (PK c) w (fun v w' => ∃ x k', pOrder (l.drop k) = some (x, l.drop k') ∧ v = S.api_Order.v x ∧ RdR w' r s l k' ∧ Kp [r] w w') (fun e w' => pOrder (l.drop k) = none ∧ e = noneE ∧ Kp [r] w w') := codec_GetState_1_4_of (by
  unfold W.codec_GetState_1_4
  intro b1 v2 hA1 b3 v4 hA3 v5 hD
  have s2 := hA1.eq
  have s4 := hA3.eq
  have s5 := hD.sz
  have hr := h.b.lt
  have hcl := hc.lt
  have k5' : Kp [] w v5 := (hA1.kp.then0 hA3.kp).then0 hD.kp
  have kp0 : Kp [r, b3] w v5 := k5'.up _
  have q1 := (hA1.blk.keep hA3.kp (by simp)).keep hD.kp (by simp)
  have q3 := hA3.blk.keep hD.kp (by simp)
  have qc := hc.keep k5' (by simp)
  refine ⟨PK r, ⟨rfl, qc.at rfl⟩, PK r, ⟨rfl, qc.at rfl⟩, PK r, ⟨rfl, qc.at rfl⟩, PK r, ⟨rfl, qc.at rfl⟩, ?_⟩
  refine use2 (reader_number_p r v5 s l k (h.keep0 k5')) ?_ (fun c w' ⟨h1, h2, h3⟩ => ⟨by simp [pOrder, mp, nx, h1], h2, (kp0.then h3 (by simp)).mono (by simp; omega)⟩)
  rintro _ u1 ⟨x1, k1, e1, rfl, h1, m1⟩
  have kp1 := kp0.then m1 (by simp)
  replace q1 := q1.keep m1 (by simp; omega)
  replace q3 := q3.keep m1 (by simp; omega)
  replace qc := qc.keep m1 (by simpa using hne)
  refine ⟨x1, rfl, qc.at rfl, qc.at rfl, qc.at rfl, use2 (reader_number_p r u1 s l k1 h1) ?_ (fun c w' ⟨h1, h2, h3⟩ => ⟨by simp [pOrder, mp, nx, e1, h1], h2, (kp1.then h3 (by simp)).mono (by simp; omega)⟩)⟩
  rintro _ u2 ⟨x2, k2, e2, rfl, h2, m2⟩
  have kp2 := kp1.then m2 (by simp)
  replace q1 := q1.keep m2 (by simp; omega)
  replace q3 := q3.keep m2 (by simp; omega)
  replace qc := qc.keep m2 (by simpa using hne)
  refine ⟨x2, rfl, qc.at rfl, qc.at rfl, use2 (reader_number_p r u2 s l k2 h2) ?_ (fun c w' ⟨h1, h2, h3⟩ => ⟨by simp [pOrder, mp, nx, e1, e2, h1], h2, (kp2.then h3 (by simp)).mono (by simp; omega)⟩)⟩
  rintro _ u3 ⟨x3, k3, e3, rfl, h3, m3⟩
  have kp3 := kp2.then m3 (by simp)
  replace q1 := q1.keep m3 (by simp; omega)
  replace q3 := q3.keep m3 (by simp; omega)
  replace qc := qc.keep m3 (by simpa using hne)
  refine ⟨x3, rfl, qc.at rfl, use2 (reader_number_p r u3 s l k3 h3) ?_ (fun c w' ⟨h1, h2, h3⟩ => ⟨by simp [pOrder, mp, nx, e1, e2, e3, h1], h2, (kp3.then h3 (by simp)).mono (by simp; omega)⟩)⟩
  rintro _ u4 ⟨x4, k4, e4, rfl, h4, m4⟩
  have kp4 := kp3.then m4 (by simp)
  replace q1 := q1.keep m4 (by simp; omega)
  replace q3 := q3.keep m4 (by simp; omega)
  refine ⟨x4, rfl, ⟨rfl, q3.can1 _ rfl (Nat.le_of_ble_eq_true rfl)⟩, fun wa ea => ?_⟩
  obtain ⟨q3, ga, _⟩ := q3.put1 (i := 0) rfl ea
  refine ⟨⟨rfl, q3.can1 _ rfl (Nat.le_of_ble_eq_true rfl)⟩, fun wb eb => ?_⟩
  obtain ⟨q3, gb, _⟩ := q3.put1 (i := 1) rfl eb
  refine ⟨⟨rfl, q3.can1 _ rfl (Nat.le_of_ble_eq_true rfl)⟩, fun wc ec => ?_⟩
  obtain ⟨q3, gc, _⟩ := q3.put1 (i := 2) rfl ec
  refine ⟨⟨rfl, q3.can1 _ rfl (Nat.le_of_ble_eq_true rfl)⟩, fun wd ed => ?_⟩
  obtain ⟨q3, gd, _⟩ := q3.put1 (i := 3) rfl ed
  have gg : Kp [b3] u4 wd := ((ga.then gb (by simp)).then gc (by simp)).then gd (by simp)
  have q3f : Blk wd b3 [.int .i64 x1, .int .i64 x2, .int .i64 x3, .int .i64 x4] := q3
  replace q1 := q1.keep gg (by simp; omega)
  refine ⟨⟨x1, x2, x3, x4⟩, ⟨rfl, q3f.rd0⟩, ⟨rfl, q1.canN _ (Nat.le_refl _)⟩, fun wz ez => ?_⟩
  obtain ⟨g1, gz, _⟩ := q1.putAll (vs := #[.int .i64 x1, .int .i64 x2, .int .i64 x3, .int .i64 x4]) rfl ez
  have kez : Kp [b3, b1] u4 wz := (gg.mono (by simp)).then gz (by simp)
  exact ⟨⟨x1, x2, x3, x4⟩, ⟨rfl, g1.rd0⟩, ⟨x1, x2, x3, x4⟩, k4, by simp [pOrder, mp, nx, fOrder, e1, e2, e3, e4], rfl, h.fresh h4 kez (by simp; omega), (kp4.mono (by simp; omega)).then kez (by simp; omega)⟩)
set_option maxHeartbeats 2000000 in
theorem job_p (r c : Nat) {w : World} {s : Sl} {l : Bs} {k : Nat} (h : RdR w r s l k) (hc : Blk w c [.pointer (PK r)]) (hne : c ≠ r) :
    C.codec_GetState_1_5 (PK c) w (fun v w' => ∃ x k', pJob (l.drop k) = some (x, l.drop k') ∧ v = S.api_Job.v x ∧ RdR w' r s l k' ∧ Kp [r] w w') (fun e w' => pJob (l.drop k) = none ∧ e = noneE ∧ Kp [r] w w') := codec_GetState_1_5_of (by
  unfold W.codec_GetState_1_5
  intro b1 v2 hA1 b3 v4 hA3 v5 hD
  have s2 := hA1.eq
  have s4 := hA3.eq
  have s5 := hD.sz
  have hr := h.b.lt
  have hcl := hc.lt
  have k5' : Kp [] w v5 := (hA1.kp.then0 hA3.kp).then0 hD.kp
  have kp0 : Kp [r, b3] w v5 := k5'.up _
  have q1 := (hA1.blk.keep hA3.kp (by simp)).keep hD.kp (by simp)
  have q3 := hA3.blk.keep hD.kp (by simp)
  have qc := hc.keep k5' (by simp)
  refine ⟨PK r, ⟨rfl, qc.at rfl⟩, PK r, ⟨rfl, qc.at rfl⟩, PK r, ⟨rfl, qc.at rfl⟩, PK r, ⟨rfl, qc.at rfl⟩, ?_⟩
  refine use2 (reader_number_p r v5 s l k (h.keep0 k5')) ?_ (fun c w' ⟨h1, h2, h3⟩ => ⟨by simp [pJob, mp, nx, h1], h2, (kp0.then h3 (by simp)).mono (by simp; omega)⟩)
  rintro _ u1 ⟨x1, k1, e1, rfl, h1, m1⟩
  have kp1 := kp0.then m1 (by simp)
  replace q1 := q1.keep m1 (by simp; omega)
  replace q3 := q3.keep m1 (by simp; omega)
  replace qc := qc.keep m1 (by simpa using hne)
  refine ⟨x1, rfl, qc.at rfl, qc.at rfl, qc.at rfl, use2 (reader_number_p r u1 s l k1 h1) ?_ (fun c w' ⟨h1, h2, h3⟩ => ⟨by simp [pJob, mp, nx, e1, h1], h2, (kp1.then h3 (by simp)).mono (by simp; omega)⟩)⟩
  rintro _ u2 ⟨x2, k2, e2, rfl, h2, m2⟩
  have kp2 := kp1.then m2 (by simp)
  replace q1 := q1.keep m2 (by simp; omega)
  replace q3 := q3.keep m2 (by simp; omega)
  replace qc := qc.keep m2 (by simpa using hne)
  refine ⟨x2, rfl, qc.at rfl, qc.at rfl, use2 (reader_number_p r u2 s l k2 h2) ?_ (fun c w' ⟨h1, h2, h3⟩ => ⟨by simp [pJob, mp, nx, e1, e2, h1], h2, (kp2.then h3 (by simp)).mono (by simp; omega)⟩)⟩
  rintro _ u3 ⟨x3, k3, e3, rfl, h3, m3⟩
  have kp3 := kp2.then m3 (by simp)
  replace q1 := q1.keep m3 (by simp; omega)
  replace q3 := q3.keep m3 (by simp; omega)
  replace qc := qc.keep m3 (by simpa using hne)
  refine ⟨x3, rfl, qc.at rfl, use2 (reader_number_p r u3 s l k3 h3) ?_ (fun c w' ⟨h1, h2, h3⟩ => ⟨by simp [pJob, mp, nx, e1, e2, e3, h1], h2, (kp3.then h3 (by simp)).mono (by simp; omega)⟩)⟩
  rintro _ u4 ⟨x4, k4, e4, rfl, h4, m4⟩
  have kp4 := kp3.then m4 (by simp)
  replace q1 := q1.keep m4 (by simp; omega)
  replace q3 := q3.keep m4 (by simp; omega)
  refine ⟨x4, rfl, ⟨rfl, q3.can1 _ rfl (Nat.le_of_ble_eq_true rfl)⟩, fun wa ea => ?_⟩
  obtain ⟨q3, ga, _⟩ := q3.put1 (i := 0) rfl ea
  refine ⟨⟨rfl, q3.can1 _ rfl (Nat.le_of_ble_eq_true rfl)⟩, fun wb eb => ?_⟩
  obtain ⟨q3, gb, _⟩ := q3.put1 (i := 1) rfl eb
  refine ⟨⟨rfl, q3.can1 _ rfl (Nat.le_of_ble_eq_true rfl)⟩, fun wc ec => ?_⟩
  obtain ⟨q3, gc, _⟩ := q3.put1 (i := 2) rfl ec
  refine ⟨⟨rfl, q3.can1 _ rfl (Nat.le_of_ble_eq_true rfl)⟩, fun wd ed => ?_⟩
  obtain ⟨q3, gd, _⟩ := q3.put1 (i := 3) rfl ed
  have gg : Kp [b3] u4 wd := ((ga.then gb (by simp)).then gc (by simp)).then gd (by simp)
  replace q1 := q1.keep gg (by simp; omega)
  replace qc := (qc.keep m4 (by simpa using hne)).keep gg (by simp; omega)
  intro we hDe
  have ge := gg.then0 hDe.kp
  have h4e := h.fresh h4 ge (by simp; omega)
  have kp5 := kp4.then ge (by simp)
  replace q1 := q1.keep hDe.kp (by simp)
  replace q3 := q3.keep hDe.kp (by simp)
  replace qc := qc.keep hDe.kp (by simp)
  refine ⟨PK r, ⟨rfl, qc.at rfl⟩, PK r, ⟨rfl, qc.at rfl⟩, ?_⟩
  refine use2 (reader_cell_p r we s l k4 h4e) ?_ (fun c w' ⟨h1, h2, h3⟩ => ⟨by simp [pJob, mp, nx, e1, e2, e3, e4, h1], h2, (kp5.then h3 (by simp)).mono (by simp; omega)⟩)
  rintro _ u5 ⟨x5, k5, e5, rfl, h5, m5⟩
  have kp6 := kp5.then m5 (by simp)
  replace q1 := q1.keep m5 (by simp; omega)
  replace q3 := q3.keep m5 (by simp; omega)
  replace qc := qc.keep m5 (by simpa using hne)
  refine ⟨x5, rfl, qc.at rfl, use2 (reader_cell_p r u5 s l k5 h5) ?_ (fun c w' ⟨h1, h2, h3⟩ => ⟨by simp [pJob, mp, nx, e1, e2, e3, e4, e5, h1], h2, (kp6.then h3 (by simp)).mono (by simp; omega)⟩)⟩
  rintro _ u6 ⟨x6, k6, e6, rfl, h6, m6⟩
  have kp7 := kp6.then m6 (by simp)
  replace q1 := q1.keep m6 (by simp; omega)
  replace q3 := q3.keep m6 (by simp; omega)
  replace qc := qc.keep m6 (by simpa using hne)
  refine ⟨x6, rfl, ⟨rfl, q3.canN _ (Nat.le_of_ble_eq_true rfl)⟩, fun wf ef => ?_⟩
  obtain ⟨q3', gf, _⟩ := q3.putN (o := 4) (vs := #[.int .i64 x5.X, .int .i64 x5.Y]) (Nat.le_of_ble_eq_true rfl) ef
  refine ⟨⟨rfl, q3'.canN _ (Nat.le_of_ble_eq_true rfl)⟩, fun wg eg => ?_⟩
  obtain ⟨q3'', g7, _⟩ := q3'.putN (o := 6) (vs := #[.int .i64 x6.X, .int .i64 x6.Y]) (Nat.le_of_ble_eq_true rfl) eg
  have gh : Kp [b3] u6 wg := gf.then g7 (by simp)
  have h6g := h.fresh h6 gh (by simp; omega)
  have kp8 := kp7.then gh (by simp)
  replace q1 := q1.keep gh (by simp; omega)
  replace qc := qc.keep gh (by simp; omega)
  refine ⟨PK r, ⟨rfl, qc.at rfl⟩, use2 (reader_number_p r wg s l k6 h6g) ?_ (fun c w' ⟨h1, h2, h3⟩ => ⟨by simp [pJob, mp, nx, e1, e2, e3, e4, e5, e6, h1], h2, (kp8.then h3 (by simp)).mono (by simp; omega)⟩)⟩
  rintro _ u7 ⟨x7, k7, e7, rfl, h7, m7⟩
  have kp9 := kp8.then m7 (by simp)
  replace q1 := q1.keep m7 (by simp; omega)
  replace q3'' := q3''.keep m7 (by simp; omega)
  refine ⟨x7, rfl, ⟨rfl, q3''.can1 _ rfl (Nat.le_of_ble_eq_true rfl)⟩, fun wh eh => ?_⟩
  obtain ⟨q3h, gx, _⟩ := q3''.put1 (i := 8) rfl eh
  have q3f : Blk wh b3 [.int .i64 x1, .int .i64 x2, .int .i64 x3, .int .i64 x4, .int .i64 x5.X, .int .i64 x5.Y, .int .i64 x6.X, .int .i64 x6.Y, .int .i64 x7] := q3h
  replace q1 := q1.keep gx (by simp; omega)
  refine ⟨⟨x1, x2, x3, x4, x5, x6, x7⟩, ⟨rfl, q3f.rd0⟩, ⟨rfl, q1.canN _ (Nat.le_refl _)⟩, fun wz ez => ?_⟩
  obtain ⟨g1, gz, _⟩ := q1.putAll (vs := #[.int .i64 x1, .int .i64 x2, .int .i64 x3, .int .i64 x4, .int .i64 x5.X, .int .i64 x5.Y, .int .i64 x6.X, .int .i64 x6.Y, .int .i64 x7]) rfl ez
  have kez : Kp [b3, b1] u7 wz := (gx.mono (by simp)).then gz (by simp)
  exact ⟨⟨x1, x2, x3, x4, x5, x6, x7⟩, ⟨rfl, g1.rd0⟩, ⟨x1, x2, x3, x4, x5, x6, x7⟩, k7, by simp [pJob, mp, nx, fJob, e1, e2, e3, e4, e5, e6, e7], rfl, h.fresh h7 kez (by simp; omega), (kp9.mono (by simp; omega)).then kez (by simp; omega)⟩)
end Go.Proofs.Ytocbjadhcfjfiaa
