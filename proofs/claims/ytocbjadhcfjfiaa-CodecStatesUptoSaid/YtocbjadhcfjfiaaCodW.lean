/- Stacks, robots, ports and their lists, read by the code. Printed by gen_nestr.py. No conditions. -/
import Derived.Test.YtocbjadhcfjfiaaCodV
namespace Go.Proofs.Ytocbjadhcfjfiaa
open Go.RowKit Go.Eng
set_option linter.unusedVariables false
set_option linter.unusedSimpArgs false
set_option maxHeartbeats 2000000 in
theorem stack_p (r c : Nat) {w : World} {s : Sl} {l : Bs} {k : Nat} (h : RdR w r s l k) (hc : Blk w c [.pointer (PK r)]) (hne : c ≠ r) (hl : l.length ≤ 100000000) :
    C.codec_GetState_1_1 (PK c) w (fun v w' => ∃ x m k', pStack (l.drop k) = some (m, l.drop k') ∧ v = S.api_Stack.v x ∧ StkR w' (fun y => w.heap.size ≤ y ∧ y < w'.heap.size) x m ∧ RdR w' r s l k' ∧ Kp [r] w w') (fun e w' => pStack (l.drop k) = none ∧ e = noneE ∧ Kp [r] w w') := codec_GetState_1_1_of (by
  unfold W.codec_GetState_1_1
  intro b1 v2 hA1
  have s2 := hA1.eq
  have hr := h.b.lt
  have hcl := hc.lt
  have kp0 : Kp [r] w v2 := hA1.kp.up _
  have q1 := hA1.blk
  have qc := hc.keep hA1.kp (by simp)
  refine ⟨PK r, ⟨rfl, qc.at rfl⟩, ?_⟩
  refine use2 (reader_cell_p r v2 s l k (h.keep0 hA1.kp)) ?_ (fun c w' ⟨h1, h2, h3⟩ => ⟨by simp [pStack, mp, nx, h1], h2, kp0.then h3 (by simp)⟩)
  rintro _ u1 ⟨x1, k1, e1, rfl, h1, m1⟩
  have kp1 := kp0.then m1 (by simp)
  replace q1 := q1.keep m1 (by simp; omega)
  replace qc := qc.keep m1 (by simpa using hne)
  have z1 := m1.size
  refine ⟨x1, rfl, fun b8 u9 hA8 => ⟨⟨rfl, hA8.blk.canN _ (Nat.le_refl _)⟩, fun u10 e10 u11 hD11 => ?_⟩⟩
  obtain ⟨q8, g10, _⟩ := hA8.blk.putAll (vs := #[.int .i64 x1.X, .int .i64 x1.Y]) rfl e10
  have s9 := hA8.eq
  have k11 : Kp [] u1 u11 := (hA8.kp.then g10 (by simp; omega)).then0 hD11.kp
  replace q8 := q8.keep hD11.kp (by simp)
  replace q1 := q1.keep k11 (by simp)
  replace qc := qc.keep k11 (by simp)
  have h11 := h1.keep0 k11
  have kp11 := kp1.then0 k11
  have l8 := q8.lt
  have l1 := q1.lt
  refine ⟨x1, ⟨rfl, q8.rd0⟩, PK r, ⟨rfl, qc.at rfl⟩, PK r, ⟨rfl, qc.at rfl⟩, use2 (listN_p r h11 hl) ?_ (fun c w' ⟨h1, h2, h3⟩ => ⟨by simp [pStack, mp, nx, e1, h1], h2, kp11.then h3 (by simp)⟩)⟩
  rintro _ u2 ⟨s2', L, k2, rfl, e2, o2, h2, m2⟩
  have kp2 := kp11.then m2 (by simp)
  have z11 := kp11.size
  replace q8 := q8.keep m2 (by simp; omega)
  replace q1 := q1.keep m2 (by simp; omega)
  refine ⟨s2', rfl, q8.rd0, ⟨rfl, q1.canN _ (Nat.le_refl _)⟩, fun wz ez => ?_⟩
  obtain ⟨g1, gz, _⟩ := q1.putAll (vs := #[.int .i64 x1.X, .int .i64 x1.Y, slv s2']) rfl ez
  have zz := gz.size
  refine ⟨⟨x1, s2'⟩, ⟨rfl, g1.rd0⟩, ⟨x1, s2'⟩, ⟨x1, L⟩, k2, by simp [pStack, mp, nx, fStack, e1, e2], rfl, ⟨rfl, ((own_rdI o2).keep gz (fun y hy => by simp; omega)).mono (fun y hy => by omega)⟩, h.fresh h2 gz (by simp; omega), kp2.then gz (by simp; omega)⟩)
set_option maxHeartbeats 2000000 in
theorem port_p (r c : Nat) {w : World} {s : Sl} {l : Bs} {k : Nat} (h : RdR w r s l k) (hc : Blk w c [.pointer (PK r)]) (hne : c ≠ r) (hl : l.length ≤ 100000000) :
    C.codec_GetState_1_3 (PK c) w (fun v w' => ∃ x m k', pPort (l.drop k) = some (m, l.drop k') ∧ v = S.api_Port.v x ∧ PrtR w' (fun y => w.heap.size ≤ y ∧ y < w'.heap.size) x m ∧ RdR w' r s l k' ∧ Kp [r] w w') (fun e w' => pPort (l.drop k) = none ∧ e = noneE ∧ Kp [r] w w') := codec_GetState_1_3_of (by
  unfold W.codec_GetState_1_3
  intro b1 v2 hA1 b3 v4 hA3 v5 hD
  have s2 := hA1.eq
  have s4 := hA3.eq
  have s5 := hD.sz
  have hr := h.b.lt
  have hcl := hc.lt
  have k5' : Kp [] w v5 := (hA1.kp.then0 hA3.kp).then0 hD.kp
  have kp0 : Kp [r] w v5 := k5'.up _
  have q1 := (hA1.blk.keep hA3.kp (by simp)).keep hD.kp (by simp)
  have q3 := hA3.blk.keep hD.kp (by simp)
  have qc := hc.keep k5' (by simp)
  refine ⟨PK r, ⟨rfl, qc.at rfl⟩, PK r, ⟨rfl, qc.at rfl⟩, ?_⟩
  refine use2 (reader_number_p r v5 s l k (h.keep0 k5')) ?_ (fun c w' ⟨h1, h2, h3⟩ => ⟨by simp [pPort, mp, nx, h1], h2, kp0.then h3 (by simp)⟩)
  rintro _ u1 ⟨x1, k1, e1, rfl, h1, m1⟩
  have kp1 := kp0.then m1 (by simp)
  replace q1 := q1.keep m1 (by simp; omega)
  replace q3 := q3.keep m1 (by simp; omega)
  replace qc := qc.keep m1 (by simpa using hne)
  refine ⟨x1, rfl, qc.at rfl, use2 (reader_number_p r u1 s l k1 h1) ?_ (fun c w' ⟨h1, h2, h3⟩ => ⟨by simp [pPort, mp, nx, e1, h1], h2, kp1.then h3 (by simp)⟩)⟩
  rintro _ u2 ⟨x2, k2, e2, rfl, h2, m2⟩
  have kp2 := kp1.then m2 (by simp)
  replace q1 := q1.keep m2 (by simp; omega)
  replace q3 := q3.keep m2 (by simp; omega)
  replace qc := qc.keep m2 (by simpa using hne)
  refine ⟨x2, rfl, ⟨rfl, q3.can1 _ rfl (Nat.le_of_ble_eq_true rfl)⟩, fun wa ea => ?_⟩
  obtain ⟨q3, ga, _⟩ := q3.put1 (i := 0) rfl ea
  refine ⟨⟨rfl, q3.can1 _ rfl (Nat.le_of_ble_eq_true rfl)⟩, fun wb eb => ?_⟩
  obtain ⟨q3, gb, _⟩ := q3.put1 (i := 1) rfl eb
  have gg : Kp [b3] u2 wb := ga.then gb (by simp)
  replace q1 := q1.keep gg (by simp; omega)
  replace qc := qc.keep gg (by simp; omega)
  have h2b := h.fresh h2 gg (by simp; omega)
  have kp3 := kp2.then gg (by simp; omega)
  have l3 := q3.lt
  have l1 := q1.lt
  refine ⟨PK r, ⟨rfl, qc.at rfl⟩, PK r, ⟨rfl, qc.at rfl⟩, use2 (listN_p r h2b hl) ?_ (fun c w' ⟨h1, h2, h3⟩ => ⟨by simp [pPort, mp, nx, e1, e2, h1], h2, kp3.then h3 (by simp)⟩)⟩
  rintro _ u3 ⟨s3', L, k3, rfl, e3, o3, h3, m3⟩
  have kp4 := kp3.then m3 (by simp)
  have z3 := kp3.size
  replace q3 := q3.keep m3 (by simp; omega)
  replace q1 := q1.keep m3 (by simp; omega)
  refine ⟨s3', rfl, ⟨rfl, q3.can1 _ rfl (Nat.le_of_ble_eq_true rfl)⟩, fun wd ed => ?_⟩
  obtain ⟨q3, gd, _⟩ := q3.put1 (i := 2) rfl ed
  have q3f : Blk wd b3 [.int .i64 x1, .int .i64 x2, slv s3'] := q3
  replace q1 := q1.keep gd (by simp; omega)
  refine ⟨⟨x1, x2, s3'⟩, ⟨rfl, q3f.rd0⟩, ⟨rfl, q1.canN _ (Nat.le_refl _)⟩, fun wz ez => ?_⟩
  obtain ⟨g1, gz, _⟩ := q1.putAll (vs := #[.int .i64 x1, .int .i64 x2, slv s3']) rfl ez
  have kez : Kp [b3, b1] u3 wz := (gd.mono (by simp)).then gz (by simp)
  have zz := kez.size
  refine ⟨⟨x1, x2, s3'⟩, ⟨rfl, g1.rd0⟩, ⟨x1, x2, s3'⟩, ⟨x1, x2, L⟩, k3, by simp [pPort, mp, nx, fPort, e1, e2, e3], rfl, ⟨⟨rfl, rfl⟩, ((own_rdI o3).keep kez (fun y hy => by simp; omega)).mono (fun y hy => by omega)⟩, h.fresh h3 kez (by simp; omega), kp4.then kez (by simp; omega)⟩)
theorem own_rdM {w : World} {B : Nat} {s : Sl} {L : List S.api_Move} (h : Go.Eng.Own w B 11 s (L.flatMap mvC)) : RdF w (fun y => B ≤ y ∧ y < w.heap.size) 11 S.api_Move.v s L := own_rdF h mvC_len (by decide) (fun _ => rfl)
set_option maxHeartbeats 4000000 in
theorem robot_p (r c : Nat) {w : World} {s : Sl} {l : Bs} {k : Nat} (h : RdR w r s l k) (hc : Blk w c [.pointer (PK r)]) (hne : c ≠ r) (hl : l.length ≤ 100000000) :
    C.codec_GetState_1_2 (PK c) w (fun v w' => ∃ x m k', pRobot (l.drop k) = some (m, l.drop k') ∧ v = S.api_Robot.v x ∧ RobR w' (fun y => w.heap.size ≤ y ∧ y < w'.heap.size) x m ∧ RdR w' r s l k' ∧ Kp [r] w w') (fun e w' => pRobot (l.drop k) = none ∧ e = noneE ∧ Kp [r] w w') := codec_GetState_1_2_of (by
  unfold W.codec_GetState_1_2
  intro b1 v2 hA1 b3 v4 hA3 v5 hD
  have s2 := hA1.eq
  have s4 := hA3.eq
  have s5 := hD.sz
  have hr := h.b.lt
  have hcl := hc.lt
  have k5' : Kp [] w v5 := (hA1.kp.then0 hA3.kp).then0 hD.kp
  have kp0 : Kp [r] w v5 := k5'.up _
  have q1 := (hA1.blk.keep hA3.kp (by simp)).keep hD.kp (by simp)
  have q3 := hA3.blk.keep hD.kp (by simp)
  have qc := hc.keep k5' (by simp)
  refine ⟨PK r, ⟨rfl, qc.at rfl⟩, PK r, ⟨rfl, qc.at rfl⟩, PK r, ⟨rfl, qc.at rfl⟩, ?_⟩
  refine use2 (reader_pose_p r v5 s l k (h.keep0 k5')) ?_ (fun c w' ⟨h1, h2, h3⟩ => ⟨by simp [pRobot, mp, nx, h1], h2, kp0.then h3 (by simp)⟩)
  rintro _ u1 ⟨x1, k1, e1, rfl, h1, m1⟩
  have kp1 := kp0.then m1 (by simp)
  replace q1 := q1.keep m1 (by simp; omega)
  replace q3 := q3.keep m1 (by simp; omega)
  replace qc := qc.keep m1 (by simpa using hne)
  refine ⟨x1, rfl, qc.at rfl, qc.at rfl, use2 (reader_number_p r u1 s l k1 h1) ?_ (fun c w' ⟨h1, h2, h3⟩ => ⟨by simp [pRobot, mp, nx, e1, h1], h2, kp1.then h3 (by simp)⟩)⟩
  rintro _ u2 ⟨x2, k2, e2, rfl, h2, m2⟩
  have kp2 := kp1.then m2 (by simp)
  replace q1 := q1.keep m2 (by simp; omega)
  replace q3 := q3.keep m2 (by simp; omega)
  replace qc := qc.keep m2 (by simpa using hne)
  refine ⟨x2, rfl, qc.at rfl, use2 (reader_number_p r u2 s l k2 h2) ?_ (fun c w' ⟨h1, h2, h3⟩ => ⟨by simp [pRobot, mp, nx, e1, e2, h1], h2, kp2.then h3 (by simp)⟩)⟩
  rintro _ u3 ⟨x3, k3, e3, rfl, h3, m3⟩
  have kp3 := kp2.then m3 (by simp)
  replace q1 := q1.keep m3 (by simp; omega)
  replace q3 := q3.keep m3 (by simp; omega)
  replace qc := qc.keep m3 (by simpa using hne)
  refine ⟨x3, rfl, ⟨rfl, q3.canN _ (Nat.le_of_ble_eq_true rfl)⟩, fun wa ea => ?_⟩
  obtain ⟨q3, ga, _⟩ := q3.putN (o := 0) (vs := #[.int .i64 x1.At.X, .int .i64 x1.At.Y, .bool x1.Down]) (Nat.le_of_ble_eq_true rfl) ea
  refine ⟨⟨rfl, q3.can1 _ rfl (Nat.le_of_ble_eq_true rfl)⟩, fun wb eb => ?_⟩
  obtain ⟨q3, gb, _⟩ := q3.put1 (i := 3) rfl eb
  refine ⟨⟨rfl, q3.can1 _ rfl (Nat.le_of_ble_eq_true rfl)⟩, fun wc ec => ?_⟩
  obtain ⟨q3, gc, _⟩ := q3.put1 (i := 4) rfl ec
  have gg : Kp [b3] u3 wc := (ga.then gb (by simp)).then gc (by simp)
  have q3c : Blk wc b3 [.int .i64 x1.At.X, .int .i64 x1.At.Y, .bool x1.Down, .int .i64 x2, .int .i64 x3, .slice none 0 0, .bool false, .int .i64 0, .bool false] := q3
  replace q1 := q1.keep gg (by simp; omega)
  replace qc := qc.keep gg (by simp; omega)
  have h3c := h.fresh h3 gg (by simp; omega)
  have kp4 := kp3.then gg (by simp; omega)
  have l3 := q3c.lt
  have l1 := q1.lt
  have lc := qc.lt
  refine ⟨PK r, ⟨rfl, qc.at rfl⟩, PK r, ⟨rfl, qc.at rfl⟩, use2 (list_p r h3c hl) ?_ (fun c w' ⟨h1, h2, h3⟩ => ⟨by simp [pRobot, mp, nx, e1, e2, e3, h1], h2, kp4.then h3 (by simp)⟩)⟩
  rintro _ u4 ⟨s4', L, k4, rfl, e4, o4, h4, m4⟩
  have kp5 := kp4.then m4 (by simp)
  have z4 := kp4.size
  have z5 := m4.size
  replace q3c := q3c.keep m4 (by simp; omega)
  replace q1 := q1.keep m4 (by simp; omega)
  replace qc := qc.keep m4 (by simpa using hne)
  refine ⟨s4', rfl, ⟨rfl, q3c.can1 _ rfl (Nat.le_of_ble_eq_true rfl)⟩, fun wd ed we hDe => ?_⟩
  obtain ⟨q3d, gd, _⟩ := q3c.put1 (i := 5) rfl ed
  have ge : Kp [b3] u4 we := gd.then0 hDe.kp
  have q3e : Blk we b3 [.int .i64 x1.At.X, .int .i64 x1.At.Y, .bool x1.Down, .int .i64 x2, .int .i64 x3, slv s4', .bool false, .int .i64 0, .bool false] := q3d.keep hDe.kp (by simp)
  replace q1 := q1.keep ge (by simp; omega)
  replace qc := qc.keep ge (by simp; omega)
  have h4e := h.fresh h4 ge (by simp; omega)
  have kp6 := kp5.then ge (by simp; omega)
  refine ⟨PK r, ⟨rfl, qc.at rfl⟩, PK r, ⟨rfl, qc.at rfl⟩, PK r, ⟨rfl, qc.at rfl⟩, use2 (reader_bool_p r we s l k4 h4e) ?_ (fun c w' ⟨h1, h2, h3⟩ => ⟨by simp [pRobot, mp, nx, e1, e2, e3, e4, h1], h2, kp6.then h3 (by simp)⟩)⟩
  rintro _ u5 ⟨x5, k5, e5, rfl, h5, m5⟩
  have kp7 := kp6.then m5 (by simp)
  replace q1 := q1.keep m5 (by simp; omega)
  replace q3e := q3e.keep m5 (by simp; omega)
  replace qc := qc.keep m5 (by simpa using hne)
  refine ⟨x5, rfl, qc.at rfl, qc.at rfl, use2 (reader_number_p r u5 s l k5 h5) ?_ (fun c w' ⟨h1, h2, h3⟩ => ⟨by simp [pRobot, mp, nx, e1, e2, e3, e4, e5, h1], h2, kp7.then h3 (by simp)⟩)⟩
  rintro _ u6 ⟨x6, k6, e6, rfl, h6, m6⟩
  have kp8 := kp7.then m6 (by simp)
  replace q1 := q1.keep m6 (by simp; omega)
  replace q3e := q3e.keep m6 (by simp; omega)
  replace qc := qc.keep m6 (by simpa using hne)
  refine ⟨x6, rfl, qc.at rfl, use2 (reader_bool_p r u6 s l k6 h6) ?_ (fun c w' ⟨h1, h2, h3⟩ => ⟨by simp [pRobot, mp, nx, e1, e2, e3, e4, e5, e6, h1], h2, kp8.then h3 (by simp)⟩)⟩
  rintro _ u7 ⟨x7, k7, e7, rfl, h7, m7⟩
  have kp9 := kp8.then m7 (by simp)
  replace q1 := q1.keep m7 (by simp; omega)
  replace q3e := q3e.keep m7 (by simp; omega)
  refine ⟨x7, rfl, ⟨rfl, q3e.can1 _ rfl (Nat.le_of_ble_eq_true rfl)⟩, fun wf ef => ?_⟩
  obtain ⟨q3e, gf, _⟩ := q3e.put1 (i := 6) rfl ef
  refine ⟨⟨rfl, q3e.can1 _ rfl (Nat.le_of_ble_eq_true rfl)⟩, fun wg eg => ?_⟩
  obtain ⟨q3e, g7, _⟩ := q3e.put1 (i := 7) rfl eg
  refine ⟨⟨rfl, q3e.can1 _ rfl (Nat.le_of_ble_eq_true rfl)⟩, fun wh eh => ?_⟩
  obtain ⟨q3e, g8, _⟩ := q3e.put1 (i := 8) rfl eh
  have gh : Kp [b3] u7 wh := (gf.then g7 (by simp)).then g8 (by simp)
  have q3f : Blk wh b3 [.int .i64 x1.At.X, .int .i64 x1.At.Y, .bool x1.Down, .int .i64 x2, .int .i64 x3, slv s4', .bool x5, .int .i64 x6, .bool x7] := q3e
  replace q1 := q1.keep gh (by simp; omega)
  refine ⟨⟨x1, x2, x3, s4', x5, x6, x7⟩, ⟨rfl, q3f.rd0⟩, ⟨rfl, q1.canN _ (Nat.le_refl _)⟩, fun wz ez => ?_⟩
  obtain ⟨g1, gz, _⟩ := q1.putAll (vs := #[.int .i64 x1.At.X, .int .i64 x1.At.Y, .bool x1.Down, .int .i64 x2, .int .i64 x3, slv s4', .bool x5, .int .i64 x6, .bool x7]) rfl ez
  have kez : Kp [b3, b1] u7 wz := (gh.mono (by simp)).then gz (by simp)
  have kall : Kp [r, b3, b1] u4 wz := ((((ge.mono (l' := [r, b3, b1]) (by simp)).then m5 (by simp)).then m6 (by simp)).then m7 (by simp)).then kez (by simp)
  have zz := kall.size
  refine ⟨⟨x1, x2, x3, s4', x5, x6, x7⟩, ⟨rfl, g1.rd0⟩, ⟨x1, x2, x3, s4', x5, x6, x7⟩, ⟨x1, x2, x3, L, x5, x6, x7⟩, k7, by simp [pRobot, mp, nx, fRobot, e1, e2, e3, e4, e5, e6, e7], rfl, ⟨⟨rfl, rfl, rfl, rfl, rfl, rfl⟩, ((own_rdM o4).keep kall (fun y hy => by simp; omega)).mono (fun y hy => by omega)⟩, h.fresh h7 kez (by simp; omega), kp9.then kez (by simp; omega)⟩)
theorem cStack_info : (Try.prog.info? 110).map (fun i => (i.zero, i.size, i.bytes)) = some (some (S.api_Stack.v ⟨⟨0, 0⟩, ⟨none, 0, 0⟩⟩), 3, 40) := by kernel_rfl
abbrev pStacks := pL pStack
set_option maxHeartbeats 2000000 in
theorem listStack_p (r c0 : Nat) {w : World} {s : Sl} {l : Bs} {k : Nat} (h : RdR w r s l k) (hc0 : Blk w c0 [.pointer (PK r)]) (hne : c0 ≠ r) (hl : l.length ≤ 100000000) :
    C.codec_list_api_Stack (PK r) (.func (.func 79) #[] #[.pointer (PK c0)]) w (fun v w' => ∃ (s' : Sl) (L : List M.api_Stack) (k' : Nat), v = slv s' ∧ pStacks (l.drop k) = some (L, l.drop k') ∧ LE w' w.heap.size 3 cStack StkR s' L ∧ RdR w' r s l k' ∧ Kp [r] w w') (fun c w' => pStacks (l.drop k) = none ∧ c = noneE ∧ Kp [r] w w') := codec_list_api_Stack_of (by
  unfold W.codec_list_api_Stack
  refine use2 (reader_number_p r w s l k h) ?_ (fun c w' ⟨h1, h2, h3⟩ => ⟨by simp [pStacks, pL, h1], h2, h3⟩)
  rintro _ w1 ⟨n, k1, e1, rfl, h1, m1⟩
  have hle1 := h1.le
  have hsz := h1.d.bsize
  have hdl : (l.drop k1).length = l.length - k1 := List.length_drop
  refine ⟨n, rfl, fun w' => (0 ≤ n ∧ n ≤ ((l.length - k1 : Nat) : Int)) ∧ Kp [] w1 w', fun w5 hD => ?_, ?_⟩
  · have h5 := h1.keep0 hD.kp
    refine cond_d (fun hc => ⟨?_, rfl, m1.then0 hD.kp⟩) (fun hc => ⟨s, ⟨rfl, h5.b.at rfl⟩, _, ⟨rfl, h5.b.at rfl⟩, ?_⟩)
    · simp only [pStacks, pL, e1, Option.bind_some]
      rw [if_pos (.inl hc)]
    have ew : IntKind.i64.wrap ((s.len : Int) - (k1 : Int)) = ((l.length - k1 : Nat) : Int) := by rw [IntKind.wrap_i64]; omega
    rw [ew]
    refine cond_d (fun hc2 => ⟨?_, rfl, m1.then0 hD.kp⟩) (fun hc2 => ⟨⟨by omega, by omega⟩, hD.kp⟩)
    simp only [pStacks, pL, e1, Option.bind_some]
    rw [if_pos (.inr (by rw [hdl]; exact hc2))]
  rintro e0 w10 ⟨⟨hn0, hn1⟩, k10⟩
  obtain ⟨N, rfl⟩ : ∃ N : Nat, n = N := ⟨n.toNat, by omega⟩
  have hp : pStacks (l.drop k) = rep pStack N (l.drop k1) := by
    simp only [pStacks, pL, e1, Option.bind_some]
    rw [if_neg (by rw [hdl]; omega), Int.toNat_natCast]
  rw [hp]
  refine ⟨fun v i w' => ∃ (j : Nat) (L : List M.api_Stack) (k2 : Nat), i = j ∧ j ≤ N ∧ L.length = j ∧ LE w' w.heap.size 3 cStack StkR v L ∧ RdR w' r s l k2 ∧ Kp [r] w w' ∧ rep pStack N (l.drop k1) = (rep pStack (N - j) (l.drop k2)).map (fun q => (L ++ q.1, q.2)), fun _ i _ => N - i.toNat, ⟨⟨none, 0, 0⟩, rfl, _, rfl, 0, [], k1, rfl, by omega, rfl, LE.nil _ _ _ _ _, h1.keep0 k10, m1.then0 k10, by simp⟩, ?_⟩
  rintro e2 v _ w17 ⟨j, L, k2, rfl, hj, hLj, ho, h17, k17, hrep⟩
  refine cond_d (fun hc => ?_) (fun hc => ?_)
  · have hj2 : j < N := by omega
    rw [show IntKind.i64.wrap ((j : Int) + 1) = ((j + 1 : Nat) : Int) by rw [IntKind.wrap_i64]; omega]
    refine ⟨by kernel_rfl, use2 (stack_p r c0 h17 (hc0.keep k17 (by simpa using hne)) hne hl) ?_ (fun c w' ⟨g1, g2, g3⟩ => ⟨rep_bad hj2 hrep g1, g2, k17.then g3 (by simp)⟩)⟩
    rintro _ w18 ⟨x, m, k3, ex, rfl, hx18, h18, m18⟩
    have hlo := ho.lo
    have hr := h.b.lt
    have ho18 := ho.keep stk_stays m18 (fun y hy1 hy2 => by simp; omega)
    have s17 := k17.size
    have s18 := m18.size
    refine ⟨x, rfl, fun b21 w22 hA => ?_⟩
    obtain ⟨q, n, c, w26, hrun, ho26, k26, hq⟩ := ho18.push (P := Try.prog) (ty := 72) stk_stays Try.underlying72 cStack_info rfl (by decide) (by decide) cStack_len cStack_leaf (by omega) (stk_stays.mono hx18 (fun y hy => ⟨by omega, hy.2, fun hm => by have := hlo y hm; omega⟩)) (by omega) hA
    exact ⟨q, n, c, w26, hrun, ⟨q, n, c⟩, rfl, _, rfl, ⟨j + 1, L ++ [m], k3, rfl, by omega, by simp [hLj], ho26, h.fresh h18 k26 (fun y hy => (hlo y hy).1), (k17.then m18 (by simp)).then k26 (fun y hy => .inr (hlo y hy).1), rep_step hj2 hrep ex⟩, by simp only [Int.toNat_natCast]; omega⟩
  · have : j = N := by omega
    subst this
    rw [Nat.sub_self, rep] at hrep
    exact ⟨v, L, k2, rfl, by rw [hrep]; simp, ho, h17, k17⟩)
theorem cRobot_info : (Try.prog.info? 116).map (fun i => (i.zero, i.size, i.bytes)) = some (some (S.api_Robot.v ⟨⟨⟨0, 0⟩, false⟩, 0, 0, ⟨none, 0, 0⟩, false, 0, false⟩), 9, 88) := by kernel_rfl
abbrev pRobots := pL pRobot
set_option maxHeartbeats 2000000 in
theorem listRobot_p (r c0 : Nat) {w : World} {s : Sl} {l : Bs} {k : Nat} (h : RdR w r s l k) (hc0 : Blk w c0 [.pointer (PK r)]) (hne : c0 ≠ r) (hl : l.length ≤ 100000000) :
    C.codec_list_api_Robot (PK r) (.func (.func 83) #[] #[.pointer (PK c0)]) w (fun v w' => ∃ (s' : Sl) (L : List M.api_Robot) (k' : Nat), v = slv s' ∧ pRobots (l.drop k) = some (L, l.drop k') ∧ LE w' w.heap.size 9 cRobot RobR s' L ∧ RdR w' r s l k' ∧ Kp [r] w w') (fun c w' => pRobots (l.drop k) = none ∧ c = noneE ∧ Kp [r] w w') := codec_list_api_Robot_of (by
  unfold W.codec_list_api_Robot
  refine use2 (reader_number_p r w s l k h) ?_ (fun c w' ⟨h1, h2, h3⟩ => ⟨by simp [pRobots, pL, h1], h2, h3⟩)
  rintro _ w1 ⟨n, k1, e1, rfl, h1, m1⟩
  have hle1 := h1.le
  have hsz := h1.d.bsize
  have hdl : (l.drop k1).length = l.length - k1 := List.length_drop
  refine ⟨n, rfl, fun w' => (0 ≤ n ∧ n ≤ ((l.length - k1 : Nat) : Int)) ∧ Kp [] w1 w', fun w5 hD => ?_, ?_⟩
  · have h5 := h1.keep0 hD.kp
    refine cond_d (fun hc => ⟨?_, rfl, m1.then0 hD.kp⟩) (fun hc => ⟨s, ⟨rfl, h5.b.at rfl⟩, _, ⟨rfl, h5.b.at rfl⟩, ?_⟩)
    · simp only [pRobots, pL, e1, Option.bind_some]
      rw [if_pos (.inl hc)]
    have ew : IntKind.i64.wrap ((s.len : Int) - (k1 : Int)) = ((l.length - k1 : Nat) : Int) := by rw [IntKind.wrap_i64]; omega
    rw [ew]
    refine cond_d (fun hc2 => ⟨?_, rfl, m1.then0 hD.kp⟩) (fun hc2 => ⟨⟨by omega, by omega⟩, hD.kp⟩)
    simp only [pRobots, pL, e1, Option.bind_some]
    rw [if_pos (.inr (by rw [hdl]; exact hc2))]
  rintro e0 w10 ⟨⟨hn0, hn1⟩, k10⟩
  obtain ⟨N, rfl⟩ : ∃ N : Nat, n = N := ⟨n.toNat, by omega⟩
  have hp : pRobots (l.drop k) = rep pRobot N (l.drop k1) := by
    simp only [pRobots, pL, e1, Option.bind_some]
    rw [if_neg (by rw [hdl]; omega), Int.toNat_natCast]
  rw [hp]
  refine ⟨fun v i w' => ∃ (j : Nat) (L : List M.api_Robot) (k2 : Nat), i = j ∧ j ≤ N ∧ L.length = j ∧ LE w' w.heap.size 9 cRobot RobR v L ∧ RdR w' r s l k2 ∧ Kp [r] w w' ∧ rep pRobot N (l.drop k1) = (rep pRobot (N - j) (l.drop k2)).map (fun q => (L ++ q.1, q.2)), fun _ i _ => N - i.toNat, ⟨⟨none, 0, 0⟩, rfl, _, rfl, 0, [], k1, rfl, by omega, rfl, LE.nil _ _ _ _ _, h1.keep0 k10, m1.then0 k10, by simp⟩, ?_⟩
  rintro e2 v _ w17 ⟨j, L, k2, rfl, hj, hLj, ho, h17, k17, hrep⟩
  refine cond_d (fun hc => ?_) (fun hc => ?_)
  · have hj2 : j < N := by omega
    rw [show IntKind.i64.wrap ((j : Int) + 1) = ((j + 1 : Nat) : Int) by rw [IntKind.wrap_i64]; omega]
    refine ⟨by kernel_rfl, use2 (robot_p r c0 h17 (hc0.keep k17 (by simpa using hne)) hne hl) ?_ (fun c w' ⟨g1, g2, g3⟩ => ⟨rep_bad hj2 hrep g1, g2, k17.then g3 (by simp)⟩)⟩
    rintro _ w18 ⟨x, m, k3, ex, rfl, hx18, h18, m18⟩
    have hlo := ho.lo
    have hr := h.b.lt
    have ho18 := ho.keep rob_stays m18 (fun y hy1 hy2 => by simp; omega)
    have s17 := k17.size
    have s18 := m18.size
    refine ⟨x, rfl, fun b21 w22 hA => ?_⟩
    obtain ⟨q, n, c, w26, hrun, ho26, k26, hq⟩ := ho18.push (P := Try.prog) (ty := 73) rob_stays Try.underlying73 cRobot_info rfl (by decide) (by decide) cRobot_len cRobot_leaf (by omega) (rob_stays.mono hx18 (fun y hy => ⟨by omega, hy.2, fun hm => by have := hlo y hm; omega⟩)) (by omega) hA
    exact ⟨q, n, c, w26, hrun, ⟨q, n, c⟩, rfl, _, rfl, ⟨j + 1, L ++ [m], k3, rfl, by omega, by simp [hLj], ho26, h.fresh h18 k26 (fun y hy => (hlo y hy).1), (k17.then m18 (by simp)).then k26 (fun y hy => .inr (hlo y hy).1), rep_step hj2 hrep ex⟩, by simp only [Int.toNat_natCast]; omega⟩
  · have : j = N := by omega
    subst this
    rw [Nat.sub_self, rep] at hrep
    exact ⟨v, L, k2, rfl, by rw [hrep]; simp, ho, h17, k17⟩)
theorem cPort_info : (Try.prog.info? 120).map (fun i => (i.zero, i.size, i.bytes)) = some (some (S.api_Port.v ⟨0, 0, ⟨none, 0, 0⟩⟩), 3, 40) := by kernel_rfl
abbrev pPorts := pL pPort
set_option maxHeartbeats 2000000 in
theorem listPort_p (r c0 : Nat) {w : World} {s : Sl} {l : Bs} {k : Nat} (h : RdR w r s l k) (hc0 : Blk w c0 [.pointer (PK r)]) (hne : c0 ≠ r) (hl : l.length ≤ 100000000) :
    C.codec_list_api_Port (PK r) (.func (.func 85) #[] #[.pointer (PK c0)]) w (fun v w' => ∃ (s' : Sl) (L : List M.api_Port) (k' : Nat), v = slv s' ∧ pPorts (l.drop k) = some (L, l.drop k') ∧ LE w' w.heap.size 3 cPort PrtR s' L ∧ RdR w' r s l k' ∧ Kp [r] w w') (fun c w' => pPorts (l.drop k) = none ∧ c = noneE ∧ Kp [r] w w') := codec_list_api_Port_of (by
  unfold W.codec_list_api_Port
  refine use2 (reader_number_p r w s l k h) ?_ (fun c w' ⟨h1, h2, h3⟩ => ⟨by simp [pPorts, pL, h1], h2, h3⟩)
  rintro _ w1 ⟨n, k1, e1, rfl, h1, m1⟩
  have hle1 := h1.le
  have hsz := h1.d.bsize
  have hdl : (l.drop k1).length = l.length - k1 := List.length_drop
  refine ⟨n, rfl, fun w' => (0 ≤ n ∧ n ≤ ((l.length - k1 : Nat) : Int)) ∧ Kp [] w1 w', fun w5 hD => ?_, ?_⟩
  · have h5 := h1.keep0 hD.kp
    refine cond_d (fun hc => ⟨?_, rfl, m1.then0 hD.kp⟩) (fun hc => ⟨s, ⟨rfl, h5.b.at rfl⟩, _, ⟨rfl, h5.b.at rfl⟩, ?_⟩)
    · simp only [pPorts, pL, e1, Option.bind_some]
      rw [if_pos (.inl hc)]
    have ew : IntKind.i64.wrap ((s.len : Int) - (k1 : Int)) = ((l.length - k1 : Nat) : Int) := by rw [IntKind.wrap_i64]; omega
    rw [ew]
    refine cond_d (fun hc2 => ⟨?_, rfl, m1.then0 hD.kp⟩) (fun hc2 => ⟨⟨by omega, by omega⟩, hD.kp⟩)
    simp only [pPorts, pL, e1, Option.bind_some]
    rw [if_pos (.inr (by rw [hdl]; exact hc2))]
  rintro e0 w10 ⟨⟨hn0, hn1⟩, k10⟩
  obtain ⟨N, rfl⟩ : ∃ N : Nat, n = N := ⟨n.toNat, by omega⟩
  have hp : pPorts (l.drop k) = rep pPort N (l.drop k1) := by
    simp only [pPorts, pL, e1, Option.bind_some]
    rw [if_neg (by rw [hdl]; omega), Int.toNat_natCast]
  rw [hp]
  refine ⟨fun v i w' => ∃ (j : Nat) (L : List M.api_Port) (k2 : Nat), i = j ∧ j ≤ N ∧ L.length = j ∧ LE w' w.heap.size 3 cPort PrtR v L ∧ RdR w' r s l k2 ∧ Kp [r] w w' ∧ rep pPort N (l.drop k1) = (rep pPort (N - j) (l.drop k2)).map (fun q => (L ++ q.1, q.2)), fun _ i _ => N - i.toNat, ⟨⟨none, 0, 0⟩, rfl, _, rfl, 0, [], k1, rfl, by omega, rfl, LE.nil _ _ _ _ _, h1.keep0 k10, m1.then0 k10, by simp⟩, ?_⟩
  rintro e2 v _ w17 ⟨j, L, k2, rfl, hj, hLj, ho, h17, k17, hrep⟩
  refine cond_d (fun hc => ?_) (fun hc => ?_)
  · have hj2 : j < N := by omega
    rw [show IntKind.i64.wrap ((j : Int) + 1) = ((j + 1 : Nat) : Int) by rw [IntKind.wrap_i64]; omega]
    refine ⟨by kernel_rfl, use2 (port_p r c0 h17 (hc0.keep k17 (by simpa using hne)) hne hl) ?_ (fun c w' ⟨g1, g2, g3⟩ => ⟨rep_bad hj2 hrep g1, g2, k17.then g3 (by simp)⟩)⟩
    rintro _ w18 ⟨x, m, k3, ex, rfl, hx18, h18, m18⟩
    have hlo := ho.lo
    have hr := h.b.lt
    have ho18 := ho.keep prt_stays m18 (fun y hy1 hy2 => by simp; omega)
    have s17 := k17.size
    have s18 := m18.size
    refine ⟨x, rfl, fun b21 w22 hA => ?_⟩
    obtain ⟨q, n, c, w26, hrun, ho26, k26, hq⟩ := ho18.push (P := Try.prog) (ty := 74) prt_stays Try.underlying74 cPort_info rfl (by decide) (by decide) cPort_len cPort_leaf (by omega) (prt_stays.mono hx18 (fun y hy => ⟨by omega, hy.2, fun hm => by have := hlo y hm; omega⟩)) (by omega) hA
    exact ⟨q, n, c, w26, hrun, ⟨q, n, c⟩, rfl, _, rfl, ⟨j + 1, L ++ [m], k3, rfl, by omega, by simp [hLj], ho26, h.fresh h18 k26 (fun y hy => (hlo y hy).1), (k17.then m18 (by simp)).then k26 (fun y hy => .inr (hlo y hy).1), rep_step hj2 hrep ex⟩, by simp only [Int.toNat_natCast]; omega⟩
  · have : j = N := by omega
    subst this
    rw [Nat.sub_self, rep] at hrep
    exact ⟨v, L, k2, rfl, by rw [hrep]; simp, ho, h17, k17⟩)
end Go.Proofs.Ytocbjadhcfjfiaa
