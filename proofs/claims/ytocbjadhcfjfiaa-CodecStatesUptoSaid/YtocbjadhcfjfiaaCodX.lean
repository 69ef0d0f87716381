/- States: put and got by the code. Printed by gen_state.py. No conditions. -/
import Derived.Test.YtocbjadhcfjfiaaCodW
import Derived.Test.YtocbjadhcfjfiaaCatchS
namespace Go.Proofs.Ytocbjadhcfjfiaa
open Go.RowKit Go.Eng
set_option linter.unusedVariables false
set_option linter.unusedSimpArgs false
theorem isF_keep {α μ : Type} {w w' : World} {F : Nat → Prop} {sz : Nat} {v : α → Value} {R : World → (Nat → Prop) → α → μ → Prop} (hS : Stays R) {s : Sl} {L : List μ} {l : List Nat} (h : IsF w F sz v (R w F) s L) (k : Kp l w w') (hn : ∀ y, F y → y ∉ l) : IsF w' F sz v (R w' F) s L := h.keep k hn (fun _ _ _ g => hS.keep g k hn)
theorem isF_mono {α μ : Type} {w : World} {F G : Nat → Prop} {sz : Nat} {v : α → Value} {R : World → (Nat → Prop) → α → μ → Prop} (hS : Stays R) {s : Sl} {L : List μ} (h : IsF w F sz v (R w F) s L) (hF : ∀ y, F y → G y) : IsF w G sz v (R w G) s L := h.mono hF (fun _ _ _ g => hS.mono g hF)
set_option maxHeartbeats 4000000 in
theorem PutState_s {x : S.api_State} {m : M.api_State} (hm : okState m) {w : World} {F : Nat → Prop} (hR : StR w F x m) (hb : (bState m).length ≤ 1000000000) (hF : ∀ y, F y → y < w.heap.size) :
    C.codec_PutState x w (fun r w' => ∃ s : Sl, r = slv s ∧ OwnB w' w.heap.size s (bState m) ∧ Kp [] w w') noP := codec_PutState_of (by
  unfold W.codec_PutState
  obtain ⟨⟨⟨⟨⟨⟨⟨⟨⟨m1, m2⟩, _⟩, m4, n4⟩, m5, n5⟩, m6, n6⟩, m7, n7⟩, m8, n8⟩, m9⟩, m10⟩ := hm
  obtain ⟨g1, g2, g3, g9, g10⟩ := hR.sc
  have hl := hb
  simp only [bState, List.length_append] at hl
  intro b1 w2 hA w3 hD
  have s2 := hA.eq
  have s3 := hD.sz
  have k3 := hA.kp.then0 hD.kp
  have n1 : b1 ∉ blkOf ⟨none, 0, 0⟩ := by simp [blkOf]
  have l3 : b1 < w3.heap.size := by omega
  have hB1 : Blk w3 b1 [.int .i64 x.Seq, .int .i64 x.Epoch, .bool x.Held, slv x.Stacks, slv x.Robots, slv x.Ports, slv x.Orders, slv x.Jobs, .int .i64 x.NextOrder, .int .i64 x.NextJob] := hA.blk.keep hD.kp (by simp)
  have a0 := Acc.start (w := w3) (B := w.heap.size) (s := ⟨none, 0, 0⟩) (l := []) (Go.Eng.Own.nil _ _ _)
  refine ⟨_, ⟨rfl, hB1.at rfl⟩, _, ⟨rfl, hB1.at rfl⟩, _, ⟨rfl, hB1.at rfl⟩, use (a0.apd (number_a _ x.Seq (g1 ▸ m1)) (by omega) (by rw [g1]; simp only [List.length_nil]; omega)) ?_⟩
  rintro _ w7 ⟨p1, rfl, o1, k1, b1'⟩
  rw [g1] at o1
  have a1 := a0.more o1 k1 b1'
  replace hB1 := hB1.keep k1 n1
  refine ⟨p1, rfl, hB1.at rfl, hB1.at rfl, use (a1.apd (number_a p1 x.Epoch (g2 ▸ m2)) (by omega) (by rw [g2]; simp only [List.length_append, List.length_nil]; omega)) ?_⟩
  rintro _ w10 ⟨p2, rfl, o2, k2, b2'⟩
  rw [g2] at o2
  have a2 := a1.more o2 k2 b2'
  replace hB1 := hB1.keep k2 (a1.ne l3 n1)
  refine ⟨p2, rfl, hB1.at rfl, use (a2.apd (flag_a p2 x.Held) (by omega) (by rw [g3]; simp only [List.length_append, List.length_nil]; omega)) ?_⟩
  rintro _ w13 ⟨p3, rfl, o3, k3', b3'⟩
  rw [g3] at o3
  have a3 := a2.more o3 k3' b3'
  replace hB1 := hB1.keep k3' (a2.ne l3 n1)
  have z3 := a3.kp.size
  refine ⟨p3, rfl, x.Stacks, ⟨rfl, hB1.at rfl⟩, use (putsStack_a (L := m.Stacks) m4 a3.own (by omega) (by simp only [List.length_append, List.length_nil]; omega) (isF_keep stk_stays hR.st (k3.then0 a3.kp) (fun _ _ => by simp)) (fun y hy => ⟨by have := hF y hy; have := (k3.then0 a3.kp).size; omega, a3.ne (by have := hF y hy; omega) (by simp [blkOf])⟩)) ?_⟩
  rintro _ wl3 ⟨p4, rfl, o4, kk4, bb4⟩
  have a4 := a3.more o4 kk4 bb4
  replace hB1 := hB1.keep kk4 (a3.ne l3 n1)
  have z4 := a4.kp.size
  refine ⟨p4, rfl, x.Robots, ⟨rfl, hB1.at rfl⟩, use (putsRobot_a (L := m.Robots) m5 a4.own (by omega) (by simp only [List.length_append, List.length_nil]; omega) (isF_keep rob_stays hR.ro (k3.then0 a4.kp) (fun _ _ => by simp)) (fun y hy => ⟨by have := hF y hy; have := (k3.then0 a4.kp).size; omega, a4.ne (by have := hF y hy; omega) (by simp [blkOf])⟩)) ?_⟩
  rintro _ wl4 ⟨p5, rfl, o5, kk5, bb5⟩
  have a5 := a4.more o5 kk5 bb5
  replace hB1 := hB1.keep kk5 (a4.ne l3 n1)
  have z5 := a5.kp.size
  refine ⟨p5, rfl, x.Ports, ⟨rfl, hB1.at rfl⟩, use (putsPort_a (L := m.Ports) m6 a5.own (by omega) (by simp only [List.length_append, List.length_nil]; omega) (isF_keep prt_stays hR.po (k3.then0 a5.kp) (fun _ _ => by simp)) (fun y hy => ⟨by have := hF y hy; have := (k3.then0 a5.kp).size; omega, a5.ne (by have := hF y hy; omega) (by simp [blkOf])⟩)) ?_⟩
  rintro _ wl5 ⟨p6, rfl, o6, kk6, bb6⟩
  have a6 := a5.more o6 kk6 bb6
  replace hB1 := hB1.keep kk6 (a5.ne l3 n1)
  have z6 := a6.kp.size
  refine ⟨p6, rfl, x.Orders, ⟨rfl, hB1.at rfl⟩, use (putsOrder_a (L := m.Orders) m7 a6.own (by omega) (by simp only [List.length_append, List.length_nil]; omega) (hR.od.keep (k3.then0 a6.kp) (fun _ _ => by simp)).rd (fun h0 y hy => ⟨by have := hF y (hR.od.lo h0 y hy); have := (k3.then0 a6.kp).size; omega, a6.ne (by have := hF y (hR.od.lo h0 y hy); omega) (by simp [blkOf])⟩)) ?_⟩
  rintro _ wl6 ⟨p7, rfl, o7, kk7, bb7⟩
  have a7 := a6.more o7 kk7 bb7
  replace hB1 := hB1.keep kk7 (a6.ne l3 n1)
  have z7 := a7.kp.size
  refine ⟨p7, rfl, x.Jobs, ⟨rfl, hB1.at rfl⟩, use (putsJob_a (L := m.Jobs) m8 a7.own (by omega) (by simp only [List.length_append, List.length_nil]; omega) (hR.jo.keep (k3.then0 a7.kp) (fun _ _ => by simp)).rd (fun h0 y hy => ⟨by have := hF y (hR.jo.lo h0 y hy); have := (k3.then0 a7.kp).size; omega, a7.ne (by have := hF y (hR.jo.lo h0 y hy); omega) (by simp [blkOf])⟩)) ?_⟩
  rintro _ wl7 ⟨p8, rfl, o8, kk8, bb8⟩
  have a8 := a7.more o8 kk8 bb8
  replace hB1 := hB1.keep kk8 (a7.ne l3 n1)
  refine ⟨p8, rfl, fun w16 hD16 => ?_⟩
  replace a8 := a8.keep0 hD16.kp
  replace hB1 := hB1.keep hD16.kp (by simp)
  have z8 := a8.kp.size
  refine ⟨_, ⟨rfl, hB1.at rfl⟩, _, ⟨rfl, hB1.at rfl⟩, use (a8.apd (number_a p8 x.NextOrder (g9 ▸ m9)) (by omega) (by rw [g9]; simp only [List.length_append, List.length_nil]; omega)) ?_⟩
  rintro _ w19 ⟨p9, rfl, o9, k9, b9'⟩
  rw [g9] at o9
  have a9 := a8.more o9 k9 b9'
  replace hB1 := hB1.keep k9 (a8.ne l3 n1)
  refine ⟨p9, rfl, hB1.at rfl, use (a9.apd (number_a p9 x.NextJob (g10 ▸ m10)) (by omega) (by rw [g10]; simp only [List.length_append, List.length_nil]; omega)) ?_⟩
  rintro _ w22 ⟨p10, rfl, o10, k10, b10'⟩
  rw [g10] at o10
  obtain ⟨f1, f2, f3⟩ := (a9.more o10 k10 b10').fin k3 (show _ = bState m by simp [bState])
  exact ⟨p10, rfl, p10, rfl, f1, f2⟩)
set_option maxHeartbeats 8000000 in
theorem GetState1_p (r : Nat) {w : World} {s : Sl} {l : Bs} {k : Nat} (h : RdR w r s l k) (hl : l.length ≤ 100000000) :
    C.codec_GetState_1 (PK r) w (fun v w' => ∃ (x : S.api_State) (m : M.api_State) (k' : Nat), pState (l.drop k) = some (m, l.drop k') ∧ v = S.api_State.v x ∧ StR w' (fun y => w.heap.size ≤ y ∧ y < w'.heap.size) x m ∧ RdR w' r s l k' ∧ Kp [r] w w') (fun c w' => pState (l.drop k) = none ∧ c = noneE ∧ Kp [r] w w') := codec_GetState_1_of (by
  unfold W.codec_GetState_1
  intro b1 v2 hA1 b3 v4 hA3 b5 v6 hA5 v7 hD
  have s2 := hA1.eq
  have s4 := hA3.eq
  have s6 := hA5.eq
  have s7 := hD.sz
  have hr := h.b.lt
  have k7' : Kp [] w v7 := ((hA1.kp.then0 hA3.kp).then0 hA5.kp).then0 hD.kp
  have kp0 : Kp [r] w v7 := k7'.up _
  have qc : Blk v7 b1 [.pointer (PK r)] := ((hA1.blk.keep hA3.kp (by simp)).keep hA5.kp (by simp)).keep hD.kp (by simp)
  have q3 := (hA3.blk.keep hA5.kp (by simp)).keep hD.kp (by simp)
  have q5 := hA5.blk.keep hD.kp (by simp)
  have hne : b1 ≠ r := by omega
  refine ⟨PK r, ⟨rfl, qc.at rfl⟩, PK r, ⟨rfl, qc.at rfl⟩, PK r, ⟨rfl, qc.at rfl⟩, ?_⟩
  refine use2 (reader_number_p r v7 s l k (h.keep0 k7')) ?_ (fun c w' ⟨h1, h2, h3⟩ => ⟨by simp [pState, mp, nx, h1], h2, kp0.then h3 (by simp)⟩)
  rintro _ u1 ⟨x1, k1, e1, rfl, h1, m1⟩
  have kp1 := kp0.then m1 (by simp)
  replace q3 := q3.keep m1 (by simp; omega)
  replace q5 := q5.keep m1 (by simp; omega)
  replace qc := qc.keep m1 (by simpa using hne)
  refine ⟨x1, rfl, qc.at rfl, qc.at rfl, use2 (reader_number_p r u1 s l k1 h1) ?_ (fun c w' ⟨h1, h2, h3⟩ => ⟨by simp [pState, mp, nx, e1, h1], h2, kp1.then h3 (by simp)⟩)⟩
  rintro _ u2 ⟨x2, k2, e2, rfl, h2, m2⟩
  have kp2 := kp1.then m2 (by simp)
  replace q3 := q3.keep m2 (by simp; omega)
  replace q5 := q5.keep m2 (by simp; omega)
  replace qc := qc.keep m2 (by simpa using hne)
  refine ⟨x2, rfl, qc.at rfl, use2 (reader_bool_p r u2 s l k2 h2) ?_ (fun c w' ⟨h1, h2, h3⟩ => ⟨by simp [pState, mp, nx, e1, e2, h1], h2, kp2.then h3 (by simp)⟩)⟩
  rintro _ u3 ⟨x3, k3, e3, rfl, h3, m3⟩
  have kp3 := kp2.then m3 (by simp)
  replace q3 := q3.keep m3 (by simp; omega)
  replace q5 := q5.keep m3 (by simp; omega)
  replace qc := qc.keep m3 (by simpa using hne)
  refine ⟨x3, rfl, ⟨rfl, q5.can1 _ rfl (Nat.le_of_ble_eq_true rfl)⟩, fun wa ea => ?_⟩
  obtain ⟨q5, ga, _⟩ := q5.put1 (i := 0) rfl ea
  refine ⟨⟨rfl, q5.can1 _ rfl (Nat.le_of_ble_eq_true rfl)⟩, fun wb eb => ?_⟩
  obtain ⟨q5, gb, _⟩ := q5.put1 (i := 1) rfl eb
  refine ⟨⟨rfl, q5.can1 _ rfl (Nat.le_of_ble_eq_true rfl)⟩, fun y3 ec => ?_⟩
  obtain ⟨q5, gc, _⟩ := q5.put1 (i := 2) rfl ec
  have gg3 : Kp [b5] u3 y3 := (ga.then gb (by simp)).then gc (by simp)
  have q5 : Blk y3 b5 [.int .i64 x1, .int .i64 x2, .bool x3, .slice none 0 0, .slice none 0 0, .slice none 0 0, .slice none 0 0, .slice none 0 0, .int .i64 0, .int .i64 0] := q5
  replace q3 := q3.keep gg3 (by simp; omega)
  replace qc := qc.keep gg3 (by simp; omega)
  replace h3 := h.fresh h3 gg3 (by simp; omega)
  replace kp3 := kp3.then gg3 (by simp; omega)
  have hv : v7.heap.size ≤ y3.heap.size := by have := m1.size; have := m2.size; have := m3.size; have := gg3.size; omega
  have l1 := qc.lt
  refine ⟨PK r, ⟨rfl, qc.at rfl⟩, use2 (listStack_p r b1 h3 qc hne hl) ?_ (fun c w' ⟨h1, h2, h3⟩ => ⟨by simp [pState, mp, nx, e1, e2, e3, h1], h2, kp3.then h3 (by simp)⟩)⟩
  rintro _ u4 ⟨t4, L4, k4, rfl, e4, o4, h4, m4⟩
  have kp4 := kp3.then m4 (by simp)
  replace q3 := q3.keep m4 (by simp; omega)
  replace q5 := q5.keep m4 (by simp; omega)
  replace qc := qc.keep m4 (by simpa using hne)
  refine ⟨t4, rfl, ⟨rfl, q5.can1 _ rfl (Nat.le_of_ble_eq_true rfl)⟩, fun y4 ey4 => ?_⟩
  obtain ⟨q5, gg4, _⟩ := q5.put1 (i := 3) rfl ey4
  have q5 : Blk y4 b5 [.int .i64 x1, .int .i64 x2, .bool x3, slv t4, .slice none 0 0, .slice none 0 0, .slice none 0 0, .slice none 0 0, .int .i64 0, .int .i64 0] := q5
  replace q3 := q3.keep gg4 (by simp; omega)
  replace qc := qc.keep gg4 (by simp; omega)
  replace h4 := h.fresh h4 gg4 (by simp; omega)
  replace kp4 := kp4.then gg4 (by simp; omega)
  have hz4 := m4.size
  have hw4 := gg4.size
  have l1 := qc.lt
  refine ⟨PK r, ⟨rfl, qc.at rfl⟩, use2 (listRobot_p r b1 h4 qc hne hl) ?_ (fun c w' ⟨h1, h2, h3⟩ => ⟨by simp [pState, mp, nx, e1, e2, e3, e4, h1], h2, kp4.then h3 (by simp)⟩)⟩
  rintro _ u5 ⟨t5, L5, k5, rfl, e5, o5, h5, m5⟩
  have kp5 := kp4.then m5 (by simp)
  replace q3 := q3.keep m5 (by simp; omega)
  replace q5 := q5.keep m5 (by simp; omega)
  replace qc := qc.keep m5 (by simpa using hne)
  refine ⟨t5, rfl, ⟨rfl, q5.can1 _ rfl (Nat.le_of_ble_eq_true rfl)⟩, fun y5 ey5 => ?_⟩
  obtain ⟨q5, gg5, _⟩ := q5.put1 (i := 4) rfl ey5
  have q5 : Blk y5 b5 [.int .i64 x1, .int .i64 x2, .bool x3, slv t4, slv t5, .slice none 0 0, .slice none 0 0, .slice none 0 0, .int .i64 0, .int .i64 0] := q5
  replace q3 := q3.keep gg5 (by simp; omega)
  replace qc := qc.keep gg5 (by simp; omega)
  replace h5 := h.fresh h5 gg5 (by simp; omega)
  replace kp5 := kp5.then gg5 (by simp; omega)
  have hz5 := m5.size
  have hw5 := gg5.size
  have l1 := qc.lt
  refine ⟨PK r, ⟨rfl, qc.at rfl⟩, use2 (listPort_p r b1 h5 qc hne hl) ?_ (fun c w' ⟨h1, h2, h3⟩ => ⟨by simp [pState, mp, nx, e1, e2, e3, e4, e5, h1], h2, kp5.then h3 (by simp)⟩)⟩
  rintro _ u6 ⟨t6, L6, k6, rfl, e6, o6, h6, m6⟩
  have kp6 := kp5.then m6 (by simp)
  replace q3 := q3.keep m6 (by simp; omega)
  replace q5 := q5.keep m6 (by simp; omega)
  replace qc := qc.keep m6 (by simpa using hne)
  refine ⟨t6, rfl, ⟨rfl, q5.can1 _ rfl (Nat.le_of_ble_eq_true rfl)⟩, fun y6 ey6 => ?_⟩
  obtain ⟨q5, gg6, _⟩ := q5.put1 (i := 5) rfl ey6
  have q5 : Blk y6 b5 [.int .i64 x1, .int .i64 x2, .bool x3, slv t4, slv t5, slv t6, .slice none 0 0, .slice none 0 0, .int .i64 0, .int .i64 0] := q5
  replace q3 := q3.keep gg6 (by simp; omega)
  replace qc := qc.keep gg6 (by simp; omega)
  replace h6 := h.fresh h6 gg6 (by simp; omega)
  replace kp6 := kp6.then gg6 (by simp; omega)
  have hz6 := m6.size
  have hw6 := gg6.size
  have l1 := qc.lt
  refine ⟨PK r, ⟨rfl, qc.at rfl⟩, use2 (listO_p r b1 h6 qc hne hl) ?_ (fun c w' ⟨h1, h2, h3⟩ => ⟨by simp [pState, mp, nx, e1, e2, e3, e4, e5, e6, h1], h2, kp6.then h3 (by simp)⟩)⟩
  rintro _ u7 ⟨t7, L7, k7, rfl, e7, o7, h7, m7⟩
  have kp7 := kp6.then m7 (by simp)
  replace q3 := q3.keep m7 (by simp; omega)
  replace q5 := q5.keep m7 (by simp; omega)
  replace qc := qc.keep m7 (by simpa using hne)
  refine ⟨t7, rfl, ⟨rfl, q5.can1 _ rfl (Nat.le_of_ble_eq_true rfl)⟩, fun y7 ey7 => ?_⟩
  obtain ⟨q5, gg7, _⟩ := q5.put1 (i := 6) rfl ey7
  have q5 : Blk y7 b5 [.int .i64 x1, .int .i64 x2, .bool x3, slv t4, slv t5, slv t6, slv t7, .slice none 0 0, .int .i64 0, .int .i64 0] := q5
  replace q3 := q3.keep gg7 (by simp; omega)
  replace qc := qc.keep gg7 (by simp; omega)
  replace h7 := h.fresh h7 gg7 (by simp; omega)
  replace kp7 := kp7.then gg7 (by simp; omega)
  have hz7 := m7.size
  have hw7 := gg7.size
  have l1 := qc.lt
  refine ⟨PK r, ⟨rfl, qc.at rfl⟩, use2 (listJ_p r b1 h7 qc hne hl) ?_ (fun c w' ⟨h1, h2, h3⟩ => ⟨by simp [pState, mp, nx, e1, e2, e3, e4, e5, e6, e7, h1], h2, kp7.then h3 (by simp)⟩)⟩
  rintro _ u8 ⟨t8, L8, k8, rfl, e8, o8, h8, m8⟩
  have kp8 := kp7.then m8 (by simp)
  replace q3 := q3.keep m8 (by simp; omega)
  replace q5 := q5.keep m8 (by simp; omega)
  replace qc := qc.keep m8 (by simpa using hne)
  refine ⟨t8, rfl, ⟨rfl, q5.can1 _ rfl (Nat.le_of_ble_eq_true rfl)⟩, fun y8 ey8 => ?_⟩
  obtain ⟨q5, gg8, _⟩ := q5.put1 (i := 7) rfl ey8
  have q5 : Blk y8 b5 [.int .i64 x1, .int .i64 x2, .bool x3, slv t4, slv t5, slv t6, slv t7, slv t8, .int .i64 0, .int .i64 0] := q5
  replace q3 := q3.keep gg8 (by simp; omega)
  replace qc := qc.keep gg8 (by simp; omega)
  replace h8 := h.fresh h8 gg8 (by simp; omega)
  replace kp8 := kp8.then gg8 (by simp; omega)
  have hz8 := m8.size
  have hw8 := gg8.size
  intro y9 hD9
  have kk9 := hD9.kp
  replace q3 := q3.keep kk9 (by simp)
  replace q5 := q5.keep kk9 (by simp)
  replace qc := qc.keep kk9 (by simp)
  replace h8 := h8.keep0 kk9
  replace kp8 := kp8.then0 kk9
  refine ⟨PK r, ⟨rfl, qc.at rfl⟩, PK r, ⟨rfl, qc.at rfl⟩, use2 (reader_number_p r y9 s l k8 h8) ?_ (fun c w' ⟨h1, h2, h3⟩ => ⟨by simp [pState, mp, nx, e1, e2, e3, e4, e5, e6, e7, e8, h1], h2, kp8.then h3 (by simp)⟩)⟩
  rintro _ u9 ⟨x9, k9, e9, rfl, h9, m9⟩
  have kp9 := kp8.then m9 (by simp)
  replace q3 := q3.keep m9 (by simp; omega)
  replace q5 := q5.keep m9 (by simp; omega)
  replace qc := qc.keep m9 (by simpa using hne)
  refine ⟨x9, rfl, qc.at rfl, use2 (reader_number_p r u9 s l k9 h9) ?_ (fun c w' ⟨h1, h2, h3⟩ => ⟨by simp [pState, mp, nx, e1, e2, e3, e4, e5, e6, e7, e8, e9, h1], h2, kp9.then h3 (by simp)⟩)⟩
  rintro _ u10 ⟨x10, k10, e10, rfl, h10, m10⟩
  have kp10 := kp9.then m10 (by simp)
  replace q3 := q3.keep m10 (by simp; omega)
  replace q5 := q5.keep m10 (by simp; omega)
  refine ⟨x10, rfl, ⟨rfl, q5.can1 _ rfl (Nat.le_of_ble_eq_true rfl)⟩, fun wd ed => ?_⟩
  obtain ⟨q5, gd, _⟩ := q5.put1 (i := 8) rfl ed
  refine ⟨⟨rfl, q5.can1 _ rfl (Nat.le_of_ble_eq_true rfl)⟩, fun we ee => ?_⟩
  obtain ⟨q5, ge, _⟩ := q5.put1 (i := 9) rfl ee
  have ghe : Kp [b5] u10 we := gd.then ge (by simp)
  have q5f : Blk we b5 [.int .i64 x1, .int .i64 x2, .bool x3, slv t4, slv t5, slv t6, slv t7, slv t8, .int .i64 x9, .int .i64 x10] := q5
  replace q3 := q3.keep ghe (by simp; omega)
  refine ⟨⟨x1, x2, x3, t4, t5, t6, t7, t8, x9, x10⟩, ⟨rfl, q5f.rd0⟩, ⟨rfl, q3.canN _ (Nat.le_refl _)⟩, fun wz ez => ?_⟩
  obtain ⟨g1, gz, _⟩ := q3.putAll (vs := #[.int .i64 x1, .int .i64 x2, .bool x3, slv t4, slv t5, slv t6, slv t7, slv t8, .int .i64 x9, .int .i64 x10]) rfl ez
  have kez : Kp [b5, b3] u10 wz := (ghe.mono (by simp)).then gz (by simp)
  have K8 : Kp [r, b5, b3] u8 wz := ((((gg8.mono (l' := [r, b5, b3]) (by simp)).then0 kk9).then m9 (by simp)).then m10 (by simp)).then kez (by simp)
  have K7 : Kp [r, b5, b3] u7 wz := ((gg7.mono (l' := [r, b5, b3]) (by simp)).then m8 (by simp)).then K8 (by simp)
  have K6 : Kp [r, b5, b3] u6 wz := ((gg6.mono (l' := [r, b5, b3]) (by simp)).then m7 (by simp)).then K7 (by simp)
  have K5 : Kp [r, b5, b3] u5 wz := ((gg5.mono (l' := [r, b5, b3]) (by simp)).then m6 (by simp)).then K6 (by simp)
  have K4 : Kp [r, b5, b3] u4 wz := ((gg4.mono (l' := [r, b5, b3]) (by simp)).then m5 (by simp)).then K5 (by simp)
  have Z8 := K8.size
  refine ⟨⟨x1, x2, x3, t4, t5, t6, t7, t8, x9, x10⟩, ⟨rfl, g1.rd0⟩, ⟨x1, x2, x3, t4, t5, t6, t7, t8, x9, x10⟩, ⟨x1, x2, x3, L4, L5, L6, L7, L8, x9, x10⟩, k10, by simp [pState, mp, nx, fState, e1, e2, e3, e4, e5, e6, e7, e8, e9, e10], rfl, ⟨⟨rfl, rfl, rfl, rfl, rfl⟩, ?_, ?_, ?_, ?_, ?_⟩, h.fresh h10 kez (by simp; omega), kp10.then kez (by simp; omega)⟩
  · exact isF_mono stk_stays (isF_keep stk_stays (o4.isF stk_stays cStack_len (by decide) (fun _ => rfl)) K4 (fun y hy => by simp; omega)) (fun y hy => by omega)
  · exact isF_mono rob_stays (isF_keep rob_stays (o5.isF rob_stays cRobot_len (by decide) (fun _ => rfl)) K5 (fun y hy => by simp; omega)) (fun y hy => by omega)
  · exact isF_mono prt_stays (isF_keep prt_stays (o6.isF prt_stays cPort_len (by decide) (fun _ => rfl)) K6 (fun y hy => by simp; omega)) (fun y hy => by omega)
  · exact ((own_rdF o7 oC_len (by decide) (fun _ => rfl)).keep K7 (fun y hy => by simp; omega)).mono (fun y hy => by omega)
  · exact ((own_rdF o8 jC_len (by decide) (fun _ => rfl)).keep K8 (fun y hy => by simp; omega)).mono (fun y hy => by omega))
/-- What a reading of all the bytes answers, for states. -/
def GotS (w : World) (B : Nat) (l : Bs) (r : Value) (ok no : Value) : Prop := (∃ (e : S.api_State) (m : M.api_State), whole pState l = some m ∧ StR w (fun y => B ≤ y ∧ y < w.heap.size) e m ∧ r = .tuple #[S.api_State.v e, ok]) ∨ (whole pState l = none ∧ r = .tuple #[S.api_State.v ⟨0, 0, false, ⟨none, 0, 0⟩, ⟨none, 0, 0⟩, ⟨none, 0, 0⟩, ⟨none, 0, 0⟩, ⟨none, 0, 0⟩, 0, 0⟩, no])
set_option maxHeartbeats 1000000 in
theorem readState_s {w : World} {s : Sl} {l : Bs} (hd : RdB w s l) (hl : l.length ≤ 100000000) (hs : ∀ y ∈ blkOf s, y < w.heap.size) : C.codec_read_api_State s (.func (.func 76) #[] #[]) w (fun r w' => GotS w' w.heap.size l r (.int .i64 0) (.int .i64 4) ∧ Kp [] w w') noP := codec_read_api_State_of (by
  unfold W.codec_read_api_State
  intro b1 w2 hA1 b3 w4 hA3 b5 w6 hA5
  have s2 := hA1.eq
  have s4 := hA3.eq
  have s6 := hA5.eq
  have k6 : Kp [] w w6 := (hA1.kp.then0 hA3.kp).then0 hA5.kp
  have hsz := hd.bsize
  have hR : RdR w6 b5 s l 0 := ⟨hA5.blk, hd.keep0 k6, fun h => by have := hs _ h; omega, Nat.zero_le _, by omega⟩
  have y1 := (hA1.blk.keep hA3.kp (by simp)).keep hA5.kp (by simp)
  have y3 := hA3.blk.keep hA5.kp (by simp)
  have bad : ∀ (w7 : World) (cs0 : List Value), Blk w7 b1 cs0 → cs0.length = 10 → Blk w7 b3 [.int .i64 0] → Kp [] w w7 → whole pState l = none → xleave Try.prog [{ target := .fn (.func 106) #[.pointer (some ⟨b1, 0, none⟩), .pointer (some ⟨b3, 0, none⟩)], args := #[] }] (.panicking noneE) w7 (xendF (fun w14 => ∃ y15 : S.api_State, (okVal true 10 (S.api_State.v y15) = true ∧ Go.Eng.rd w14 ⟨b1, 0, none⟩ (S.api_State.v y15)) ∧ ∃ y16 : Int, (okVal false 1 (.int .i64 y16) = true ∧ w14.cell? ⟨b3, 0, none⟩ = some (.int .i64 y16)) ∧ (GotS w14 w.heap.size l (.tuple #[S.api_State.v y15, .int .i64 y16]) (.int .i64 0) (.int .i64 4) ∧ Kp [] w w14)) noP) := fun w7 cs0 c1 cl c3 k7 hw => by
    show bodied Try.prog _ = true ∧ _
    refine ⟨by kernel_rfl, CallsDIn.mono (catch_State c1 cl c3 (by omega)) ?_⟩
    rintro e u' w8 ⟨rfl, rfl, g1, g2, g3⟩
    refine ⟨by simp [settle], ?_⟩
    exact ⟨⟨0, 0, false, ⟨none, 0, 0⟩, ⟨none, 0, 0⟩, ⟨none, 0, 0⟩, ⟨none, 0, 0⟩, ⟨none, 0, 0⟩, 0, 0⟩, ⟨rfl, g1.rd0⟩, _, ⟨rfl, g2.at rfl⟩, .inr ⟨hw, rfl⟩, k7.then g3 (by simp; omega)⟩
  refine callV_mono2 rfl (by kernel_rfl) (GetState1_p b5 hR hl) ?_ ?_
  · rintro _ w7 ⟨x, m, k', e, rfl, hE, h7, k7⟩
    rw [List.drop_zero] at e
    have hw := whole_at e h7.le
    have c1 := y1.keep k7 (by simp; omega)
    have c3 := y3.keep k7 (by simp; omega)
    have kk7 : Kp [] w w7 := k6.then k7 (by simp; omega)
    refine ⟨x, rfl, ⟨rfl, c1.canN _ (Nat.le_refl _)⟩, fun w10 e10 => ?_⟩
    obtain ⟨g1, k10, _⟩ := c1.putAll (vs := #[.int .i64 x.Seq, .int .i64 x.Epoch, .bool x.Held, slv x.Stacks, slv x.Robots, slv x.Ports, slv x.Orders, slv x.Jobs, .int .i64 x.NextOrder, .int .i64 x.NextJob]) rfl e10
    have g3 := c3.keep k10 (by simp; omega)
    have g5 := h7.b.keep k10 (by simp; omega)
    have kk10 : Kp [] w w10 := kk7.then k10 (by simp; omega)
    refine ⟨_, ⟨rfl, g5.at rfl⟩, ?_⟩
    by_cases hk : k' = l.length
    · rw [if_pos hk] at hw
      refine cond_f (bne_f (by omega)) ⟨x, ⟨rfl, g1.rd0⟩, ⟨rfl, g1.canN _ (Nat.le_refl _)⟩, fun w18 e18 => ?_⟩
      obtain ⟨j1, k18, _⟩ := g1.putAll (vs := #[.int .i64 x.Seq, .int .i64 x.Epoch, .bool x.Held, slv x.Stacks, slv x.Robots, slv x.Ports, slv x.Orders, slv x.Jobs, .int .i64 x.NextOrder, .int .i64 x.NextJob]) rfl e18
      have j3 := g3.keep k18 (by simp; omega)
      refine ⟨⟨rfl, j3.can1 _ rfl (Nat.le_of_ble_eq_true rfl)⟩, fun w19 e19 => ?_⟩
      obtain ⟨m3, k19, _⟩ := j3.put1 (i := 0) rfl e19
      have m1 := j1.keep k19 (by simp; omega)
      show bodied Try.prog _ = true ∧ _
      refine ⟨by kernel_rfl, CallsDIn.mono idle_State ?_⟩
      rintro e u' w20 ⟨rfl, rfl, rfl⟩
      refine ⟨by simp [settle], ?_⟩
      have ke : Kp [b1, b3] w7 w20 := ((k10.mono (by simp)).then k18 (by simp)).then k19 (by simp)
      exact ⟨x, ⟨rfl, m1.rd0⟩, _, ⟨rfl, m3.at rfl⟩, .inl ⟨x, m, hw, (hE.keep ke (fun y hy => by simp; omega)).mono (fun y hy => by have := ke.size; omega), rfl⟩, kk7.then ke (by simp; omega)⟩
    · rw [if_neg hk] at hw
      exact cond_t (bne_t (by omega)) (bad w10 _ g1 rfl g3 kk10 hw)
  · rintro c w7 ⟨e, rfl, k7⟩
    rw [List.drop_zero] at e
    exact bad w7 _ (y1.keep k7 (by simp; omega)) rfl (y3.keep k7 (by simp; omega)) (k6.then k7 (by simp; omega)) (whole_none e))
theorem GetState_s {w : World} {s : Sl} {l : Bs} (hd : RdB w s l) (hl : l.length ≤ 100000000) (hs : ∀ y ∈ blkOf s, y < w.heap.size) : C.codec_GetState s w (fun r w' => GotS w' w.heap.size l r (.int .i64 0) (.int .i64 4) ∧ Kp [] w w') noP := codec_GetState_of (by
  unfold W.codec_GetState
  intro b1 w2 hA
  have s2 := hA.eq
  refine use (readState_s (hd.keep0 hA.kp) hl (fun y hy => by have := hs y hy; omega)) ?_
  rintro r w3 ⟨hG, k3⟩
  have c1 := hA.blk.keep k3 (by simp)
  have go : ∀ (o : S.api_State) (e : Int), r = .tuple #[S.api_State.v o, .int .i64 e] → (∀ w6 : World, Kp [b1] w3 w6 → GotS w6 w.heap.size l (.tuple #[S.api_State.v o, .int .i64 e]) (.int .i64 0) (.int .i64 4)) → ∃ p4 : S.api_State × Int, r = .tuple #[S.api_State.v p4.1, .int .i64 p4.2] ∧ (okVal true 10 (S.api_State.v p4.1) = true ∧ canPut w3 ⟨b1, 0, none⟩ (S.api_State.v p4.1)) ∧ ∀ w6 : World, w6 = putAt w3 ⟨b1, 0, none⟩ (S.api_State.v p4.1) → ∃ y7 : S.api_State, (okVal true 10 (S.api_State.v y7) = true ∧ Go.Eng.rd w6 ⟨b1, 0, none⟩ (S.api_State.v y7)) ∧ (GotS w6 w.heap.size l (.tuple #[S.api_State.v y7, .int .i64 p4.2]) (.int .i64 0) (.int .i64 4) ∧ Kp [] w w6) := fun o e he hq => by
    refine ⟨(o, e), he, ⟨rfl, c1.canN _ (Nat.le_refl _)⟩, fun w6 e6 => ?_⟩
    obtain ⟨g1, k6, _⟩ := c1.putAll (vs := #[.int .i64 o.Seq, .int .i64 o.Epoch, .bool o.Held, slv o.Stacks, slv o.Robots, slv o.Ports, slv o.Orders, slv o.Jobs, .int .i64 o.NextOrder, .int .i64 o.NextJob]) rfl e6
    exact ⟨o, ⟨rfl, g1.rd0⟩, hq w6 k6, (hA.kp.then0 k3).then k6 (by simp; omega)⟩
  rcases hG with ⟨o, m, h1, hE, h2⟩ | ⟨h1, h2⟩
  · have hq3 := k3.size
    exact go o 0 h2 (fun w6 k6 => .inl ⟨o, m, h1, (hE.keep k6 (fun y hy => by simp; omega)).mono (fun y hy => by have := k6.size; omega), rfl⟩)
  · exact go _ 4 h2 (fun w6 k6 => .inr ⟨h1, rfl⟩))
end Go.Proofs.Ytocbjadhcfjfiaa
