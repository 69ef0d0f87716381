/- States: put by the document. Printed by gen_rput.py. No conditions. -/
import Derived.Test.YtocbjadhcfjfiaaCodX
namespace Go.Proofs.Ytocbjadhcfjfiaa
open Go.RowKit Go.Eng
set_option linter.unusedVariables false
set_option linter.unusedSimpArgs false
theorem ws {q : Option Addr} {a : Addr} {f : Addr → Prop} (h : q = some a) (hf : f a) : withSome q f := by rw [h]; exact hf
theorem sub_rd {w : World} {A : Addr} {cs : List Value} (h : Go.Eng.World.has w A cs) (o : Nat) (vs : Array Value) (hv : ∀ i v, vs.toList[i]? = some v → cs[o + i]? = some v) : Go.Eng.rd w (A.add o) (.agg vs) := fun i v hi => by
  rw [add_add']
  exact h _ _ (hv i v hi)
theorem sub_rd0 {w : World} {A : Addr} {cs : List Value} (h : Go.Eng.World.has w A cs) (vs : Array Value) (hv : ∀ i v, vs.toList[i]? = some v → cs[0 + i]? = some v) : Go.Eng.rd w A (.agg vs) := fun i v hi => h _ _ (by have := hv i v hi; rwa [Nat.zero_add] at this)
theorem wr1 (j : Nat) (h : j ≤ 1000000000) : IntKind.i64.wrap ((j : Int) + 1) = ((j + 1 : Nat) : Int) := by rw [IntKind.wrap_i64]; omega
set_option maxHeartbeats 16000000 in
set_option maxRecDepth 20000 in
theorem rPutState_s {x : S.api_State} {m : M.api_State} (hm : okState m) {w : World} {F : Nat → Prop} (hR : StR w F x m) (hb : (bState m).length ≤ 1000000000) (hF : ∀ y, F y → y < w.heap.size) :
    C.skepref05_PutState x w (fun r w' => ∃ s : Sl, r = slv s ∧ OwnB w' w.heap.size s (bState m) ∧ Kp [] w w') noP := skepref05_PutState_of (by
  unfold W.skepref05_PutState
  obtain ⟨⟨⟨⟨⟨⟨⟨⟨⟨m1, m2⟩, _⟩, m4, n4⟩, m5, n5⟩, m6, n6⟩, m7, n7⟩, m8, n8⟩, m9⟩, m10⟩ := hm
  obtain ⟨g1, g2, g3, g9, g10⟩ := hR.sc
  have hl := hb
  simp only [bState, bL, List.length_append] at hl
  intro b1 w2 hA w3 hD
  have s2 := hA.eq
  have s3 := hD.sz
  have k3 := hA.kp.then0 hD.kp
  have n1 : b1 ∉ blkOf ⟨none, 0, 0⟩ := by simp [blkOf]
  have l3 : b1 < w3.heap.size := by omega
  have hS3 := hR.keep0 k3
  have q3 : Blk w3 b1 [.int .i64 x.Seq, .int .i64 x.Epoch, .bool x.Held, slv x.Stacks, slv x.Robots, slv x.Ports, slv x.Orders, slv x.Jobs, .int .i64 x.NextOrder, .int .i64 x.NextJob] := hA.blk.keep hD.kp (by simp)
  have a0 := Acc.start (w := w3) (B := w.heap.size) (s := ⟨none, 0, 0⟩) (l := []) (Go.Eng.Own.nil _ _ _)
  have hN : ∀ (l : Nat), l ∉ blkOf ⟨none, 0, 0⟩ := by simp [blkOf]
  have hFn : ∀ y, F y → y ∉ blkOf ⟨none, 0, 0⟩ := fun y _ => hN y
  have hF3 : ∀ y, F y → y < w3.heap.size := fun y hy => by have := hF y hy; omega
  refine ⟨_, ⟨rfl, q3.at rfl⟩, _, ⟨rfl, q3.at rfl⟩, _, ⟨rfl, q3.at rfl⟩, use (a0.apd (rnum_a _ x.Seq (g1 ▸ m1)) (by omega) (by rw [g1]; simp only [List.length_nil]; omega)) ?_⟩
  rintro _ w7 ⟨p1, rfl, o1, k1, b1'⟩
  rw [g1] at o1
  have a1 := a0.more o1 k1 b1'
  have q7 := q3.keep a1.kp n1
  refine ⟨p1, rfl, q7.at rfl, q7.at rfl, use (a1.apd (rnum_a p1 x.Epoch (g2 ▸ m2)) (by omega) (by rw [g2]; simp only [List.length_append, List.length_nil]; omega)) ?_⟩
  rintro _ w10 ⟨p2, rfl, o2, k2, b2'⟩
  rw [g2] at o2
  have a2 := a1.more o2 k2 b2'
  have q10 := q3.keep a2.kp n1
  refine ⟨p2, rfl, q10.at rfl, use (a2.apd (rflag_a p2 x.Held) (by omega) (by rw [g3]; simp only [List.length_append, List.length_nil]; omega)) ?_⟩
  rintro _ w13 ⟨p3, rfl, o3, k3', b3'⟩
  rw [g3] at o3
  have a3 := a2.more o3 k3' b3'
  have q13 := q3.keep a3.kp n1
  have e4 : x.Stacks.len = m.Stacks.length := (hR.st.is.len).symm
  have fl4 := flat_len_le bStack_1 m.Stacks
  refine ⟨p3, rfl, x.Stacks, ⟨rfl, q13.at rfl⟩, use (a3.apd (rnum_a p3 (x.Stacks.len : Nat) ⟨by omega, by omega⟩) (by omega) (by rw [e4]; simp only [List.length_append, List.length_nil]; omega)) ?_⟩
  rintro _ wc4 ⟨pc4, rfl, oc4, kc4, bc4⟩
  rw [e4] at oc4
  have ac4 := a3.more oc4 kc4 bc4
  refine ⟨pc4, rfl, fun v i w' => ∃ j : Nat, i = j ∧ j ≤ m.Stacks.length ∧ Acc w3 w.heap.size ⟨none, 0, 0⟩ w' v ([] ++ putN m.Seq ++ putN m.Epoch ++ putF m.Held ++ putN (m.Stacks.length : Nat) ++ (m.Stacks.take j).flatMap bStack), fun _ i _ => m.Stacks.length - i.toNat, ⟨pc4, rfl, _, rfl, 0, rfl, by omega, by simpa using ac4⟩, ?_⟩
  rintro ev4 v4 _ wi4 ⟨j, rfl, hj, a⟩
  have qi4 := q3.keep a.kp n1
  refine ⟨x.Stacks, ⟨rfl, qi4.at rfl⟩, cond_d (fun hc => ?_) (fun hc => ?_)⟩
  · have hj2 : j < m.Stacks.length := by omega
    have hf := bStacks_take hj2
    have hf2 := takeStack_le (L := m.Stacks) (i := j + 1)
    rw [hf, List.length_append] at hf2
    have sz := a.kp.size
    rw [Int.toNat_natCast, wr1 j (by omega)]
    intro wd hD4
    replace a := a.keep0 hD4.kp
    have qd := q3.keep a.kp n1
    have szd := a.kp.size
    obtain ⟨A, z, hA, hr, hz⟩ := (isF_keep stk_stays hS3.st a.kp hFn).is.get hj2
    obtain ⟨hz1, hz2⟩ := hz
    have hokz := m4 _ (List.getElem_mem hj2)
    simp only [bStack, bInts, bL, List.length_append] at hf2
    have hAb : A.block < w3.heap.size := hF3 _ (hR.st.lo (by omega) _ (mem_blk hA))
    have hc : Go.Eng.World.has wd (A.add (j * 3)) [.int .i64 z.At.X, .int .i64 z.At.Y, slv z.Bins] := hr
    refine ⟨x.Stacks, ⟨rfl, qd.at rfl⟩, ⟨by omega, by omega⟩, ws hA ⟨z.At, ⟨rfl, sub_rd0 hc #[.int .i64 z.At.X, .int .i64 z.At.Y] (seg rfl)⟩, x.Stacks, ⟨rfl, qd.at rfl⟩, ⟨by omega, by omega⟩, ws hA ⟨z.Bins, ⟨rfl, hc 2 _ rfl⟩, use (a.apd (rcell_a v4 z.At (hz1 ▸ hokz.1)) (by omega) (by rw [hz1]; simp only [List.length_append, List.length_nil]; omega)) ?_⟩⟩⟩
    rintro _ wt ⟨pt, rfl, ot, kt, bt⟩
    rw [hz1] at ot
    have at1 := a.more ot kt bt
    have ct := has_keep hc kt (by rw [add_block]; exact a.ne hAb (hN _))
    have szt := at1.kp.size
    refine ⟨pt, rfl, ct 2 _ rfl, (q3.keep at1.kp n1).at rfl, use (numbers_a hokz.2.1 at1.own (by omega) (by simp only [bInts, bL, List.length_append, List.length_nil]; omega) (hz2.keep kt (fun y hy => a.ne (hF3 y hy) (hN _))).rd (fun h0 y hy => ⟨by have := hF3 y (hz2.lo h0 y hy); omega, at1.ne (hF3 y (hz2.lo h0 y hy)) (hN _)⟩)) ?_⟩
    rintro _ wu ⟨pu, rfl, ou, ku, bu⟩
    have au := at1.more ou ku bu
    exact ⟨pu, rfl, pu, rfl, _, rfl, ⟨j + 1, rfl, by omega, by rw [hf]; simpa [bStack, List.append_assoc] using au⟩, by simp only [Int.toNat_natCast]; omega⟩
  have hje4 : j = m.Stacks.length := by omega
  subst hje4
  rw [List.take_length] at a
  have a4 := a
  clear a hj hc
  have e5 : x.Robots.len = m.Robots.length := (hR.ro.is.len).symm
  have fl5 := flat_len_le bRobot_1 m.Robots
  refine ⟨x.Robots, ⟨rfl, qi4.at rfl⟩, use (a4.apd (rnum_a v4 (x.Robots.len : Nat) ⟨by omega, by omega⟩) (by omega) (by rw [e5]; simp only [List.length_append, List.length_nil]; omega)) ?_⟩
  rintro _ wc5 ⟨pc5, rfl, oc5, kc5, bc5⟩
  rw [e5] at oc5
  have ac5 := a4.more oc5 kc5 bc5
  refine ⟨pc5, rfl, fun v i w' => ∃ j : Nat, i = j ∧ j ≤ m.Robots.length ∧ Acc w3 w.heap.size ⟨none, 0, 0⟩ w' v ([] ++ putN m.Seq ++ putN m.Epoch ++ putF m.Held ++ putN (m.Stacks.length : Nat) ++ m.Stacks.flatMap bStack ++ putN (m.Robots.length : Nat) ++ (m.Robots.take j).flatMap bRobot), fun _ i _ => m.Robots.length - i.toNat, ⟨pc5, rfl, _, rfl, 0, rfl, by omega, by simpa using ac5⟩, ?_⟩
  rintro ev5 v5 _ wi5 ⟨j, rfl, hj, a⟩
  have qi5 := q3.keep a.kp n1
  refine ⟨x.Robots, ⟨rfl, qi5.at rfl⟩, cond_d (fun hc => ?_) (fun hc => ?_)⟩
  · have hj2 : j < m.Robots.length := by omega
    have hf := bRobots_take hj2
    have hf2 := takeRobot_le (L := m.Robots) (i := j + 1)
    rw [hf, List.length_append] at hf2
    have sz := a.kp.size
    rw [Int.toNat_natCast, wr1 j (by omega)]
    obtain ⟨A, z, hA, hr, hz⟩ := (isF_keep rob_stays hS3.ro a.kp hFn).is.get hj2
    obtain ⟨⟨hz1, hz3, hz4, hz5, hz6, hz7⟩, hz2⟩ := hz
    obtain ⟨⟨⟨⟨⟨⟨k1, k2⟩, k3x⟩, k4, k5⟩, _⟩, k6⟩, _⟩ := m5 _ (List.getElem_mem hj2)
    simp only [bRobot, bMoves, bL, List.length_append] at hf2
    refine ⟨x.Robots, ⟨rfl, qi5.at rfl⟩, ⟨by omega, by omega⟩, ws hA ⟨z, ⟨rfl, hr⟩, fun b5 w9 hA9 => ⟨⟨rfl, hA9.blk.canN _ (Nat.le_refl _)⟩, fun wa ea wd hDa => ?_⟩⟩⟩
    obtain ⟨qb, kb, _⟩ := hA9.blk.putAll (vs := #[.int .i64 z.At.At.X, .int .i64 z.At.At.Y, .bool z.At.Down, .int .i64 z.Load, .int .i64 z.Job, slv z.Moves, .bool z.Out, .int .i64 z.Num, .bool z.Stands]) rfl ea
    have s9 := hA9.eq
    have kd : Kp [] wi5 wd := (hA9.kp.then kb (by simp; omega)).then0 hDa.kp
    have ad := a.keep0 kd
    have hav := a.own.lo
    have nb : b5 ∉ blkOf v5 := fun hy => by have := (hav _ hy).2; omega
    have qb : Blk wd b5 [.int .i64 z.At.At.X, .int .i64 z.At.At.Y, .bool z.At.Down, .int .i64 z.Load, .int .i64 z.Job, slv z.Moves, .bool z.Out, .int .i64 z.Num, .bool z.Stands] := qb.keep hDa.kp (by simp)
    have lb := qb.lt
    have szd := ad.kp.size
    have aa := Acc.start ad.own
    have hBd : w.heap.size ≤ wd.heap.size := by omega
    refine ⟨z.At, ⟨rfl, qb.rd 0 #[.int .i64 z.At.At.X, .int .i64 z.At.At.Y, .bool z.At.Down] (seg rfl)⟩, _, ⟨rfl, qb.at rfl⟩, _, ⟨rfl, qb.at rfl⟩, z.Moves, ⟨rfl, qb.at rfl⟩, use (aa.apd (rpose_a v5 z.At (hz1 ▸ k1)) hBd (by rw [hz1]; simp only [List.length_append, List.length_nil]; omega)) ?_⟩
    rintro _ t1 ⟨u1, rfl, ou1, ku1, bu1⟩
    rw [hz1] at ou1
    have aa1 := aa.more ou1 ku1 bu1
    have qb1 := qb.keep aa1.kp nb
    refine ⟨u1, rfl, qb1.at rfl, qb1.at rfl, qb1.at rfl, use (aa1.apd (rnum_a u1 z.Load (hz3 ▸ k2)) hBd (by rw [hz3]; simp only [List.length_append, List.length_nil]; omega)) ?_⟩
    rintro _ t2 ⟨u2, rfl, ou2, ku2, bu2⟩
    rw [hz3] at ou2
    have aa2 := aa1.more ou2 ku2 bu2
    have qb2 := qb.keep aa2.kp nb
    refine ⟨u2, rfl, qb2.at rfl, qb2.at rfl, use (aa2.apd (rnum_a u2 z.Job (hz4 ▸ k3x)) hBd (by rw [hz4]; simp only [List.length_append, List.length_nil]; omega)) ?_⟩
    rintro _ t3 ⟨u3, rfl, ou3, ku3, bu3⟩
    rw [hz4] at ou3
    have aa3 := aa2.more ou3 ku3 bu3
    have qb3 := qb.keep aa3.kp nb
    have sz3 := aa3.kp.size
    have hmv : ∀ y, F y → y < wd.heap.size ∧ y ∉ blkOf v5 := fun y hy => ⟨by have := hF3 y hy; omega, a.ne (hF3 y hy) (hN _)⟩
    refine ⟨u3, rfl, qb3.at rfl, use (moves_a k4 aa3.own (by omega) (by simp only [bMoves, bL, List.length_append, List.length_nil]; omega) ((hz2.keep kd (fun _ _ => by simp)).keep aa3.kp (fun y hy => (hmv y hy).2)).rd (fun h0 y hy => ⟨by have := (hmv y (hz2.lo h0 y hy)).1; omega, aa3.ne (hmv y (hz2.lo h0 y hy)).1 (hmv y (hz2.lo h0 y hy)).2⟩)) ?_⟩
    rintro _ t4 ⟨u4, rfl, ou4, ku4, bu4⟩
    have aa4 := aa3.more ou4 ku4 bu4
    refine ⟨u4, rfl, fun t5 hD5 => ?_⟩
    replace aa4 := aa4.keep0 hD5.kp
    have qb4 := qb.keep aa4.kp nb
    refine ⟨_, ⟨rfl, qb4.at rfl⟩, _, ⟨rfl, qb4.at rfl⟩, _, ⟨rfl, qb4.at rfl⟩, use (aa4.apd (rflag_a u4 z.Out) hBd (by rw [hz5]; simp only [bMoves, bL, List.length_append, List.length_nil]; omega)) ?_⟩
    rintro _ t6 ⟨u6, rfl, ou6, ku6, bu6⟩
    rw [hz5] at ou6
    have aa6 := aa4.more ou6 ku6 bu6
    have qb6 := qb.keep aa6.kp nb
    refine ⟨u6, rfl, qb6.at rfl, qb6.at rfl, use (aa6.apd (rnum_a u6 z.Num (hz6 ▸ k6)) hBd (by rw [hz6]; simp only [bMoves, bL, List.length_append, List.length_nil]; omega)) ?_⟩
    rintro _ t7 ⟨u7, rfl, ou7, ku7, bu7⟩
    rw [hz6] at ou7
    have aa7 := aa6.more ou7 ku7 bu7
    have qb7 := qb.keep aa7.kp nb
    refine ⟨u7, rfl, qb7.at rfl, use (aa7.apd (rflag_a u7 z.Stands) hBd (by rw [hz7]; simp only [bMoves, bL, List.length_append, List.length_nil]; omega)) ?_⟩
    rintro _ t8 ⟨u8, rfl, ou8, ku8, bu8⟩
    rw [hz7] at ou8
    have aa8 := aa7.more ou8 ku8 bu8
    have au := ad.more aa8.own aa8.kp aa8.hb
    exact ⟨u8, rfl, u8, rfl, _, rfl, ⟨j + 1, rfl, by omega, by rw [hf]; simpa [bRobot, List.append_assoc] using au⟩, by simp only [Int.toNat_natCast]; omega⟩
  have hje5 : j = m.Robots.length := by omega
  subst hje5
  rw [List.take_length] at a
  have a5 := a
  clear a hj hc
  have e6 : x.Ports.len = m.Ports.length := (hR.po.is.len).symm
  have fl6 := flat_len_le bPort_1 m.Ports
  refine ⟨x.Ports, ⟨rfl, qi5.at rfl⟩, use (a5.apd (rnum_a v5 (x.Ports.len : Nat) ⟨by omega, by omega⟩) (by omega) (by rw [e6]; simp only [List.length_append, List.length_nil]; omega)) ?_⟩
  rintro _ wc6 ⟨pc6, rfl, oc6, kc6, bc6⟩
  rw [e6] at oc6
  have ac6 := a5.more oc6 kc6 bc6
  refine ⟨pc6, rfl, fun v i w' => ∃ j : Nat, i = j ∧ j ≤ m.Ports.length ∧ Acc w3 w.heap.size ⟨none, 0, 0⟩ w' v ([] ++ putN m.Seq ++ putN m.Epoch ++ putF m.Held ++ putN (m.Stacks.length : Nat) ++ m.Stacks.flatMap bStack ++ putN (m.Robots.length : Nat) ++ m.Robots.flatMap bRobot ++ putN (m.Ports.length : Nat) ++ (m.Ports.take j).flatMap bPort), fun _ i _ => m.Ports.length - i.toNat, ⟨pc6, rfl, _, rfl, 0, rfl, by omega, by simpa using ac6⟩, ?_⟩
  rintro ev6 v6 _ wi6 ⟨j, rfl, hj, a⟩
  have qi6 := q3.keep a.kp n1
  refine ⟨x.Ports, ⟨rfl, qi6.at rfl⟩, cond_d (fun hc => ?_) (fun hc => ?_)⟩
  · have hj2 : j < m.Ports.length := by omega
    have hf := bPorts_take hj2
    have hf2 := takePort_le (L := m.Ports) (i := j + 1)
    rw [hf, List.length_append] at hf2
    have sz := a.kp.size
    rw [Int.toNat_natCast, wr1 j (by omega)]
    intro wd hD4
    replace a := a.keep0 hD4.kp
    have qd := q3.keep a.kp n1
    have szd := a.kp.size
    obtain ⟨A, z, hA, hr, hz⟩ := (isF_keep prt_stays hS3.po a.kp hFn).is.get hj2
    obtain ⟨⟨hz1, hz3⟩, hz2⟩ := hz
    have hokz := m6 _ (List.getElem_mem hj2)
    simp only [bPort, bInts, bL, List.length_append] at hf2
    have hAb : A.block < w3.heap.size := hF3 _ (hR.po.lo (by omega) _ (mem_blk hA))
    have hc : Go.Eng.World.has wd (A.add (j * 3)) [.int .i64 z.Bin, .int .i64 z.Active, slv z.Queue] := hr
    have hc0 : wd.cell? (A.add (j * 3)) = some (.int .i64 z.Bin) := by have := hc 0 _ rfl; rwa [add_add', Nat.add_zero] at this
    refine ⟨x.Ports, ⟨rfl, qd.at rfl⟩, ⟨by omega, by omega⟩, ws hA ⟨z.Bin, ⟨rfl, hc0⟩, x.Ports, ⟨rfl, qd.at rfl⟩, ⟨by omega, by omega⟩, ws hA ⟨z.Active, ⟨rfl, hc 1 _ rfl⟩, x.Ports, ⟨rfl, qd.at rfl⟩, ⟨by omega, by omega⟩, ws hA ⟨z.Queue, ⟨rfl, hc 2 _ rfl⟩, use (a.apd (rnum_a v6 z.Bin (hz1 ▸ hokz.1.1)) (by omega) (by rw [hz1]; simp only [List.length_append, List.length_nil]; omega)) ?_⟩⟩⟩⟩
    rintro _ wt ⟨pt, rfl, ot, kt, bt⟩
    rw [hz1] at ot
    have at1 := a.more ot kt bt
    have ct := has_keep hc kt (by rw [add_block]; exact a.ne hAb (hN _))
    have qt := q3.keep at1.kp n1
    refine ⟨pt, rfl, ct 2 _ rfl, qt.at rfl, ct 1 _ rfl, qt.at rfl, use (at1.apd (rnum_a pt z.Active (hz3 ▸ hokz.1.2)) (by omega) (by rw [hz3]; simp only [List.length_append, List.length_nil]; omega)) ?_⟩
    rintro _ wv ⟨pw, rfl, ow, kw, bw⟩
    rw [hz3] at ow
    have aw := at1.more ow kw bw
    have cw := has_keep ct kw (by rw [add_block]; exact at1.ne hAb (hN _))
    have szt := aw.kp.size
    have kvw : Kp (blkOf v6) wd wv := kt.then kw bt
    refine ⟨pw, rfl, cw 2 _ rfl, (q3.keep aw.kp n1).at rfl, use (numbers_a hokz.2.1 aw.own (by omega) (by simp only [bInts, bL, List.length_append, List.length_nil]; omega) (hz2.keep kvw (fun y hy => a.ne (hF3 y hy) (hN _))).rd (fun h0 y hy => ⟨by have := hF3 y (hz2.lo h0 y hy); omega, aw.ne (hF3 y (hz2.lo h0 y hy)) (hN _)⟩)) ?_⟩
    rintro _ wu ⟨pu, rfl, ou, ku, bu⟩
    have au := aw.more ou ku bu
    exact ⟨pu, rfl, pu, rfl, _, rfl, ⟨j + 1, rfl, by omega, by rw [hf]; simpa [bPort, List.append_assoc] using au⟩, by simp only [Int.toNat_natCast]; omega⟩
  have hje6 : j = m.Ports.length := by omega
  subst hje6
  rw [List.take_length] at a
  have a6 := a
  clear a hj hc
  have e7 : x.Orders.len = m.Orders.length := (hR.od.rd.len).symm
  have fl7 := flat_len_le bOrder_1 m.Orders
  refine ⟨x.Orders, ⟨rfl, qi6.at rfl⟩, use (a6.apd (rnum_a v6 (x.Orders.len : Nat) ⟨by omega, by omega⟩) (by omega) (by rw [e7]; simp only [List.length_append, List.length_nil]; omega)) ?_⟩
  rintro _ wc7 ⟨pc7, rfl, oc7, kc7, bc7⟩
  rw [e7] at oc7
  have ac7 := a6.more oc7 kc7 bc7
  refine ⟨pc7, rfl, fun v i w' => ∃ j : Nat, i = j ∧ j ≤ m.Orders.length ∧ Acc w3 w.heap.size ⟨none, 0, 0⟩ w' v ([] ++ putN m.Seq ++ putN m.Epoch ++ putF m.Held ++ putN (m.Stacks.length : Nat) ++ m.Stacks.flatMap bStack ++ putN (m.Robots.length : Nat) ++ m.Robots.flatMap bRobot ++ putN (m.Ports.length : Nat) ++ m.Ports.flatMap bPort ++ putN (m.Orders.length : Nat) ++ (m.Orders.take j).flatMap bOrder), fun _ i _ => m.Orders.length - i.toNat, ⟨pc7, rfl, _, rfl, 0, rfl, by omega, by simpa using ac7⟩, ?_⟩
  rintro ev7 v7 _ wi7 ⟨j, rfl, hj, a⟩
  have qi7 := q3.keep a.kp n1
  refine ⟨x.Orders, ⟨rfl, qi7.at rfl⟩, cond_d (fun hc => ?_) (fun hc => ?_)⟩
  · have hj2 : j < m.Orders.length := by omega
    have hf := bOrders_take hj2
    have hf2 := takeOrder_le (L := m.Orders) (i := j + 1)
    rw [hf, List.length_append] at hf2
    have sz := a.kp.size
    rw [Int.toNat_natCast, wr1 j (by omega)]
    obtain ⟨A, hA, hr⟩ := (hS3.od.keep a.kp hFn).rd.get hj2
    obtain ⟨z, hzz⟩ : ∃ z, m.Orders[j] = z := ⟨_, rfl⟩
    rw [hzz] at hr hf hf2
    have hok := m7 _ (List.getElem_mem hj2)
    rw [hzz] at hok
    obtain ⟨⟨⟨k1, k2⟩, k3x⟩, k4⟩ := hok
    simp only [bOrder, bMoves, bL, List.length_append] at hf2
    refine ⟨x.Orders, ⟨rfl, qi7.at rfl⟩, ⟨by omega, by omega⟩, ws hA ⟨z, ⟨rfl, hr⟩, fun b5 w9 hA9 => ⟨⟨rfl, hA9.blk.canN _ (Nat.le_refl _)⟩, fun wa ea wd hDa => ?_⟩⟩⟩
    obtain ⟨qb, kb, _⟩ := hA9.blk.putAll (vs := #[.int .i64 z.ID, .int .i64 z.Bin, .int .i64 z.Port, .int .i64 z.State]) rfl ea
    have s9 := hA9.eq
    have kd : Kp [] wi7 wd := (hA9.kp.then kb (by simp; omega)).then0 hDa.kp
    have ad := a.keep0 kd
    have hav := a.own.lo
    have nb : b5 ∉ blkOf v7 := fun hy => by have := (hav _ hy).2; omega
    have qb : Blk wd b5 [.int .i64 z.ID, .int .i64 z.Bin, .int .i64 z.Port, .int .i64 z.State] := qb.keep hDa.kp (by simp)
    have lb := qb.lt
    have szd := ad.kp.size
    have aa := Acc.start ad.own
    have hBd : w.heap.size ≤ wd.heap.size := by omega
    refine ⟨_, ⟨rfl, qb.at rfl⟩, _, ⟨rfl, qb.at rfl⟩, _, ⟨rfl, qb.at rfl⟩, _, ⟨rfl, qb.at rfl⟩, use (aa.apd (rnum_a v7 z.ID k1) hBd (by simp only [List.length_append, List.length_nil]; omega)) ?_⟩
    rintro _ t1 ⟨u1, rfl, ou1, ku1, bu1⟩
    have aa1 := aa.more ou1 ku1 bu1
    have qb1 := qb.keep aa1.kp nb
    refine ⟨u1, rfl, qb1.at rfl, qb1.at rfl, qb1.at rfl, use (aa1.apd (rnum_a u1 z.Bin k2) hBd (by simp only [List.length_append, List.length_nil]; omega)) ?_⟩
    rintro _ t2 ⟨u2, rfl, ou2, ku2, bu2⟩
    have aa2 := aa1.more ou2 ku2 bu2
    have qb2 := qb.keep aa2.kp nb
    refine ⟨u2, rfl, qb2.at rfl, qb2.at rfl, use (aa2.apd (rnum_a u2 z.Port k3x) hBd (by simp only [List.length_append, List.length_nil]; omega)) ?_⟩
    rintro _ t3 ⟨u3, rfl, ou3, ku3, bu3⟩
    have aa3 := aa2.more ou3 ku3 bu3
    have qb3 := qb.keep aa3.kp nb
    refine ⟨u3, rfl, qb3.at rfl, use (aa3.apd (rnum_a u3 z.State k4) hBd (by simp only [List.length_append, List.length_nil]; omega)) ?_⟩
    rintro _ t4 ⟨u4, rfl, ou4, ku4, bu4⟩
    have aa4 := aa3.more ou4 ku4 bu4
    have qb4 := qb.keep aa4.kp nb
    have au := ad.more aa4.own aa4.kp aa4.hb
    exact ⟨u4, rfl, u4, rfl, _, rfl, ⟨j + 1, rfl, by omega, by rw [hf]; simpa [bOrder, List.append_assoc] using au⟩, by simp only [Int.toNat_natCast]; omega⟩
  have hje7 : j = m.Orders.length := by omega
  subst hje7
  rw [List.take_length] at a
  have a7 := a
  clear a hj hc
  have e8 : x.Jobs.len = m.Jobs.length := (hR.jo.rd.len).symm
  have fl8 := flat_len_le bJob_1 m.Jobs
  refine ⟨x.Jobs, ⟨rfl, qi7.at rfl⟩, use (a7.apd (rnum_a v7 (x.Jobs.len : Nat) ⟨by omega, by omega⟩) (by omega) (by rw [e8]; simp only [List.length_append, List.length_nil]; omega)) ?_⟩
  rintro _ wc8 ⟨pc8, rfl, oc8, kc8, bc8⟩
  rw [e8] at oc8
  have ac8 := a7.more oc8 kc8 bc8
  refine ⟨pc8, rfl, fun v i w' => ∃ j : Nat, i = j ∧ j ≤ m.Jobs.length ∧ Acc w3 w.heap.size ⟨none, 0, 0⟩ w' v ([] ++ putN m.Seq ++ putN m.Epoch ++ putF m.Held ++ putN (m.Stacks.length : Nat) ++ m.Stacks.flatMap bStack ++ putN (m.Robots.length : Nat) ++ m.Robots.flatMap bRobot ++ putN (m.Ports.length : Nat) ++ m.Ports.flatMap bPort ++ putN (m.Orders.length : Nat) ++ m.Orders.flatMap bOrder ++ putN (m.Jobs.length : Nat) ++ (m.Jobs.take j).flatMap bJob), fun _ i _ => m.Jobs.length - i.toNat, ⟨pc8, rfl, _, rfl, 0, rfl, by omega, by simpa using ac8⟩, ?_⟩
  rintro ev8 v8 _ wi8 ⟨j, rfl, hj, a⟩
  have qi8 := q3.keep a.kp n1
  refine ⟨x.Jobs, ⟨rfl, qi8.at rfl⟩, cond_d (fun hc => ?_) (fun hc => ?_)⟩
  · have hj2 : j < m.Jobs.length := by omega
    have hf := bJobs_take hj2
    have hf2 := takeJob_le (L := m.Jobs) (i := j + 1)
    rw [hf, List.length_append] at hf2
    have sz := a.kp.size
    rw [Int.toNat_natCast, wr1 j (by omega)]
    obtain ⟨A, hA, hr⟩ := (hS3.jo.keep a.kp hFn).rd.get hj2
    obtain ⟨z, hzz⟩ : ∃ z, m.Jobs[j] = z := ⟨_, rfl⟩
    rw [hzz] at hr hf hf2
    have hok := m8 _ (List.getElem_mem hj2)
    rw [hzz] at hok
    obtain ⟨⟨⟨⟨⟨⟨k1, k2⟩, k3x⟩, k4⟩, k5⟩, k6⟩, k7⟩ := hok
    simp only [bJob, bMoves, bL, List.length_append] at hf2
    refine ⟨x.Jobs, ⟨rfl, qi8.at rfl⟩, ⟨by omega, by omega⟩, ws hA ⟨z, ⟨rfl, hr⟩, fun b5 w9 hA9 => ⟨⟨rfl, hA9.blk.canN _ (Nat.le_refl _)⟩, fun wa ea wd hDa => ?_⟩⟩⟩
    obtain ⟨qb, kb, _⟩ := hA9.blk.putAll (vs := #[.int .i64 z.ID, .int .i64 z.Kind, .int .i64 z.Order, .int .i64 z.Bin, .int .i64 z.From.X, .int .i64 z.From.Y, .int .i64 z.To.X, .int .i64 z.To.Y, .int .i64 z.Robot]) rfl ea
    have s9 := hA9.eq
    have kd : Kp [] wi8 wd := (hA9.kp.then kb (by simp; omega)).then0 hDa.kp
    have ad := a.keep0 kd
    have hav := a.own.lo
    have nb : b5 ∉ blkOf v8 := fun hy => by have := (hav _ hy).2; omega
    have qb : Blk wd b5 [.int .i64 z.ID, .int .i64 z.Kind, .int .i64 z.Order, .int .i64 z.Bin, .int .i64 z.From.X, .int .i64 z.From.Y, .int .i64 z.To.X, .int .i64 z.To.Y, .int .i64 z.Robot] := qb.keep hDa.kp (by simp)
    have lb := qb.lt
    have szd := ad.kp.size
    have aa := Acc.start ad.own
    have hBd : w.heap.size ≤ wd.heap.size := by omega
    refine ⟨_, ⟨rfl, qb.at rfl⟩, _, ⟨rfl, qb.at rfl⟩, _, ⟨rfl, qb.at rfl⟩, _, ⟨rfl, qb.at rfl⟩, use (aa.apd (rnum_a v8 z.ID k1) hBd (by simp only [List.length_append, List.length_nil]; omega)) ?_⟩
    rintro _ t1 ⟨u1, rfl, ou1, ku1, bu1⟩
    have aa1 := aa.more ou1 ku1 bu1
    have qb1 := qb.keep aa1.kp nb
    refine ⟨u1, rfl, qb1.at rfl, qb1.at rfl, qb1.at rfl, use (aa1.apd (rnum_a u1 z.Kind k2) hBd (by simp only [List.length_append, List.length_nil]; omega)) ?_⟩
    rintro _ t2 ⟨u2, rfl, ou2, ku2, bu2⟩
    have aa2 := aa1.more ou2 ku2 bu2
    have qb2 := qb.keep aa2.kp nb
    refine ⟨u2, rfl, qb2.at rfl, qb2.at rfl, use (aa2.apd (rnum_a u2 z.Order k3x) hBd (by simp only [List.length_append, List.length_nil]; omega)) ?_⟩
    rintro _ t3 ⟨u3, rfl, ou3, ku3, bu3⟩
    have aa3 := aa2.more ou3 ku3 bu3
    have qb3 := qb.keep aa3.kp nb
    refine ⟨u3, rfl, qb3.at rfl, use (aa3.apd (rnum_a u3 z.Bin k4) hBd (by simp only [List.length_append, List.length_nil]; omega)) ?_⟩
    rintro _ t4 ⟨u4, rfl, ou4, ku4, bu4⟩
    have aa4 := aa3.more ou4 ku4 bu4
    have qb4 := qb.keep aa4.kp nb
    refine ⟨u4, rfl, fun t4d hD4 => ?_⟩
    replace aa4 := aa4.keep0 hD4.kp
    have qb4 := qb.keep aa4.kp nb
    refine ⟨z.From, ⟨rfl, qb4.rd 4 #[.int .i64 z.From.X, .int .i64 z.From.Y] (seg rfl)⟩, z.To, ⟨rfl, qb4.rd 6 #[.int .i64 z.To.X, .int .i64 z.To.Y] (seg rfl)⟩, _, ⟨rfl, qb4.at rfl⟩, use (aa4.apd (rcell_a u4 z.From k5) hBd (by simp only [List.length_append, List.length_nil]; omega)) ?_⟩
    rintro _ t5 ⟨u5, rfl, ou5, ku5, bu5⟩
    have aa5 := aa4.more ou5 ku5 bu5
    have qb5 := qb.keep aa5.kp nb
    refine ⟨u5, rfl, qb5.at rfl, qb5.rd 6 #[.int .i64 z.To.X, .int .i64 z.To.Y] (seg rfl), use (aa5.apd (rcell_a u5 z.To k6) hBd (by simp only [List.length_append, List.length_nil]; omega)) ?_⟩
    rintro _ t6 ⟨u6, rfl, ou6, ku6, bu6⟩
    have aa6 := aa5.more ou6 ku6 bu6
    have qb6 := qb.keep aa6.kp nb
    refine ⟨u6, rfl, qb6.at rfl, use (aa6.apd (rnum_a u6 z.Robot k7) hBd (by simp only [List.length_append, List.length_nil]; omega)) ?_⟩
    rintro _ t7 ⟨u7, rfl, ou7, ku7, bu7⟩
    have aa7 := aa6.more ou7 ku7 bu7
    have qb7 := qb.keep aa7.kp nb
    have au := ad.more aa7.own aa7.kp aa7.hb
    exact ⟨u7, rfl, u7, rfl, _, rfl, ⟨j + 1, rfl, by omega, by rw [hf]; simpa [bJob, List.append_assoc] using au⟩, by simp only [Int.toNat_natCast]; omega⟩
  have hje8 : j = m.Jobs.length := by omega
  subst hje8
  rw [List.take_length] at a
  have a8 := a
  clear a hj hc
  intro w16 hD16
  replace a8 := a8.keep0 hD16.kp
  have q16 := q3.keep a8.kp n1
  refine ⟨_, ⟨rfl, q16.at rfl⟩, _, ⟨rfl, q16.at rfl⟩, use (a8.apd (rnum_a v8 x.NextOrder (g9 ▸ m9)) (by omega) (by rw [g9]; simp only [List.length_append, List.length_nil]; omega)) ?_⟩
  rintro _ w19 ⟨p9, rfl, o9, k9, b9'⟩
  rw [g9] at o9
  have a9 := a8.more o9 k9 b9'
  refine ⟨p9, rfl, (q3.keep a9.kp n1).at rfl, use (a9.apd (rnum_a p9 x.NextJob (g10 ▸ m10)) (by omega) (by rw [g10]; simp only [List.length_append, List.length_nil]; omega)) ?_⟩
  rintro _ w22 ⟨p10, rfl, o10, k10, b10'⟩
  rw [g10] at o10
  obtain ⟨f1, f2, f3⟩ := (a9.more o10 k10 b10').fin k3 (show _ = bState m by simp [bState, bL])
  exact ⟨p10, rfl, p10, rfl, f1, f2⟩)
end Go.Proofs.Ytocbjadhcfjfiaa
