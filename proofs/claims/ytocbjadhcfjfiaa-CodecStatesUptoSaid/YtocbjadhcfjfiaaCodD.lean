/- Two states that are the same. No conditions. -/
import Derived.Test.YtocbjadhcfjfiaaCodS
import Derived.Test.YtocbjadhcfjfiaaCodI
import Derived.Test.YtocbjadhcfjfiaaCodZ
namespace Go.Proofs.Ytocbjadhcfjfiaa
open Go.RowKit Go.Eng
set_option linter.unusedVariables false
set_option linter.unusedSimpArgs false
theorem SameInts_s {a b : Sl} {L : List Int} {w : World} (ha : RdL w 1 (Value.int .i64) a L) (hb : RdL w 1 (Value.int .i64) b L) (hl : L.length ≤ 1000000000) : C.skeplaw00_SameInts a b w (fun v w' => v = .bool true ∧ Kp [] w w') noP := skeplaw00_SameInts_of (by
  unfold W.skeplaw00_SameInts
  have la := ha.len
  have lb := hb.len
  refine cond_f (bne_f (by omega)) ⟨fun i w' => ∃ j : Nat, i = j ∧ j ≤ L.length ∧ Kp [] w w', fun i _ => L.length - i.toNat, ⟨_, rfl, 0, rfl, Nat.zero_le _, Kp.refl _ _⟩, ?_⟩
  rintro e0 _ w5 ⟨j, rfl, hj, k5⟩
  refine cond_d (fun hc => ?_) (fun hc => ⟨rfl, k5⟩)
  have hj2 : j < L.length := by omega
  intro w6 hD
  have k6 := k5.then0 hD.kp
  rw [Int.toNat_natCast, wr1 j (by omega)]
  obtain ⟨A, hA, hr⟩ := (ha.keep0 k6).get hj2
  obtain ⟨A', hA', hr'⟩ := (hb.keep0 k6).get hj2
  exact ⟨⟨by omega, by omega⟩, ws hA ⟨L[j], ⟨rfl, rd_leaf hr rfl⟩, ⟨by omega, by omega⟩, ws hA' ⟨L[j], ⟨rfl, rd_leaf hr' rfl⟩, cond_f (bne_f rfl) ⟨_, rfl, ⟨j + 1, rfl, by omega, k6⟩, by simp only [Int.toNat_natCast]; omega⟩⟩⟩⟩)
theorem SameJobs_s {a b : Sl} {L : List S.api_Job} {w : World} (ha : RdL w 9 S.api_Job.v a L) (hb : RdL w 9 S.api_Job.v b L) (hl : L.length ≤ 1000000000) : C.skeplaw00_SameJobs a b w (fun v w' => v = .bool true ∧ Kp [] w w') noP := skeplaw00_SameJobs_of (by
  unfold W.skeplaw00_SameJobs
  have la := ha.len
  have lb := hb.len
  refine cond_f (bne_f (by omega)) ⟨fun i w' => ∃ j : Nat, i = j ∧ j ≤ L.length ∧ Kp [] w w', fun i _ => L.length - i.toNat, ⟨_, rfl, 0, rfl, Nat.zero_le _, Kp.refl _ _⟩, ?_⟩
  rintro e0 _ w5 ⟨j, rfl, hj, k5⟩
  refine cond_d (fun hc => ?_) (fun hc => ⟨rfl, k5⟩)
  have hj2 : j < L.length := by omega
  intro w6 hD
  have k6 := k5.then0 hD.kp
  rw [Int.toNat_natCast, wr1 j (by omega)]
  obtain ⟨A, hA, hr⟩ := (ha.keep0 k6).get hj2
  obtain ⟨A', hA', hr'⟩ := (hb.keep0 k6).get hj2
  exact ⟨⟨by omega, by omega⟩, ws hA ⟨L[j], ⟨rfl, hr⟩, ⟨by omega, by omega⟩, ws hA' ⟨L[j], ⟨rfl, hr'⟩, cond_f (by simp) ⟨_, rfl, ⟨j + 1, rfl, by omega, k6⟩, by simp only [Int.toNat_natCast]; omega⟩⟩⟩⟩)
theorem SameStacks_s {a b : Sl} {L : List M.api_Stack} {w : World} {F G : Nat → Prop} (ha : IsF w F 3 S.api_Stack.v (StkR w F) a L) (hb : IsF w G 3 S.api_Stack.v (StkR w G) b L) (hl : L.length ≤ 1000000000) (hn : ∀ x ∈ L, x.Bins.length ≤ 1000000000) : C.skeplaw00_SameStacks a b w (fun v w' => v = .bool true ∧ Kp [] w w') noP := skeplaw00_SameStacks_of (by
  unfold W.skeplaw00_SameStacks
  have la := ha.is.len
  have lb := hb.is.len
  refine cond_f (bne_f (by omega)) ⟨fun i w' => ∃ j : Nat, i = j ∧ j ≤ L.length ∧ Kp [] w w', fun i _ => L.length - i.toNat, ⟨_, rfl, 0, rfl, Nat.zero_le _, Kp.refl _ _⟩, ?_⟩
  rintro e0 _ w5 ⟨j, rfl, hj, k5⟩
  refine cond_d (fun hc => ?_) (fun hc => ⟨rfl, k5⟩)
  have hj2 : j < L.length := by omega
  intro w6 hD
  have k6 := k5.then0 hD.kp
  rw [Int.toNat_natCast, wr1 j (by omega)]
  obtain ⟨A, x, hA, hr, hx⟩ := (isF_keep stk_stays ha k6 (fun _ _ => by simp)).is.get hj2
  obtain ⟨A', y, hA', hr', hy⟩ := (isF_keep stk_stays hb k6 (fun _ _ => by simp)).is.get hj2
  have hc1 : Go.Eng.World.has w6 (A.add (j * 3)) [.int .i64 x.At.X, .int .i64 x.At.Y, slv x.Bins] := hr
  have hc2 : Go.Eng.World.has w6 (A'.add (j * 3)) [.int .i64 y.At.X, .int .i64 y.At.Y, slv y.Bins] := hr'
  refine ⟨⟨by omega, by omega⟩, ws hA ⟨x.At, ⟨rfl, sub_rd0 hc1 #[.int .i64 x.At.X, .int .i64 x.At.Y] (seg rfl)⟩, ⟨by omega, by omega⟩, ws hA' ⟨y.At, ⟨rfl, sub_rd0 hc2 #[.int .i64 y.At.X, .int .i64 y.At.Y] (seg rfl)⟩, cond_f (by rw [hx.1, hy.1]; simp) ⟨⟨by omega, by omega⟩, ws hA ⟨x.Bins, ⟨rfl, hc1 2 _ rfl⟩, ⟨by omega, by omega⟩, ws hA' ⟨y.Bins, ⟨rfl, hc2 2 _ rfl⟩, use (SameInts_s hx.2.rd hy.2.rd (hn _ (List.getElem_mem hj2))) ?_⟩⟩⟩⟩⟩⟩
  rintro _ w15 ⟨rfl, k15⟩
  exact ⟨true, rfl, cond_f rfl ⟨_, rfl, ⟨j + 1, rfl, by omega, k6.then0 k15⟩, by simp only [Int.toNat_natCast]; omega⟩⟩)
set_option maxHeartbeats 1000000 in
theorem sameRobot_s {a b : S.api_Robot} {m : M.api_Robot} {w : World} {F G : Nat → Prop} (ha : RobR w F a m) (hb : RobR w G b m) (hl : m.Moves.length ≤ 1000000000) : C.skeplaw00_sameRobot a b w (fun v w' => v = .bool true ∧ Kp [] w w') noP := skeplaw00_sameRobot_of (by
  unfold W.skeplaw00_sameRobot
  obtain ⟨⟨a1, a2, a3, a4, a5, a6⟩, a7⟩ := ha
  obtain ⟨⟨b1, b2, b3, b4, b5, b6⟩, b7⟩ := hb
  intro c1 w2 h1 c3 w4 h3
  have q1 : Blk w4 c1 [.int .i64 a.At.At.X, .int .i64 a.At.At.Y, .bool a.At.Down, .int .i64 a.Load, .int .i64 a.Job, slv a.Moves, .bool a.Out, .int .i64 a.Num, .bool a.Stands] := h1.blk.keep h3.kp (by simp)
  have q3 : Blk w4 c3 [.int .i64 b.At.At.X, .int .i64 b.At.At.Y, .bool b.At.Down, .int .i64 b.Load, .int .i64 b.Job, slv b.Moves, .bool b.Out, .int .i64 b.Num, .bool b.Stands] := h3.blk
  have k4 := h1.kp.then0 h3.kp
  refine ⟨a.At, ⟨rfl, q1.rd 0 #[.int .i64 a.At.At.X, .int .i64 a.At.At.Y, .bool a.At.Down] (seg rfl)⟩, b.At, ⟨rfl, q3.rd 0 #[.int .i64 b.At.At.X, .int .i64 b.At.At.Y, .bool b.At.Down] (seg rfl)⟩, cond_t (by rw [a1, b1]; simp) ⟨_, ⟨rfl, q1.at rfl⟩, _, ⟨rfl, q3.at rfl⟩, cond_t (beq_t (by rw [a2, b2])) ⟨_, ⟨rfl, q1.at rfl⟩, _, ⟨rfl, q3.at rfl⟩, cond_t (beq_t (by rw [a3, b3])) ⟨a.Moves, ⟨rfl, q1.at rfl⟩, b.Moves, ⟨rfl, q3.at rfl⟩, use (SameMoves_s (a7.rd.keep0 k4) (b7.rd.keep0 k4) hl) ?_⟩⟩⟩⟩
  rintro _ w13 ⟨t, rfl, ht, k13⟩
  obtain rfl := ht.2 rfl
  have p1 := q1.keep k13 (by simp)
  have p3 := q3.keep k13 (by simp)
  exact ⟨true, rfl, cond_t rfl ⟨_, ⟨rfl, p1.at rfl⟩, _, ⟨rfl, p3.at rfl⟩, cond_t (by rw [a4, b4]; simp) ⟨_, ⟨rfl, p1.at rfl⟩, _, ⟨rfl, p3.at rfl⟩, cond_t (beq_t (by rw [a5, b5])) ⟨_, ⟨rfl, p1.at rfl⟩, _, ⟨rfl, p3.at rfl⟩, by rw [a6, b6]; simp, k4.then0 k13⟩⟩⟩⟩)
set_option maxHeartbeats 4000000 in
set_option maxRecDepth 20000 in
theorem SameState_s {a b : S.api_State} {m : M.api_State} {w : World} {F G : Nat → Prop} (ha : StR w F a m) (hb : StR w G b m) (hz : szSt m ≤ 1000000000) : C.skeplaw00_SameState a b w (fun v w' => v = .bool true ∧ Kp [] w w') noP := skeplaw00_SameState_of (by
  unfold W.skeplaw00_SameState
  unfold szSt at hz
  obtain ⟨a1, a2, a3, a4, a5⟩ := ha.sc
  obtain ⟨b1, b2, b3, b4, b5⟩ := hb.sc
  intro c1 w2 h1 c3 w4 h3
  have k4 := h1.kp.then0 h3.kp
  have q1 : Blk w4 c1 [.int .i64 a.Seq, .int .i64 a.Epoch, .bool a.Held, slv a.Stacks, slv a.Robots, slv a.Ports, slv a.Orders, slv a.Jobs, .int .i64 a.NextOrder, .int .i64 a.NextJob] := h1.blk.keep h3.kp (by simp)
  have q3 : Blk w4 c3 [.int .i64 b.Seq, .int .i64 b.Epoch, .bool b.Held, slv b.Stacks, slv b.Robots, slv b.Ports, slv b.Orders, slv b.Jobs, .int .i64 b.NextOrder, .int .i64 b.NextJob] := h3.blk
  have ra := ha.ro.is.len
  have rb := hb.ro.is.len
  have pa := ha.po.is.len
  have pb := hb.po.is.len
  have oa := ha.od.rd.len
  have ob := hb.od.rd.len
  have A4 := ha.keep0 k4
  have B4 := hb.keep0 k4
  refine ⟨_, ⟨rfl, q1.at rfl⟩, _, ⟨rfl, q3.at rfl⟩, cond_f (bne_f (by rw [a1, b1])) ⟨_, ⟨rfl, q1.at rfl⟩, _, ⟨rfl, q3.at rfl⟩, cond_f (bne_f (by rw [a2, b2])) ⟨_, ⟨rfl, q1.at rfl⟩, _, ⟨rfl, q3.at rfl⟩, cond_f (by rw [a3, b3]; simp) ⟨_, ⟨rfl, q1.at rfl⟩, _, ⟨rfl, q3.at rfl⟩, cond_f (bne_f (by rw [a4, b4])) ⟨_, ⟨rfl, q1.at rfl⟩, _, ⟨rfl, q3.at rfl⟩, cond_f (bne_f (by rw [a5, b5])) ⟨a.Stacks, ⟨rfl, q1.at rfl⟩, b.Stacks, ⟨rfl, q3.at rfl⟩, use (SameStacks_s A4.st B4.st (by omega) (fun x hx => by have := mem_sum (f := fun x : M.api_Stack => x.Bins.length) hx; omega)) ?_⟩⟩⟩⟩⟩⟩
  rintro _ w17 ⟨rfl, k17⟩
  have k17' := k4.then0 k17
  refine ⟨true, rfl, cond_f rfl ⟨a.Jobs, ⟨rfl, (q1.keep k17 (by simp)).at rfl⟩, b.Jobs, ⟨rfl, (q3.keep k17 (by simp)).at rfl⟩, use (SameJobs_s (ha.keep0 k17').jo.rd (hb.keep0 k17').jo.rd (by omega)) ?_⟩⟩
  rintro _ w22 ⟨rfl, k22⟩
  have k22' := k17'.then0 k22
  have k422 := k17.then0 k22
  have p1 := q1.keep k422 (by simp)
  have p3 := q3.keep k422 (by simp)
  refine ⟨true, rfl, cond_f rfl ⟨a.Robots, ⟨rfl, p1.at rfl⟩, b.Robots, ⟨rfl, p3.at rfl⟩, cond_f (bne_f (by omega)) ⟨a.Ports, ⟨rfl, p1.at rfl⟩, b.Ports, ⟨rfl, p3.at rfl⟩, cond_f (bne_f (by omega)) ⟨a.Orders, ⟨rfl, p1.at rfl⟩, b.Orders, ⟨rfl, p3.at rfl⟩, cond_f (bne_f (by omega)) ?_⟩⟩⟩⟩
  refine ⟨fun i w' => ∃ j : Nat, i = j ∧ j ≤ m.Robots.length ∧ Kp [] w22 w', fun i _ => m.Robots.length - i.toNat, ⟨_, rfl, 0, rfl, Nat.zero_le _, Kp.refl _ _⟩, ?_⟩
  rintro ev1 _ w35 ⟨j, rfl, hj, k35⟩
  refine ⟨a.Robots, ⟨rfl, (p1.keep k35 (by simp)).at rfl⟩, cond_d (fun hc => ?_) (fun hc => ?_)⟩
  · have hj2 : j < m.Robots.length := by omega
    intro w37 hD
    have k37 := k35.then0 hD.kp
    rw [Int.toNat_natCast, wr1 j (by omega)]
    obtain ⟨A, x, hA, hr, hx⟩ := (ha.keep0 (k22'.then0 k37)).ro.is.get hj2
    obtain ⟨A', y, hA', hr', hy⟩ := (hb.keep0 (k22'.then0 k37)).ro.is.get hj2
    refine ⟨a.Robots, ⟨rfl, (p1.keep k37 (by simp)).at rfl⟩, ⟨by omega, by omega⟩, ws hA ⟨x, ⟨rfl, hr⟩, b.Robots, ⟨rfl, (p3.keep k37 (by simp)).at rfl⟩, ⟨by omega, by omega⟩, ws hA' ⟨y, ⟨rfl, hr'⟩, use (sameRobot_s hx hy (by have := mem_sum (f := fun x : M.api_Robot => x.Moves.length) (List.getElem_mem hj2); omega)) ?_⟩⟩⟩
    rintro _ w44 ⟨rfl, k44⟩
    exact ⟨true, rfl, cond_f rfl ⟨_, rfl, ⟨j + 1, rfl, by omega, k37.then0 k44⟩, by simp only [Int.toNat_natCast]; omega⟩⟩
  refine ⟨fun i w' => ∃ j : Nat, i = j ∧ j ≤ m.Ports.length ∧ Kp [] w22 w', fun i _ => m.Ports.length - i.toNat, ⟨_, rfl, 0, rfl, Nat.zero_le _, k35⟩, ?_⟩
  rintro ev2 _ w52 ⟨j, rfl, hj, k52⟩
  refine ⟨a.Ports, ⟨rfl, (p1.keep k52 (by simp)).at rfl⟩, cond_d (fun hc => ?_) (fun hc => ?_)⟩
  · have hj2 : j < m.Ports.length := by omega
    intro w54 hD
    have k54 := k52.then0 hD.kp
    rw [Int.toNat_natCast, wr1 j (by omega)]
    obtain ⟨A, x, hA, hr, hx⟩ := (ha.keep0 (k22'.then0 k54)).po.is.get hj2
    obtain ⟨A', y, hA', hr', hy⟩ := (hb.keep0 (k22'.then0 k54)).po.is.get hj2
    have hc1 : Go.Eng.World.has w54 (A.add (j * 3)) [.int .i64 x.Bin, .int .i64 x.Active, slv x.Queue] := hr
    have hc2 : Go.Eng.World.has w54 (A'.add (j * 3)) [.int .i64 y.Bin, .int .i64 y.Active, slv y.Queue] := hr'
    have hd1 : w54.cell? (A.add (j * 3)) = some (.int .i64 x.Bin) := by have := hc1 0 _ rfl; rwa [add_add', Nat.add_zero] at this
    have hd2 : w54.cell? (A'.add (j * 3)) = some (.int .i64 y.Bin) := by have := hc2 0 _ rfl; rwa [add_add', Nat.add_zero] at this
    have p1' := p1.keep k54 (by simp)
    have p3' := p3.keep k54 (by simp)
    refine ⟨a.Ports, ⟨rfl, p1'.at rfl⟩, ⟨by omega, by omega⟩, ws hA ⟨x.Bin, ⟨rfl, hd1⟩, b.Ports, ⟨rfl, p3'.at rfl⟩, ⟨by omega, by omega⟩, ws hA' ⟨y.Bin, ⟨rfl, hd2⟩, cond_f (bne_f (by rw [hx.1.1, hy.1.1])) ⟨a.Ports, ⟨rfl, p1'.at rfl⟩, ⟨by omega, by omega⟩, ws hA ⟨x.Active, ⟨rfl, hc1 1 _ rfl⟩, b.Ports, ⟨rfl, p3'.at rfl⟩, ⟨by omega, by omega⟩, ws hA' ⟨y.Active, ⟨rfl, hc2 1 _ rfl⟩, cond_f (bne_f (by rw [hx.1.2, hy.1.2])) ⟨a.Ports, ⟨rfl, p1'.at rfl⟩, ⟨by omega, by omega⟩, ws hA ⟨x.Queue, ⟨rfl, hc1 2 _ rfl⟩, b.Ports, ⟨rfl, p3'.at rfl⟩, ⟨by omega, by omega⟩, ws hA' ⟨y.Queue, ⟨rfl, hc2 2 _ rfl⟩, use (SameInts_s hx.2.rd hy.2.rd (by have := mem_sum (f := fun x : M.api_Port => x.Queue.length) (List.getElem_mem hj2); omega)) ?_⟩⟩⟩⟩⟩⟩⟩⟩⟩
    rintro _ w73 ⟨rfl, k73⟩
    exact ⟨true, rfl, cond_f rfl ⟨_, rfl, ⟨j + 1, rfl, by omega, k54.then0 k73⟩, by simp only [Int.toNat_natCast]; omega⟩⟩
  refine ⟨fun i w' => ∃ j : Nat, i = j ∧ j ≤ m.Orders.length ∧ Kp [] w22 w', fun i _ => m.Orders.length - i.toNat, ⟨_, rfl, 0, rfl, Nat.zero_le _, k52⟩, ?_⟩
  rintro ev3 _ w81 ⟨j, rfl, hj, k81⟩
  refine ⟨a.Orders, ⟨rfl, (p1.keep k81 (by simp)).at rfl⟩, cond_d (fun hc => ?_) (fun hc => ⟨rfl, k22'.then0 k81⟩)⟩
  have hj2 : j < m.Orders.length := by omega
  intro w83 hD
  have k83 := k81.then0 hD.kp
  rw [Int.toNat_natCast, wr1 j (by omega)]
  obtain ⟨A, hA, hr⟩ := (ha.keep0 (k22'.then0 k83)).od.rd.get hj2
  obtain ⟨A', hA', hr'⟩ := (hb.keep0 (k22'.then0 k83)).od.rd.get hj2
  exact ⟨a.Orders, ⟨rfl, (p1.keep k83 (by simp)).at rfl⟩, ⟨by omega, by omega⟩, ws hA ⟨m.Orders[j], ⟨rfl, hr⟩, b.Orders, ⟨rfl, (p3.keep k83 (by simp)).at rfl⟩, ⟨by omega, by omega⟩, ws hA' ⟨m.Orders[j], ⟨rfl, hr'⟩, cond_f (by simp) ⟨_, rfl, ⟨j + 1, rfl, by omega, k83⟩, by simp only [Int.toNat_natCast]; omega⟩⟩⟩⟩)
end Go.Proofs.Ytocbjadhcfjfiaa
