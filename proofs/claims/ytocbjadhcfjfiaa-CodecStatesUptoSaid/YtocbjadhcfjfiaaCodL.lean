/- A loop of the document's reader: what it has read so far; robots, jobs. Printed by gen_rget.py. No conditions. -/
import Derived.Test.YtocbjadhcfjfiaaCodW
namespace Go.Proofs.Ytocbjadhcfjfiaa
open Go.RowKit Go.Eng
set_option linter.unusedVariables false
set_option linter.unusedSimpArgs false
theorem rep_stepL {α : Type} {p : Bs → Option (α × Bs)} {l' l'' : Bs} {N j : Nat} {L : List α} {x : α} {z : Option (List α × Bs)} (hj : j < N) (h : z = (rep p (N - j) l').map (fun q => (L ++ q.1, q.2))) (hx : p l' = some (x, l'')) : z = (rep p (N - (j + 1)) l'').map (fun q => ((L ++ [x]) ++ q.1, q.2)) := by
  rw [h, show N - j = (N - (j + 1)) + 1 by omega, rep, hx, Option.bind_some]
  cases rep p (N - (j + 1)) l'' with
  | none => rfl
  | some q => simp
theorem rep_badL {α : Type} {p : Bs → Option (α × Bs)} {l' : Bs} {N j : Nat} {L : List α} {z : Option (List α × Bs)} (hj : j < N) (h : z = (rep p (N - j) l').map (fun q => (L ++ q.1, q.2))) (hx : p l' = none) : z = none := by
  rw [h, show N - j = (N - (j + 1)) + 1 by omega, rep, hx]
  rfl
/-- A list that is read item by item: j of N are read. -/
def LR {α : Type} (p : Bs → Option (α × Bs)) (l : Bs) (st : Option Nat) (N j : Nat) (L : List α) (t : Option Nat) : Prop :=
  L.length = j ∧ j ≤ N ∧ ((t = none ∧ ∀ k, st = some k → pL p (l.drop k) = none) ∨ ∃ a k2, st = some a ∧ t = some k2 ∧ pL p (l.drop a) = (rep p (N - j) (l.drop k2)).map (fun q => (L ++ q.1, q.2)))
theorem LR_start {α : Type} {p : Bs → Option (α × Bs)} {l : Bs} {st t1 : Option Nat} {n : Int} (e : Res pCnt l st n t1) (hz : t1 = none → n = 0) : ∃ N : Nat, n = N ∧ N ≤ l.length ∧ LR p l st N 0 [] t1 := by
  rcases e with ⟨a, b, rfl, rfl, e1⟩ | ⟨rfl, e1⟩
  · have hN : 0 ≤ n ∧ n ≤ ((l.drop b).length : Int) := by
      unfold pCnt at e1
      rw [Option.bind_eq_some_iff] at e1
      obtain ⟨q, g1, g2⟩ := e1
      split at g2
      · cases g2
      · injection g2 with g2
        subst g2
        dsimp only at *
        omega
    have hdl : (l.drop b).length = l.length - b := List.length_drop
    obtain ⟨N, rfl⟩ : ∃ N : Nat, n = N := ⟨n.toNat, by omega⟩
    refine ⟨N, rfl, by omega, rfl, Nat.zero_le _, .inr ⟨a, b, rfl, rfl, ?_⟩⟩
    rw [pL_cnt, e1, Option.bind_some, Int.toNat_natCast]
    simp
  · refine ⟨0, hz rfl, Nat.zero_le _, rfl, Nat.le_refl _, .inl ⟨rfl, fun k hk => ?_⟩⟩
    rw [pL_cnt, e1 k hk]
    rfl
theorem LR.step {α : Type} {p : Bs → Option (α × Bs)} {l : Bs} {st : Option Nat} {N j k2 : Nat} {L : List α} {t3 : Option Nat} {x : α} (h : LR p l st N j L (some k2)) (hj : j < N) (e : Res p l (some k2) x t3) : LR p l st N (j + 1) (L ++ [x]) t3 := by
  obtain ⟨h1, h2, h3⟩ := h
  refine ⟨by simp [h1], hj, ?_⟩
  rcases h3 with ⟨h3, _⟩ | ⟨a, k, ha, hk, h3⟩
  · cases h3
  · injection hk with hk
    subst hk
    rcases e with ⟨c1, c2, g, rfl, ex⟩ | ⟨rfl, ex⟩
    · injection g with g
      subst g
      exact .inr ⟨a, c2, ha, rfl, rep_stepL hj h3 ex⟩
    · refine .inl ⟨rfl, fun q hq => ?_⟩
      rw [ha] at hq
      injection hq with hq
      subst hq
      exact rep_badL hj h3 (ex k2 rfl)
theorem LR.fin {α : Type} {p : Bs → Option (α × Bs)} {l : Bs} {st : Option Nat} {N j : Nat} {L : List α} {t : Option Nat} (h : LR p l st N j L t) (hx : t = none ∨ j = N) : Res (pL p) l st L t := by
  obtain ⟨h1, h2, h3⟩ := h
  rcases h3 with ⟨rfl, h3⟩ | ⟨a, k, ha, rfl, h3⟩
  · exact .inr ⟨rfl, h3⟩
  · rcases hx with hx | rfl
    · cases hx
    · rw [Nat.sub_self, rep] at h3
      exact .inl ⟨a, k, ha, rfl, by rw [h3]; simp⟩
theorem RsR.bad {w : World} {r : Nat} {s : Sl} {l : Bs} {t : Option Nat} (h : RsR w r s l t) : ∃ (at_ : Int) (bad : Bool), Blk w r [slv s, .int .i64 at_, .bool bad] ∧ (t = none → bad = true) ∧ ∀ k, t = some k → bad = false := by
  obtain ⟨⟨at0, bad0, hB, hst⟩, _⟩ := h
  refine ⟨at0, bad0, hB, fun e => ?_, fun k e => ?_⟩
  · subst e; exact hst
  · subst e; exact hst.2.1
set_option maxHeartbeats 4000000 in
theorem R_robot_p (r : Nat) {w : World} {s : Sl} {l : Bs} {st : Option Nat} (h : RsR w r s l st) (hl : l.length ≤ 100000000) :
    C.skepref05_R_robot (PK r) w (fun v w' => ∃ x m st', v = S.api_Robot.v x ∧ Res pRobot l st m st' ∧ RobR w' (fun y => w.heap.size ≤ y ∧ y < w'.heap.size) x m ∧ RsR w' r s l st' ∧ Kp [r] w w') noP := skepref05_R_robot_of (by
  unfold W.skepref05_R_robot
  intro b1 v2 hA1 b3 v4 hA3
  have s2 := hA1.eq
  have s4 := hA3.eq
  have hr := h.lt
  have k4 : Kp [] w v4 := hA1.kp.then0 hA3.kp
  refine ⟨⟨rfl, hA3.blk.canN _ (Nat.le_refl _)⟩, fun w5 e5 => ?_⟩
  obtain ⟨qb3, k5, _⟩ := hA3.blk.putAll (vs := #[.int .i64 0, .int .i64 0, .bool false, .int .i64 0, .int .i64 0, .slice none 0 0, .bool false, .int .i64 0, .bool false]) rfl e5
  have kp0 : Kp [r, b3] w w5 := (k4.up [r, b3]).then k5 (by simp)
  have qb1 := (hA1.blk.keep hA3.kp (by simp)).keep k5 (by simp; omega)
  have z5 := kp0.size
  have h0 := h.fresh (h.keep0 k4) k5 (by simp; omega)
  refine use (R_pose_p r w5 s l st h0) ?_
  rintro _ u1 ⟨x1, t1, rfl, e1, h1, m1⟩
  have kp1 := kp0.then m1 (by simp)
  replace qb1 := qb1.keep m1 (by simp; omega)
  replace qb3 := qb3.keep m1 (by simp; omega)
  refine ⟨x1, rfl, ⟨rfl, qb3.canN _ (Nat.le_of_ble_eq_true rfl)⟩, fun z1 ez1 => ?_⟩
  obtain ⟨qb3, g1, _⟩ := qb3.putN (o := 0) (vs := #[.int .i64 x1.At.X, .int .i64 x1.At.Y, .bool x1.Down]) (Nat.le_of_ble_eq_true rfl) ez1
  have qb3 : Blk z1 b3 [.int .i64 x1.At.X, .int .i64 x1.At.Y, .bool x1.Down, .int .i64 0, .int .i64 0, .slice none 0 0, .bool false, .int .i64 0, .bool false] := qb3
  replace h1 := h.fresh h1 g1 (by simp; omega)
  have kpz1 := kp1.then g1 (by simp)
  have mz1 := m1.size
  have gz1 := g1.size
  replace qb1 := qb1.keep g1 (by simp; omega)
  refine use (R_Number_p r z1 s l t1 h1) ?_
  rintro _ u2 ⟨x2, t2, rfl, e2, h2, m2⟩
  have kp2 := kpz1.then m2 (by simp)
  replace qb1 := qb1.keep m2 (by simp; omega)
  replace qb3 := qb3.keep m2 (by simp; omega)
  refine ⟨x2, rfl, ⟨rfl, qb3.can1 _ rfl (Nat.le_of_ble_eq_true rfl)⟩, fun z2 ez2 => ?_⟩
  obtain ⟨qb3, g2, _⟩ := qb3.put1 (i := 3) rfl ez2
  have qb3 : Blk z2 b3 [.int .i64 x1.At.X, .int .i64 x1.At.Y, .bool x1.Down, .int .i64 x2, .int .i64 0, .slice none 0 0, .bool false, .int .i64 0, .bool false] := qb3
  replace h2 := h.fresh h2 g2 (by simp; omega)
  have kpz2 := kp2.then g2 (by simp)
  have mz2 := m2.size
  have gz2 := g2.size
  replace qb1 := qb1.keep g2 (by simp; omega)
  refine use (R_Number_p r z2 s l t2 h2) ?_
  rintro _ u3 ⟨x3, t3, rfl, e3, h3, m3⟩
  have kp3 := kpz2.then m3 (by simp)
  replace qb1 := qb1.keep m3 (by simp; omega)
  replace qb3 := qb3.keep m3 (by simp; omega)
  refine ⟨x3, rfl, ⟨rfl, qb3.can1 _ rfl (Nat.le_of_ble_eq_true rfl)⟩, fun z3 ez3 => ?_⟩
  obtain ⟨qb3, g3, _⟩ := qb3.put1 (i := 4) rfl ez3
  have qb3 : Blk z3 b3 [.int .i64 x1.At.X, .int .i64 x1.At.Y, .bool x1.Down, .int .i64 x2, .int .i64 x3, .slice none 0 0, .bool false, .int .i64 0, .bool false] := qb3
  replace h3 := h.fresh h3 g3 (by simp; omega)
  have kpz3 := kp3.then g3 (by simp)
  have mz3 := m3.size
  have gz3 := g3.size
  replace qb1 := qb1.keep g3 (by simp; omega)
  have lq4 := qb3.lt
  refine use (R_moves_p r h3 hl) ?_
  rintro _ u4 ⟨x4, L4, t4, rfl, e4, o4, h4, m4⟩
  have kp4 := kpz3.then m4 (by simp)
  replace qb1 := qb1.keep m4 (by simp; omega)
  replace qb3 := qb3.keep m4 (by simp; omega)
  refine ⟨x4, rfl, ⟨rfl, qb3.can1 _ rfl (Nat.le_of_ble_eq_true rfl)⟩, fun z4 ez4 => ?_⟩
  obtain ⟨qb3, g4, _⟩ := qb3.put1 (i := 5) rfl ez4
  have qb3 : Blk z4 b3 [.int .i64 x1.At.X, .int .i64 x1.At.Y, .bool x1.Down, .int .i64 x2, .int .i64 x3, slv x4, .bool false, .int .i64 0, .bool false] := qb3
  replace h4 := h.fresh h4 g4 (by simp; omega)
  have kpz4 := kp4.then g4 (by simp)
  have mz4 := m4.size
  have gz4 := g4.size
  replace qb1 := qb1.keep g4 (by simp; omega)
  refine use (R_Flag_p r z4 s l t4 h4) ?_
  rintro _ u5 ⟨x5, t5, rfl, e5, h5, m5⟩
  have kp5 := kpz4.then m5 (by simp)
  replace qb1 := qb1.keep m5 (by simp; omega)
  replace qb3 := qb3.keep m5 (by simp; omega)
  refine ⟨x5, rfl, ⟨rfl, qb3.can1 _ rfl (Nat.le_of_ble_eq_true rfl)⟩, fun z5 ez5 => ?_⟩
  obtain ⟨qb3, g5, _⟩ := qb3.put1 (i := 6) rfl ez5
  have qb3 : Blk z5 b3 [.int .i64 x1.At.X, .int .i64 x1.At.Y, .bool x1.Down, .int .i64 x2, .int .i64 x3, slv x4, .bool x5, .int .i64 0, .bool false] := qb3
  replace h5 := h.fresh h5 g5 (by simp; omega)
  have kpz5 := kp5.then g5 (by simp)
  have mz5 := m5.size
  have gz5 := g5.size
  replace qb1 := qb1.keep g5 (by simp; omega)
  refine use (R_Number_p r z5 s l t5 h5) ?_
  rintro _ u6 ⟨x6, t6, rfl, e6, h6, m6⟩
  have kp6 := kpz5.then m6 (by simp)
  replace qb1 := qb1.keep m6 (by simp; omega)
  replace qb3 := qb3.keep m6 (by simp; omega)
  refine ⟨x6, rfl, ⟨rfl, qb3.can1 _ rfl (Nat.le_of_ble_eq_true rfl)⟩, fun z6 ez6 => ?_⟩
  obtain ⟨qb3, g6, _⟩ := qb3.put1 (i := 7) rfl ez6
  have qb3 : Blk z6 b3 [.int .i64 x1.At.X, .int .i64 x1.At.Y, .bool x1.Down, .int .i64 x2, .int .i64 x3, slv x4, .bool x5, .int .i64 x6, .bool false] := qb3
  replace h6 := h.fresh h6 g6 (by simp; omega)
  have kpz6 := kp6.then g6 (by simp)
  have mz6 := m6.size
  have gz6 := g6.size
  replace qb1 := qb1.keep g6 (by simp; omega)
  refine use (R_Flag_p r z6 s l t6 h6) ?_
  rintro _ u7 ⟨x7, t7, rfl, e7, h7, m7⟩
  have kp7 := kpz6.then m7 (by simp)
  replace qb1 := qb1.keep m7 (by simp; omega)
  replace qb3 := qb3.keep m7 (by simp; omega)
  refine ⟨x7, rfl, ⟨rfl, qb3.can1 _ rfl (Nat.le_of_ble_eq_true rfl)⟩, fun z7 ez7 => ?_⟩
  obtain ⟨qb3, g7, _⟩ := qb3.put1 (i := 8) rfl ez7
  have qb3 : Blk z7 b3 [.int .i64 x1.At.X, .int .i64 x1.At.Y, .bool x1.Down, .int .i64 x2, .int .i64 x3, slv x4, .bool x5, .int .i64 x6, .bool x7] := qb3
  replace h7 := h.fresh h7 g7 (by simp; omega)
  have kpz7 := kp7.then g7 (by simp)
  have mz7 := m7.size
  have gz7 := g7.size
  replace qb1 := qb1.keep g7 (by simp; omega)
  refine ⟨⟨x1, x2, x3, x4, x5, x6, x7⟩, ⟨rfl, qb3.rd0⟩, ⟨rfl, qb1.canN _ (Nat.le_refl _)⟩, fun wz ez => ?_⟩
  obtain ⟨g1, gz, _⟩ := qb1.putAll (vs := #[.int .i64 x1.At.X, .int .i64 x1.At.Y, .bool x1.Down, .int .i64 x2, .int .i64 x3, slv x4, .bool x5, .int .i64 x6, .bool x7]) rfl ez
  have gzz := gz.size
  have kall : Kp [r] w wz := ((kpz7.mono (by simp; omega)).then gz (by simp; omega))
  have hf := h.fresh h7 gz (by simp; omega)
  have kM : Kp [r, b3, b1] u4 wz := (((((((g4.mono (l' := [r, b3, b1]) (by simp)).then m5 (by simp)).then g5 (by simp)).then m6 (by simp)).then g6 (by simp)).then m7 (by simp)).then g7 (by simp)).then gz (by simp)
  have kMz := kM.size
  exact ⟨⟨x1, x2, x3, x4, x5, x6, x7⟩, ⟨rfl, g1.rd0⟩, ⟨x1, x2, x3, x4, x5, x6, x7⟩, ⟨x1, x2, x3, L4, x5, x6, x7⟩, t7, rfl, ((((((e1.nx e2).nx e3).nx e4).nx e5).nx e6).nx e7).mp fRobot, ⟨⟨rfl, rfl, rfl, rfl, rfl, rfl⟩, ((own_rdM o4).keep kM (fun y hy => by simp; omega)).mono (fun y hy => by omega)⟩, hf, kall⟩)
set_option maxHeartbeats 4000000 in
theorem R_job_p (r : Nat) {w : World} {s : Sl} {l : Bs} {st : Option Nat} (h : RsR w r s l st) (hl : l.length ≤ 100000000) :
    C.skepref05_R_job (PK r) w (fun v w' => ∃ x st', v = S.api_Job.v x ∧ Res pJob l st x st' ∧ RsR w' r s l st' ∧ Kp [r] w w') noP := skepref05_R_job_of (by
  unfold W.skepref05_R_job
  intro b1 v2 hA1 b3 v4 hA3
  have s2 := hA1.eq
  have s4 := hA3.eq
  have hr := h.lt
  have k4 : Kp [] w v4 := hA1.kp.then0 hA3.kp
  refine ⟨⟨rfl, hA3.blk.canN _ (Nat.le_refl _)⟩, fun w5 e5 => ?_⟩
  obtain ⟨qb3, k5, _⟩ := hA3.blk.putAll (vs := #[.int .i64 0, .int .i64 0, .int .i64 0, .int .i64 0, .int .i64 0, .int .i64 0, .int .i64 0, .int .i64 0, .int .i64 0]) rfl e5
  have kp0 : Kp [r, b3] w w5 := (k4.up [r, b3]).then k5 (by simp)
  have qb1 := (hA1.blk.keep hA3.kp (by simp)).keep k5 (by simp; omega)
  have z5 := kp0.size
  have h0 := h.fresh (h.keep0 k4) k5 (by simp; omega)
  refine use (R_Number_p r w5 s l st h0) ?_
  rintro _ u1 ⟨x1, t1, rfl, e1, h1, m1⟩
  have kp1 := kp0.then m1 (by simp)
  replace qb1 := qb1.keep m1 (by simp; omega)
  replace qb3 := qb3.keep m1 (by simp; omega)
  refine ⟨x1, rfl, ⟨rfl, qb3.can1 _ rfl (Nat.le_of_ble_eq_true rfl)⟩, fun z1 ez1 => ?_⟩
  obtain ⟨qb3, g1, _⟩ := qb3.put1 (i := 0) rfl ez1
  have qb3 : Blk z1 b3 [.int .i64 x1, .int .i64 0, .int .i64 0, .int .i64 0, .int .i64 0, .int .i64 0, .int .i64 0, .int .i64 0, .int .i64 0] := qb3
  replace h1 := h.fresh h1 g1 (by simp; omega)
  have kpz1 := kp1.then g1 (by simp)
  have mz1 := m1.size
  have gz1 := g1.size
  replace qb1 := qb1.keep g1 (by simp; omega)
  refine use (R_Number_p r z1 s l t1 h1) ?_
  rintro _ u2 ⟨x2, t2, rfl, e2, h2, m2⟩
  have kp2 := kpz1.then m2 (by simp)
  replace qb1 := qb1.keep m2 (by simp; omega)
  replace qb3 := qb3.keep m2 (by simp; omega)
  refine ⟨x2, rfl, ⟨rfl, qb3.can1 _ rfl (Nat.le_of_ble_eq_true rfl)⟩, fun z2 ez2 => ?_⟩
  obtain ⟨qb3, g2, _⟩ := qb3.put1 (i := 1) rfl ez2
  have qb3 : Blk z2 b3 [.int .i64 x1, .int .i64 x2, .int .i64 0, .int .i64 0, .int .i64 0, .int .i64 0, .int .i64 0, .int .i64 0, .int .i64 0] := qb3
  replace h2 := h.fresh h2 g2 (by simp; omega)
  have kpz2 := kp2.then g2 (by simp)
  have mz2 := m2.size
  have gz2 := g2.size
  replace qb1 := qb1.keep g2 (by simp; omega)
  refine use (R_Number_p r z2 s l t2 h2) ?_
  rintro _ u3 ⟨x3, t3, rfl, e3, h3, m3⟩
  have kp3 := kpz2.then m3 (by simp)
  replace qb1 := qb1.keep m3 (by simp; omega)
  replace qb3 := qb3.keep m3 (by simp; omega)
  refine ⟨x3, rfl, ⟨rfl, qb3.can1 _ rfl (Nat.le_of_ble_eq_true rfl)⟩, fun z3 ez3 => ?_⟩
  obtain ⟨qb3, g3, _⟩ := qb3.put1 (i := 2) rfl ez3
  have qb3 : Blk z3 b3 [.int .i64 x1, .int .i64 x2, .int .i64 x3, .int .i64 0, .int .i64 0, .int .i64 0, .int .i64 0, .int .i64 0, .int .i64 0] := qb3
  replace h3 := h.fresh h3 g3 (by simp; omega)
  have kpz3 := kp3.then g3 (by simp)
  have mz3 := m3.size
  have gz3 := g3.size
  replace qb1 := qb1.keep g3 (by simp; omega)
  refine use (R_Number_p r z3 s l t3 h3) ?_
  rintro _ u4 ⟨x4, t4, rfl, e4, h4, m4⟩
  have kp4 := kpz3.then m4 (by simp)
  replace qb1 := qb1.keep m4 (by simp; omega)
  replace qb3 := qb3.keep m4 (by simp; omega)
  refine ⟨x4, rfl, ⟨rfl, qb3.can1 _ rfl (Nat.le_of_ble_eq_true rfl)⟩, fun z4 ez4 => ?_⟩
  obtain ⟨qb3, g4, _⟩ := qb3.put1 (i := 3) rfl ez4
  have qb3 : Blk z4 b3 [.int .i64 x1, .int .i64 x2, .int .i64 x3, .int .i64 x4, .int .i64 0, .int .i64 0, .int .i64 0, .int .i64 0, .int .i64 0] := qb3
  replace h4 := h.fresh h4 g4 (by simp; omega)
  have kpz4 := kp4.then g4 (by simp)
  have mz4 := m4.size
  have gz4 := g4.size
  replace qb1 := qb1.keep g4 (by simp; omega)
  refine use (R_cell_p r z4 s l t4 h4) ?_
  rintro _ u5 ⟨x5, t5, rfl, e5, h5, m5⟩
  have kp5 := kpz4.then m5 (by simp)
  replace qb1 := qb1.keep m5 (by simp; omega)
  replace qb3 := qb3.keep m5 (by simp; omega)
  refine ⟨x5, rfl, ⟨rfl, qb3.canN _ (Nat.le_of_ble_eq_true rfl)⟩, fun z5 ez5 => ?_⟩
  obtain ⟨qb3, g5, _⟩ := qb3.putN (o := 4) (vs := #[.int .i64 x5.X, .int .i64 x5.Y]) (Nat.le_of_ble_eq_true rfl) ez5
  have qb3 : Blk z5 b3 [.int .i64 x1, .int .i64 x2, .int .i64 x3, .int .i64 x4, .int .i64 x5.X, .int .i64 x5.Y, .int .i64 0, .int .i64 0, .int .i64 0] := qb3
  replace h5 := h.fresh h5 g5 (by simp; omega)
  have kpz5 := kp5.then g5 (by simp)
  have mz5 := m5.size
  have gz5 := g5.size
  replace qb1 := qb1.keep g5 (by simp; omega)
  refine use (R_cell_p r z5 s l t5 h5) ?_
  rintro _ u6 ⟨x6, t6, rfl, e6, h6, m6⟩
  have kp6 := kpz5.then m6 (by simp)
  replace qb1 := qb1.keep m6 (by simp; omega)
  replace qb3 := qb3.keep m6 (by simp; omega)
  refine ⟨x6, rfl, ⟨rfl, qb3.canN _ (Nat.le_of_ble_eq_true rfl)⟩, fun z6 ez6 => ?_⟩
  obtain ⟨qb3, g6, _⟩ := qb3.putN (o := 6) (vs := #[.int .i64 x6.X, .int .i64 x6.Y]) (Nat.le_of_ble_eq_true rfl) ez6
  have qb3 : Blk z6 b3 [.int .i64 x1, .int .i64 x2, .int .i64 x3, .int .i64 x4, .int .i64 x5.X, .int .i64 x5.Y, .int .i64 x6.X, .int .i64 x6.Y, .int .i64 0] := qb3
  replace h6 := h.fresh h6 g6 (by simp; omega)
  have kpz6 := kp6.then g6 (by simp)
  have mz6 := m6.size
  have gz6 := g6.size
  replace qb1 := qb1.keep g6 (by simp; omega)
  refine use (R_Number_p r z6 s l t6 h6) ?_
  rintro _ u7 ⟨x7, t7, rfl, e7, h7, m7⟩
  have kp7 := kpz6.then m7 (by simp)
  replace qb1 := qb1.keep m7 (by simp; omega)
  replace qb3 := qb3.keep m7 (by simp; omega)
  refine ⟨x7, rfl, ⟨rfl, qb3.can1 _ rfl (Nat.le_of_ble_eq_true rfl)⟩, fun z7 ez7 => ?_⟩
  obtain ⟨qb3, g7, _⟩ := qb3.put1 (i := 8) rfl ez7
  have qb3 : Blk z7 b3 [.int .i64 x1, .int .i64 x2, .int .i64 x3, .int .i64 x4, .int .i64 x5.X, .int .i64 x5.Y, .int .i64 x6.X, .int .i64 x6.Y, .int .i64 x7] := qb3
  replace h7 := h.fresh h7 g7 (by simp; omega)
  have kpz7 := kp7.then g7 (by simp)
  have mz7 := m7.size
  have gz7 := g7.size
  replace qb1 := qb1.keep g7 (by simp; omega)
  refine ⟨⟨x1, x2, x3, x4, x5, x6, x7⟩, ⟨rfl, qb3.rd0⟩, ⟨rfl, qb1.canN _ (Nat.le_refl _)⟩, fun wz ez => ?_⟩
  obtain ⟨g1, gz, _⟩ := qb1.putAll (vs := #[.int .i64 x1, .int .i64 x2, .int .i64 x3, .int .i64 x4, .int .i64 x5.X, .int .i64 x5.Y, .int .i64 x6.X, .int .i64 x6.Y, .int .i64 x7]) rfl ez
  have gzz := gz.size
  have kall : Kp [r] w wz := ((kpz7.mono (by simp; omega)).then gz (by simp; omega))
  have hf := h.fresh h7 gz (by simp; omega)
  exact ⟨⟨x1, x2, x3, x4, x5, x6, x7⟩, ⟨rfl, g1.rd0⟩, ⟨x1, x2, x3, x4, x5, x6, x7⟩, t7, rfl, ((((((e1.nx e2).nx e3).nx e4).nx e5).nx e6).nx e7).mp fJob, hf, kall⟩)
end Go.Proofs.Ytocbjadhcfjfiaa
