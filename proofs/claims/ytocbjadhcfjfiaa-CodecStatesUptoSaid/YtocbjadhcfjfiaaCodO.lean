/- States: got by the document. Printed by gen_rget.py. No conditions. -/
import Derived.Test.YtocbjadhcfjfiaaCodL
import Derived.Test.YtocbjadhcfjfiaaCodS
namespace Go.Proofs.Ytocbjadhcfjfiaa
open Go.RowKit Go.Eng
set_option linter.unusedVariables false
set_option linter.unusedSimpArgs false
def EqR {α : Type} (_ : World) (_ : Nat → Prop) (x m : α) : Prop := x = m
theorem eq_stays {α : Type} : Stays (EqR (α := α)) := ⟨fun h _ _ => h, fun h _ => h⟩
theorem eq_rdF {α : Type} {w : World} {F G : Nat → Prop} {sz : Nat} {v : α → Value} {s : Sl} {L : List α} (h : IsF w F sz v (EqR w G) s L) : RdF w F sz v s L := ⟨IsL.rdl h.is, h.lo⟩
abbrev zState : S.api_State := ⟨0, 0, false, ⟨none, 0, 0⟩, ⟨none, 0, 0⟩, ⟨none, 0, 0⟩, ⟨none, 0, 0⟩, ⟨none, 0, 0⟩, 0, 0⟩
set_option maxHeartbeats 16000000 in
set_option maxRecDepth 20000 in
theorem rGetState_s {w : World} {s : Sl} {l : Bs} (hd : RdB w s l) (hl : l.length ≤ 100000000) : C.skepref05_GetState s w (fun v w' => GotS w' w.heap.size l v (.bool true) (.bool false) ∧ Kp [] w w') noP := skepref05_GetState_of (by
  unfold W.skepref05_GetState
  intro b1 v2 hA1 r v4 hAr b5 v6 hA5
  have s2 := hA1.eq
  have s4 := hAr.eq
  have s6 := hA5.eq
  have k4 : Kp [] w v4 := hA1.kp.then0 hAr.kp
  have h : RsR v4 r s l (some 0) := ⟨⟨0, false, hAr.blk, rfl, rfl, Nat.zero_le _⟩, hd.keep0 k4, fun h0 h => by have := hd.ltB (by omega) h0 _ h; omega, by omega⟩
  refine ⟨⟨rfl, hA5.blk.canN _ (Nat.le_refl _)⟩, fun w5 e5 => ?_⟩
  obtain ⟨qb5, k5, _⟩ := hA5.blk.putAll (vs := #[.int .i64 0, .int .i64 0, .bool false, .slice none 0 0, .slice none 0 0, .slice none 0 0, .slice none 0 0, .slice none 0 0, .int .i64 0, .int .i64 0]) rfl e5
  have kp0 : Kp [r, b5] v4 w5 := (hA5.kp.up [r, b5]).then k5 (by simp)
  have qb1 := ((hA1.blk.keep hAr.kp (by simp)).keep hA5.kp (by simp)).keep k5 (by simp; omega)
  have z5 := kp0.size
  have z6 := hA5.kp.size
  have z7 := k5.size
  have h0 := h.fresh (h.keep0 hA5.kp) k5 (by simp; omega)
  refine use (R_Number_p r w5 s l (some 0) h0) ?_
  rintro _ u1 ⟨xa1, t1, rfl, e1, h1, m1⟩
  have kp1 := kp0.then m1 (by simp)
  replace qb1 := qb1.keep m1 (by simp; omega)
  replace qb5 := qb5.keep m1 (by simp; omega)
  refine ⟨xa1, rfl, ⟨rfl, qb5.can1 _ rfl (Nat.le_of_ble_eq_true rfl)⟩, fun z1 ez1 => ?_⟩
  obtain ⟨qb5, g1, _⟩ := qb5.put1 (i := 0) rfl ez1
  have qb5 : Blk z1 b5 [.int .i64 xa1, .int .i64 0, .bool false, .slice none 0 0, .slice none 0 0, .slice none 0 0, .slice none 0 0, .slice none 0 0, .int .i64 0, .int .i64 0] := qb5
  replace h1 := h.fresh h1 g1 (by simp; omega)
  have kpz1 := kp1.then g1 (by simp)
  have mz1 := m1.size
  have gz1 := g1.size
  replace qb1 := qb1.keep g1 (by simp; omega)
  refine use (R_Number_p r z1 s l t1 h1) ?_
  rintro _ u2 ⟨xa2, t2, rfl, e2, h2, m2⟩
  have kp2 := kpz1.then m2 (by simp)
  replace qb1 := qb1.keep m2 (by simp; omega)
  replace qb5 := qb5.keep m2 (by simp; omega)
  refine ⟨xa2, rfl, ⟨rfl, qb5.can1 _ rfl (Nat.le_of_ble_eq_true rfl)⟩, fun z2 ez2 => ?_⟩
  obtain ⟨qb5, g2, _⟩ := qb5.put1 (i := 1) rfl ez2
  have qb5 : Blk z2 b5 [.int .i64 xa1, .int .i64 xa2, .bool false, .slice none 0 0, .slice none 0 0, .slice none 0 0, .slice none 0 0, .slice none 0 0, .int .i64 0, .int .i64 0] := qb5
  replace h2 := h.fresh h2 g2 (by simp; omega)
  have kpz2 := kp2.then g2 (by simp)
  have mz2 := m2.size
  have gz2 := g2.size
  replace qb1 := qb1.keep g2 (by simp; omega)
  refine use (R_Flag_p r z2 s l t2 h2) ?_
  rintro _ u3 ⟨xa3, t3, rfl, e3, h3, m3⟩
  have kp3 := kpz2.then m3 (by simp)
  replace qb1 := qb1.keep m3 (by simp; omega)
  replace qb5 := qb5.keep m3 (by simp; omega)
  refine ⟨xa3, rfl, ⟨rfl, qb5.can1 _ rfl (Nat.le_of_ble_eq_true rfl)⟩, fun z3 ez3 => ?_⟩
  obtain ⟨qb5, g3, _⟩ := qb5.put1 (i := 2) rfl ez3
  have qb5 : Blk z3 b5 [.int .i64 xa1, .int .i64 xa2, .bool xa3, .slice none 0 0, .slice none 0 0, .slice none 0 0, .slice none 0 0, .slice none 0 0, .int .i64 0, .int .i64 0] := qb5
  replace h3 := h.fresh h3 g3 (by simp; omega)
  have kpz3 := kp3.then g3 (by simp)
  have mz3 := m3.size
  have gz3 := g3.size
  replace qb1 := qb1.keep g3 (by simp; omega)
  have lb4 := qb5.lt
  have lc4 := qb1.lt
  refine use (R_Count_p r h3) ?_
  rintro _ wc4 ⟨n, tc4, rfl, ec4, hz, hc4, mc4⟩
  obtain ⟨N, rfl, hN, lr0⟩ := LR_start (p := pStack) ec4 hz
  have kc4 := kpz3.then mc4 (by simp)
  replace qb5 := qb5.keep mc4 (by simp; omega)
  replace qb1 := qb1.keep mc4 (by simp; omega)
  have zc4 := mc4.size
  refine ⟨(N : Int), rfl, fun w' => ∃ (v : Sl) (L : List M.api_Stack) (t : Option Nat), Res (pL pStack) l t3 L t ∧ RsR w' r s l t ∧ LE w' wc4.heap.size 3 cStack StkR v L ∧ Blk w' b5 [.int .i64 xa1, .int .i64 xa2, .bool xa3, slv v, .slice none 0 0, .slice none 0 0, .slice none 0 0, .slice none 0 0, .int .i64 0, .int .i64 0] ∧ Kp [r, b5] wc4 w', ?_, ?_⟩
  · refine ⟨fun i w' => ∃ (j : Nat) (v : Sl) (L : List M.api_Stack) (t : Option Nat), i = j ∧ LR pStack l t3 N j L t ∧ RsR w' r s l t ∧ LE w' wc4.heap.size 3 cStack StkR v L ∧ Blk w' b5 [.int .i64 xa1, .int .i64 xa2, .bool xa3, slv v, .slice none 0 0, .slice none 0 0, .slice none 0 0, .slice none 0 0, .int .i64 0, .int .i64 0] ∧ Kp [r, b5] wc4 w', fun i _ => N - i.toNat, ⟨_, rfl, 0, ⟨none, 0, 0⟩, [], tc4, rfl, lr0, hc4, LE.nil _ _ _ _ _, qb5, Kp.refl _ _⟩, ?_⟩
    rintro ev _ wi ⟨j, v, L, t, rfl, lr, hi, le, qi, ki⟩
    have hjL := lr.1
    have hjN := lr.2.1
    have fin : (t = none ∨ j = N) → ∃ (v' : Sl) (L' : List M.api_Stack) (t' : Option Nat), Res (pL pStack) l t3 L' t' ∧ RsR wi r s l t' ∧ LE wi wc4.heap.size 3 cStack StkR v' L' ∧ Blk wi b5 [.int .i64 xa1, .int .i64 xa2, .bool xa3, slv v', .slice none 0 0, .slice none 0 0, .slice none 0 0, .slice none 0 0, .int .i64 0, .int .i64 0] ∧ Kp [r, b5] wc4 wi := fun hx => ⟨v, L, t, lr.fin hx, hi, le, qi, ki⟩
    refine cond_d (fun hlt => ?_) (fun hge => fin (.inr (by omega)))
    obtain ⟨at0, bad0, hB, hb1, hb2⟩ := hi.bad
    refine ⟨bad0, ⟨rfl, hB.at rfl⟩, ?_⟩
    cases t with
    | none =>
      rw [hb1 rfl]
      exact cond_f rfl (fin (.inl rfl))
    | some k2 =>
      rw [hb2 k2 rfl, wr1 j (by omega)]
      have zi := ki.size
      have lqi := qi.lt
      have hlo := le.lo
      refine cond_t rfl ?_
      refine use (R_cell_p r wi s l (some k2) hi) ?_
      rintro _ u1 ⟨x1, t1, rfl, f1, h1, m1⟩
      refine ⟨x1, rfl, fun bb u2 hAb => ⟨⟨rfl, hAb.blk.canN _ (Nat.le_refl _)⟩, fun u3 e3 => ?_⟩⟩
      obtain ⟨qb, g3, _⟩ := hAb.blk.putAll (vs := #[.int .i64 x1.X, .int .i64 x1.Y]) rfl e3
      have sb := hAb.eq
      have k3 : Kp [] u1 u3 := hAb.kp.then g3 (by simp; omega)
      have y1 := m1.size
      have y3 := k3.size
      have lqb := qb.lt
      refine use (R_numbers_p r (h1.keep0 k3) hl) ?_
      rintro _ uE ⟨s4, L4, tE, rfl, f4, o4, hE, m4⟩
      have y4 := m4.size
      have kE : Kp [r] wi uE := (m1.then0 k3).then m4 (by simp)
      have hx : StkR uE (fun y => wi.heap.size ≤ y ∧ y < uE.heap.size) ⟨x1, s4⟩ ⟨x1, L4⟩ := ⟨rfl, (own_rdI o4).mono (fun y hy => by omega)⟩
      have resE : Res pStack l (some k2) ⟨x1, L4⟩ tE := (f1.nx f4).mp fStack
      have qE := qi.keep kE (by simp; omega)
      refine ⟨s4, rfl, v, ⟨rfl, qE.at rfl⟩, x1, ⟨rfl, (qb.keep m4 (by simp; omega)).rd0⟩, fun ba ua hAa => ?_⟩
      have zE := kE.size
      have leE := le.keep stk_stays kE (fun y hy1 hy2 => by simp; omega)
      obtain ⟨q, n', c, u6, hrun, le6, k6, hq⟩ := leE.push (P := Try.prog) (ty := 72) stk_stays Try.underlying72 cStack_info rfl (by decide) (by decide) cStack_len cStack_leaf (by omega) (stk_stays.mono hx (fun y hy => ⟨by omega, hy.2, fun hm => by have := (hlo y hm).2; omega⟩)) (by omega) hAa
      have q6 := qE.keep k6 (fun hy => by have := (hlo _ hy).1; omega)
      refine ⟨q, n', c, u6, hrun, ⟨rfl, q6.can1 _ rfl (Nat.le_of_ble_eq_true rfl)⟩, fun u7 e7 => ?_⟩
      obtain ⟨q7, g7, _⟩ := q6.put1 (i := 3) rfl e7
      have h6 := h.fresh hE k6 (fun y hy => by have := (hlo y hy).1; omega)
      have h7 := h.fresh h6 g7 (by simp; omega)
      have z6' := k6.size
      exact ⟨_, rfl, ⟨j + 1, ⟨q, n', c⟩, _, _, rfl, lr.step (by omega) resE, h7, le6.keep stk_stays g7 (fun y hy1 hy2 => by simp; omega), q7, ((ki.then kE (by simp)).then k6 (fun y hy => .inr (hlo y hy).1)).then g7 (by simp)⟩, by simp only [Int.toNat_natCast]; omega⟩
  rintro ev4 wj4 ⟨sv4, L4, t4, e4, h4, le4, qb5, kj4⟩
  replace qb1 := qb1.keep kj4 (by simp; omega)
  have kp4 := kc4.then kj4 (by simp)
  have zj4 := kj4.size
  have lej4 := le4.isF stk_stays cStack_len (by decide) (v := S.api_Stack.v) (fun _ => rfl)
  have lb5 := qb5.lt
  have lc5 := qb1.lt
  refine use (R_Count_p r h4) ?_
  rintro _ wc5 ⟨n, tc5, rfl, ec5, hz, hc5, mc5⟩
  obtain ⟨N, rfl, hN, lr0⟩ := LR_start (p := pRobot) ec5 hz
  have kc5 := kp4.then mc5 (by simp)
  replace qb5 := qb5.keep mc5 (by simp; omega)
  replace qb1 := qb1.keep mc5 (by simp; omega)
  have zc5 := mc5.size
  refine ⟨(N : Int), rfl, fun w' => ∃ (v : Sl) (L : List M.api_Robot) (t : Option Nat), Res (pL pRobot) l t4 L t ∧ RsR w' r s l t ∧ LE w' wc5.heap.size 9 cRobot RobR v L ∧ Blk w' b5 [.int .i64 xa1, .int .i64 xa2, .bool xa3, slv sv4, slv v, .slice none 0 0, .slice none 0 0, .slice none 0 0, .int .i64 0, .int .i64 0] ∧ Kp [r, b5] wc5 w', ?_, ?_⟩
  · refine ⟨fun i w' => ∃ (j : Nat) (v : Sl) (L : List M.api_Robot) (t : Option Nat), i = j ∧ LR pRobot l t4 N j L t ∧ RsR w' r s l t ∧ LE w' wc5.heap.size 9 cRobot RobR v L ∧ Blk w' b5 [.int .i64 xa1, .int .i64 xa2, .bool xa3, slv sv4, slv v, .slice none 0 0, .slice none 0 0, .slice none 0 0, .int .i64 0, .int .i64 0] ∧ Kp [r, b5] wc5 w', fun i _ => N - i.toNat, ⟨_, rfl, 0, ⟨none, 0, 0⟩, [], tc5, rfl, lr0, hc5, LE.nil _ _ _ _ _, qb5, Kp.refl _ _⟩, ?_⟩
    rintro ev _ wi ⟨j, v, L, t, rfl, lr, hi, le, qi, ki⟩
    have hjL := lr.1
    have hjN := lr.2.1
    have fin : (t = none ∨ j = N) → ∃ (v' : Sl) (L' : List M.api_Robot) (t' : Option Nat), Res (pL pRobot) l t4 L' t' ∧ RsR wi r s l t' ∧ LE wi wc5.heap.size 9 cRobot RobR v' L' ∧ Blk wi b5 [.int .i64 xa1, .int .i64 xa2, .bool xa3, slv sv4, slv v', .slice none 0 0, .slice none 0 0, .slice none 0 0, .int .i64 0, .int .i64 0] ∧ Kp [r, b5] wc5 wi := fun hx => ⟨v, L, t, lr.fin hx, hi, le, qi, ki⟩
    refine cond_d (fun hlt => ?_) (fun hge => fin (.inr (by omega)))
    obtain ⟨at0, bad0, hB, hb1, hb2⟩ := hi.bad
    refine ⟨bad0, ⟨rfl, hB.at rfl⟩, ?_⟩
    cases t with
    | none =>
      rw [hb1 rfl]
      exact cond_f rfl (fin (.inl rfl))
    | some k2 =>
      rw [hb2 k2 rfl, wr1 j (by omega)]
      have zi := ki.size
      have lqi := qi.lt
      have hlo := le.lo
      refine cond_t rfl ?_
      refine use (R_robot_p r hi hl) ?_
      rintro _ u1 ⟨x1, x1m, tE, rfl, resE, hx1, h1, m1⟩
      refine ⟨x1, rfl, fun bb u2 hAb => ⟨⟨rfl, hAb.blk.canN _ (Nat.le_refl _)⟩, fun uE e3 => ?_⟩⟩
      obtain ⟨qb, g3, _⟩ := hAb.blk.putAll (vs := #[.int .i64 x1.At.At.X, .int .i64 x1.At.At.Y, .bool x1.At.Down, .int .i64 x1.Load, .int .i64 x1.Job, slv x1.Moves, .bool x1.Out, .int .i64 x1.Num, .bool x1.Stands]) rfl e3
      have sb := hAb.eq
      have k3 : Kp [] u1 uE := hAb.kp.then g3 (by simp; omega)
      have y1 := m1.size
      have y3 := k3.size
      have hE := h1.keep0 k3
      have kE : Kp [r] wi uE := m1.then0 k3
      have hx : RobR uE (fun y => wi.heap.size ≤ y ∧ y < uE.heap.size) x1 x1m := rob_stays.mono (rob_stays.keep hx1 k3 (fun _ _ => by simp)) (fun y hy => by omega)
      have qE := qi.keep kE (by simp; omega)
      refine ⟨v, ⟨rfl, qE.at rfl⟩, x1, ⟨rfl, qb.rd0⟩, fun ba ua hAa => ?_⟩
      have zE := kE.size
      have leE := le.keep rob_stays kE (fun y hy1 hy2 => by simp; omega)
      obtain ⟨q, n', c, u6, hrun, le6, k6, hq⟩ := leE.push (P := Try.prog) (ty := 73) rob_stays Try.underlying73 cRobot_info rfl (by decide) (by decide) cRobot_len cRobot_leaf (by omega) (rob_stays.mono hx (fun y hy => ⟨by omega, hy.2, fun hm => by have := (hlo y hm).2; omega⟩)) (by omega) hAa
      have q6 := qE.keep k6 (fun hy => by have := (hlo _ hy).1; omega)
      refine ⟨q, n', c, u6, hrun, ⟨rfl, q6.can1 _ rfl (Nat.le_of_ble_eq_true rfl)⟩, fun u7 e7 => ?_⟩
      obtain ⟨q7, g7, _⟩ := q6.put1 (i := 4) rfl e7
      have h6 := h.fresh hE k6 (fun y hy => by have := (hlo y hy).1; omega)
      have h7 := h.fresh h6 g7 (by simp; omega)
      have z6' := k6.size
      exact ⟨_, rfl, ⟨j + 1, ⟨q, n', c⟩, _, _, rfl, lr.step (by omega) resE, h7, le6.keep rob_stays g7 (fun y hy1 hy2 => by simp; omega), q7, ((ki.then kE (by simp)).then k6 (fun y hy => .inr (hlo y hy).1)).then g7 (by simp)⟩, by simp only [Int.toNat_natCast]; omega⟩
  rintro ev5 wj5 ⟨sv5, L5, t5, e5, h5, le5, qb5, kj5⟩
  replace qb1 := qb1.keep kj5 (by simp; omega)
  have kp5 := kc5.then kj5 (by simp)
  have zj5 := kj5.size
  have lej5 := le5.isF rob_stays cRobot_len (by decide) (v := S.api_Robot.v) (fun _ => rfl)
  have lb6 := qb5.lt
  have lc6 := qb1.lt
  refine use (R_Count_p r h5) ?_
  rintro _ wc6 ⟨n, tc6, rfl, ec6, hz, hc6, mc6⟩
  obtain ⟨N, rfl, hN, lr0⟩ := LR_start (p := pPort) ec6 hz
  have kc6 := kp5.then mc6 (by simp)
  replace qb5 := qb5.keep mc6 (by simp; omega)
  replace qb1 := qb1.keep mc6 (by simp; omega)
  have zc6 := mc6.size
  refine ⟨(N : Int), rfl, fun w' => ∃ (v : Sl) (L : List M.api_Port) (t : Option Nat), Res (pL pPort) l t5 L t ∧ RsR w' r s l t ∧ LE w' wc6.heap.size 3 cPort PrtR v L ∧ Blk w' b5 [.int .i64 xa1, .int .i64 xa2, .bool xa3, slv sv4, slv sv5, slv v, .slice none 0 0, .slice none 0 0, .int .i64 0, .int .i64 0] ∧ Kp [r, b5] wc6 w', ?_, ?_⟩
  · refine ⟨fun i w' => ∃ (j : Nat) (v : Sl) (L : List M.api_Port) (t : Option Nat), i = j ∧ LR pPort l t5 N j L t ∧ RsR w' r s l t ∧ LE w' wc6.heap.size 3 cPort PrtR v L ∧ Blk w' b5 [.int .i64 xa1, .int .i64 xa2, .bool xa3, slv sv4, slv sv5, slv v, .slice none 0 0, .slice none 0 0, .int .i64 0, .int .i64 0] ∧ Kp [r, b5] wc6 w', fun i _ => N - i.toNat, ⟨_, rfl, 0, ⟨none, 0, 0⟩, [], tc6, rfl, lr0, hc6, LE.nil _ _ _ _ _, qb5, Kp.refl _ _⟩, ?_⟩
    rintro ev _ wi ⟨j, v, L, t, rfl, lr, hi, le, qi, ki⟩
    have hjL := lr.1
    have hjN := lr.2.1
    have fin : (t = none ∨ j = N) → ∃ (v' : Sl) (L' : List M.api_Port) (t' : Option Nat), Res (pL pPort) l t5 L' t' ∧ RsR wi r s l t' ∧ LE wi wc6.heap.size 3 cPort PrtR v' L' ∧ Blk wi b5 [.int .i64 xa1, .int .i64 xa2, .bool xa3, slv sv4, slv sv5, slv v', .slice none 0 0, .slice none 0 0, .int .i64 0, .int .i64 0] ∧ Kp [r, b5] wc6 wi := fun hx => ⟨v, L, t, lr.fin hx, hi, le, qi, ki⟩
    refine cond_d (fun hlt => ?_) (fun hge => fin (.inr (by omega)))
    obtain ⟨at0, bad0, hB, hb1, hb2⟩ := hi.bad
    refine ⟨bad0, ⟨rfl, hB.at rfl⟩, ?_⟩
    cases t with
    | none =>
      rw [hb1 rfl]
      exact cond_f rfl (fin (.inl rfl))
    | some k2 =>
      rw [hb2 k2 rfl, wr1 j (by omega)]
      have zi := ki.size
      have lqi := qi.lt
      have hlo := le.lo
      refine cond_t rfl ?_
      refine fun bb u1 hAb => ⟨⟨rfl, hAb.blk.canN _ (Nat.le_refl _)⟩, fun u2 e2 => ?_⟩
      obtain ⟨qbb, g2, _⟩ := hAb.blk.putAll (vs := #[.int .i64 0, .int .i64 0, .slice none 0 0]) rfl e2
      have sb := hAb.eq
      have kb0 : Kp [] wi u2 := hAb.kp.then g2 (by simp; omega)
      have kbp : Kp [r] wi u2 := kb0.up _
      have hb0 := hi.keep0 kb0
      have y2 := kb0.size
      refine use (R_Number_p r u2 s l (some k2) hb0) ?_
      rintro _ ub1 ⟨xb1, tb1, rfl, eb1, hb1, mb1⟩
      have kpb1 := kbp.then mb1 (by simp)
      replace qbb := qbb.keep mb1 (by simp; omega)
      refine ⟨xb1, rfl, ⟨rfl, qbb.can1 _ rfl (Nat.le_of_ble_eq_true rfl)⟩, fun zb1 ezb1 => ?_⟩
      obtain ⟨qbb, gb1, _⟩ := qbb.put1 (i := 0) rfl ezb1
      have qbb : Blk zb1 bb [.int .i64 xb1, .int .i64 0, .slice none 0 0] := qbb
      replace hb1 := h.fresh hb1 gb1 (by simp; omega)
      have kpzb1 := kpb1.then gb1 (by simp; omega)
      have mzb1 := mb1.size
      have gzb1 := gb1.size
      refine use (R_Number_p r zb1 s l tb1 hb1) ?_
      rintro _ ub2 ⟨xb2, tb2, rfl, eb2, hb2, mb2⟩
      have kpb2 := kpzb1.then mb2 (by simp)
      replace qbb := qbb.keep mb2 (by simp; omega)
      refine ⟨xb2, rfl, ⟨rfl, qbb.can1 _ rfl (Nat.le_of_ble_eq_true rfl)⟩, fun zb2 ezb2 => ?_⟩
      obtain ⟨qbb, gb2, _⟩ := qbb.put1 (i := 1) rfl ezb2
      have qbb : Blk zb2 bb [.int .i64 xb1, .int .i64 xb2, .slice none 0 0] := qbb
      replace hb2 := h.fresh hb2 gb2 (by simp; omega)
      have kpzb2 := kpb2.then gb2 (by simp; omega)
      have mzb2 := mb2.size
      have gzb2 := gb2.size
      have lqb3 := qbb.lt
      refine use (R_numbers_p r hb2 hl) ?_
      rintro _ ub3 ⟨xb3, Lb3, tb3, rfl, eb3, ob3, hb3, mb3⟩
      have kpb3 := kpzb2.then mb3 (by simp)
      replace qbb := qbb.keep mb3 (by simp; omega)
      refine ⟨xb3, rfl, ⟨rfl, qbb.can1 _ rfl (Nat.le_of_ble_eq_true rfl)⟩, fun zb3 ezb3 => ?_⟩
      obtain ⟨qbb, gb3, _⟩ := qbb.put1 (i := 2) rfl ezb3
      have qbb : Blk zb3 bb [.int .i64 xb1, .int .i64 xb2, slv xb3] := qbb
      replace hb3 := h.fresh hb3 gb3 (by simp; omega)
      have kpzb3 := kpb3.then gb3 (by simp; omega)
      have mzb3 := mb3.size
      have gzb3 := gb3.size
      have kE : Kp [r] wi zb3 := kpzb3
      have hx : PrtR zb3 (fun y => wi.heap.size ≤ y ∧ y < zb3.heap.size) ⟨xb1, xb2, xb3⟩ ⟨xb1, xb2, Lb3⟩ := ⟨⟨rfl, rfl⟩, ((own_rdI ob3).keep gb3 (fun y hy => by simp; omega)).mono (fun y hy => by omega)⟩
      have resE : Res pPort l (some k2) ⟨xb1, xb2, Lb3⟩ tb3 := ((eb1.nx eb2).nx eb3).mp fPort
      have hE := hb3
      have qE := qi.keep kE (by simp; omega)
      refine ⟨v, ⟨rfl, qE.at rfl⟩, ⟨xb1, xb2, xb3⟩, ⟨rfl, qbb.rd0⟩, fun ba ua hAa => ?_⟩
      have zE := kE.size
      have leE := le.keep prt_stays kE (fun y hy1 hy2 => by simp; omega)
      obtain ⟨q, n', c, u6, hrun, le6, k6, hq⟩ := leE.push (P := Try.prog) (ty := 74) prt_stays Try.underlying74 cPort_info rfl (by decide) (by decide) cPort_len cPort_leaf (by omega) (prt_stays.mono hx (fun y hy => ⟨by omega, hy.2, fun hm => by have := (hlo y hm).2; omega⟩)) (by omega) hAa
      have q6 := qE.keep k6 (fun hy => by have := (hlo _ hy).1; omega)
      refine ⟨q, n', c, u6, hrun, ⟨rfl, q6.can1 _ rfl (Nat.le_of_ble_eq_true rfl)⟩, fun u7 e7 => ?_⟩
      obtain ⟨q7, g7, _⟩ := q6.put1 (i := 5) rfl e7
      have h6 := h.fresh hE k6 (fun y hy => by have := (hlo y hy).1; omega)
      have h7 := h.fresh h6 g7 (by simp; omega)
      have z6' := k6.size
      exact ⟨_, rfl, ⟨j + 1, ⟨q, n', c⟩, _, _, rfl, lr.step (by omega) resE, h7, le6.keep prt_stays g7 (fun y hy1 hy2 => by simp; omega), q7, ((ki.then kE (by simp)).then k6 (fun y hy => .inr (hlo y hy).1)).then g7 (by simp)⟩, by simp only [Int.toNat_natCast]; omega⟩
  rintro ev6 wj6 ⟨sv6, L6, t6, e6, h6, le6, qb5, kj6⟩
  replace qb1 := qb1.keep kj6 (by simp; omega)
  have kp6 := kc6.then kj6 (by simp)
  have zj6 := kj6.size
  have lej6 := le6.isF prt_stays cPort_len (by decide) (v := S.api_Port.v) (fun _ => rfl)
  have lb7 := qb5.lt
  have lc7 := qb1.lt
  refine use (R_Count_p r h6) ?_
  rintro _ wc7 ⟨n, tc7, rfl, ec7, hz, hc7, mc7⟩
  obtain ⟨N, rfl, hN, lr0⟩ := LR_start (p := pOrder) ec7 hz
  have kc7 := kp6.then mc7 (by simp)
  replace qb5 := qb5.keep mc7 (by simp; omega)
  replace qb1 := qb1.keep mc7 (by simp; omega)
  have zc7 := mc7.size
  refine ⟨(N : Int), rfl, fun w' => ∃ (v : Sl) (L : List S.api_Order) (t : Option Nat), Res (pL pOrder) l t6 L t ∧ RsR w' r s l t ∧ LE w' wc7.heap.size 4 oC EqR v L ∧ Blk w' b5 [.int .i64 xa1, .int .i64 xa2, .bool xa3, slv sv4, slv sv5, slv sv6, slv v, .slice none 0 0, .int .i64 0, .int .i64 0] ∧ Kp [r, b5] wc7 w', ?_, ?_⟩
  · refine ⟨fun i w' => ∃ (j : Nat) (v : Sl) (L : List S.api_Order) (t : Option Nat), i = j ∧ LR pOrder l t6 N j L t ∧ RsR w' r s l t ∧ LE w' wc7.heap.size 4 oC EqR v L ∧ Blk w' b5 [.int .i64 xa1, .int .i64 xa2, .bool xa3, slv sv4, slv sv5, slv sv6, slv v, .slice none 0 0, .int .i64 0, .int .i64 0] ∧ Kp [r, b5] wc7 w', fun i _ => N - i.toNat, ⟨_, rfl, 0, ⟨none, 0, 0⟩, [], tc7, rfl, lr0, hc7, LE.nil _ _ _ _ _, qb5, Kp.refl _ _⟩, ?_⟩
    rintro ev _ wi ⟨j, v, L, t, rfl, lr, hi, le, qi, ki⟩
    have hjL := lr.1
    have hjN := lr.2.1
    have fin : (t = none ∨ j = N) → ∃ (v' : Sl) (L' : List S.api_Order) (t' : Option Nat), Res (pL pOrder) l t6 L' t' ∧ RsR wi r s l t' ∧ LE wi wc7.heap.size 4 oC EqR v' L' ∧ Blk wi b5 [.int .i64 xa1, .int .i64 xa2, .bool xa3, slv sv4, slv sv5, slv sv6, slv v', .slice none 0 0, .int .i64 0, .int .i64 0] ∧ Kp [r, b5] wc7 wi := fun hx => ⟨v, L, t, lr.fin hx, hi, le, qi, ki⟩
    refine cond_d (fun hlt => ?_) (fun hge => fin (.inr (by omega)))
    obtain ⟨at0, bad0, hB, hb1, hb2⟩ := hi.bad
    refine ⟨bad0, ⟨rfl, hB.at rfl⟩, ?_⟩
    cases t with
    | none =>
      rw [hb1 rfl]
      exact cond_f rfl (fin (.inl rfl))
    | some k2 =>
      rw [hb2 k2 rfl, wr1 j (by omega)]
      have zi := ki.size
      have lqi := qi.lt
      have hlo := le.lo
      refine cond_t rfl ?_
      refine fun bb u1 hAb => ⟨⟨rfl, hAb.blk.canN _ (Nat.le_refl _)⟩, fun u2 e2 => ?_⟩
      obtain ⟨qbb, g2, _⟩ := hAb.blk.putAll (vs := #[.int .i64 0, .int .i64 0, .int .i64 0, .int .i64 0]) rfl e2
      have sb := hAb.eq
      have kb0 : Kp [] wi u2 := hAb.kp.then g2 (by simp; omega)
      have kbp : Kp [r] wi u2 := kb0.up _
      have hb0 := hi.keep0 kb0
      have y2 := kb0.size
      refine use (R_Number_p r u2 s l (some k2) hb0) ?_
      rintro _ ub1 ⟨xb1, tb1, rfl, eb1, hb1, mb1⟩
      have kpb1 := kbp.then mb1 (by simp)
      replace qbb := qbb.keep mb1 (by simp; omega)
      refine ⟨xb1, rfl, ⟨rfl, qbb.can1 _ rfl (Nat.le_of_ble_eq_true rfl)⟩, fun zb1 ezb1 => ?_⟩
      obtain ⟨qbb, gb1, _⟩ := qbb.put1 (i := 0) rfl ezb1
      have qbb : Blk zb1 bb [.int .i64 xb1, .int .i64 0, .int .i64 0, .int .i64 0] := qbb
      replace hb1 := h.fresh hb1 gb1 (by simp; omega)
      have kpzb1 := kpb1.then gb1 (by simp; omega)
      have mzb1 := mb1.size
      have gzb1 := gb1.size
      refine use (R_Number_p r zb1 s l tb1 hb1) ?_
      rintro _ ub2 ⟨xb2, tb2, rfl, eb2, hb2, mb2⟩
      have kpb2 := kpzb1.then mb2 (by simp)
      replace qbb := qbb.keep mb2 (by simp; omega)
      refine ⟨xb2, rfl, ⟨rfl, qbb.can1 _ rfl (Nat.le_of_ble_eq_true rfl)⟩, fun zb2 ezb2 => ?_⟩
      obtain ⟨qbb, gb2, _⟩ := qbb.put1 (i := 1) rfl ezb2
      have qbb : Blk zb2 bb [.int .i64 xb1, .int .i64 xb2, .int .i64 0, .int .i64 0] := qbb
      replace hb2 := h.fresh hb2 gb2 (by simp; omega)
      have kpzb2 := kpb2.then gb2 (by simp; omega)
      have mzb2 := mb2.size
      have gzb2 := gb2.size
      refine use (R_Number_p r zb2 s l tb2 hb2) ?_
      rintro _ ub3 ⟨xb3, tb3, rfl, eb3, hb3, mb3⟩
      have kpb3 := kpzb2.then mb3 (by simp)
      replace qbb := qbb.keep mb3 (by simp; omega)
      refine ⟨xb3, rfl, ⟨rfl, qbb.can1 _ rfl (Nat.le_of_ble_eq_true rfl)⟩, fun zb3 ezb3 => ?_⟩
      obtain ⟨qbb, gb3, _⟩ := qbb.put1 (i := 2) rfl ezb3
      have qbb : Blk zb3 bb [.int .i64 xb1, .int .i64 xb2, .int .i64 xb3, .int .i64 0] := qbb
      replace hb3 := h.fresh hb3 gb3 (by simp; omega)
      have kpzb3 := kpb3.then gb3 (by simp; omega)
      have mzb3 := mb3.size
      have gzb3 := gb3.size
      refine use (R_Number_p r zb3 s l tb3 hb3) ?_
      rintro _ ub4 ⟨xb4, tb4, rfl, eb4, hb4, mb4⟩
      have kpb4 := kpzb3.then mb4 (by simp)
      replace qbb := qbb.keep mb4 (by simp; omega)
      refine ⟨xb4, rfl, ⟨rfl, qbb.can1 _ rfl (Nat.le_of_ble_eq_true rfl)⟩, fun zb4 ezb4 => ?_⟩
      obtain ⟨qbb, gb4, _⟩ := qbb.put1 (i := 3) rfl ezb4
      have qbb : Blk zb4 bb [.int .i64 xb1, .int .i64 xb2, .int .i64 xb3, .int .i64 xb4] := qbb
      replace hb4 := h.fresh hb4 gb4 (by simp; omega)
      have kpzb4 := kpb4.then gb4 (by simp; omega)
      have mzb4 := mb4.size
      have gzb4 := gb4.size
      have kE : Kp [r] wi zb4 := kpzb4
      have hx : EqR zb4 (fun y => wi.heap.size ≤ y ∧ y < zb4.heap.size) (⟨xb1, xb2, xb3, xb4⟩ : S.api_Order) ⟨xb1, xb2, xb3, xb4⟩ := rfl
      have resE : Res pOrder l (some k2) ⟨xb1, xb2, xb3, xb4⟩ tb4 := (((eb1.nx eb2).nx eb3).nx eb4).mp fOrder
      have hE := hb4
      have qE := qi.keep kE (by simp; omega)
      refine ⟨v, ⟨rfl, qE.at rfl⟩, ⟨xb1, xb2, xb3, xb4⟩, ⟨rfl, qbb.rd0⟩, fun ba ua hAa => ?_⟩
      have zE := kE.size
      have leE := le.keep eq_stays kE (fun y hy1 hy2 => by simp; omega)
      obtain ⟨q, n', c, u6, hrun, le6, k6, hq⟩ := leE.push (P := Try.prog) (ty := 75) eq_stays Try.underlying75 o_info rfl (by decide) (by decide) oC_len (fun x u hu => o_leaf [x] u (by simpa using hu)) (by omega) (eq_stays.mono hx (fun y hy => ⟨by omega, hy.2, fun hm => by have := (hlo y hm).2; omega⟩)) (by omega) hAa
      have q6 := qE.keep k6 (fun hy => by have := (hlo _ hy).1; omega)
      refine ⟨q, n', c, u6, hrun, ⟨rfl, q6.can1 _ rfl (Nat.le_of_ble_eq_true rfl)⟩, fun u7 e7 => ?_⟩
      obtain ⟨q7, g7, _⟩ := q6.put1 (i := 6) rfl e7
      have h6 := h.fresh hE k6 (fun y hy => by have := (hlo y hy).1; omega)
      have h7 := h.fresh h6 g7 (by simp; omega)
      have z6' := k6.size
      exact ⟨_, rfl, ⟨j + 1, ⟨q, n', c⟩, _, _, rfl, lr.step (by omega) resE, h7, le6.keep eq_stays g7 (fun y hy1 hy2 => by simp; omega), q7, ((ki.then kE (by simp)).then k6 (fun y hy => .inr (hlo y hy).1)).then g7 (by simp)⟩, by simp only [Int.toNat_natCast]; omega⟩
  rintro ev7 wj7 ⟨sv7, L7, t7, e7, h7, le7, qb5, kj7⟩
  replace qb1 := qb1.keep kj7 (by simp; omega)
  have kp7 := kc7.then kj7 (by simp)
  have zj7 := kj7.size
  have lej7 := le7.isF eq_stays oC_len (by decide) (v := S.api_Order.v) (fun _ => rfl)
  have lb8 := qb5.lt
  have lc8 := qb1.lt
  refine use (R_Count_p r h7) ?_
  rintro _ wc8 ⟨n, tc8, rfl, ec8, hz, hc8, mc8⟩
  obtain ⟨N, rfl, hN, lr0⟩ := LR_start (p := pJob) ec8 hz
  have kc8 := kp7.then mc8 (by simp)
  replace qb5 := qb5.keep mc8 (by simp; omega)
  replace qb1 := qb1.keep mc8 (by simp; omega)
  have zc8 := mc8.size
  refine ⟨(N : Int), rfl, fun w' => ∃ (v : Sl) (L : List S.api_Job) (t : Option Nat), Res (pL pJob) l t7 L t ∧ RsR w' r s l t ∧ LE w' wc8.heap.size 9 jC EqR v L ∧ Blk w' b5 [.int .i64 xa1, .int .i64 xa2, .bool xa3, slv sv4, slv sv5, slv sv6, slv sv7, slv v, .int .i64 0, .int .i64 0] ∧ Kp [r, b5] wc8 w', ?_, ?_⟩
  · refine ⟨fun i w' => ∃ (j : Nat) (v : Sl) (L : List S.api_Job) (t : Option Nat), i = j ∧ LR pJob l t7 N j L t ∧ RsR w' r s l t ∧ LE w' wc8.heap.size 9 jC EqR v L ∧ Blk w' b5 [.int .i64 xa1, .int .i64 xa2, .bool xa3, slv sv4, slv sv5, slv sv6, slv sv7, slv v, .int .i64 0, .int .i64 0] ∧ Kp [r, b5] wc8 w', fun i _ => N - i.toNat, ⟨_, rfl, 0, ⟨none, 0, 0⟩, [], tc8, rfl, lr0, hc8, LE.nil _ _ _ _ _, qb5, Kp.refl _ _⟩, ?_⟩
    rintro ev _ wi ⟨j, v, L, t, rfl, lr, hi, le, qi, ki⟩
    have hjL := lr.1
    have hjN := lr.2.1
    have fin : (t = none ∨ j = N) → ∃ (v' : Sl) (L' : List S.api_Job) (t' : Option Nat), Res (pL pJob) l t7 L' t' ∧ RsR wi r s l t' ∧ LE wi wc8.heap.size 9 jC EqR v' L' ∧ Blk wi b5 [.int .i64 xa1, .int .i64 xa2, .bool xa3, slv sv4, slv sv5, slv sv6, slv sv7, slv v', .int .i64 0, .int .i64 0] ∧ Kp [r, b5] wc8 wi := fun hx => ⟨v, L, t, lr.fin hx, hi, le, qi, ki⟩
    refine cond_d (fun hlt => ?_) (fun hge => fin (.inr (by omega)))
    obtain ⟨at0, bad0, hB, hb1, hb2⟩ := hi.bad
    refine ⟨bad0, ⟨rfl, hB.at rfl⟩, ?_⟩
    cases t with
    | none =>
      rw [hb1 rfl]
      exact cond_f rfl (fin (.inl rfl))
    | some k2 =>
      rw [hb2 k2 rfl, wr1 j (by omega)]
      have zi := ki.size
      have lqi := qi.lt
      have hlo := le.lo
      refine cond_t rfl ?_
      refine use (R_job_p r hi hl) ?_
      rintro _ u1 ⟨x1, tE, rfl, resE, h1, m1⟩
      refine ⟨x1, rfl, fun bb u2 hAb => ⟨⟨rfl, hAb.blk.canN _ (Nat.le_refl _)⟩, fun uE e3 => ?_⟩⟩
      obtain ⟨qb, g3, _⟩ := hAb.blk.putAll (vs := #[.int .i64 x1.ID, .int .i64 x1.Kind, .int .i64 x1.Order, .int .i64 x1.Bin, .int .i64 x1.From.X, .int .i64 x1.From.Y, .int .i64 x1.To.X, .int .i64 x1.To.Y, .int .i64 x1.Robot]) rfl e3
      have sb := hAb.eq
      have k3 : Kp [] u1 uE := hAb.kp.then g3 (by simp; omega)
      have y1 := m1.size
      have y3 := k3.size
      have hE := h1.keep0 k3
      have kE : Kp [r] wi uE := m1.then0 k3
      have hx : EqR uE (fun y => wi.heap.size ≤ y ∧ y < uE.heap.size) x1 x1 := rfl
      have qE := qi.keep kE (by simp; omega)
      refine ⟨v, ⟨rfl, qE.at rfl⟩, x1, ⟨rfl, qb.rd0⟩, fun ba ua hAa => ?_⟩
      have zE := kE.size
      have leE := le.keep eq_stays kE (fun y hy1 hy2 => by simp; omega)
      obtain ⟨q, n', c, u6, hrun, le6, k6, hq⟩ := leE.push (P := Try.prog) (ty := 76) eq_stays Try.underlying76 j_info rfl (by decide) (by decide) jC_len (fun x u hu => j_leaf [x] u (by simpa using hu)) (by omega) (eq_stays.mono hx (fun y hy => ⟨by omega, hy.2, fun hm => by have := (hlo y hm).2; omega⟩)) (by omega) hAa
      have q6 := qE.keep k6 (fun hy => by have := (hlo _ hy).1; omega)
      refine ⟨q, n', c, u6, hrun, ⟨rfl, q6.can1 _ rfl (Nat.le_of_ble_eq_true rfl)⟩, fun u7 e7 => ?_⟩
      obtain ⟨q7, g7, _⟩ := q6.put1 (i := 7) rfl e7
      have h6 := h.fresh hE k6 (fun y hy => by have := (hlo y hy).1; omega)
      have h7 := h.fresh h6 g7 (by simp; omega)
      have z6' := k6.size
      exact ⟨_, rfl, ⟨j + 1, ⟨q, n', c⟩, _, _, rfl, lr.step (by omega) resE, h7, le6.keep eq_stays g7 (fun y hy1 hy2 => by simp; omega), q7, ((ki.then kE (by simp)).then k6 (fun y hy => .inr (hlo y hy).1)).then g7 (by simp)⟩, by simp only [Int.toNat_natCast]; omega⟩
  rintro ev8 wj8 ⟨sv8, L8, t8, e8, h8, le8, qb5, kj8⟩
  replace qb1 := qb1.keep kj8 (by simp; omega)
  have kp8 := kc8.then kj8 (by simp)
  have zj8 := kj8.size
  have lej8 := le8.isF eq_stays jC_len (by decide) (v := S.api_Job.v) (fun _ => rfl)
  refine use (R_Number_p r wj8 s l t8 h8) ?_
  rintro _ ud1 ⟨xd1, td1, rfl, ed1, hd1, md1⟩
  have kpd1 := kp8.then md1 (by simp)
  replace qb1 := qb1.keep md1 (by simp; omega)
  replace qb5 := qb5.keep md1 (by simp; omega)
  refine ⟨xd1, rfl, ⟨rfl, qb5.can1 _ rfl (Nat.le_of_ble_eq_true rfl)⟩, fun zd1 ezd1 => ?_⟩
  obtain ⟨qb5, gd1, _⟩ := qb5.put1 (i := 8) rfl ezd1
  have qb5 : Blk zd1 b5 [.int .i64 xa1, .int .i64 xa2, .bool xa3, slv sv4, slv sv5, slv sv6, slv sv7, slv sv8, .int .i64 xd1, .int .i64 0] := qb5
  replace hd1 := h.fresh hd1 gd1 (by simp; omega)
  have kpzd1 := kpd1.then gd1 (by simp)
  have mzd1 := md1.size
  have gzd1 := gd1.size
  replace qb1 := qb1.keep gd1 (by simp; omega)
  refine use (R_Number_p r zd1 s l td1 hd1) ?_
  rintro _ ud2 ⟨xd2, td2, rfl, ed2, hd2, md2⟩
  have kpd2 := kpzd1.then md2 (by simp)
  replace qb1 := qb1.keep md2 (by simp; omega)
  replace qb5 := qb5.keep md2 (by simp; omega)
  refine ⟨xd2, rfl, ⟨rfl, qb5.can1 _ rfl (Nat.le_of_ble_eq_true rfl)⟩, fun zd2 ezd2 => ?_⟩
  obtain ⟨qb5, gd2, _⟩ := qb5.put1 (i := 9) rfl ezd2
  have qb5 : Blk zd2 b5 [.int .i64 xa1, .int .i64 xa2, .bool xa3, slv sv4, slv sv5, slv sv6, slv sv7, slv sv8, .int .i64 xd1, .int .i64 xd2] := qb5
  replace hd2 := h.fresh hd2 gd2 (by simp; omega)
  have kpzd2 := kpd2.then gd2 (by simp)
  have mzd2 := md2.size
  have gzd2 := gd2.size
  replace qb1 := qb1.keep gd2 (by simp; omega)
  refine use (R_whole_s hd2) ?_
  rintro _ w20 ⟨rfl, k20⟩
  have hw := whole_st (p := pState) ((((((((((e1.nx e2).nx e3).nx e4).nx e5).nx e6).nx e7).nx e8).nx ed1).nx ed2).mp fState) hd2.le
  replace qb5 := qb5.keep k20 (by simp)
  replace qb1 := qb1.keep k20 (by simp)
  have k20' : Kp [] w w20 := (k4.then kpzd2 (by simp; omega)).then0 k20
  have zk := k20.size
  refine ⟨_, rfl, ?_⟩
  have bad : whole pState l = none → (okVal true 10 (.agg #[.int .i64 0, .int .i64 0, .bool false, .slice none 0 0, .slice none 0 0, .slice none 0 0, .slice none 0 0, .slice none 0 0, .int .i64 0, .int .i64 0]) = true ∧ canPut w20 ⟨b1, 0, none⟩ (.agg #[.int .i64 0, .int .i64 0, .bool false, .slice none 0 0, .slice none 0 0, .slice none 0 0, .slice none 0 0, .slice none 0 0, .int .i64 0, .int .i64 0])) ∧ ∀ w23 : World, w23 = putAt w20 ⟨b1, 0, none⟩ (.agg #[.int .i64 0, .int .i64 0, .bool false, .slice none 0 0, .slice none 0 0, .slice none 0 0, .slice none 0 0, .slice none 0 0, .int .i64 0, .int .i64 0]) → ∃ y24 : S.api_State, (okVal true 10 (S.api_State.v y24) = true ∧ Go.Eng.rd w23 ⟨b1, 0, none⟩ (S.api_State.v y24)) ∧ (GotS w23 w.heap.size l (.tuple #[S.api_State.v y24, .bool false]) (.bool true) (.bool false) ∧ Kp [] w w23) := fun hn => by
    refine ⟨⟨rfl, qb1.canN _ (Nat.le_refl _)⟩, fun w23 e23 => ?_⟩
    obtain ⟨g1, k23, _⟩ := qb1.putAll (vs := #[.int .i64 0, .int .i64 0, .bool false, .slice none 0 0, .slice none 0 0, .slice none 0 0, .slice none 0 0, .slice none 0 0, .int .i64 0, .int .i64 0]) rfl e23
    exact ⟨zState, ⟨rfl, g1.rd0⟩, .inr ⟨hn, rfl⟩, k20'.then k23 (by simp; omega)⟩
  cases td2 with
  | none => exact cond_t rfl (bad hw)
  | some k =>
    dsimp only at hw ⊢
    by_cases hk : k = l.length
    · rw [if_pos hk] at hw
      refine cond_f (by simp [hk]) ⟨⟨xa1, xa2, xa3, sv4, sv5, sv6, sv7, sv8, xd1, xd2⟩, ⟨rfl, qb5.rd0⟩, ⟨rfl, qb1.canN _ (Nat.le_refl _)⟩, fun w26 e26 => ?_⟩
      obtain ⟨g1, k26, _⟩ := qb1.putAll (vs := #[.int .i64 xa1, .int .i64 xa2, .bool xa3, slv sv4, slv sv5, slv sv6, slv sv7, slv sv8, .int .i64 xd1, .int .i64 xd2]) rfl e26
      have K8 : Kp [r, b5, b1] wj8 w26 := (((((md1.mono (l' := [r, b5, b1]) (by simp)).then gd1 (by simp)).then md2 (by simp)).then gd2 (by simp)).then0 k20).then k26 (by simp)
      have K7 : Kp [r, b5, b1] wj7 w26 := ((mc8.mono (l' := [r, b5, b1]) (by simp)).then kj8 (by simp)).then K8 (by simp)
      have K6 : Kp [r, b5, b1] wj6 w26 := ((mc7.mono (l' := [r, b5, b1]) (by simp)).then kj7 (by simp)).then K7 (by simp)
      have K5 : Kp [r, b5, b1] wj5 w26 := ((mc6.mono (l' := [r, b5, b1]) (by simp)).then kj6 (by simp)).then K6 (by simp)
      have K4 : Kp [r, b5, b1] wj4 w26 := ((mc5.mono (l' := [r, b5, b1]) (by simp)).then kj5 (by simp)).then K5 (by simp)
      have Z8 := K8.size
      refine ⟨⟨xa1, xa2, xa3, sv4, sv5, sv6, sv7, sv8, xd1, xd2⟩, ⟨rfl, g1.rd0⟩, .inl ⟨⟨xa1, xa2, xa3, sv4, sv5, sv6, sv7, sv8, xd1, xd2⟩, _, hw, ⟨⟨rfl, rfl, rfl, rfl, rfl⟩, ?_, ?_, ?_, ?_, ?_⟩, rfl⟩, k20'.then k26 (by simp; omega)⟩
      · exact isF_mono stk_stays (isF_keep stk_stays lej4 K4 (fun y hy => by simp; omega)) (fun y hy => by omega)
      · exact isF_mono rob_stays (isF_keep rob_stays lej5 K5 (fun y hy => by simp; omega)) (fun y hy => by omega)
      · exact isF_mono prt_stays (isF_keep prt_stays lej6 K6 (fun y hy => by simp; omega)) (fun y hy => by omega)
      · exact ((eq_rdF lej7).keep K7 (fun y hy => by simp; omega)).mono (fun y hy => by omega)
      · exact ((eq_rdF lej8).keep K8 (fun y hy => by simp; omega)).mono (fun y hy => by omega)
    · rw [if_neg hk] at hw
      exact cond_t (by simp [hk]) (bad hw))
end Go.Proofs.Ytocbjadhcfjfiaa
