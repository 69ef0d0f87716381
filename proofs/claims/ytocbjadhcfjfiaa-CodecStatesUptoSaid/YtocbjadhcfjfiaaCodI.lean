/- Events: the document's reader; the law. No conditions. -/
import Derived.Test.YtocbjadhcfjfiaaCodH
namespace Go.Proofs.Ytocbjadhcfjfiaa
open Go.RowKit Go.Eng
set_option linter.unusedVariables false
set_option linter.unusedSimpArgs false
abbrev zEv : S.api_Event := ⟨0, 0, 0, ⟨⟨0, 0⟩, false⟩, ⟨none, 0, 0⟩⟩
set_option maxHeartbeats 4000000 in
theorem rGetEvent_s {w : World} {s : Sl} {l : Bs} (hd : RdB w s l) (hl : l.length ≤ 100000000) : C.skepref05_GetEvent s w (fun v w' => GotE w' w.heap.size l v (.bool true) (.bool false) ∧ Kp [] w w') noP := skepref05_GetEvent_of (by
  unfold W.skepref05_GetEvent
  intro b1 v2 hA1 r v4 hAr b3 v6 hA3
  have s2 := hA1.eq
  have s4 := hAr.eq
  have s6 := hA3.eq
  have k4 : Kp [] w v4 := hA1.kp.then0 hAr.kp
  have h : RsR v4 r s l (some 0) := ⟨⟨0, false, hAr.blk, rfl, rfl, Nat.zero_le _⟩, hd.keep0 k4, fun h0 h => by have := hd.ltB (by omega) h0 _ h; omega, by omega⟩
  refine ⟨⟨rfl, hA3.blk.canN _ (Nat.le_refl _)⟩, fun w5 e5 => ?_⟩
  obtain ⟨q3, k5, _⟩ := hA3.blk.putAll (vs := #[.int .i64 0, .int .i64 0, .int .i64 0, .int .i64 0, .int .i64 0, .bool false, .slice none 0 0]) rfl e5
  have kp0 : Kp [r, b3] v4 w5 := (hA3.kp.up [r, b3]).then k5 (by simp)
  have q1 := ((hA1.blk.keep hAr.kp (by simp)).keep hA3.kp (by simp)).keep k5 (by simp; omega)
  have h0 := h.fresh (h.keep0 hA3.kp) k5 (by simp; omega)
  refine use (R_Number_p r w5 s l (some 0) h0) ?_
  rintro _ u1 ⟨x1, t1, rfl, e1, h1, m1⟩
  have kp1 := kp0.then m1 (by simp)
  replace q1 := q1.keep m1 (by simp; omega)
  replace q3 := q3.keep m1 (by simp; omega)
  refine ⟨x1, rfl, ⟨rfl, q3.can1 _ rfl (Nat.le_of_ble_eq_true rfl)⟩, fun wa ea => ?_⟩
  obtain ⟨q3, ga, _⟩ := q3.put1 (i := 0) rfl ea
  replace q1 := q1.keep ga (by simp; omega)
  have ha := h.fresh h1 ga (by simp; omega)
  have kpa := kp1.then ga (by simp)
  refine use (R_Number_p r wa s l t1 ha) ?_
  rintro _ u2 ⟨x2, t2, rfl, e2, h2, m2⟩
  have kp2 := kpa.then m2 (by simp)
  replace q1 := q1.keep m2 (by simp; omega)
  replace q3 := q3.keep m2 (by simp; omega)
  refine ⟨x2, rfl, ⟨rfl, q3.can1 _ rfl (Nat.le_of_ble_eq_true rfl)⟩, fun wb eb => ?_⟩
  obtain ⟨q3, gb, _⟩ := q3.put1 (i := 1) rfl eb
  replace q1 := q1.keep gb (by simp; omega)
  have hb := h.fresh h2 gb (by simp; omega)
  have kpb := kp2.then gb (by simp)
  refine use (R_Number_p r wb s l t2 hb) ?_
  rintro _ u3 ⟨x3, t3, rfl, e3, h3, m3⟩
  have kp3 := kpb.then m3 (by simp)
  replace q1 := q1.keep m3 (by simp; omega)
  replace q3 := q3.keep m3 (by simp; omega)
  refine ⟨x3, rfl, ⟨rfl, q3.can1 _ rfl (Nat.le_of_ble_eq_true rfl)⟩, fun wc ec => ?_⟩
  obtain ⟨q3, gc, _⟩ := q3.put1 (i := 2) rfl ec
  replace q1 := q1.keep gc (by simp; omega)
  have hc := h.fresh h3 gc (by simp; omega)
  have kpc := kp3.then gc (by simp)
  refine use (R_pose_p r wc s l t3 hc) ?_
  rintro _ u4 ⟨x4, t4, rfl, e4, h4, m4⟩
  have kp4 := kpc.then m4 (by simp)
  replace q1 := q1.keep m4 (by simp; omega)
  replace q3 := q3.keep m4 (by simp; omega)
  refine ⟨x4, rfl, ⟨rfl, q3.canN _ (Nat.le_of_ble_eq_true rfl)⟩, fun wd ed => ?_⟩
  obtain ⟨q3', gd, _⟩ := q3.putN (o := 3) (vs := #[.int .i64 x4.At.X, .int .i64 x4.At.Y, .bool x4.Down]) (Nat.le_of_ble_eq_true rfl) ed
  replace q1 := q1.keep gd (by simp; omega)
  have hdd := h.fresh h4 gd (by simp; omega)
  have kpd := kp4.then gd (by simp)
  have l3 := q3'.lt
  have l1 := q1.lt
  refine use (R_moves_p r hdd hl) ?_
  rintro _ u5 ⟨s5, L, t5, rfl, e5', o5, h5, m5⟩
  have kp5 := kpd.then m5 (by simp)
  replace q1 := q1.keep m5 (by simp; omega)
  replace q3' := q3'.keep m5 (by simp; omega)
  refine ⟨s5, rfl, ⟨rfl, q3'.can1 _ rfl (Nat.le_of_ble_eq_true rfl)⟩, fun we ee => ?_⟩
  obtain ⟨q3e, ge, _⟩ := q3'.put1 (i := 6) rfl ee
  have q3f : Blk we b3 [.int .i64 x1, .int .i64 x2, .int .i64 x3, .int .i64 x4.At.X, .int .i64 x4.At.Y, .bool x4.Down, slv s5] := q3e
  replace q1 := q1.keep ge (by simp; omega)
  have he := h.fresh h5 ge (by simp; omega)
  have kpe := kp5.then ge (by simp)
  have hlo := o5.lo
  have o5e := o5.keep ge (fun y hy => by have := hlo y hy; simp; omega)
  refine use (R_whole_s he) ?_
  rintro _ w20 ⟨rfl, k20⟩
  have hw := whole_st (p := pEv) (((((e1.nx e2).nx e3).nx e4).nx e5').mp fEv) he.le
  replace q3f := q3f.keep k20 (by simp)
  replace q1 := q1.keep k20 (by simp)
  have o20 := o5e.keep0 k20
  have hlo20 := o20.lo
  have sd := kpd.size
  have k20' : Kp [] w w20 := (k4.then kpe (by simp; omega)).then0 k20
  refine ⟨_, rfl, ?_⟩
  have bad : whole pEv l = none → (okVal true 7 (.agg #[.int .i64 0, .int .i64 0, .int .i64 0, .int .i64 0, .int .i64 0, .bool false, .slice none 0 0]) = true ∧ canPut w20 ⟨b1, 0, none⟩ (.agg #[.int .i64 0, .int .i64 0, .int .i64 0, .int .i64 0, .int .i64 0, .bool false, .slice none 0 0])) ∧ ∀ w23 : World, w23 = putAt w20 ⟨b1, 0, none⟩ (.agg #[.int .i64 0, .int .i64 0, .int .i64 0, .int .i64 0, .int .i64 0, .bool false, .slice none 0 0]) → ∃ y24 : S.api_Event, (okVal true 7 (S.api_Event.v y24) = true ∧ Go.Eng.rd w23 ⟨b1, 0, none⟩ (S.api_Event.v y24)) ∧ (GotE w23 w.heap.size l (.tuple #[S.api_Event.v y24, .bool false]) (.bool true) (.bool false) ∧ Kp [] w w23) := fun hn => by
    refine ⟨⟨rfl, q1.canN _ (Nat.le_refl _)⟩, fun w23 e23 => ?_⟩
    obtain ⟨g1, k23, _⟩ := q1.putAll (vs := #[.int .i64 0, .int .i64 0, .int .i64 0, .int .i64 0, .int .i64 0, .bool false, .slice none 0 0]) rfl e23
    exact ⟨zEv, ⟨rfl, g1.rd0⟩, .inr ⟨hn, rfl⟩, k20'.then k23 (by simp; omega)⟩
  cases t5 with
  | none => exact cond_t rfl (bad hw)
  | some k =>
    dsimp only at hw ⊢
    by_cases hk : k = l.length
    · rw [if_pos hk] at hw
      refine cond_f (by simp [hk]) ⟨⟨x1, x2, x3, x4, s5⟩, ⟨rfl, q3f.rd0⟩, ⟨rfl, q1.canN _ (Nat.le_refl _)⟩, fun w26 e26 => ?_⟩
      obtain ⟨g1, k26, _⟩ := q1.putAll (vs := #[.int .i64 x1, .int .i64 x2, .int .i64 x3, .int .i64 x4.At.X, .int .i64 x4.At.Y, .bool x4.Down, slv s5]) rfl e26
      exact ⟨⟨x1, x2, x3, x4, s5⟩, ⟨rfl, g1.rd0⟩, .inl ⟨⟨x1, x2, x3, x4, s5⟩, _, hw, ⟨rfl, rfl, rfl, rfl, (o20.keep k26 (fun y hy => by have := hlo20 y hy; simp; omega)).mono (by omega)⟩, rfl⟩, k20'.then k26 (by simp; omega)⟩
    · rw [if_neg hk] at hw
      exact cond_t (by simp [hk]) (bad hw))
/-- An event that reads as m. -/
def EvR (w : World) (e : S.api_Event) (m : M.api_Event) : Prop := (e.Kind = m.Kind ∧ e.A = m.A ∧ e.B = m.B ∧ e.Pose = m.Pose) ∧ RdL w 11 S.api_Move.v e.Moves m.Moves
theorem EvR.keep0 {w w' : World} {e : S.api_Event} {m : M.api_Event} (h : EvR w e m) (k : Kp [] w w') : EvR w' e m := ⟨h.1, h.2.keep0 k⟩
theorem EvS.r {w : World} {B : Nat} {e : S.api_Event} {m : M.api_Event} (h : EvS w B e m) : EvR w e m := ⟨⟨h.1, h.2.1, h.2.2.1, h.2.2.2.1⟩, h.rdl⟩
theorem EvR.eq {w : World} {e : S.api_Event} {m : M.api_Event} (h : EvR w e m) : e = ⟨m.Kind, m.A, m.B, m.Pose, e.Moves⟩ := by
  obtain ⟨⟨h1, h2, h3, h4⟩, _⟩ := h
  cases e
  simp_all
set_option maxHeartbeats 1000000 in
theorem SameEvent_s {a b : S.api_Event} {m : M.api_Event} {w : World} (ha : EvR w a m) (hb : EvR w b m) (hl : m.Moves.length ≤ 1000000000) : C.skeplaw00_SameEvent a b w (fun v w' => v = .bool true ∧ Kp [] w w') noP := skeplaw00_SameEvent_of (by
  unfold W.skeplaw00_SameEvent
  obtain ⟨⟨a1, a2, a3, a4⟩, a5⟩ := ha
  obtain ⟨⟨b1, b2, b3, b4⟩, b5⟩ := hb
  intro c1 w2 h1 c3 w4 h3
  have q1 : Blk w4 c1 [.int .i64 a.Kind, .int .i64 a.A, .int .i64 a.B, .int .i64 a.Pose.At.X, .int .i64 a.Pose.At.Y, .bool a.Pose.Down, slv a.Moves] := h1.blk.keep h3.kp (by simp)
  have q3 : Blk w4 c3 [.int .i64 b.Kind, .int .i64 b.A, .int .i64 b.B, .int .i64 b.Pose.At.X, .int .i64 b.Pose.At.Y, .bool b.Pose.Down, slv b.Moves] := h3.blk
  have k4 := h1.kp.then0 h3.kp
  refine ⟨_, ⟨rfl, q1.at rfl⟩, _, ⟨rfl, q3.at rfl⟩, cond_t (beq_t (by rw [a1, b1])) ⟨_, ⟨rfl, q1.at rfl⟩, _, ⟨rfl, q3.at rfl⟩, cond_t (beq_t (by rw [a2, b2])) ⟨_, ⟨rfl, q1.at rfl⟩, _, ⟨rfl, q3.at rfl⟩, cond_t (beq_t (by rw [a3, b3])) ⟨a.Pose, ⟨rfl, q1.rd 3 #[.int .i64 a.Pose.At.X, .int .i64 a.Pose.At.Y, .bool a.Pose.Down] (seg rfl)⟩, b.Pose, ⟨rfl, q3.rd 3 #[.int .i64 b.Pose.At.X, .int .i64 b.Pose.At.Y, .bool b.Pose.Down] (seg rfl)⟩, cond_t (by rw [a4, b4]; simp) ⟨a.Moves, ⟨rfl, q1.at rfl⟩, b.Moves, ⟨rfl, q3.at rfl⟩, use (SameMoves_s (a5.keep0 k4) (b5.keep0 k4) hl) ?_⟩⟩⟩⟩⟩
  rintro _ w15 ⟨t, rfl, ht, k15⟩
  exact ⟨t, rfl, by rw [ht.2 rfl], k4.then0 k15⟩)
end Go.Proofs.Ytocbjadhcfjfiaa
