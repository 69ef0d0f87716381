/- Events: put and got. Printed by gen_ev.py. No conditions. -/
import Derived.Test.YtocbjadhcfjfiaaCodF
import Derived.Test.YtocbjadhcfjfiaaCatchE
import Derived.Test.YtocbjadhcfjfiaaOpenD
namespace Go.Proofs.Ytocbjadhcfjfiaa
open Go.RowKit Go.Eng
set_option linter.unusedVariables false
set_option linter.unusedSimpArgs false
def fEv (x : (((Int × Int) × Int) × S.api_Pose) × List S.api_Move) : M.api_Event := ⟨x.1.1.1.1, x.1.1.1.2, x.1.1.2, x.1.2, x.2⟩
def gEv (m : M.api_Event) : (((Int × Int) × Int) × S.api_Pose) × List S.api_Move := ((((m.Kind, m.A), m.B), m.Pose), m.Moves)
def pEv := mp fEv (nx (nx (nx (nx num num) num) pPose) pMoves)
def bEv (m : M.api_Event) : Bs := putN m.Kind ++ putN m.A ++ putN m.B ++ bPose m.Pose ++ bMoves m.Moves
def okEv (m : M.api_Event) : Prop := (((in64 m.Kind ∧ in64 m.A) ∧ in64 m.B) ∧ okPose m.Pose) ∧ ((∀ x ∈ m.Moves, okMove x) ∧ in64 (m.Moves.length : Nat))
theorem ev_cod : Cod pEv bEv okEv := ((((num_cod.nx num_cod).nx num_cod).nx pose_cod).nx (list_cod move_cod bMove_1)).mp fEv gEv (fun _ => rfl) (fun _ => rfl)
/-- An event in memory, its list one's own. -/
def EvS (w : World) (B : Nat) (e : S.api_Event) (m : M.api_Event) : Prop := e.Kind = m.Kind ∧ e.A = m.A ∧ e.B = m.B ∧ e.Pose = m.Pose ∧ Go.Eng.Own w B 11 e.Moves (m.Moves.flatMap mvC)
theorem EvS.keep {w w' : World} {B : Nat} {l : List Nat} {e : S.api_Event} {m : M.api_Event} (h : EvS w B e m) (k : Kp l w w') (hn : ∀ y ∈ blkOf e.Moves, y ∉ l) : EvS w' B e m := ⟨h.1, h.2.1, h.2.2.1, h.2.2.2.1, h.2.2.2.2.keep k hn⟩
theorem EvS.keep0 {w w' : World} {B : Nat} {e : S.api_Event} {m : M.api_Event} (h : EvS w B e m) (k : Kp [] w w') : EvS w' B e m := h.keep k (fun _ _ => by simp)
theorem EvS.mono {w : World} {B B' : Nat} {e : S.api_Event} {m : M.api_Event} (h : EvS w B e m) (hB : B' ≤ B) : EvS w B' e m := ⟨h.1, h.2.1, h.2.2.1, h.2.2.2.1, h.2.2.2.2.mono hB⟩
theorem EvS.rdl {w : World} {B : Nat} {e : S.api_Event} {m : M.api_Event} (h : EvS w B e m) : RdL w 11 S.api_Move.v e.Moves m.Moves := by
  have hl := h.2.2.2.2.len
  rw [mv_flat] at hl
  exact Rds.rdl (f := mvC) mvC_len h.2.2.2.2.rds (fun _ => rfl) (by omega)
theorem EvS.lo {w : World} {B : Nat} {e : S.api_Event} {m : M.api_Event} (h : EvS w B e m) : ∀ y ∈ blkOf e.Moves, B ≤ y ∧ y < w.heap.size := h.2.2.2.2.lo
set_option maxHeartbeats 2000000 in
theorem GetEvent1_p (r : Nat) {w : World} {s : Sl} {l : Bs} {k : Nat} (h : RdR w r s l k) (hl : l.length ≤ 100000000) :
    C.codec_GetEvent_1 (PK r) w (fun v w' => ∃ (e : S.api_Event) (m : M.api_Event) (k' : Nat), pEv (l.drop k) = some (m, l.drop k') ∧ v = S.api_Event.v e ∧ EvS w' w.heap.size e m ∧ RdR w' r s l k' ∧ Kp [r] w w') (fun c w' => pEv (l.drop k) = none ∧ c = noneE ∧ Kp [r] w w') := codec_GetEvent_1_of (by
  unfold W.codec_GetEvent_1
  intro b1 v2 hA1 b3 v4 hA3
  have s2 := hA1.eq
  have s4 := hA3.eq
  have hr := h.b.lt
  have kp0 : Kp [r, b3] w v4 := (hA1.kp.then0 hA3.kp).up _
  have q1 := hA1.blk.keep hA3.kp (by simp)
  have q3 := hA3.blk
  refine use2 (reader_number_p r v4 s l k ((h.keep0 hA1.kp).keep0 hA3.kp)) ?_ (fun c w' ⟨h1, h2, h3⟩ => ⟨by simp [pEv, mp, nx, h1], h2, (kp0.then h3 (by simp)).mono (by simp; omega)⟩)
  rintro _ u1 ⟨x1, k1, e1, rfl, h1, m1⟩
  have kp1 := kp0.then m1 (by simp)
  replace q1 := q1.keep m1 (by simp; omega)
  replace q3 := q3.keep m1 (by simp; omega)
  refine ⟨x1, rfl, use2 (reader_number_p r u1 s l k1 h1) ?_ (fun c w' ⟨h1, h2, h3⟩ => ⟨by simp [pEv, mp, nx, e1, h1], h2, (kp1.then h3 (by simp)).mono (by simp; omega)⟩)⟩
  rintro _ u2 ⟨x2, k2, e2, rfl, h2, m2⟩
  have kp2 := kp1.then m2 (by simp)
  replace q1 := q1.keep m2 (by simp; omega)
  replace q3 := q3.keep m2 (by simp; omega)
  refine ⟨x2, rfl, use2 (reader_number_p r u2 s l k2 h2) ?_ (fun c w' ⟨h1, h2, h3⟩ => ⟨by simp [pEv, mp, nx, e1, e2, h1], h2, (kp2.then h3 (by simp)).mono (by simp; omega)⟩)⟩
  rintro _ u3 ⟨x3, k3, e3, rfl, h3, m3⟩
  have kp3 := kp2.then m3 (by simp)
  replace q1 := q1.keep m3 (by simp; omega)
  replace q3 := q3.keep m3 (by simp; omega)
  refine ⟨x3, rfl, ⟨rfl, q3.can1 _ rfl (Nat.le_of_ble_eq_true rfl)⟩, fun wa ea => ?_⟩
  obtain ⟨q3, ga, _⟩ := q3.put1 (i := 0) rfl ea
  refine ⟨⟨rfl, q3.can1 _ rfl (Nat.le_of_ble_eq_true rfl)⟩, fun wb eb => ?_⟩
  obtain ⟨q3, gb, _⟩ := q3.put1 (i := 1) rfl eb
  refine ⟨⟨rfl, q3.can1 _ rfl (Nat.le_of_ble_eq_true rfl)⟩, fun wc ec => ?_⟩
  obtain ⟨q3, gc, _⟩ := q3.put1 (i := 2) rfl ec
  have gg : Kp [b3] u3 wc := (ga.then gb (by simp)).then gc (by simp)
  have h3c := h.fresh h3 gg (by simp; omega)
  have kp4 := kp3.then gg (by simp)
  replace q1 := q1.keep gg (by simp; omega)
  refine use2 (reader_pose_p r wc s l k3 h3c) ?_ (fun c w' ⟨h1, h2, h3⟩ => ⟨by simp [pEv, mp, nx, e1, e2, e3, h1], h2, (kp4.then h3 (by simp)).mono (by simp; omega)⟩)
  rintro _ u4 ⟨x4, k4, e4, rfl, h4, m4⟩
  have kp5 := kp4.then m4 (by simp)
  replace q1 := q1.keep m4 (by simp; omega)
  replace q3 := q3.keep m4 (by simp; omega)
  refine ⟨x4, rfl, ⟨rfl, q3.canN _ (Nat.le_of_ble_eq_true rfl)⟩, fun wd ed => ?_⟩
  obtain ⟨q3', gd, _⟩ := q3.putN (o := 3) (vs := #[.int .i64 x4.At.X, .int .i64 x4.At.Y, .bool x4.Down]) (Nat.le_of_ble_eq_true rfl) ed
  have h4d := h.fresh h4 gd (by simp; omega)
  have kp6 := kp5.then gd (by simp)
  replace q1 := q1.keep gd (by simp; omega)
  have l3 := q3'.lt
  have l1 := q1.lt
  refine use2 (list_p r h4d hl) ?_ (fun c w' ⟨h1, h2, h3⟩ => ⟨by simp [pEv, mp, nx, e1, e2, e3, e4, h1], h2, (kp6.then h3 (by simp)).mono (by simp; omega)⟩)
  rintro _ u5 ⟨s5, L, k5, rfl, e5, o5, h5, m5⟩
  have kp7 := kp6.then m5 (by simp)
  have sd := kp6.size
  replace q1 := q1.keep m5 (by simp; omega)
  replace q3' := q3'.keep m5 (by simp; omega)
  refine ⟨s5, rfl, ⟨rfl, q3'.can1 _ rfl (Nat.le_of_ble_eq_true rfl)⟩, fun we ee => ?_⟩
  obtain ⟨q3e, ge, _⟩ := q3'.put1 (i := 6) rfl ee
  have q3f : Blk we b3 [.int .i64 x1, .int .i64 x2, .int .i64 x3, .int .i64 x4.At.X, .int .i64 x4.At.Y, .bool x4.Down, slv s5] := q3e
  replace q1 := q1.keep ge (by simp; omega)
  refine ⟨⟨x1, x2, x3, x4, s5⟩, ⟨rfl, q3f.rd0⟩, ⟨rfl, q1.canN _ (Nat.le_refl _)⟩, fun wz ez => ?_⟩
  obtain ⟨g1, gz, _⟩ := q1.putAll (vs := #[.int .i64 x1, .int .i64 x2, .int .i64 x3, .int .i64 x4.At.X, .int .i64 x4.At.Y, .bool x4.Down, slv s5]) rfl ez
  have kez : Kp [b3, b1] u5 wz := (ge.mono (by simp)).then gz (by simp)
  have hlo := o5.lo
  refine ⟨⟨x1, x2, x3, x4, s5⟩, ⟨rfl, g1.rd0⟩, ⟨x1, x2, x3, x4, s5⟩, ⟨x1, x2, x3, x4, L⟩, k5, by simp [pEv, mp, nx, fEv, e1, e2, e3, e4, e5], rfl, ⟨rfl, rfl, rfl, rfl, ?_⟩, h.fresh h5 kez (by simp; omega), (kp7.mono (by simp; omega)).then kez (by simp; omega)⟩
  exact (o5.keep kez (fun y hy => by have := hlo y hy; simp; omega)).mono (by omega))
/-- What a reading of all the bytes answers, for events. -/
def GotE (w : World) (B : Nat) (l : Bs) (r : Value) (ok no : Value) : Prop := (∃ (e : S.api_Event) (m : M.api_Event), whole pEv l = some m ∧ EvS w B e m ∧ r = .tuple #[S.api_Event.v e, ok]) ∨ (whole pEv l = none ∧ r = .tuple #[S.api_Event.v ⟨0, 0, 0, ⟨⟨0, 0⟩, false⟩, ⟨none, 0, 0⟩⟩, no])
set_option maxHeartbeats 1000000 in
theorem readEvent_s {w : World} {s : Sl} {l : Bs} (hd : RdB w s l) (hl : l.length ≤ 100000000) (hs : ∀ y ∈ blkOf s, y < w.heap.size) : C.codec_read_api_Event s (.func (.func 57) #[] #[]) w (fun r w' => GotE w' w.heap.size l r (.int .i64 0) (.int .i64 4) ∧ Kp [] w w') noP := codec_read_api_Event_of (by
  unfold W.codec_read_api_Event
  intro b1 w2 hA1 b3 w4 hA3 b5 w6 hA5
  have s2 := hA1.eq
  have s4 := hA3.eq
  have s6 := hA5.eq
  have k6 : Kp [] w w6 := (hA1.kp.then0 hA3.kp).then0 hA5.kp
  have hsz := hd.bsize
  have hR : RdR w6 b5 s l 0 := ⟨hA5.blk, hd.keep0 k6, fun h => by have := hs _ h; omega, Nat.zero_le _, by omega⟩
  have y1 := (hA1.blk.keep hA3.kp (by simp)).keep hA5.kp (by simp)
  have y3 := hA3.blk.keep hA5.kp (by simp)
  have bad : ∀ (w7 : World) (cs0 : List Value), Blk w7 b1 cs0 → cs0.length = 7 → Blk w7 b3 [.int .i64 0] → Kp [] w w7 → whole pEv l = none → xleave Try.prog [{ target := .fn (.func 105) #[.pointer (some ⟨b1, 0, none⟩), .pointer (some ⟨b3, 0, none⟩)], args := #[] }] (.panicking noneE) w7 (xendF (fun w14 => ∃ y15 : S.api_Event, (okVal true 7 (S.api_Event.v y15) = true ∧ Go.Eng.rd w14 ⟨b1, 0, none⟩ (S.api_Event.v y15)) ∧ ∃ y16 : Int, (okVal false 1 (.int .i64 y16) = true ∧ w14.cell? ⟨b3, 0, none⟩ = some (.int .i64 y16)) ∧ (GotE w14 w.heap.size l (.tuple #[S.api_Event.v y15, .int .i64 y16]) (.int .i64 0) (.int .i64 4) ∧ Kp [] w w14)) noP) := fun w7 cs0 c1 cl c3 k7 hw => by
    show bodied Try.prog _ = true ∧ _
    refine ⟨by kernel_rfl, CallsDIn.mono (catch_Event c1 cl c3 (by omega)) ?_⟩
    rintro e u' w8 ⟨rfl, rfl, g1, g2, g3⟩
    refine ⟨by simp [settle], ?_⟩
    exact ⟨⟨0, 0, 0, ⟨⟨0, 0⟩, false⟩, ⟨none, 0, 0⟩⟩, ⟨rfl, g1.rd0⟩, _, ⟨rfl, g2.at rfl⟩, .inr ⟨hw, rfl⟩, k7.then g3 (by simp; omega)⟩
  refine callV_mono2 rfl (by kernel_rfl) (GetEvent1_p b5 hR hl) ?_ ?_
  · rintro _ w7 ⟨x, m, k', e, rfl, hE, h7, k7⟩
    rw [List.drop_zero] at e
    have hw := whole_at e h7.le
    have hlo := hE.lo
    have c1 := y1.keep k7 (by simp; omega)
    have c3 := y3.keep k7 (by simp; omega)
    have kk7 : Kp [] w w7 := k6.then k7 (by simp; omega)
    refine ⟨x, rfl, ⟨rfl, c1.canN _ (Nat.le_refl _)⟩, fun w10 e10 => ?_⟩
    obtain ⟨g1, k10, _⟩ := c1.putAll (vs := #[.int .i64 x.Kind, .int .i64 x.A, .int .i64 x.B, .int .i64 x.Pose.At.X, .int .i64 x.Pose.At.Y, .bool x.Pose.Down, slv x.Moves]) rfl e10
    have g3 := c3.keep k10 (by simp; omega)
    have g5 := h7.b.keep k10 (by simp; omega)
    have kk10 : Kp [] w w10 := kk7.then k10 (by simp; omega)
    refine ⟨_, ⟨rfl, g5.at rfl⟩, ?_⟩
    by_cases hk : k' = l.length
    · rw [if_pos hk] at hw
      refine cond_f (bne_f (by omega)) ⟨x, ⟨rfl, g1.rd0⟩, ⟨rfl, g1.canN _ (Nat.le_refl _)⟩, fun w18 e18 => ?_⟩
      obtain ⟨j1, k18, _⟩ := g1.putAll (vs := #[.int .i64 x.Kind, .int .i64 x.A, .int .i64 x.B, .int .i64 x.Pose.At.X, .int .i64 x.Pose.At.Y, .bool x.Pose.Down, slv x.Moves]) rfl e18
      have j3 := g3.keep k18 (by simp; omega)
      refine ⟨⟨rfl, j3.can1 _ rfl (Nat.le_of_ble_eq_true rfl)⟩, fun w19 e19 => ?_⟩
      obtain ⟨m3, k19, _⟩ := j3.put1 (i := 0) rfl e19
      have m1 := j1.keep k19 (by simp; omega)
      show bodied Try.prog _ = true ∧ _
      refine ⟨by kernel_rfl, CallsDIn.mono idle_Event ?_⟩
      rintro e u' w20 ⟨rfl, rfl, rfl⟩
      refine ⟨by simp [settle], ?_⟩
      have ke : Kp [b1, b3] w7 w20 := ((k10.mono (by simp)).then k18 (by simp)).then k19 (by simp)
      exact ⟨x, ⟨rfl, m1.rd0⟩, _, ⟨rfl, m3.at rfl⟩, .inl ⟨x, m, hw, (hE.keep ke (fun y hy => by have := hlo y hy; simp; omega)).mono (by omega), rfl⟩, kk7.then ke (by simp; omega)⟩
    · rw [if_neg hk] at hw
      exact cond_t (bne_t (by omega)) (bad w10 _ g1 rfl g3 kk10 hw)
  · rintro c w7 ⟨e, rfl, k7⟩
    rw [List.drop_zero] at e
    exact bad w7 _ (y1.keep k7 (by simp; omega)) rfl (y3.keep k7 (by simp; omega)) (k6.then k7 (by simp; omega)) (whole_none e))
theorem GetEvent_s {w : World} {s : Sl} {l : Bs} (hd : RdB w s l) (hl : l.length ≤ 100000000) (hs : ∀ y ∈ blkOf s, y < w.heap.size) : C.codec_GetEvent s w (fun r w' => GotE w' w.heap.size l r (.int .i64 0) (.int .i64 4) ∧ Kp [] w w') noP := codec_GetEvent_of (by
  unfold W.codec_GetEvent
  intro b1 w2 hA
  have s2 := hA.eq
  refine use (readEvent_s (hd.keep0 hA.kp) hl (fun y hy => by have := hs y hy; omega)) ?_
  rintro r w3 ⟨hG, k3⟩
  have c1 := hA.blk.keep k3 (by simp)
  have go : ∀ (o : S.api_Event) (e : Int), r = .tuple #[S.api_Event.v o, .int .i64 e] → (∀ w6 : World, Kp [b1] w3 w6 → GotE w6 w.heap.size l (.tuple #[S.api_Event.v o, .int .i64 e]) (.int .i64 0) (.int .i64 4)) → ∃ p4 : S.api_Event × Int, r = .tuple #[S.api_Event.v p4.1, .int .i64 p4.2] ∧ (okVal true 7 (S.api_Event.v p4.1) = true ∧ canPut w3 ⟨b1, 0, none⟩ (S.api_Event.v p4.1)) ∧ ∀ w6 : World, w6 = putAt w3 ⟨b1, 0, none⟩ (S.api_Event.v p4.1) → ∃ y7 : S.api_Event, (okVal true 7 (S.api_Event.v y7) = true ∧ Go.Eng.rd w6 ⟨b1, 0, none⟩ (S.api_Event.v y7)) ∧ (GotE w6 w.heap.size l (.tuple #[S.api_Event.v y7, .int .i64 p4.2]) (.int .i64 0) (.int .i64 4) ∧ Kp [] w w6) := fun o e he hq => by
    refine ⟨(o, e), he, ⟨rfl, c1.canN _ (Nat.le_refl _)⟩, fun w6 e6 => ?_⟩
    obtain ⟨g1, k6, _⟩ := c1.putAll (vs := #[.int .i64 o.Kind, .int .i64 o.A, .int .i64 o.B, .int .i64 o.Pose.At.X, .int .i64 o.Pose.At.Y, .bool o.Pose.Down, slv o.Moves]) rfl e6
    exact ⟨o, ⟨rfl, g1.rd0⟩, hq w6 k6, (hA.kp.then0 k3).then k6 (by simp; omega)⟩
  rcases hG with ⟨o, m, h1, hE, h2⟩ | ⟨h1, h2⟩
  · have hlo := hE.lo
    exact go o 0 h2 (fun w6 k6 => .inl ⟨o, m, h1, (hE.keep k6 (fun y hy => by have := hlo y hy; simp; omega)).mono (by omega), rfl⟩)
  · exact go _ 4 h2 (fun w6 k6 => .inr ⟨h1, rfl⟩))
end Go.Proofs.Ytocbjadhcfjfiaa
