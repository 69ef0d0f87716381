/- The law Events. No conditions. -/
import Derived.Test.YtocbjadhcfjfiaaCodI
namespace Go.Proofs.Ytocbjadhcfjfiaa
open Go.RowKit Go.Eng
set_option linter.unusedVariables false
set_option linter.unusedSimpArgs false
theorem bMove_92 (m : S.api_Move) : (bMove m).length ≤ 92 := by
  have h1 := (putN_len m.Kind).2; have h2 := (putN_len m.Dir).2; have h3 := (putN_len m.N).2; have h4 := (putN_len m.At).2; have h5 := (putN_len m.End).2
  have h6 := (putN_len m.From.At.X).2; have h7 := (putN_len m.From.At.Y).2; have h8 := (putN_len m.To.At.X).2; have h9 := (putN_len m.To.At.Y).2
  simp only [bMove, bPose, bCell, putF, List.length_append, List.length_cons, List.length_nil]
  omega
theorem flat_92 : ∀ L : List S.api_Move, (L.flatMap bMove).length ≤ L.length * 92
  | [] => Nat.le_refl _
  | x :: L => by
    rw [List.flatMap_cons, List.length_append, List.length_cons]
    have := flat_92 L
    have := bMove_92 x
    omega
theorem bEv_len {m : M.api_Event} (h : m.Moves.length ≤ 1048576) : (bEv m).length ≤ 100000000 := by
  have h1 := (putN_len m.Kind).2; have h2 := (putN_len m.A).2; have h3 := (putN_len m.B).2; have h4 := bPose_len m.Pose; have h5 := (putN_len (m.Moves.length : Nat)).2; have h6 := flat_92 m.Moves
  simp only [bEv, bMoves, bL, List.length_append]
  omega
theorem wholeE_b (m : M.api_Event) (h : okEv m) : whole pEv (bEv m) = some m := by
  have := ev_cod.put m h []
  rw [List.append_nil] at this
  unfold whole
  rw [this]
def zM : M.api_Event := ⟨0, 0, 0, ⟨⟨0, 0⟩, false⟩, []⟩
theorem zEv_r (w : World) : EvR w zEv zM := ⟨⟨rfl, rfl, rfl, rfl⟩, ⟨rfl, fun i x h => by cases h⟩⟩
theorem evBlk {w w' : World} {b : Nat} {cs : List Value} {e : S.api_Event} (h : Blk w b cs) (hl : cs.length = 7) (e1 : w' = putAt w ⟨b, 0, none⟩ (S.api_Event.v e)) : Blk w' b [.int .i64 e.Kind, .int .i64 e.A, .int .i64 e.B, .int .i64 e.Pose.At.X, .int .i64 e.Pose.At.Y, .bool e.Pose.Down, slv e.Moves] ∧ Kp [b] w w' := by
  obtain ⟨g1, g2, _⟩ := h.putAll (vs := #[.int .i64 e.Kind, .int .i64 e.A, .int .i64 e.B, .int .i64 e.Pose.At.X, .int .i64 e.Pose.At.Y, .bool e.Pose.Down, slv e.Moves]) (by rw [hl]; rfl) e1
  exact ⟨g1, g2⟩
set_option maxHeartbeats 4000000 in
theorem CodecEvents_s (e : S.api_Event) (m : M.api_Event) (s : Sl) {l : Bs} {w : World} (he : EvR w e m) (hm : okEv m) (hn : m.Moves.length ≤ 1048576) (hd : RdB w s l) (hl : l.length ≤ 1048576) : C.skeplaw05_CodecEvents e s w (fun v w' => v = .bool true ∧ Kp [] w w') noP := skeplaw05_CodecEvents_of (by
  unfold W.skeplaw05_CodecEvents
  have hee := he.eq
  obtain ⟨ms, hms⟩ : ∃ ms, e.Moves = ms := ⟨_, rfl⟩
  rw [hms] at hee
  subst hee
  have hR := he.2
  dsimp only at hR
  have hbl := bEv_len hn
  have hdR : 0 < m.Moves.length → ∀ y ∈ blkOf ms, y < w.heap.size := fun h0 => by
    have hr := rds_of_rdl hR
    have := hR.len
    exact hr.ltB (by omega) (by omega)
  intro b1 w2 hA
  have s2 := hA.eq
  have y1 : Blk w2 b1 [.int .i64 m.Kind, .int .i64 m.A, .int .i64 m.B, .int .i64 m.Pose.At.X, .int .i64 m.Pose.At.Y, .bool m.Pose.Down, slv ms] := hA.blk
  refine ⟨⟨m.Kind, m.A, m.B, m.Pose, ms⟩, ⟨rfl, y1.rd0⟩, use (CopyEvent_s m ms (hR.keep0 hA.kp) (by omega)) ?_⟩
  rintro _ w4 ⟨ms', rfl, oc, k4⟩
  have kk4 : Kp [] w w4 := hA.kp.then0 k4
  have ec : EvS w4 w2.heap.size ⟨m.Kind, m.A, m.B, m.Pose, ms'⟩ m := ⟨rfl, rfl, rfl, rfl, oc⟩
  have hloc := oc.lo
  refine ⟨⟨m.Kind, m.A, m.B, m.Pose, ms'⟩, rfl, use (PutEvent_s m ms' hm ec.rdl (by omega) (fun _ y hy => (hloc y hy).2)) ?_⟩
  rintro _ w7 ⟨x, rfl, ox, k7⟩
  refine ⟨x, rfl, use (CopyBytes_s x ox.rds (by omega)) ?_⟩
  rintro _ w10 ⟨x', rfl, ox', k10⟩
  refine ⟨x', rfl, use (GetEvent_s ox'.rds hbl (own_lt ox')) ?_⟩
  rintro r w13 ⟨hG, k13⟩
  have kk13 : Kp [] w w13 := ((kk4.then0 k7).then0 k10).then0 k13
  obtain ⟨e1, hr1, hE1⟩ : ∃ e1, r = .tuple #[S.api_Event.v e1, .int .i64 0] ∧ EvR w13 e1 m := by
    rcases hG with ⟨e1, m', h1, h2, h3⟩ | ⟨h1, _⟩
    · rw [wholeE_b m hm] at h1; injection h1 with h1; subst h1; exact ⟨e1, h3, h2.r⟩
    · rw [wholeE_b m hm] at h1; cases h1
  have s13 := kk13.size
  refine ⟨(e1, 0), hr1, fun b16 w17 hA16 => ⟨⟨rfl, hA16.blk.canN _ (Nat.le_refl _)⟩, fun w18 e18 => ?_⟩⟩
  obtain ⟨y16, k18⟩ := evBlk hA16.blk rfl e18
  have s17 := hA16.eq
  have k1318 : Kp [] w13 w18 := hA16.kp.then k18 (by simp; omega)
  have kk18 := kk13.then0 k1318
  refine use (CopyBytes_s s (hd.keep0 kk18) (by omega)) ?_
  rintro _ w19 ⟨z, rfl, oz, k19⟩
  refine ⟨z, rfl, use (GetEvent_s oz.rds (by omega) (own_lt oz)) ?_⟩
  rintro r2 w22 ⟨hG2, k22⟩
  have kk22 := (kk18.then0 k19).then0 k22
  have s22 := kk22.size
  obtain ⟨e2, m2, c2, hr2, hE2, hc2⟩ : ∃ (e2 : S.api_Event) (m2 : M.api_Event) (c2 : Int), r2 = .tuple #[S.api_Event.v e2, .int .i64 c2] ∧ EvR w22 e2 m2 ∧ ((whole pEv l = some m2 ∧ c2 = 0) ∨ (whole pEv l = none ∧ m2 = zM ∧ c2 = 4)) := by
    rcases hG2 with ⟨e2, m2, h1, h2, h3⟩ | ⟨h1, h3⟩
    · exact ⟨e2, m2, 0, h3, h2.r, .inl ⟨h1, rfl⟩⟩
    · exact ⟨zEv, zM, 4, h3, zEv_r _, .inr ⟨h1, rfl, rfl⟩⟩
  have hm2 : m2.Moves.length ≤ 1000000000 := by
    rcases hc2 with ⟨h1, _⟩ | ⟨_, h1, _⟩
    · have : ∃ rest, pEv l = some (m2, rest) := by
        unfold whole at h1
        split at h1
        · rename_i q hq; injection h1 with h1; subst h1; exact ⟨_, hq⟩
        · cases h1
      obtain ⟨rest, hq⟩ := this
      obtain ⟨_, h3⟩ := ev_cod.inv _ _ _ hq
      have h4 := congrArg List.length h3
      have h5 := flat_len_le bMove_1 m2.Moves
      simp only [bEv, bMoves, bL, List.length_append] at h4
      omega
    · rw [h1]; exact Nat.zero_le _
  refine ⟨(e2, c2), hr2, fun b25 w26 hA25 => ⟨⟨rfl, hA25.blk.canN _ (Nat.le_refl _)⟩, fun w27 e27 => ?_⟩⟩
  obtain ⟨y25, k27⟩ := evBlk hA25.blk rfl e27
  have s26 := hA25.eq
  have k2227 : Kp [] w22 w27 := hA25.kp.then k27 (by simp; omega)
  have kk27 := kk22.then0 k2227
  refine use (rGetEvent_s (hd.keep0 kk27) (by omega)) ?_
  rintro r3 w28 ⟨hG3, k28⟩
  obtain ⟨e3, b3, hr3, hE3, hb3⟩ : ∃ (e3 : S.api_Event) (b3 : Bool), r3 = .tuple #[S.api_Event.v e3, .bool b3] ∧ EvR w28 e3 m2 ∧ b3 = (c2 == 0) ∧ (b3 = false → c2 = 4) := by
    rcases hG3 with ⟨e3, m3, h1, h2, h3⟩ | ⟨h1, h3⟩
    · rcases hc2 with ⟨g1, g2⟩ | ⟨g1, g2, g3⟩
      · rw [h1] at g1; injection g1 with g1; subst g1 g2; exact ⟨e3, true, h3, h2.r, rfl, fun h => by cases h⟩
      · rw [h1] at g1; cases g1
    · rcases hc2 with ⟨g1, g2⟩ | ⟨g1, g2, g3⟩
      · rw [h1] at g1; cases g1
      · subst g2 g3; exact ⟨zEv, false, h3, zEv_r _, rfl, fun _ => rfl⟩
  have kk28 := kk27.then0 k28
  have s28 := kk28.size
  refine ⟨(e3, b3), hr3, fun b31 w32 hA31 => ⟨⟨rfl, hA31.blk.canN _ (Nat.le_refl _)⟩, fun w33 e33 w34 hD => ?_⟩⟩
  obtain ⟨y31, k33⟩ := evBlk hA31.blk rfl e33
  have s32 := hA31.eq
  have k2834 : Kp [] w28 w34 := (hA31.kp.then k33 (by simp; omega)).then0 hD.kp
  have kk34 := kk28.then0 k2834
  have k1834 : Kp [] w18 w34 := ((((k19.then0 k22).then0 k2227).then0 k28).then0 k2834)
  have k734 : Kp [] w7 w34 := ((k10.then0 k13).then0 k1318).then0 k1834
  have z1 := (((y1.keep k4 (by simp)).keep k7 (by simp)).keep k734 (by simp))
  have zx := ox.rds.keep0 k734
  refine ⟨str _, zx.str, ⟨m.Kind, m.A, m.B, m.Pose, ms⟩, ⟨rfl, z1.rd0⟩, use (rPutEvent_s m ms hm (hR.keep0 kk34) (by omega) (fun h0 y hy => by have := hdR h0 y hy; have := kk34.size; omega)) ?_⟩
  rintro _ w37 ⟨u, rfl, ou, k37⟩
  have kk37 := kk34.then0 k37
  have z16 := (y16.keep k1834 (by simp)).keep k37 (by simp)
  have z25 := ((y25.keep k28 (by simp)).keep k2834 (by simp)).keep k37 (by simp)
  have z31 := (y31.keep hD.kp (by simp)).keep k37 (by simp)
  have z1' := z1.keep k37 (by simp)
  have E1 : EvR w37 e1 m := ((hE1.keep0 k1318).keep0 k1834).keep0 k37
  have E0 : EvR w37 ⟨m.Kind, m.A, m.B, m.Pose, ms⟩ m := ⟨⟨rfl, rfl, rfl, rfl⟩, hR.keep0 kk37⟩
  have E2 : EvR w37 e2 m2 := (((hE2.keep0 k2227).keep0 k28).keep0 k2834).keep0 k37
  have E3 : EvR w37 e3 m2 := (hE3.keep0 k2834).keep0 k37
  refine ⟨u, rfl, (zx.keep0 k37).str.2, str _, ou.rds.str, cond_f (by rw [strEq_str]; simp) (cond_f rfl ⟨e1, ⟨rfl, z16.rd0⟩, ⟨m.Kind, m.A, m.B, m.Pose, ms⟩, ⟨rfl, z1'.rd0⟩, use (SameEvent_s E1 E0 (by omega)) ?_⟩)⟩
  rintro _ w43 ⟨rfl, k43⟩
  have kk43 := kk37.then0 k43
  have fin : ∀ W : World, ∃ y46 : S.api_Event, (okVal true 7 (S.api_Event.v y46) = true ∧ Go.Eng.rd w43 ⟨b25, 0, none⟩ (S.api_Event.v y46)) ∧ ∃ y47 : S.api_Event, (okVal true 7 (S.api_Event.v y47) = true ∧ Go.Eng.rd w43 ⟨b31, 0, none⟩ (S.api_Event.v y47)) ∧ C.skeplaw00_SameEvent y46 y47 w43 (fun r50 w48 => ∃ p49 : Bool, r50 = .bool p49 ∧ (cond p49 (C.skeplaw05_awake w48 (fun r53 w51 => ∃ p52 : Bool, r53 = .bool p52 ∧ ((.bool p52 : Value) = .bool true ∧ Kp [] w w51)) noP) ((.bool false : Value) = .bool true ∧ Kp [] w w48))) noP := fun _ => by
    refine ⟨e2, ⟨rfl, (z25.keep k43 (by simp)).rd0⟩, e3, ⟨rfl, (z31.keep k43 (by simp)).rd0⟩, use (SameEvent_s (E2.keep0 k43) (E3.keep0 k43) hm2) ?_⟩
    rintro _ w48 ⟨rfl, k48⟩
    exact ⟨true, rfl, cond_t rfl (aw_s (kk43.then0 k48))⟩
  refine ⟨true, rfl, cond_f rfl (cond_f (by rw [hb3.1]; simp) ?_)⟩
  cases hbb : b3
  · exact cond_t rfl (cond_f (by rw [hb3.2 hbb]; rfl) (fin w43))
  · exact cond_f rfl (fin w43))
end Go.Proofs.Ytocbjadhcfjfiaa
