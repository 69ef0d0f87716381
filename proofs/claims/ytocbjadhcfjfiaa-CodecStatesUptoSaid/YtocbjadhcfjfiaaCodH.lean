/- Events: put; copies; the same. No conditions. -/
import Derived.Test.YtocbjadhcfjfiaaCodG
import Derived.Test.YtocbjadhcfjfiaaCod8
namespace Go.Proofs.Ytocbjadhcfjfiaa
open Go.RowKit Go.Eng
set_option linter.unusedVariables false
set_option linter.unusedSimpArgs false
theorem rds_of_rdl {w : World} {s : Sl} {L : List S.api_Move} (h : RdL w 11 S.api_Move.v s L) : Rds w 11 s (L.flatMap mvC) := by
  have hl := h.len
  refine ⟨by rw [mv_flat, hl], fun h0 => ?_⟩
  obtain ⟨a, ha, _⟩ := h.get (i := 0) (by omega)
  refine ⟨a, ha, fun i v hi => ?_⟩
  have e : i = i / 11 * 11 + i % 11 := by omega
  rw [e, flat_get (n := 11) mvC_len L (i / 11) (i % 11) (by omega), Option.bind_eq_some_iff] at hi
  obtain ⟨x, hx, hv⟩ := hi
  obtain ⟨a', ha', hr⟩ := h.at_ _ x hx
  rw [ha] at ha'
  injection ha' with ha'
  subst ha'
  have hc : Go.Eng.World.has w (a.add (i / 11 * 11)) (mvC x) := hr
  have := hc (i % 11) v hv
  rw [add_add'] at this
  rw [e]
  exact this
set_option maxHeartbeats 1000000 in
theorem PutEvent_s (m : M.api_Event) (ms : Sl) (hm : okEv m) {w : World} (hR : RdL w 11 S.api_Move.v ms m.Moves) (hb : (bEv m).length ≤ 1000000000) (hd : 0 < m.Moves.length → ∀ y ∈ blkOf ms, y < w.heap.size) :
    C.codec_PutEvent ⟨m.Kind, m.A, m.B, m.Pose, ms⟩ w (fun r w' => ∃ s : Sl, r = slv s ∧ OwnB w' w.heap.size s (bEv m) ∧ Kp [] w w') noP := codec_PutEvent_of (by
  unfold W.codec_PutEvent
  obtain ⟨⟨⟨⟨m1, m2⟩, m3⟩, m4⟩, m5, m6⟩ := hm
  have hl := hb
  simp only [bEv, List.length_append] at hl
  intro b1 w2 hA w3 hD
  have s2 := hA.eq
  have s3 := hD.sz
  have k3 := hA.kp.then0 hD.kp
  have n1 : b1 ∉ blkOf ⟨none, 0, 0⟩ := by simp [blkOf]
  have l3 : b1 < w3.heap.size := by omega
  have hB1 : Blk w3 b1 [.int .i64 m.Kind, .int .i64 m.A, .int .i64 m.B, .int .i64 m.Pose.At.X, .int .i64 m.Pose.At.Y, .bool m.Pose.Down, slv ms] := hA.blk.keep hD.kp (by simp)
  have a0 := Acc.start (w := w3) (B := w.heap.size) (s := ⟨none, 0, 0⟩) (l := []) (Go.Eng.Own.nil _ _ _)
  refine ⟨_, ⟨rfl, hB1.at rfl⟩, _, ⟨rfl, hB1.at rfl⟩, _, ⟨rfl, hB1.at rfl⟩, use (a0.apd (number_a _ m.Kind m1) (by omega) (by simp only [List.length_nil]; omega)) ?_⟩
  rintro _ w7 ⟨p1, rfl, o1, k1, b1'⟩
  have a1 := a0.more o1 k1 b1'
  replace hB1 := hB1.keep k1 n1
  refine ⟨p1, rfl, hB1.at rfl, hB1.at rfl, use (a1.apd (number_a p1 m.A m2) (by omega) (by simp only [List.length_append, List.length_nil]; omega)) ?_⟩
  rintro _ w10 ⟨p2, rfl, o2, k2, b2'⟩
  have a2 := a1.more o2 k2 b2'
  replace hB1 := hB1.keep k2 (a1.ne l3 n1)
  refine ⟨p2, rfl, hB1.at rfl, use (a2.apd (number_a p2 m.B m3) (by omega) (by simp only [List.length_append, List.length_nil]; omega)) ?_⟩
  rintro _ w13 ⟨p3, rfl, o3, k3', b3'⟩
  have a3 := a2.more o3 k3' b3'
  replace hB1 := hB1.keep k3' (a2.ne l3 n1)
  refine ⟨p3, rfl, fun w16 hD16 => ?_⟩
  replace a3 := a3.keep0 hD16.kp
  replace hB1 := hB1.keep hD16.kp (by simp)
  refine ⟨m.Pose, ⟨rfl, hB1.rd 3 #[.int .i64 m.Pose.At.X, .int .i64 m.Pose.At.Y, .bool m.Pose.Down] (seg rfl)⟩, ms, ⟨rfl, hB1.at rfl⟩, use (a3.apd (pose_a p3 m.Pose m4) (by omega) (by simp only [List.length_append, List.length_nil]; omega)) ?_⟩
  rintro _ w19 ⟨p4, rfl, o4, k4, b4'⟩
  have a4 := a3.more o4 k4 b4'
  replace hB1 := hB1.keep k4 (a3.ne l3 n1)
  have kw : Kp [] w w19 := k3.then0 a4.kp
  refine ⟨p4, rfl, hB1.at rfl, use (puts_a (L := m.Moves) m5 a4.own (by have := kw.size; omega) (by simp only [List.length_append, List.length_nil]; omega) (hR.keep0 kw) (fun h0 y hy => ⟨by have := hd h0 y hy; have := kw.size; omega, a4.ne (by have := hd h0 y hy; omega) (by simp [blkOf])⟩)) ?_⟩
  rintro _ w22 ⟨p5, rfl, o5, k5, b5'⟩
  obtain ⟨f1, f2, f3⟩ := (a4.more o5 k5 b5').fin k3 (show _ = bEv m by simp [bEv])
  exact ⟨p5, rfl, p5, rfl, f1, f2⟩)
set_option maxHeartbeats 1000000 in
theorem rPutEvent_s (m : M.api_Event) (ms : Sl) (hm : okEv m) {w : World} (hR : RdL w 11 S.api_Move.v ms m.Moves) (hb : (bEv m).length ≤ 1000000000) (hd : 0 < m.Moves.length → ∀ y ∈ blkOf ms, y < w.heap.size) :
    C.skepref05_PutEvent ⟨m.Kind, m.A, m.B, m.Pose, ms⟩ w (fun r w' => ∃ s : Sl, r = slv s ∧ OwnB w' w.heap.size s (bEv m) ∧ Kp [] w w') noP := skepref05_PutEvent_of (by
  unfold W.skepref05_PutEvent
  obtain ⟨⟨⟨⟨m1, m2⟩, m3⟩, m4⟩, m5, m6⟩ := hm
  have hl := hb
  simp only [bEv, List.length_append] at hl
  intro b1 w2 hA w3 hD
  have s2 := hA.eq
  have s3 := hD.sz
  have k3 := hA.kp.then0 hD.kp
  have n1 : b1 ∉ blkOf ⟨none, 0, 0⟩ := by simp [blkOf]
  have l3 : b1 < w3.heap.size := by omega
  have hB1 : Blk w3 b1 [.int .i64 m.Kind, .int .i64 m.A, .int .i64 m.B, .int .i64 m.Pose.At.X, .int .i64 m.Pose.At.Y, .bool m.Pose.Down, slv ms] := hA.blk.keep hD.kp (by simp)
  have a0 := Acc.start (w := w3) (B := w.heap.size) (s := ⟨none, 0, 0⟩) (l := []) (Go.Eng.Own.nil _ _ _)
  have rp : ∀ {W : World}, Blk W b1 [.int .i64 m.Kind, .int .i64 m.A, .int .i64 m.B, .int .i64 m.Pose.At.X, .int .i64 m.Pose.At.Y, .bool m.Pose.Down, slv ms] → Go.Eng.rd W ⟨b1, 3, none⟩ (S.api_Pose.v m.Pose) := fun hW => hW.rd 3 #[.int .i64 m.Pose.At.X, .int .i64 m.Pose.At.Y, .bool m.Pose.Down] (seg rfl)
  refine ⟨_, ⟨rfl, hB1.at rfl⟩, _, ⟨rfl, hB1.at rfl⟩, _, ⟨rfl, hB1.at rfl⟩, m.Pose, ⟨rfl, rp hB1⟩, ms, ⟨rfl, hB1.at rfl⟩, use (a0.apd (rnum_a _ m.Kind m1) (by omega) (by simp only [List.length_nil]; omega)) ?_⟩
  rintro _ w7 ⟨p1, rfl, o1, k1, b1'⟩
  have a1 := a0.more o1 k1 b1'
  replace hB1 := hB1.keep k1 n1
  refine ⟨p1, rfl, hB1.at rfl, rp hB1, hB1.at rfl, hB1.at rfl, use (a1.apd (rnum_a p1 m.A m2) (by omega) (by simp only [List.length_append, List.length_nil]; omega)) ?_⟩
  rintro _ w10 ⟨p2, rfl, o2, k2, b2'⟩
  have a2 := a1.more o2 k2 b2'
  replace hB1 := hB1.keep k2 (a1.ne l3 n1)
  refine ⟨p2, rfl, hB1.at rfl, rp hB1, hB1.at rfl, use (a2.apd (rnum_a p2 m.B m3) (by omega) (by simp only [List.length_append, List.length_nil]; omega)) ?_⟩
  rintro _ w13 ⟨p3, rfl, o3, k3', b3'⟩
  have a3 := a2.more o3 k3' b3'
  replace hB1 := hB1.keep k3' (a2.ne l3 n1)
  refine ⟨p3, rfl, hB1.at rfl, rp hB1, use (a3.apd (rpose_a p3 m.Pose m4) (by omega) (by simp only [List.length_append, List.length_nil]; omega)) ?_⟩
  rintro _ w19 ⟨p4, rfl, o4, k4, b4'⟩
  have a4 := a3.more o4 k4 b4'
  replace hB1 := hB1.keep k4 (a3.ne l3 n1)
  have kw : Kp [] w w19 := k3.then0 a4.kp
  refine ⟨p4, rfl, hB1.at rfl, use (moves_a (L := m.Moves) m5 a4.own (by have := kw.size; omega) (by simp only [List.length_append, List.length_nil]; omega) (hR.keep0 kw) (fun h0 y hy => ⟨by have := hd h0 y hy; have := kw.size; omega, a4.ne (by have := hd h0 y hy; omega) (by simp [blkOf])⟩)) ?_⟩
  rintro _ w22 ⟨p5, rfl, o5, k5, b5'⟩
  obtain ⟨f1, f2, f3⟩ := (a4.more o5 k5 b5').fin k3 (show _ = bEv m by simp [bEv])
  exact ⟨p5, rfl, p5, rfl, f1, f2⟩)
theorem CopyEvent_s (m : M.api_Event) (ms : Sl) {w : World} (hR : RdL w 11 S.api_Move.v ms m.Moves) (hl : m.Moves.length ≤ 100000000) :
    C.skeplaw00_CopyEvent ⟨m.Kind, m.A, m.B, m.Pose, ms⟩ w (fun r w' => ∃ ms' : Sl, r = S.api_Event.v ⟨m.Kind, m.A, m.B, m.Pose, ms'⟩ ∧ Go.Eng.Own w' w.heap.size 11 ms' (m.Moves.flatMap mvC) ∧ Kp [] w w') noP := skeplaw00_CopyEvent_of (by
  unfold W.skeplaw00_CopyEvent
  intro b1 w2 hA1 b3 w4 hA3
  have s2 := hA1.eq
  have s4 := hA3.eq
  have k4 := hA1.kp.then0 hA3.kp
  have q1 : Blk w4 b1 [.int .i64 m.Kind, .int .i64 m.A, .int .i64 m.B, .int .i64 m.Pose.At.X, .int .i64 m.Pose.At.Y, .bool m.Pose.Down, slv ms] := hA1.blk.keep hA3.kp (by simp)
  have hlen := hR.len
  obtain ⟨q, n, c, w9, hrun, hn, ho9, k9, hq⟩ := app_any (ty := 61) (s := ⟨none, 0, 0⟩) Try.underlying61 mv_info rfl (by decide) (Go.Eng.Own.nil w4 w4.heap.size 11) (rds_of_rdl (hR.keep0 k4)) (mv_leaf _) (Nat.le_refl _) (by dsimp only; omega) (by dsimp only; omega)
  rw [List.nil_append] at ho9
  replace k9 : Kp [] w4 w9 := k9
  have q1' := q1.keep k9 (by simp)
  refine ⟨ms, ⟨rfl, q1.at rfl⟩, q, n, c, w9, hrun, ⟨rfl, q1'.can1 _ rfl (Nat.le_of_ble_eq_true rfl)⟩, fun w10 e10 => ?_⟩
  obtain ⟨g1, k10, _⟩ := q1'.put1 (i := 6) (v := slv ⟨q, n, c⟩) rfl e10
  replace g1 : Blk w10 b1 [.int .i64 m.Kind, .int .i64 m.A, .int .i64 m.B, .int .i64 m.Pose.At.X, .int .i64 m.Pose.At.Y, .bool m.Pose.Down, slv ⟨q, n, c⟩] := g1
  have g3 := (hA3.blk.keep k9 (by simp)).keep k10 (by simp; omega)
  refine ⟨⟨m.Kind, m.A, m.B, m.Pose, ⟨q, n, c⟩⟩, ⟨rfl, g1.rd0⟩, ⟨rfl, g3.canN _ (Nat.le_refl _)⟩, fun w12 e12 => ?_⟩
  obtain ⟨j1, k12, _⟩ := g3.putAll (vs := #[.int .i64 m.Kind, .int .i64 m.A, .int .i64 m.B, .int .i64 m.Pose.At.X, .int .i64 m.Pose.At.Y, .bool m.Pose.Down, slv ⟨q, n, c⟩]) rfl e12
  have kk : Kp [b1, b3] w9 w12 := (k10.mono (by simp)).then k12 (by simp)
  have hlo := ho9.lo
  exact ⟨⟨m.Kind, m.A, m.B, m.Pose, ⟨q, n, c⟩⟩, ⟨rfl, j1.rd0⟩, ⟨q, n, c⟩, rfl, (ho9.keep kk (fun y hy => by have := hlo y hy; simp; omega)).mono (by omega), (k4.then0 k9).then kk (by simp; omega)⟩)
theorem moveDec (a b : S.api_Move) : (((a.Kind : Int) == b.Kind) && (((a.Dir : Int) == b.Dir) && (((a.N : Int) == b.N) && (((((a.From.At.X : Int) == b.From.At.X) && (((a.From.At.Y : Int) == b.From.At.Y) && true)) && ((a.From.Down == b.From.Down) && true)) && (((((a.To.At.X : Int) == b.To.At.X) && (((a.To.At.Y : Int) == b.To.At.Y) && true)) && ((a.To.Down == b.To.Down) && true)) && (((a.At : Int) == b.At) && (((a.End : Int) == b.End) && true))))))) = true ↔ a = b := by
  obtain ⟨mk, md, mn, ⟨⟨fx, fy⟩, fd⟩, ⟨⟨tx, ty⟩, td⟩, ma, me⟩ := a
  obtain ⟨mk', md', mn', ⟨⟨fx', fy'⟩, fd'⟩, ⟨⟨tx', ty'⟩, td'⟩, ma', me'⟩ := b
  simp
set_option maxHeartbeats 1000000 in
theorem SameMoves_s {a b : Sl} {A B : List S.api_Move} {w : World} (ha : RdL w 11 S.api_Move.v a A) (hb : RdL w 11 S.api_Move.v b B) (hl : A.length ≤ 1000000000) : C.skeplaw00_SameMoves a b w (fun v w' => ∃ t, v = .bool t ∧ (t = true ↔ A = B) ∧ Kp [] w w') noP := skeplaw00_SameMoves_of (by
  unfold W.skeplaw00_SameMoves
  have h1 := ha.len
  have h2 := hb.len
  refine cond_n (fun h => ⟨false, rfl, ⟨(fun h => by cases h), fun e => ?_⟩, Kp.refl _ _⟩) (fun h => ?_)
  · rw [e] at h1; omega
  refine ⟨fun v w' => ∃ k : Nat, v = k ∧ k ≤ A.length ∧ A.take k = B.take k ∧ Kp [] w w', fun v _ => A.length - v.toNat, ⟨_, rfl, 0, rfl, by omega, rfl, Kp.refl _ _⟩, fun e0 v w5 hI => ?_⟩
  obtain ⟨k, rfl, hk, ht, k5⟩ := hI
  refine cond_d (fun h3 w6 hD => ?_) (fun h3 => ?_)
  · have k6 := k5.then0 hD.kp
    have hkA : k < A.length := by omega
    have hkB : k < B.length := by omega
    obtain ⟨x, ex, hx⟩ := (ha.keep0 k6).get hkA
    obtain ⟨y, ey, hy⟩ := (hb.keep0 k6).get hkB
    have hw : IntKind.i64.wrap ((k : Int) + 1) = (k + 1 : Nat) := by rw [IntKind.wrap_i64]; omega
    rw [ex, ey, Int.toNat_natCast, hw]
    refine ⟨⟨by omega, h3⟩, A[k], ⟨rfl, hx⟩, ⟨by omega, by omega⟩, B[k], ⟨rfl, hy⟩, ?_⟩
    by_cases e : A[k] = B[k]
    · have := (moveDec A[k] B[k]).2 e
      refine cond_f (by rw [this]; rfl) ⟨_, rfl, ⟨k + 1, rfl, by omega, ?_, k6⟩, by simp only [Int.toNat_natCast]; omega⟩
      rw [List.take_add_one, List.take_add_one, ht, List.getElem?_eq_getElem hkA, List.getElem?_eq_getElem hkB, e]
    · have hne : ∀ t : Bool, (t = true ↔ A[k] = B[k]) → t = false := fun t ht' => by
        cases t with
        | true => exact absurd (ht'.1 rfl) e
        | false => rfl
      refine cond_t (by rw [hne _ (moveDec A[k] B[k])]; rfl) ⟨false, rfl, ⟨(fun h => by cases h), fun he => ?_⟩, k6⟩
      subst he
      exact absurd rfl e
  · have e1 : k = A.length := by omega
    subst e1
    rw [List.take_length, List.take_of_length_le (by omega)] at ht
    exact ⟨true, rfl, ⟨fun _ => ht, fun _ => rfl⟩, k5⟩)
end Go.Proofs.Ytocbjadhcfjfiaa
