/- Moves, telegrams: put, got. Printed by gen_tele3.py. No conditions. -/
import Derived.Test.YtocbjadhcfjfiaaCod7
namespace Go.Proofs.Ytocbjadhcfjfiaa
open Go.RowKit Go.Eng
set_option linter.unusedVariables false
set_option linter.unusedSimpArgs false
theorem seg {cs vs : List Value} {o : Nat} (h : (cs.drop o).take vs.length = vs) : ∀ i v, vs[i]? = some v → cs[o + i]? = some v := fun i v hi => by
  rw [← h, List.getElem?_take] at hi
  split at hi
  · rwa [List.getElem?_drop] at hi
  · cases hi

set_option maxHeartbeats 1000000 in
theorem move_a (s : Sl) (m : S.api_Move) (hm : okMove m) : Apd (fun w K KP => C.codec_move s m w K KP) s (bMove m) := fun w B l ho hB hl => codec_move_of (by
  unfold W.codec_move
  obtain ⟨⟨⟨⟨⟨⟨m1, m2⟩, m3⟩, m4⟩, m5⟩, m6⟩, m7⟩ := hm
  simp only [bMove, List.length_append] at hl
  intro b1 w2 hA w3 hD
  have s2 := hA.eq
  have s3 := hD.sz
  have k3 := hA.kp.then0 hD.kp
  have n1 : b1 ∉ blkOf s := fun h => by have := ho.lo _ h; omega
  have l3 : b1 < w3.heap.size := by omega
  have hB1 : Blk w3 b1 [.int .i64 m.Kind, .int .i64 m.Dir, .int .i64 m.N, .int .i64 m.From.At.X, .int .i64 m.From.At.Y, .bool m.From.Down, .int .i64 m.To.At.X, .int .i64 m.To.At.Y, .bool m.To.Down, .int .i64 m.At, .int .i64 m.End] := hA.blk.keep hD.kp (by simp)
  have a0 := Acc.start (ho.keep0 k3)
  refine ⟨_, ⟨rfl, hB1.at rfl⟩, _, ⟨rfl, hB1.at rfl⟩, _, ⟨rfl, hB1.at rfl⟩, use (a0.apd (number_a s m.Kind m1) (by omega) (by omega)) ?_⟩
  rintro _ w7 ⟨p1, rfl, o1, k1, b1'⟩
  have a1 := a0.more o1 k1 b1'
  replace hB1 := hB1.keep k1 n1
  refine ⟨p1, rfl, hB1.at rfl, hB1.at rfl, use (a1.apd (number_a p1 m.Dir m2) (by omega) (by simp only [List.length_append, List.length_nil]; omega)) ?_⟩
  rintro _ w10 ⟨p2, rfl, o2, k2, b2'⟩
  have a2 := a1.more o2 k2 b2'
  replace hB1 := hB1.keep k2 (a1.ne l3 n1)
  refine ⟨p2, rfl, hB1.at rfl, use (a2.apd (number_a p2 m.N m3) (by omega) (by simp only [List.length_append, List.length_nil]; omega)) ?_⟩
  rintro _ w13 ⟨p3, rfl, o3, k3', b3'⟩
  have a3 := a2.more o3 k3' b3'
  replace hB1 := hB1.keep k3' (a2.ne l3 n1)
  refine ⟨p3, rfl, fun w16 hD16 => ?_⟩
  replace a3 := a3.keep0 hD16.kp
  replace hB1 := hB1.keep hD16.kp (by simp)
  refine ⟨m.From, ⟨rfl, hB1.rd 3 #[.int .i64 m.From.At.X, .int .i64 m.From.At.Y, .bool m.From.Down] (seg rfl)⟩, m.To, ⟨rfl, hB1.rd 6 #[.int .i64 m.To.At.X, .int .i64 m.To.At.Y, .bool m.To.Down] (seg rfl)⟩, use (a3.apd (pose_a p3 m.From m4) (by omega) (by simp only [List.length_append, List.length_nil]; omega)) ?_⟩
  rintro _ w19 ⟨p4, rfl, o4, k4, b4'⟩
  have a4 := a3.more o4 k4 b4'
  replace hB1 := hB1.keep k4 (a3.ne l3 n1)
  refine ⟨p4, rfl, hB1.rd 6 #[.int .i64 m.To.At.X, .int .i64 m.To.At.Y, .bool m.To.Down] (seg rfl), use (a4.apd (pose_a p4 m.To m5) (by omega) (by simp only [List.length_append, List.length_nil]; omega)) ?_⟩
  rintro _ w22 ⟨p5, rfl, o5, k5, b5'⟩
  have a5 := a4.more o5 k5 b5'
  replace hB1 := hB1.keep k5 (a4.ne l3 n1)
  refine ⟨p5, rfl, fun w25 hD25 => ?_⟩
  replace a5 := a5.keep0 hD25.kp
  replace hB1 := hB1.keep hD25.kp (by simp)
  refine ⟨_, ⟨rfl, hB1.at rfl⟩, _, ⟨rfl, hB1.at rfl⟩, use (a5.apd (number_a p5 m.At m6) (by omega) (by simp only [List.length_append, List.length_nil]; omega)) ?_⟩
  rintro _ w28 ⟨p6, rfl, o6, k6, b6'⟩
  have a6 := a5.more o6 k6 b6'
  replace hB1 := hB1.keep k6 (a5.ne l3 n1)
  refine ⟨p6, rfl, hB1.at rfl, use (a6.apd (number_a p6 m.End m7) (by omega) (by simp only [List.length_append, List.length_nil]; omega)) ?_⟩
  rintro _ w31 ⟨p7, rfl, o7, k7, b7'⟩
  exact ⟨p7, rfl, p7, rfl, (a6.more o7 k7 b7').fin k3 (by simp [bMove])⟩)
set_option maxHeartbeats 1000000 in
theorem PutTele_s (t : S.api_Tele) (ht : okTele t) (w : World) : C.codec_PutTele t w (fun r w' => ∃ s : Sl, r = slv s ∧ OwnB w' w.heap.size s (bTele t) ∧ Kp [] w w') noP := codec_PutTele_of (by
  unfold W.codec_PutTele
  obtain ⟨⟨⟨⟨⟨⟨m1, m2⟩, m3⟩, m4⟩, m5⟩, m6⟩, m7⟩ := ht
  have hl := bTele_len t
  simp only [bTele, List.length_append] at hl
  intro b1 w2 hA w3 hD
  have s2 := hA.eq
  have s3 := hD.sz
  have k3 := hA.kp.then0 hD.kp
  have n1 : b1 ∉ blkOf ⟨none, 0, 0⟩ := by simp [blkOf]
  have l3 : b1 < w3.heap.size := by omega
  have hB1 : Blk w3 b1 [.int .i64 t.Kind, .int .i64 t.Robot, .int .i64 t.Epoch, .int .i64 t.Num, .int .i64 t.Move.Kind, .int .i64 t.Move.Dir, .int .i64 t.Move.N, .int .i64 t.Move.From.At.X, .int .i64 t.Move.From.At.Y, .bool t.Move.From.Down, .int .i64 t.Move.To.At.X, .int .i64 t.Move.To.At.Y, .bool t.Move.To.Down, .int .i64 t.Move.At, .int .i64 t.Move.End, .int .i64 t.Pose.At.X, .int .i64 t.Pose.At.Y, .bool t.Pose.Down, .int .i64 t.Load] := hA.blk.keep hD.kp (by simp)
  have a0 := Acc.start (w := w3) (B := w.heap.size) (s := ⟨none, 0, 0⟩) (l := []) (Go.Eng.Own.nil _ _ _)
  refine ⟨_, ⟨rfl, hB1.at rfl⟩, _, ⟨rfl, hB1.at rfl⟩, _, ⟨rfl, hB1.at rfl⟩, _, ⟨rfl, hB1.at rfl⟩, use (a0.apd (number_a _ t.Kind m1) (by omega) (by simp only [List.length_nil]; omega)) ?_⟩
  rintro _ w7 ⟨p1, rfl, o1, k1, b1'⟩
  have a1 := a0.more o1 k1 b1'
  replace hB1 := hB1.keep k1 n1
  refine ⟨p1, rfl, hB1.at rfl, hB1.at rfl, hB1.at rfl, use (a1.apd (number_a p1 t.Robot m2) (by omega) (by simp only [List.length_append, List.length_nil]; omega)) ?_⟩
  rintro _ w10 ⟨p2, rfl, o2, k2, b2'⟩
  have a2 := a1.more o2 k2 b2'
  replace hB1 := hB1.keep k2 (a1.ne l3 n1)
  refine ⟨p2, rfl, hB1.at rfl, hB1.at rfl, use (a2.apd (number_a p2 t.Epoch m3) (by omega) (by simp only [List.length_append, List.length_nil]; omega)) ?_⟩
  rintro _ w13 ⟨p3, rfl, o3, k3', b3'⟩
  have a3 := a2.more o3 k3' b3'
  replace hB1 := hB1.keep k3' (a2.ne l3 n1)
  refine ⟨p3, rfl, hB1.at rfl, use (a3.apd (number_a p3 t.Num m4) (by omega) (by simp only [List.length_append, List.length_nil]; omega)) ?_⟩
  rintro _ w17 ⟨p4, rfl, o4, k4, b4'⟩
  have a4 := a3.more o4 k4 b4'
  replace hB1 := hB1.keep k4 (a3.ne l3 n1)
  refine ⟨p4, rfl, fun w20 hD20 => ?_⟩
  replace a4 := a4.keep0 hD20.kp
  replace hB1 := hB1.keep hD20.kp (by simp)
  refine ⟨t.Move, ⟨rfl, hB1.rd 4 #[.int .i64 t.Move.Kind, .int .i64 t.Move.Dir, .int .i64 t.Move.N, .int .i64 t.Move.From.At.X, .int .i64 t.Move.From.At.Y, .bool t.Move.From.Down, .int .i64 t.Move.To.At.X, .int .i64 t.Move.To.At.Y, .bool t.Move.To.Down, .int .i64 t.Move.At, .int .i64 t.Move.End] (seg rfl)⟩, t.Pose, ⟨rfl, hB1.rd 15 #[.int .i64 t.Pose.At.X, .int .i64 t.Pose.At.Y, .bool t.Pose.Down] (seg rfl)⟩, _, ⟨rfl, hB1.at rfl⟩, use (a4.apd (move_a p4 t.Move m5) (by omega) (by simp only [List.length_append, List.length_nil]; omega)) ?_⟩
  rintro _ w24 ⟨p5, rfl, o5, k5, b5'⟩
  have a5 := a4.more o5 k5 b5'
  replace hB1 := hB1.keep k5 (a4.ne l3 n1)
  refine ⟨p5, rfl, hB1.at rfl, hB1.rd 15 #[.int .i64 t.Pose.At.X, .int .i64 t.Pose.At.Y, .bool t.Pose.Down] (seg rfl), use (a5.apd (pose_a p5 t.Pose m6) (by omega) (by simp only [List.length_append, List.length_nil]; omega)) ?_⟩
  rintro _ w27 ⟨p6, rfl, o6, k6, b6'⟩
  have a6 := a5.more o6 k6 b6'
  replace hB1 := hB1.keep k6 (a5.ne l3 n1)
  refine ⟨p6, rfl, hB1.at rfl, use (a6.apd (number_a p6 t.Load m7) (by omega) (by simp only [List.length_append, List.length_nil]; omega)) ?_⟩
  rintro _ w30 ⟨p7, rfl, o7, k7, b7'⟩
  obtain ⟨f1, f2, f3⟩ := (a6.more o7 k7 b7').fin k3 (show _ = bTele t by simp [bTele])
  exact ⟨p7, rfl, p7, rfl, f1, f2⟩)

set_option maxHeartbeats 1000000 in
theorem rmove_a (s : Sl) (m : S.api_Move) (hm : okMove m) : Apd (fun w K KP => C.skepref05_move s m w K KP) s (bMove m) := fun w B l ho hB hl => skepref05_move_of (by
  unfold W.skepref05_move
  obtain ⟨⟨⟨⟨⟨⟨m1, m2⟩, m3⟩, m4⟩, m5⟩, m6⟩, m7⟩ := hm
  simp only [bMove, List.length_append] at hl
  intro b1 w2 hA w3 hD
  have s2 := hA.eq
  have s3 := hD.sz
  have k3 := hA.kp.then0 hD.kp
  have n1 : b1 ∉ blkOf s := fun h => by have := ho.lo _ h; omega
  have l3 : b1 < w3.heap.size := by omega
  have hB1 : Blk w3 b1 [.int .i64 m.Kind, .int .i64 m.Dir, .int .i64 m.N, .int .i64 m.From.At.X, .int .i64 m.From.At.Y, .bool m.From.Down, .int .i64 m.To.At.X, .int .i64 m.To.At.Y, .bool m.To.Down, .int .i64 m.At, .int .i64 m.End] := hA.blk.keep hD.kp (by simp)
  have a0 := Acc.start (ho.keep0 k3)
  refine ⟨_, ⟨rfl, hB1.at rfl⟩, _, ⟨rfl, hB1.at rfl⟩, _, ⟨rfl, hB1.at rfl⟩, use (a0.apd (rnum_a s m.Kind m1) (by omega) (by omega)) ?_⟩
  rintro _ w7 ⟨p1, rfl, o1, k1, b1'⟩
  have a1 := a0.more o1 k1 b1'
  replace hB1 := hB1.keep k1 n1
  refine ⟨p1, rfl, hB1.at rfl, hB1.at rfl, use (a1.apd (rnum_a p1 m.Dir m2) (by omega) (by simp only [List.length_append, List.length_nil]; omega)) ?_⟩
  rintro _ w10 ⟨p2, rfl, o2, k2, b2'⟩
  have a2 := a1.more o2 k2 b2'
  replace hB1 := hB1.keep k2 (a1.ne l3 n1)
  refine ⟨p2, rfl, hB1.at rfl, use (a2.apd (rnum_a p2 m.N m3) (by omega) (by simp only [List.length_append, List.length_nil]; omega)) ?_⟩
  rintro _ w13 ⟨p3, rfl, o3, k3', b3'⟩
  have a3 := a2.more o3 k3' b3'
  replace hB1 := hB1.keep k3' (a2.ne l3 n1)
  refine ⟨p3, rfl, fun w16 hD16 => ?_⟩
  replace a3 := a3.keep0 hD16.kp
  replace hB1 := hB1.keep hD16.kp (by simp)
  refine ⟨m.From, ⟨rfl, hB1.rd 3 #[.int .i64 m.From.At.X, .int .i64 m.From.At.Y, .bool m.From.Down] (seg rfl)⟩, m.To, ⟨rfl, hB1.rd 6 #[.int .i64 m.To.At.X, .int .i64 m.To.At.Y, .bool m.To.Down] (seg rfl)⟩, use (a3.apd (rpose_a p3 m.From m4) (by omega) (by simp only [List.length_append, List.length_nil]; omega)) ?_⟩
  rintro _ w19 ⟨p4, rfl, o4, k4, b4'⟩
  have a4 := a3.more o4 k4 b4'
  replace hB1 := hB1.keep k4 (a3.ne l3 n1)
  refine ⟨p4, rfl, hB1.rd 6 #[.int .i64 m.To.At.X, .int .i64 m.To.At.Y, .bool m.To.Down] (seg rfl), use (a4.apd (rpose_a p4 m.To m5) (by omega) (by simp only [List.length_append, List.length_nil]; omega)) ?_⟩
  rintro _ w22 ⟨p5, rfl, o5, k5, b5'⟩
  have a5 := a4.more o5 k5 b5'
  replace hB1 := hB1.keep k5 (a4.ne l3 n1)
  refine ⟨p5, rfl, fun w25 hD25 => ?_⟩
  replace a5 := a5.keep0 hD25.kp
  replace hB1 := hB1.keep hD25.kp (by simp)
  refine ⟨_, ⟨rfl, hB1.at rfl⟩, _, ⟨rfl, hB1.at rfl⟩, use (a5.apd (rnum_a p5 m.At m6) (by omega) (by simp only [List.length_append, List.length_nil]; omega)) ?_⟩
  rintro _ w28 ⟨p6, rfl, o6, k6, b6'⟩
  have a6 := a5.more o6 k6 b6'
  replace hB1 := hB1.keep k6 (a5.ne l3 n1)
  refine ⟨p6, rfl, hB1.at rfl, use (a6.apd (rnum_a p6 m.End m7) (by omega) (by simp only [List.length_append, List.length_nil]; omega)) ?_⟩
  rintro _ w31 ⟨p7, rfl, o7, k7, b7'⟩
  exact ⟨p7, rfl, p7, rfl, (a6.more o7 k7 b7').fin k3 (by simp [bMove])⟩)
set_option maxHeartbeats 1000000 in
theorem rPutTele_s (t : S.api_Tele) (ht : okTele t) (w : World) : C.skepref05_PutTele t w (fun r w' => ∃ s : Sl, r = slv s ∧ OwnB w' w.heap.size s (bTele t) ∧ Kp [] w w') noP := skepref05_PutTele_of (by
  unfold W.skepref05_PutTele
  obtain ⟨⟨⟨⟨⟨⟨m1, m2⟩, m3⟩, m4⟩, m5⟩, m6⟩, m7⟩ := ht
  have hl := bTele_len t
  simp only [bTele, List.length_append] at hl
  intro b1 w2 hA w3 hD
  have s2 := hA.eq
  have s3 := hD.sz
  have k3 := hA.kp.then0 hD.kp
  have n1 : b1 ∉ blkOf ⟨none, 0, 0⟩ := by simp [blkOf]
  have l3 : b1 < w3.heap.size := by omega
  have hB1 : Blk w3 b1 [.int .i64 t.Kind, .int .i64 t.Robot, .int .i64 t.Epoch, .int .i64 t.Num, .int .i64 t.Move.Kind, .int .i64 t.Move.Dir, .int .i64 t.Move.N, .int .i64 t.Move.From.At.X, .int .i64 t.Move.From.At.Y, .bool t.Move.From.Down, .int .i64 t.Move.To.At.X, .int .i64 t.Move.To.At.Y, .bool t.Move.To.Down, .int .i64 t.Move.At, .int .i64 t.Move.End, .int .i64 t.Pose.At.X, .int .i64 t.Pose.At.Y, .bool t.Pose.Down, .int .i64 t.Load] := hA.blk.keep hD.kp (by simp)
  have a0 := Acc.start (w := w3) (B := w.heap.size) (s := ⟨none, 0, 0⟩) (l := []) (Go.Eng.Own.nil _ _ _)
  refine ⟨_, ⟨rfl, hB1.at rfl⟩, _, ⟨rfl, hB1.at rfl⟩, _, ⟨rfl, hB1.at rfl⟩, _, ⟨rfl, hB1.at rfl⟩, use (a0.apd (rnum_a _ t.Kind m1) (by omega) (by simp only [List.length_nil]; omega)) ?_⟩
  rintro _ w7 ⟨p1, rfl, o1, k1, b1'⟩
  have a1 := a0.more o1 k1 b1'
  replace hB1 := hB1.keep k1 n1
  refine ⟨p1, rfl, hB1.at rfl, hB1.at rfl, hB1.at rfl, use (a1.apd (rnum_a p1 t.Robot m2) (by omega) (by simp only [List.length_append, List.length_nil]; omega)) ?_⟩
  rintro _ w10 ⟨p2, rfl, o2, k2, b2'⟩
  have a2 := a1.more o2 k2 b2'
  replace hB1 := hB1.keep k2 (a1.ne l3 n1)
  refine ⟨p2, rfl, hB1.at rfl, hB1.at rfl, use (a2.apd (rnum_a p2 t.Epoch m3) (by omega) (by simp only [List.length_append, List.length_nil]; omega)) ?_⟩
  rintro _ w13 ⟨p3, rfl, o3, k3', b3'⟩
  have a3 := a2.more o3 k3' b3'
  replace hB1 := hB1.keep k3' (a2.ne l3 n1)
  refine ⟨p3, rfl, hB1.at rfl, use (a3.apd (rnum_a p3 t.Num m4) (by omega) (by simp only [List.length_append, List.length_nil]; omega)) ?_⟩
  rintro _ w17 ⟨p4, rfl, o4, k4, b4'⟩
  have a4 := a3.more o4 k4 b4'
  replace hB1 := hB1.keep k4 (a3.ne l3 n1)
  refine ⟨p4, rfl, fun w20 hD20 => ?_⟩
  replace a4 := a4.keep0 hD20.kp
  replace hB1 := hB1.keep hD20.kp (by simp)
  refine ⟨t.Move, ⟨rfl, hB1.rd 4 #[.int .i64 t.Move.Kind, .int .i64 t.Move.Dir, .int .i64 t.Move.N, .int .i64 t.Move.From.At.X, .int .i64 t.Move.From.At.Y, .bool t.Move.From.Down, .int .i64 t.Move.To.At.X, .int .i64 t.Move.To.At.Y, .bool t.Move.To.Down, .int .i64 t.Move.At, .int .i64 t.Move.End] (seg rfl)⟩, t.Pose, ⟨rfl, hB1.rd 15 #[.int .i64 t.Pose.At.X, .int .i64 t.Pose.At.Y, .bool t.Pose.Down] (seg rfl)⟩, _, ⟨rfl, hB1.at rfl⟩, use (a4.apd (rmove_a p4 t.Move m5) (by omega) (by simp only [List.length_append, List.length_nil]; omega)) ?_⟩
  rintro _ w24 ⟨p5, rfl, o5, k5, b5'⟩
  have a5 := a4.more o5 k5 b5'
  replace hB1 := hB1.keep k5 (a4.ne l3 n1)
  refine ⟨p5, rfl, hB1.at rfl, hB1.rd 15 #[.int .i64 t.Pose.At.X, .int .i64 t.Pose.At.Y, .bool t.Pose.Down] (seg rfl), use (a5.apd (rpose_a p5 t.Pose m6) (by omega) (by simp only [List.length_append, List.length_nil]; omega)) ?_⟩
  rintro _ w27 ⟨p6, rfl, o6, k6, b6'⟩
  have a6 := a5.more o6 k6 b6'
  replace hB1 := hB1.keep k6 (a5.ne l3 n1)
  refine ⟨p6, rfl, hB1.at rfl, use (a6.apd (rnum_a p6 t.Load m7) (by omega) (by simp only [List.length_append, List.length_nil]; omega)) ?_⟩
  rintro _ w30 ⟨p7, rfl, o7, k7, b7'⟩
  obtain ⟨f1, f2, f3⟩ := (a6.more o7 k7 b7').fin k3 (show _ = bTele t by simp [bTele])
  exact ⟨p7, rfl, p7, rfl, f1, f2⟩)
end Go.Proofs.Ytocbjadhcfjfiaa
