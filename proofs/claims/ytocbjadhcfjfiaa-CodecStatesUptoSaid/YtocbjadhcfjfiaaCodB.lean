/- The law Unlike; walks. No conditions. -/
import Derived.Test.YtocbjadhcfjfiaaCodA
import Derived.Test.YtocbjadhcfjfiaaOpenD
namespace Go.Proofs.Ytocbjadhcfjfiaa
open Go.RowKit Go.Eng
set_option linter.unusedVariables false
set_option linter.unusedSimpArgs false
theorem bOp_inj {a b : S.api_Op} (ha : okOp a) (hb : okOp b) (h : bOp a = bOp b) : a = b := by
  have h1 := whole_b a ha
  have h2 := whole_b b hb
  rw [h, h2] at h1
  injection h1 with h1
  exact h1.symm
theorem bTele_inj {a b : S.api_Tele} (ha : okTele a) (hb : okTele b) (h : bTele a = bTele b) : a = b := by
  have h1 := wholeT_b a ha
  have h2 := wholeT_b b hb
  rw [h, h2] at h1
  injection h1 with h1
  exact h1.symm
theorem opDec (a b : S.api_Op) : (((a.Kind : Int) == b.Kind) && (((a.A : Int) == b.A) && (((a.B : Int) == b.B) && true))) = true ↔ a = b := by
  obtain ⟨x, y, z⟩ := a
  obtain ⟨x', y', z'⟩ := b
  simp
theorem teleDec (a b : S.api_Tele) : (((a.Kind : Int) == b.Kind) && (((a.Robot : Int) == b.Robot) && (((a.Epoch : Int) == b.Epoch) && (((a.Num : Int) == b.Num) && ((((a.Move.Kind : Int) == b.Move.Kind) && (((a.Move.Dir : Int) == b.Move.Dir) && (((a.Move.N : Int) == b.Move.N) && (((((a.Move.From.At.X : Int) == b.Move.From.At.X) && (((a.Move.From.At.Y : Int) == b.Move.From.At.Y) && true)) && ((a.Move.From.Down == b.Move.From.Down) && true)) && (((((a.Move.To.At.X : Int) == b.Move.To.At.X) && (((a.Move.To.At.Y : Int) == b.Move.To.At.Y) && true)) && ((a.Move.To.Down == b.Move.To.Down) && true)) && (((a.Move.At : Int) == b.Move.At) && (((a.Move.End : Int) == b.Move.End) && true))))))) && (((((a.Pose.At.X : Int) == b.Pose.At.X) && (((a.Pose.At.Y : Int) == b.Pose.At.Y) && true)) && ((a.Pose.Down == b.Pose.Down) && true)) && (((a.Load : Int) == b.Load) && true))))))) = true ↔ a = b := by
  obtain ⟨k, r, e, n, ⟨mk, md, mn, ⟨⟨fx, fy⟩, fd⟩, ⟨⟨tx, ty⟩, td⟩, ma, me⟩, ⟨⟨px, py⟩, pd⟩, ld⟩ := a
  obtain ⟨k', r', e', n', ⟨mk', md', mn', ⟨⟨fx', fy'⟩, fd'⟩, ⟨⟨tx', ty'⟩, td'⟩, ma', me'⟩, ⟨⟨px', py'⟩, pd'⟩, ld'⟩ := b
  simp
theorem same_dec {α : Type} {x y : Bs} {a b : α} {t : Bool} (h : t = true ↔ a = b) (hi : x = y ↔ a = b) : (strEq (str x) (str y) == t) = true := by
  rw [strEq_str, beq_iff_eq, Bool.eq_iff_iff, decide_eq_true_eq, h, hi]
set_option maxHeartbeats 2000000 in
theorem CodecUnlike_s (a b : S.api_Op) (t u : S.api_Tele) (ha : okOp a) (hb : okOp b) (ht : okTele t) (hu : okTele u) (w : World) : C.skeplaw05_CodecUnlike a b t u w (fun v w' => v = .bool true ∧ Kp [] w w') noP := skeplaw05_CodecUnlike_of (by
  unfold W.skeplaw05_CodecUnlike
  intro b1 w2 h1 b3 w4 h3 b5 w6 h5 b7 w8 h7 w9 hD
  have k9 : Kp [] w w9 := (((h1.kp.then0 h3.kp).then0 h5.kp).then0 h7.kp).then0 hD.kp
  have q1 := (((h1.blk.keep h3.kp (by simp)).keep h5.kp (by simp)).keep h7.kp (by simp)).keep hD.kp (by simp)
  have q3 := ((h3.blk.keep h5.kp (by simp)).keep h7.kp (by simp)).keep hD.kp (by simp)
  have q5 := (h5.blk.keep h7.kp (by simp)).keep hD.kp (by simp)
  have q7 := h7.blk.keep hD.kp (by simp)
  refine ⟨a, ⟨rfl, q1.rd0⟩, b, ⟨rfl, q3.rd0⟩, a, ⟨rfl, q1.rd0⟩, b, ⟨rfl, q3.rd0⟩, use (PutOp_s a ha w9) ?_⟩
  rintro _ w14 ⟨x, rfl, ox, k14⟩
  have z1 := q1.keep k14 (by simp)
  have z3 := q3.keep k14 (by simp)
  refine ⟨x, rfl, z3.rd0, z1.rd0, z3.rd0, str _, ox.rds.str, use (PutOp_s b hb w14) ?_⟩
  rintro _ w18 ⟨y, rfl, oy, k18⟩
  have k918 := k14.then0 k18
  refine ⟨y, rfl, (ox.rds.keep0 k18).str.2, (z3.keep k18 (by simp)).rd0, (z1.keep k18 (by simp)).rd0, str _, oy.rds.str, cond_t (same_dec (opDec a b) ⟨bOp_inj ha hb, fun e => by rw [e]⟩) ?_⟩
  have q5' := q5.keep k918 (by simp)
  have q7' := q7.keep k918 (by simp)
  refine ⟨t, ⟨rfl, q5'.rd0⟩, u, ⟨rfl, q7'.rd0⟩, t, ⟨rfl, q5'.rd0⟩, u, ⟨rfl, q7'.rd0⟩, use (PutTele_s t ht w18) ?_⟩
  rintro _ w26 ⟨x2, rfl, ox2, k26⟩
  have z5 := q5'.keep k26 (by simp)
  have z7 := q7'.keep k26 (by simp)
  refine ⟨x2, rfl, z7.rd0, z5.rd0, z7.rd0, str _, ox2.rds.str, use (PutTele_s u hu w26) ?_⟩
  rintro _ w30 ⟨y2, rfl, oy2, k30⟩
  exact ⟨y2, rfl, (ox2.rds.keep0 k30).str.2, (z7.keep k30 (by simp)).rd0, (z5.keep k30 (by simp)).rd0, str _, oy2.rds.str, cond_t (same_dec (teleDec t u) ⟨bTele_inj ht hu, fun e => by rw [e]⟩) (aw_s (((k9.then0 k918).then0 k26).then0 k30))⟩)
theorem okMove_of {m : S.api_Move} (h : Wf.api_Move m) : okMove m := by
  obtain ⟨a, b, c, d, e, f, g⟩ := h
  exact ⟨⟨⟨⟨⟨⟨a, b⟩, c⟩, d⟩, e⟩, f⟩, g⟩
theorem okTele_of {m : S.api_Tele} (h : Wf.api_Tele m) : okTele m := by
  obtain ⟨a, b, c, d, e, f, g⟩ := h
  exact ⟨⟨⟨⟨⟨⟨a, b⟩, c⟩, d⟩, okMove_of e⟩, f⟩, g⟩
theorem CodecTeles_walk (o m : S.api_Tele) (a : Option Addr) (c : Nat) (l : List Int) (w : World) (R : o = m) (Q : Wf.api_Tele m) (h : Rd .u8 w a l) (hc : l.length ≤ c) :
    Calls Try.prog 7 #[S.api_Tele.v o, .slice a l.length c] w fun e w' => e = .returned (.bool true) ∧ Below w.heap.size w w' :=
  ret_true (CodecTeles_s o ⟨a, l.length, c⟩ (okTele_of (R ▸ Q)) w (rdb_of_rd h c) (by rw [bso_len]; have := h.len; omega))
theorem CodecUnlike_walk (a am b bm : S.api_Op) (t tm u um : S.api_Tele) (w : World) (R0 : a = am) (Q0 : Wf.api_Op am) (R1 : b = bm) (Q1 : Wf.api_Op bm) (R2 : t = tm) (Q2 : Wf.api_Tele tm) (R3 : u = um) (Q3 : Wf.api_Tele um) :
    Calls Try.prog 6 #[S.api_Op.v a, S.api_Op.v b, S.api_Tele.v t, S.api_Tele.v u] w fun e w' => e = .returned (.bool true) ∧ Below w.heap.size w w' :=
  ret_true (CodecUnlike_s a b t u (R0 ▸ Q0) (R1 ▸ Q1) (okTele_of (R2 ▸ Q2)) (okTele_of (R3 ▸ Q3)) w)
end Go.Proofs.Ytocbjadhcfjfiaa
