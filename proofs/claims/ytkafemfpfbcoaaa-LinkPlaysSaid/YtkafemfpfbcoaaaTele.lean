/- Telegrams: their cells, comparisons. -/
import Derived.Test.YtkafemfpfbcoaaaCom
import Derived.Laws.StructEq
namespace Go.Proofs.Ytkafemfpfbcoaaa
open Go.RowKit

section
variable {P : Program} {d : Nat} {xs ys : Array Value} {f : Field} {fs : List Field} {a b : Value} {r s : Bool} {w : World}
/-- One field of two structs, and the rest. -/
theorem eqS_cons (hn : (f.name == "_") = false) (ha : (part f.type xs f.offset).run P w = .ok a w) (hb : (part f.type ys f.offset).run P w = .ok b w) (he : (Op.equalIn d f.type a b).run P w = .ok r w)
    (hr : (Op.eqFields d xs ys fs).run P w = .ok s w) : (Op.eqFields d xs ys (f :: fs)).run P w = .ok (r && s) w := by
  have hn' : f.name ≠ "_" := fun e => by simp [e] at hn
  rw [Op.eqFields]
  cases r <;> simp [hn', ha, hb, he, hr, Result.andThen]
theorem eqS_last (hn : (f.name == "_") = false) (ha : (part f.type xs f.offset).run P w = .ok a w) (hb : (part f.type ys f.offset).run P w = .ok b w) (he : (Op.equalIn d f.type a b).run P w = .ok r w) :
    (Op.eqFields d xs ys [f]).run P w = .ok r w := by
  have := eqS_cons hn ha hb he (fs := []) (s := true) (by simp [Op.eqFields])
  rwa [Bool.and_true] at this
theorem eqS {t : TypeId} {fs : Array Field} (hu : P.underlying t = some (.struct fs)) (hp : P.stoodInHeld t = false) (h : (Op.eqFields d xs ys fs.toList).run P w = .ok r w) :
    (Op.equalIn (d + 1) t (.agg xs) (.agg ys)).run P w = .ok r w := by
  have hf : P.fieldsOf t = fs := by simp [Program.fieldsOf, hu]
  have := run_equalIn_struct (P := P) w d t xs ys (by rw [hf]; exact hu) hp
  rw [this, hf]
  exact h
end

theorem cell_eqIn (d : Nat) (w : World) (x0 y0 : Int) (x1 y1 : Int) :
    (Op.equalIn (d + 2) 29 (.agg #[.int .i64 x0, .int .i64 x1]) (.agg #[.int .i64 y0, .int .i64 y1])).run Try.prog w = .ok (x0 == y0 && (x1 == y1)) w := by
  refine eqS Try.underlying29 (by kernel_rfl) ?_
  refine eqS_cons (by rfl) (by go_simp; rfl) (by go_simp; rfl) (by go_simp) ?_
  exact eqS_last (by rfl) (by go_simp; rfl) (by go_simp; rfl) (by go_simp)
theorem pose_eqIn (d : Nat) (w : World) (x0 y0 : Int) (x1 y1 : Int) (x2 y2 : Bool) :
    (Op.equalIn (d + 3) 31 (.agg #[.int .i64 x0, .int .i64 x1, .bool x2]) (.agg #[.int .i64 y0, .int .i64 y1, .bool y2])).run Try.prog w = .ok ((x0 == y0 && (x1 == y1)) && (x2 == y2)) w := by
  refine eqS Try.underlying31 (by kernel_rfl) ?_
  refine eqS_cons (by rfl) (by go_simp) (by go_simp) (cell_eqIn (d + 0) w _ _ _ _) ?_
  exact eqS_last (by rfl) (by go_simp; rfl) (by go_simp; rfl) (by go_simp)
theorem move_eqIn (d : Nat) (w : World) (x0 y0 : Int) (x1 y1 : Int) (x2 y2 : Int) (x3 y3 : Int) (x4 y4 : Int) (x5 y5 : Bool) (x6 y6 : Int) (x7 y7 : Int) (x8 y8 : Bool) (x9 y9 : Int) (x10 y10 : Int) :
    (Op.equalIn (d + 4) 33 (.agg #[.int .i64 x0, .int .i64 x1, .int .i64 x2, .int .i64 x3, .int .i64 x4, .bool x5, .int .i64 x6, .int .i64 x7, .bool x8, .int .i64 x9, .int .i64 x10]) (.agg #[.int .i64 y0, .int .i64 y1, .int .i64 y2, .int .i64 y3, .int .i64 y4, .bool y5, .int .i64 y6, .int .i64 y7, .bool y8, .int .i64 y9, .int .i64 y10])).run Try.prog w = .ok (x0 == y0 && (x1 == y1 && (x2 == y2 && (((x3 == y3 && (x4 == y4)) && (x5 == y5)) && (((x6 == y6 && (x7 == y7)) && (x8 == y8)) && (x9 == y9 && (x10 == y10))))))) w := by
  refine eqS Try.underlying33 (by kernel_rfl) ?_
  refine eqS_cons (by rfl) (by go_simp; rfl) (by go_simp; rfl) (by go_simp) ?_
  refine eqS_cons (by rfl) (by go_simp; rfl) (by go_simp; rfl) (by go_simp) ?_
  refine eqS_cons (by rfl) (by go_simp; rfl) (by go_simp; rfl) (by go_simp) ?_
  refine eqS_cons (by rfl) (by go_simp) (by go_simp) (pose_eqIn (d + 0) w _ _ _ _ _ _) ?_
  refine eqS_cons (by rfl) (by go_simp) (by go_simp) (pose_eqIn (d + 0) w _ _ _ _ _ _) ?_
  refine eqS_cons (by rfl) (by go_simp; rfl) (by go_simp; rfl) (by go_simp) ?_
  exact eqS_last (by rfl) (by go_simp; rfl) (by go_simp; rfl) (by go_simp)
theorem tele_eqIn (d : Nat) (w : World) (x0 y0 : Int) (x1 y1 : Int) (x2 y2 : Int) (x3 y3 : Int) (x4 y4 : Int) (x5 y5 : Int) (x6 y6 : Int) (x7 y7 : Int) (x8 y8 : Int) (x9 y9 : Bool) (x10 y10 : Int) (x11 y11 : Int) (x12 y12 : Bool) (x13 y13 : Int) (x14 y14 : Int) (x15 y15 : Int) (x16 y16 : Int) (x17 y17 : Bool) (x18 y18 : Int) :
    (Op.equalIn (d + 5) 35 (.agg #[.int .i64 x0, .int .i64 x1, .int .i64 x2, .int .i64 x3, .int .i64 x4, .int .i64 x5, .int .i64 x6, .int .i64 x7, .int .i64 x8, .bool x9, .int .i64 x10, .int .i64 x11, .bool x12, .int .i64 x13, .int .i64 x14, .int .i64 x15, .int .i64 x16, .bool x17, .int .i64 x18]) (.agg #[.int .i64 y0, .int .i64 y1, .int .i64 y2, .int .i64 y3, .int .i64 y4, .int .i64 y5, .int .i64 y6, .int .i64 y7, .int .i64 y8, .bool y9, .int .i64 y10, .int .i64 y11, .bool y12, .int .i64 y13, .int .i64 y14, .int .i64 y15, .int .i64 y16, .bool y17, .int .i64 y18])).run Try.prog w = .ok (x0 == y0 && (x1 == y1 && (x2 == y2 && (x3 == y3 && ((x4 == y4 && (x5 == y5 && (x6 == y6 && (((x7 == y7 && (x8 == y8)) && (x9 == y9)) && (((x10 == y10 && (x11 == y11)) && (x12 == y12)) && (x13 == y13 && (x14 == y14))))))) && (((x15 == y15 && (x16 == y16)) && (x17 == y17)) && (x18 == y18))))))) w := by
  refine eqS Try.underlying35 (by kernel_rfl) ?_
  refine eqS_cons (by rfl) (by go_simp; rfl) (by go_simp; rfl) (by go_simp) ?_
  refine eqS_cons (by rfl) (by go_simp; rfl) (by go_simp; rfl) (by go_simp) ?_
  refine eqS_cons (by rfl) (by go_simp; rfl) (by go_simp; rfl) (by go_simp) ?_
  refine eqS_cons (by rfl) (by go_simp; rfl) (by go_simp; rfl) (by go_simp) ?_
  refine eqS_cons (by rfl) (by go_simp) (by go_simp) (move_eqIn (d + 0) w _ _ _ _ _ _ _ _ _ _ _ _ _ _ _ _ _ _ _ _ _ _) ?_
  refine eqS_cons (by rfl) (by go_simp) (by go_simp) (pose_eqIn (d + 1) w _ _ _ _ _ _) ?_
  exact eqS_last (by rfl) (by go_simp; rfl) (by go_simp; rfl) (by go_simp)

/-- A telegram. -/
structure Tl where
  k : Int
  r : Int
  e : Int
  n : Int
  mq : Int
  md : Int
  mn : Int
  fx : Int
  fy : Int
  fd : Bool
  tx : Int
  ty : Int
  td : Bool
  ma : Int
  me : Int
  px : Int
  py : Int
  pd : Bool
  ld : Int
  deriving DecidableEq
def Tl.zero : Tl := ⟨0, 0, 0, 0, 0, 0, 0, 0, 0, false, 0, 0, false, 0, 0, 0, 0, false, 0⟩
theorem Tl.ext_iff_ (t u : Tl) : t = u ↔ t.k = u.k ∧ t.r = u.r ∧ t.e = u.e ∧ t.n = u.n ∧ t.mq = u.mq ∧ t.md = u.md ∧ t.mn = u.mn ∧ t.fx = u.fx ∧ t.fy = u.fy ∧ t.fd = u.fd ∧ t.tx = u.tx ∧ t.ty = u.ty ∧ t.td = u.td ∧ t.ma = u.ma ∧ t.me = u.me ∧ t.px = u.px ∧ t.py = u.py ∧ t.pd = u.pd ∧ t.ld = u.ld := by
  cases t; cases u; simp
set_option maxHeartbeats 1000000 in
theorem tele_same (t u : Tl) (w : World) : (Op.equalIn 10000 35 (.agg #[.int .i64 t.k, .int .i64 t.r, .int .i64 t.e, .int .i64 t.n, .int .i64 t.mq, .int .i64 t.md, .int .i64 t.mn, .int .i64 t.fx, .int .i64 t.fy, .bool t.fd, .int .i64 t.tx, .int .i64 t.ty, .bool t.td, .int .i64 t.ma, .int .i64 t.me, .int .i64 t.px, .int .i64 t.py, .bool t.pd, .int .i64 t.ld]) (.agg #[.int .i64 u.k, .int .i64 u.r, .int .i64 u.e, .int .i64 u.n, .int .i64 u.mq, .int .i64 u.md, .int .i64 u.mn, .int .i64 u.fx, .int .i64 u.fy, .bool u.fd, .int .i64 u.tx, .int .i64 u.ty, .bool u.td, .int .i64 u.ma, .int .i64 u.me, .int .i64 u.px, .int .i64 u.py, .bool u.pd, .int .i64 u.ld])).run Try.prog w = .ok (decide (t = u)) w := by
  have h := tele_eqIn 9995 w t.k u.k t.r u.r t.e u.e t.n u.n t.mq u.mq t.md u.md t.mn u.mn t.fx u.fx t.fy u.fy t.fd u.fd t.tx u.tx t.ty u.ty t.td u.td t.ma u.ma t.me u.me t.px u.px t.py u.py t.pd u.pd t.ld u.ld
  rw [h]
  congr 1
  rw [Bool.eq_iff_iff]
  simp only [Bool.and_eq_true, beq_iff_eq, decide_eq_true_eq, Tl.ext_iff_, and_assoc]
theorem tele_eq (t u : Tl) (w : World) : (binOp .eql 35 (.agg #[.int .i64 t.k, .int .i64 t.r, .int .i64 t.e, .int .i64 t.n, .int .i64 t.mq, .int .i64 t.md, .int .i64 t.mn, .int .i64 t.fx, .int .i64 t.fy, .bool t.fd, .int .i64 t.tx, .int .i64 t.ty, .bool t.td, .int .i64 t.ma, .int .i64 t.me, .int .i64 t.px, .int .i64 t.py, .bool t.pd, .int .i64 t.ld]) (.agg #[.int .i64 u.k, .int .i64 u.r, .int .i64 u.e, .int .i64 u.n, .int .i64 u.mq, .int .i64 u.md, .int .i64 u.mn, .int .i64 u.fx, .int .i64 u.fy, .bool u.fd, .int .i64 u.tx, .int .i64 u.ty, .bool u.td, .int .i64 u.ma, .int .i64 u.me, .int .i64 u.px, .int .i64 u.py, .bool u.pd, .int .i64 u.ld])).run Try.prog w = .ok (.bool (decide (t = u))) w := by
  rw [run_eql_struct, tele_same]; rfl
theorem tele_neq (t u : Tl) (w : World) : (binOp .neq 35 (.agg #[.int .i64 t.k, .int .i64 t.r, .int .i64 t.e, .int .i64 t.n, .int .i64 t.mq, .int .i64 t.md, .int .i64 t.mn, .int .i64 t.fx, .int .i64 t.fy, .bool t.fd, .int .i64 t.tx, .int .i64 t.ty, .bool t.td, .int .i64 t.ma, .int .i64 t.me, .int .i64 t.px, .int .i64 t.py, .bool t.pd, .int .i64 t.ld]) (.agg #[.int .i64 u.k, .int .i64 u.r, .int .i64 u.e, .int .i64 u.n, .int .i64 u.mq, .int .i64 u.md, .int .i64 u.mn, .int .i64 u.fx, .int .i64 u.fy, .bool u.fd, .int .i64 u.tx, .int .i64 u.ty, .bool u.td, .int .i64 u.ma, .int .i64 u.me, .int .i64 u.px, .int .i64 u.py, .bool u.pd, .int .i64 u.ld])).run Try.prog w = .ok (.bool (!decide (t = u))) w := by
  rw [run_neq_struct, tele_same]; rfl
end Go.Proofs.Ytkafemfpfbcoaaa
