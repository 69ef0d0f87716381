/- What reads as a struct of whole numbers and bools: its cells. Written by openstructs.py for this seat. -/
import Derived.Test.YtkafemfpfbcoaaaCom
import Derived.SizedLaws
import Derived.ChangeArms
import Derived.Deep.Slices
namespace Go.Proofs.Ytkafemfpfbcoaaa
open Go.RowKit Go.ChangeShapes Go.WideShapes
set_option linter.unusedSimpArgs false
theorem field_trod {H : Type} {enc : TypeId × Value → H} {P : Program} {w : World} {base : Nat} {spare : Nat → Bool} {held : Bool} {t fuel : Nat} {cs : List Value} {x : DataW H × List MemPlace} {fs : Array Field}
    (ht : P.underlying t = some (.struct fs)) (h : DataW.trod enc P w base spare held fuel t cs = some x) :
    cs.length = P.cellsOf t ∧ ∀ (i : Nat) (f : Field), fs[i]? = some f → ∃ n y, DataW.trod enc P w base spare held n f.type ((cs.drop f.offset).take (P.cellsOf f.type)) = some y := by
  obtain ⟨xs, n, _, _, hl, hx, hf⟩ := DataW.trod_struct ht h
  refine ⟨hl, fun i f hi => ?_⟩
  have h1 := hf i f hi
  have hlt : i < fs.size := (Array.getElem?_eq_some_iff.1 hi).1
  rw [List.getElem?_eq_getElem (by omega)] at h1
  exact ⟨n, _, h1⟩
theorem cells_3 : Try.prog.cellsOf 3 = 1 := by kernel_rfl
theorem cells_29 : Try.prog.cellsOf 29 = 2 := by kernel_rfl
theorem flat_api_Cell {H : Type} {enc : TypeId × Value → H} {w : World} {base : Nat} {spare : Nat → Bool} {held : Bool} {fuel : Nat} {cs : List Value} {x : DataW H × List MemPlace} (h : DataW.trod enc Try.prog w base spare held fuel 29 cs = some x) :
    ∃ (x0 : Int) (x1 : Int), cs = [.int .i64 x0, .int .i64 x1] := by
  obtain ⟨hl, hf⟩ := field_trod Try.underlying29 h
  rw [cells_29] at hl
  match cs, hl with
  | [c0, c1], _ =>
    obtain ⟨n0, y0, h0⟩ := hf 0 _ rfl
    simp only [List.getElem_toArray, List.getElem_cons_zero, List.getElem_cons_succ, cells_3, List.drop_zero, List.drop_succ_cons, List.take_succ_cons, List.take_zero] at h0
    obtain ⟨z0, e0, _, _⟩ := DataW.trod_int Try.underlying3 h0
    obtain rfl := List.head_eq_of_cons_eq e0
    obtain ⟨n1, y1, h1⟩ := hf 1 _ rfl
    simp only [List.getElem_toArray, List.getElem_cons_zero, List.getElem_cons_succ, cells_3, List.drop_zero, List.drop_succ_cons, List.take_succ_cons, List.take_zero] at h1
    obtain ⟨z1, e1, _, _⟩ := DataW.trod_int Try.underlying3 h1
    obtain rfl := List.head_eq_of_cons_eq e1
    exact ⟨z0, z1, rfl⟩
theorem cells_4 : Try.prog.cellsOf 4 = 1 := by kernel_rfl
theorem cells_31 : Try.prog.cellsOf 31 = 3 := by kernel_rfl
theorem flat_api_Pose {H : Type} {enc : TypeId × Value → H} {w : World} {base : Nat} {spare : Nat → Bool} {held : Bool} {fuel : Nat} {cs : List Value} {x : DataW H × List MemPlace} (h : DataW.trod enc Try.prog w base spare held fuel 31 cs = some x) :
    ∃ (x0 : Int) (x1 : Int) (x2 : Bool), cs = [.int .i64 x0, .int .i64 x1, .bool x2] := by
  obtain ⟨hl, hf⟩ := field_trod Try.underlying31 h
  rw [cells_31] at hl
  match cs, hl with
  | [c0, c1, c2], _ =>
    obtain ⟨n0, y0, h0⟩ := hf 0 _ rfl
    simp only [List.getElem_toArray, List.getElem_cons_zero, List.getElem_cons_succ, cells_29, List.drop_zero, List.drop_succ_cons, List.take_succ_cons, List.take_zero] at h0
    obtain ⟨z0, z1, e0⟩ := flat_api_Cell h0
    simp only [List.cons.injEq, and_true] at e0
    obtain ⟨rfl, rfl⟩ := e0
    obtain ⟨n1, y1, h1⟩ := hf 1 _ rfl
    simp only [List.getElem_toArray, List.getElem_cons_zero, List.getElem_cons_succ, cells_4, List.drop_zero, List.drop_succ_cons, List.take_succ_cons, List.take_zero] at h1
    obtain ⟨z2, e1, _⟩ := DataW.trod_bool Try.underlying4 h1
    obtain rfl := List.head_eq_of_cons_eq e1
    exact ⟨z0, z1, z2, rfl⟩
theorem cells_33 : Try.prog.cellsOf 33 = 11 := by kernel_rfl
theorem flat_api_Move {H : Type} {enc : TypeId × Value → H} {w : World} {base : Nat} {spare : Nat → Bool} {held : Bool} {fuel : Nat} {cs : List Value} {x : DataW H × List MemPlace} (h : DataW.trod enc Try.prog w base spare held fuel 33 cs = some x) :
    ∃ (x0 : Int) (x1 : Int) (x2 : Int) (x3 : Int) (x4 : Int) (x5 : Bool) (x6 : Int) (x7 : Int) (x8 : Bool) (x9 : Int) (x10 : Int), cs = [.int .i64 x0, .int .i64 x1, .int .i64 x2, .int .i64 x3, .int .i64 x4, .bool x5, .int .i64 x6, .int .i64 x7, .bool x8, .int .i64 x9, .int .i64 x10] := by
  obtain ⟨hl, hf⟩ := field_trod Try.underlying33 h
  rw [cells_33] at hl
  match cs, hl with
  | [c0, c1, c2, c3, c4, c5, c6, c7, c8, c9, c10], _ =>
    obtain ⟨n0, y0, h0⟩ := hf 0 _ rfl
    simp only [List.getElem_toArray, List.getElem_cons_zero, List.getElem_cons_succ, cells_3, List.drop_zero, List.drop_succ_cons, List.take_succ_cons, List.take_zero] at h0
    obtain ⟨z0, e0, _, _⟩ := DataW.trod_int Try.underlying3 h0
    obtain rfl := List.head_eq_of_cons_eq e0
    obtain ⟨n1, y1, h1⟩ := hf 1 _ rfl
    simp only [List.getElem_toArray, List.getElem_cons_zero, List.getElem_cons_succ, cells_3, List.drop_zero, List.drop_succ_cons, List.take_succ_cons, List.take_zero] at h1
    obtain ⟨z1, e1, _, _⟩ := DataW.trod_int Try.underlying3 h1
    obtain rfl := List.head_eq_of_cons_eq e1
    obtain ⟨n2, y2, h2⟩ := hf 2 _ rfl
    simp only [List.getElem_toArray, List.getElem_cons_zero, List.getElem_cons_succ, cells_3, List.drop_zero, List.drop_succ_cons, List.take_succ_cons, List.take_zero] at h2
    obtain ⟨z2, e2, _, _⟩ := DataW.trod_int Try.underlying3 h2
    obtain rfl := List.head_eq_of_cons_eq e2
    obtain ⟨n3, y3, h3⟩ := hf 3 _ rfl
    simp only [List.getElem_toArray, List.getElem_cons_zero, List.getElem_cons_succ, cells_31, List.drop_zero, List.drop_succ_cons, List.take_succ_cons, List.take_zero] at h3
    obtain ⟨z3, z4, z5, e3⟩ := flat_api_Pose h3
    simp only [List.cons.injEq, and_true] at e3
    obtain ⟨rfl, rfl, rfl⟩ := e3
    obtain ⟨n4, y4, h4⟩ := hf 4 _ rfl
    simp only [List.getElem_toArray, List.getElem_cons_zero, List.getElem_cons_succ, cells_31, List.drop_zero, List.drop_succ_cons, List.take_succ_cons, List.take_zero] at h4
    obtain ⟨z6, z7, z8, e4⟩ := flat_api_Pose h4
    simp only [List.cons.injEq, and_true] at e4
    obtain ⟨rfl, rfl, rfl⟩ := e4
    obtain ⟨n5, y5, h5⟩ := hf 5 _ rfl
    simp only [List.getElem_toArray, List.getElem_cons_zero, List.getElem_cons_succ, cells_3, List.drop_zero, List.drop_succ_cons, List.take_succ_cons, List.take_zero] at h5
    obtain ⟨z9, e5, _, _⟩ := DataW.trod_int Try.underlying3 h5
    obtain rfl := List.head_eq_of_cons_eq e5
    obtain ⟨n6, y6, h6⟩ := hf 6 _ rfl
    simp only [List.getElem_toArray, List.getElem_cons_zero, List.getElem_cons_succ, cells_3, List.drop_zero, List.drop_succ_cons, List.take_succ_cons, List.take_zero] at h6
    obtain ⟨z10, e6, _, _⟩ := DataW.trod_int Try.underlying3 h6
    obtain rfl := List.head_eq_of_cons_eq e6
    exact ⟨z0, z1, z2, z3, z4, z5, z6, z7, z8, z9, z10, rfl⟩
theorem cells_35 : Try.prog.cellsOf 35 = 19 := by kernel_rfl
theorem flat_api_Tele {H : Type} {enc : TypeId × Value → H} {w : World} {base : Nat} {spare : Nat → Bool} {held : Bool} {fuel : Nat} {cs : List Value} {x : DataW H × List MemPlace} (h : DataW.trod enc Try.prog w base spare held fuel 35 cs = some x) :
    ∃ (x0 : Int) (x1 : Int) (x2 : Int) (x3 : Int) (x4 : Int) (x5 : Int) (x6 : Int) (x7 : Int) (x8 : Int) (x9 : Bool) (x10 : Int) (x11 : Int) (x12 : Bool) (x13 : Int) (x14 : Int) (x15 : Int) (x16 : Int) (x17 : Bool) (x18 : Int), cs = [.int .i64 x0, .int .i64 x1, .int .i64 x2, .int .i64 x3, .int .i64 x4, .int .i64 x5, .int .i64 x6, .int .i64 x7, .int .i64 x8, .bool x9, .int .i64 x10, .int .i64 x11, .bool x12, .int .i64 x13, .int .i64 x14, .int .i64 x15, .int .i64 x16, .bool x17, .int .i64 x18] := by
  obtain ⟨hl, hf⟩ := field_trod Try.underlying35 h
  rw [cells_35] at hl
  match cs, hl with
  | [c0, c1, c2, c3, c4, c5, c6, c7, c8, c9, c10, c11, c12, c13, c14, c15, c16, c17, c18], _ =>
    obtain ⟨n0, y0, h0⟩ := hf 0 _ rfl
    simp only [List.getElem_toArray, List.getElem_cons_zero, List.getElem_cons_succ, cells_3, List.drop_zero, List.drop_succ_cons, List.take_succ_cons, List.take_zero] at h0
    obtain ⟨z0, e0, _, _⟩ := DataW.trod_int Try.underlying3 h0
    obtain rfl := List.head_eq_of_cons_eq e0
    obtain ⟨n1, y1, h1⟩ := hf 1 _ rfl
    simp only [List.getElem_toArray, List.getElem_cons_zero, List.getElem_cons_succ, cells_3, List.drop_zero, List.drop_succ_cons, List.take_succ_cons, List.take_zero] at h1
    obtain ⟨z1, e1, _, _⟩ := DataW.trod_int Try.underlying3 h1
    obtain rfl := List.head_eq_of_cons_eq e1
    obtain ⟨n2, y2, h2⟩ := hf 2 _ rfl
    simp only [List.getElem_toArray, List.getElem_cons_zero, List.getElem_cons_succ, cells_3, List.drop_zero, List.drop_succ_cons, List.take_succ_cons, List.take_zero] at h2
    obtain ⟨z2, e2, _, _⟩ := DataW.trod_int Try.underlying3 h2
    obtain rfl := List.head_eq_of_cons_eq e2
    obtain ⟨n3, y3, h3⟩ := hf 3 _ rfl
    simp only [List.getElem_toArray, List.getElem_cons_zero, List.getElem_cons_succ, cells_3, List.drop_zero, List.drop_succ_cons, List.take_succ_cons, List.take_zero] at h3
    obtain ⟨z3, e3, _, _⟩ := DataW.trod_int Try.underlying3 h3
    obtain rfl := List.head_eq_of_cons_eq e3
    obtain ⟨n4, y4, h4⟩ := hf 4 _ rfl
    simp only [List.getElem_toArray, List.getElem_cons_zero, List.getElem_cons_succ, cells_33, List.drop_zero, List.drop_succ_cons, List.take_succ_cons, List.take_zero] at h4
    obtain ⟨z4, z5, z6, z7, z8, z9, z10, z11, z12, z13, z14, e4⟩ := flat_api_Move h4
    simp only [List.cons.injEq, and_true] at e4
    obtain ⟨rfl, rfl, rfl, rfl, rfl, rfl, rfl, rfl, rfl, rfl, rfl⟩ := e4
    obtain ⟨n5, y5, h5⟩ := hf 5 _ rfl
    simp only [List.getElem_toArray, List.getElem_cons_zero, List.getElem_cons_succ, cells_31, List.drop_zero, List.drop_succ_cons, List.take_succ_cons, List.take_zero] at h5
    obtain ⟨z15, z16, z17, e5⟩ := flat_api_Pose h5
    simp only [List.cons.injEq, and_true] at e5
    obtain ⟨rfl, rfl, rfl⟩ := e5
    obtain ⟨n6, y6, h6⟩ := hf 6 _ rfl
    simp only [List.getElem_toArray, List.getElem_cons_zero, List.getElem_cons_succ, cells_3, List.drop_zero, List.drop_succ_cons, List.take_succ_cons, List.take_zero] at h6
    obtain ⟨z18, e6, _, _⟩ := DataW.trod_int Try.underlying3 h6
    obtain rfl := List.head_eq_of_cons_eq e6
    exact ⟨z0, z1, z2, z3, z4, z5, z6, z7, z8, z9, z10, z11, z12, z13, z14, z15, z16, z17, z18, rfl⟩
end Go.Proofs.Ytkafemfpfbcoaaa
