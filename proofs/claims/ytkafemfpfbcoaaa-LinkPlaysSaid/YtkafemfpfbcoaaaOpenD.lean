/- Arguments opened: for this seat's types. Written by opens.py. No conditions. -/
import Derived.Test.YtkafemfpfbcoaaaTab
import Derived.Test.YtkafemfpfbcoaaaOpenG
namespace Go.Proofs.Ytkafemfpfbcoaaa
open Go.RowKit Go.ChangeShapes Go.WideShapes Go.Eng
set_option linter.unusedSimpArgs false
set_option maxRecDepth 100000
set_option linter.unusedVariables false
theorem cells_3 : Try.prog.cellsOf 3 = 1 := by kernel_rfl
theorem open_t3 {H : Type} {enc : TypeId × Value → H} {w : World} {base : Nat} {spare : Nat → Bool} {held : Bool} {fuel : Nat} {cs : List Value} {x : DataW H × List MemPlace} (h : DataW.trod enc Try.prog w base spare held fuel 3 cs = some x) :
    ∃ (s : Int) (m : Int), cs = ((Value.int .i64) s).cells.toList ∧ s = m ∧ in64 m := by obtain ⟨z, e, _, hw⟩ := DataW.trod_int Try.underlying3 h; exact ⟨z, z, e, rfl, wf64 hw⟩
theorem cells_29 : Try.prog.cellsOf 29 = 2 := by kernel_rfl
def Wf.api_Cell (m : S.api_Cell) : Prop := in64 m.X ∧ in64 m.Y
theorem open_api_Cell {H : Type} {enc : TypeId × Value → H} {w : World} {base : Nat} {spare : Nat → Bool} {held : Bool} {fuel : Nat} {cs : List Value} {x : DataW H × List MemPlace} (h : DataW.trod enc Try.prog w base spare held fuel 29 cs = some x) :
    ∃ (s : S.api_Cell) (m : S.api_Cell), cs = (S.api_Cell.v s).cells.toList ∧ s = m ∧ Wf.api_Cell m := by
  obtain ⟨hl, hf⟩ := field_trod' Try.underlying29 h
  rw [cells_29] at hl
  match cs, hl with
  | [c0, c1], _ =>
    obtain ⟨n0, y0, h0⟩ := hf 0 _ rfl
    simp only [List.getElem_toArray, List.getElem_cons_zero, List.getElem_cons_succ, cells_3, List.drop_zero, List.drop_succ_cons, List.take_succ_cons, List.take_zero] at h0
    obtain ⟨s0, m0, e0, r0, q0⟩ := open_t3 h0
    obtain rfl := List.head_eq_of_cons_eq e0
    obtain ⟨n1, y1, h1⟩ := hf 1 _ rfl
    simp only [List.getElem_toArray, List.getElem_cons_zero, List.getElem_cons_succ, cells_3, List.drop_zero, List.drop_succ_cons, List.take_succ_cons, List.take_zero] at h1
    obtain ⟨s1, m1, e1, r1, q1⟩ := open_t3 h1
    obtain rfl := List.head_eq_of_cons_eq e1
    subst r0
    subst r1
    exact ⟨⟨s0, s1⟩, _, rfl, rfl, q0, q1⟩
theorem cells_4 : Try.prog.cellsOf 4 = 1 := by kernel_rfl
theorem open_t4 {H : Type} {enc : TypeId × Value → H} {w : World} {base : Nat} {spare : Nat → Bool} {held : Bool} {fuel : Nat} {cs : List Value} {x : DataW H × List MemPlace} (h : DataW.trod enc Try.prog w base spare held fuel 4 cs = some x) :
    ∃ (s : Bool) (m : Bool), cs = (Value.bool s).cells.toList ∧ s = m ∧ True := by obtain ⟨z, e, _⟩ := DataW.trod_bool Try.underlying4 h; exact ⟨z, z, e, rfl, trivial⟩
theorem cells_31 : Try.prog.cellsOf 31 = 3 := by kernel_rfl
def Wf.api_Pose (m : S.api_Pose) : Prop := Wf.api_Cell m.At ∧ True
theorem open_api_Pose {H : Type} {enc : TypeId × Value → H} {w : World} {base : Nat} {spare : Nat → Bool} {held : Bool} {fuel : Nat} {cs : List Value} {x : DataW H × List MemPlace} (h : DataW.trod enc Try.prog w base spare held fuel 31 cs = some x) :
    ∃ (s : S.api_Pose) (m : S.api_Pose), cs = (S.api_Pose.v s).cells.toList ∧ s = m ∧ Wf.api_Pose m := by
  obtain ⟨hl, hf⟩ := field_trod' Try.underlying31 h
  rw [cells_31] at hl
  match cs, hl with
  | [c0, c1, c2], _ =>
    obtain ⟨n0, y0, h0⟩ := hf 0 _ rfl
    simp only [List.getElem_toArray, List.getElem_cons_zero, List.getElem_cons_succ, cells_29, List.drop_zero, List.drop_succ_cons, List.take_succ_cons, List.take_zero] at h0
    obtain ⟨s0, m0, e0, r0, q0⟩ := open_api_Cell h0
    simp only [S.api_Cell.v, Value.cells, List.cons.injEq, and_true] at e0
    obtain ⟨rfl, rfl⟩ := e0
    obtain ⟨n1, y1, h1⟩ := hf 1 _ rfl
    simp only [List.getElem_toArray, List.getElem_cons_zero, List.getElem_cons_succ, cells_4, List.drop_zero, List.drop_succ_cons, List.take_succ_cons, List.take_zero] at h1
    obtain ⟨s1, m1, e1, r1, q1⟩ := open_t4 h1
    obtain rfl := List.head_eq_of_cons_eq e1
    subst r0
    subst r1
    exact ⟨⟨s0, s1⟩, _, rfl, rfl, q0, q1⟩
theorem cells_33 : Try.prog.cellsOf 33 = 11 := by kernel_rfl
def Wf.api_Move (m : S.api_Move) : Prop := in64 m.Kind ∧ in64 m.Dir ∧ in64 m.N ∧ Wf.api_Pose m.From ∧ Wf.api_Pose m.To ∧ in64 m.At ∧ in64 m.End
theorem open_api_Move {H : Type} {enc : TypeId × Value → H} {w : World} {base : Nat} {spare : Nat → Bool} {held : Bool} {fuel : Nat} {cs : List Value} {x : DataW H × List MemPlace} (h : DataW.trod enc Try.prog w base spare held fuel 33 cs = some x) :
    ∃ (s : S.api_Move) (m : S.api_Move), cs = (S.api_Move.v s).cells.toList ∧ s = m ∧ Wf.api_Move m := by
  obtain ⟨hl, hf⟩ := field_trod' Try.underlying33 h
  rw [cells_33] at hl
  match cs, hl with
  | [c0, c1, c2, c3, c4, c5, c6, c7, c8, c9, c10], _ =>
    obtain ⟨n0, y0, h0⟩ := hf 0 _ rfl
    simp only [List.getElem_toArray, List.getElem_cons_zero, List.getElem_cons_succ, cells_3, List.drop_zero, List.drop_succ_cons, List.take_succ_cons, List.take_zero] at h0
    obtain ⟨s0, m0, e0, r0, q0⟩ := open_t3 h0
    obtain rfl := List.head_eq_of_cons_eq e0
    obtain ⟨n1, y1, h1⟩ := hf 1 _ rfl
    simp only [List.getElem_toArray, List.getElem_cons_zero, List.getElem_cons_succ, cells_3, List.drop_zero, List.drop_succ_cons, List.take_succ_cons, List.take_zero] at h1
    obtain ⟨s1, m1, e1, r1, q1⟩ := open_t3 h1
    obtain rfl := List.head_eq_of_cons_eq e1
    obtain ⟨n2, y2, h2⟩ := hf 2 _ rfl
    simp only [List.getElem_toArray, List.getElem_cons_zero, List.getElem_cons_succ, cells_3, List.drop_zero, List.drop_succ_cons, List.take_succ_cons, List.take_zero] at h2
    obtain ⟨s2, m2, e2, r2, q2⟩ := open_t3 h2
    obtain rfl := List.head_eq_of_cons_eq e2
    obtain ⟨n3, y3, h3⟩ := hf 3 _ rfl
    simp only [List.getElem_toArray, List.getElem_cons_zero, List.getElem_cons_succ, cells_31, List.drop_zero, List.drop_succ_cons, List.take_succ_cons, List.take_zero] at h3
    obtain ⟨s3, m3, e3, r3, q3⟩ := open_api_Pose h3
    simp only [S.api_Pose.v, Value.cells, List.cons.injEq, and_true] at e3
    obtain ⟨rfl, rfl, rfl⟩ := e3
    obtain ⟨n4, y4, h4⟩ := hf 4 _ rfl
    simp only [List.getElem_toArray, List.getElem_cons_zero, List.getElem_cons_succ, cells_31, List.drop_zero, List.drop_succ_cons, List.take_succ_cons, List.take_zero] at h4
    obtain ⟨s4, m4, e4, r4, q4⟩ := open_api_Pose h4
    simp only [S.api_Pose.v, Value.cells, List.cons.injEq, and_true] at e4
    obtain ⟨rfl, rfl, rfl⟩ := e4
    obtain ⟨n5, y5, h5⟩ := hf 5 _ rfl
    simp only [List.getElem_toArray, List.getElem_cons_zero, List.getElem_cons_succ, cells_3, List.drop_zero, List.drop_succ_cons, List.take_succ_cons, List.take_zero] at h5
    obtain ⟨s5, m5, e5, r5, q5⟩ := open_t3 h5
    obtain rfl := List.head_eq_of_cons_eq e5
    obtain ⟨n6, y6, h6⟩ := hf 6 _ rfl
    simp only [List.getElem_toArray, List.getElem_cons_zero, List.getElem_cons_succ, cells_3, List.drop_zero, List.drop_succ_cons, List.take_succ_cons, List.take_zero] at h6
    obtain ⟨s6, m6, e6, r6, q6⟩ := open_t3 h6
    obtain rfl := List.head_eq_of_cons_eq e6
    subst r0
    subst r1
    subst r2
    subst r3
    subst r4
    subst r5
    subst r6
    exact ⟨⟨s0, s1, s2, s3, s4, s5, s6⟩, _, rfl, rfl, q0, q1, q2, q3, q4, q5, q6⟩
theorem cells_35 : Try.prog.cellsOf 35 = 19 := by kernel_rfl
def Wf.api_Tele (m : S.api_Tele) : Prop := in64 m.Kind ∧ in64 m.Robot ∧ in64 m.Epoch ∧ in64 m.Num ∧ Wf.api_Move m.Move ∧ Wf.api_Pose m.Pose ∧ in64 m.Load
theorem open_api_Tele {H : Type} {enc : TypeId × Value → H} {w : World} {base : Nat} {spare : Nat → Bool} {held : Bool} {fuel : Nat} {cs : List Value} {x : DataW H × List MemPlace} (h : DataW.trod enc Try.prog w base spare held fuel 35 cs = some x) :
    ∃ (s : S.api_Tele) (m : S.api_Tele), cs = (S.api_Tele.v s).cells.toList ∧ s = m ∧ Wf.api_Tele m := by
  obtain ⟨hl, hf⟩ := field_trod' Try.underlying35 h
  rw [cells_35] at hl
  match cs, hl with
  | [c0, c1, c2, c3, c4, c5, c6, c7, c8, c9, c10, c11, c12, c13, c14, c15, c16, c17, c18], _ =>
    obtain ⟨n0, y0, h0⟩ := hf 0 _ rfl
    simp only [List.getElem_toArray, List.getElem_cons_zero, List.getElem_cons_succ, cells_3, List.drop_zero, List.drop_succ_cons, List.take_succ_cons, List.take_zero] at h0
    obtain ⟨s0, m0, e0, r0, q0⟩ := open_t3 h0
    obtain rfl := List.head_eq_of_cons_eq e0
    obtain ⟨n1, y1, h1⟩ := hf 1 _ rfl
    simp only [List.getElem_toArray, List.getElem_cons_zero, List.getElem_cons_succ, cells_3, List.drop_zero, List.drop_succ_cons, List.take_succ_cons, List.take_zero] at h1
    obtain ⟨s1, m1, e1, r1, q1⟩ := open_t3 h1
    obtain rfl := List.head_eq_of_cons_eq e1
    obtain ⟨n2, y2, h2⟩ := hf 2 _ rfl
    simp only [List.getElem_toArray, List.getElem_cons_zero, List.getElem_cons_succ, cells_3, List.drop_zero, List.drop_succ_cons, List.take_succ_cons, List.take_zero] at h2
    obtain ⟨s2, m2, e2, r2, q2⟩ := open_t3 h2
    obtain rfl := List.head_eq_of_cons_eq e2
    obtain ⟨n3, y3, h3⟩ := hf 3 _ rfl
    simp only [List.getElem_toArray, List.getElem_cons_zero, List.getElem_cons_succ, cells_3, List.drop_zero, List.drop_succ_cons, List.take_succ_cons, List.take_zero] at h3
    obtain ⟨s3, m3, e3, r3, q3⟩ := open_t3 h3
    obtain rfl := List.head_eq_of_cons_eq e3
    obtain ⟨n4, y4, h4⟩ := hf 4 _ rfl
    simp only [List.getElem_toArray, List.getElem_cons_zero, List.getElem_cons_succ, cells_33, List.drop_zero, List.drop_succ_cons, List.take_succ_cons, List.take_zero] at h4
    obtain ⟨s4, m4, e4, r4, q4⟩ := open_api_Move h4
    simp only [S.api_Move.v, Value.cells, List.cons.injEq, and_true] at e4
    obtain ⟨rfl, rfl, rfl, rfl, rfl, rfl, rfl, rfl, rfl, rfl, rfl⟩ := e4
    obtain ⟨n5, y5, h5⟩ := hf 5 _ rfl
    simp only [List.getElem_toArray, List.getElem_cons_zero, List.getElem_cons_succ, cells_31, List.drop_zero, List.drop_succ_cons, List.take_succ_cons, List.take_zero] at h5
    obtain ⟨s5, m5, e5, r5, q5⟩ := open_api_Pose h5
    simp only [S.api_Pose.v, Value.cells, List.cons.injEq, and_true] at e5
    obtain ⟨rfl, rfl, rfl⟩ := e5
    obtain ⟨n6, y6, h6⟩ := hf 6 _ rfl
    simp only [List.getElem_toArray, List.getElem_cons_zero, List.getElem_cons_succ, cells_3, List.drop_zero, List.drop_succ_cons, List.take_succ_cons, List.take_zero] at h6
    obtain ⟨s6, m6, e6, r6, q6⟩ := open_t3 h6
    obtain rfl := List.head_eq_of_cons_eq e6
    subst r0
    subst r1
    subst r2
    subst r3
    subst r4
    subst r5
    subst r6
    exact ⟨⟨s0, s1, s2, s3, s4, s5, s6⟩, _, rfl, rfl, q0, q1, q2, q3, q4, q5, q6⟩
theorem cells_22 : Try.prog.cellsOf 22 = 1 := by kernel_rfl
theorem open_sl22 {H : Type} {enc : TypeId × Value → H} {w : World} {base : Nat} {spare : Nat → Bool} {held : Bool} {fuel : Nat} {cs : List Value} {x : DataW H × List MemPlace} (hsp : ∀ b, spare b = true) (h : DataW.trod enc Try.prog w base spare held fuel 22 cs = some x) :
    ∃ (s : Sl) (L : (List S.api_Tele)), cs = [.slice s.a s.len s.cap] ∧ (s.len ≤ s.cap ∧ s.cap ≤ maxLen) ∧ RdL w 19 S.api_Tele.v s L ∧ ∀ x ∈ L, Wf.api_Tele x := by
  obtain ⟨s, L, e, hb, hR, hQ⟩ := open_list (v := S.api_Tele.v) (R := (fun x m => x = m)) (Q := fun m => Wf.api_Tele m) Try.underlying22 cells_35 (fun s => .inr ⟨_, rfl⟩) (fun fuel cs x h => open_api_Tele h) hsp h
  exact ⟨s, L, e, hb, hR.rdl, hQ⟩
theorem open_s22 {H : Type} {enc : TypeId × Value → H} {w : World} {base : Nat} {spare : Nat → Bool} {held : Bool} {fuel : Nat} {cs : List Value} {x : DataW H × List MemPlace} (hsp : ∀ b, spare b = true) (h : DataW.trod enc Try.prog w base spare held fuel 22 cs = some x) :
    ∃ (s : Sl) (L : (List S.api_Tele)), cs = ((fun s : Sl => Value.slice s.a s.len s.cap) s).cells.toList ∧ RdL w 19 S.api_Tele.v s L ∧ ∀ x ∈ L, Wf.api_Tele x := by
  obtain ⟨s, L, e, _, hR, hQ⟩ := open_sl22 hsp h
  exact ⟨s, L, e, hR, hQ⟩
theorem cells_45 : Try.prog.cellsOf 45 = 1 := by kernel_rfl
theorem open_sl45 {H : Type} {enc : TypeId × Value → H} {w : World} {base : Nat} {spare : Nat → Bool} {held : Bool} {fuel : Nat} {cs : List Value} {x : DataW H × List MemPlace} (hsp : ∀ b, spare b = true) (h : DataW.trod enc Try.prog w base spare held fuel 45 cs = some x) :
    ∃ (s : Sl) (L : (List Int)), cs = [.slice s.a s.len s.cap] ∧ (s.len ≤ s.cap ∧ s.cap ≤ maxLen) ∧ RdL w 1 (Value.int .i64) s L ∧ ∀ x ∈ L, in64 x := by
  obtain ⟨s, L, e, hb, hR, hQ⟩ := open_list (v := (Value.int .i64)) (R := (fun x m => x = m)) (Q := fun m => in64 m) Try.underlying45 cells_3 (fun s => .inl rfl) (fun fuel cs x h => open_t3 h) hsp h
  exact ⟨s, L, e, hb, hR.rdl, hQ⟩
theorem open_s45 {H : Type} {enc : TypeId × Value → H} {w : World} {base : Nat} {spare : Nat → Bool} {held : Bool} {fuel : Nat} {cs : List Value} {x : DataW H × List MemPlace} (hsp : ∀ b, spare b = true) (h : DataW.trod enc Try.prog w base spare held fuel 45 cs = some x) :
    ∃ (s : Sl) (L : (List Int)), cs = ((fun s : Sl => Value.slice s.a s.len s.cap) s).cells.toList ∧ RdL w 1 (Value.int .i64) s L ∧ ∀ x ∈ L, in64 x := by
  obtain ⟨s, L, e, _, hR, hQ⟩ := open_sl45 hsp h
  exact ⟨s, L, e, hR, hQ⟩
theorem cells_54 : Try.prog.cellsOf 54 = 22 := by kernel_rfl
def Wf.skeplaw17_Op (m : S.skeplaw17_Op) : Prop := in64 m.Kind ∧ in64 m.Robot ∧ in64 m.Now ∧ Wf.api_Tele m.T
theorem open_skeplaw17_Op {H : Type} {enc : TypeId × Value → H} {w : World} {base : Nat} {spare : Nat → Bool} {held : Bool} {fuel : Nat} {cs : List Value} {x : DataW H × List MemPlace} (h : DataW.trod enc Try.prog w base spare held fuel 54 cs = some x) :
    ∃ (s : S.skeplaw17_Op) (m : S.skeplaw17_Op), cs = (S.skeplaw17_Op.v s).cells.toList ∧ s = m ∧ Wf.skeplaw17_Op m := by
  obtain ⟨hl, hf⟩ := field_trod' Try.underlying54 h
  rw [cells_54] at hl
  match cs, hl with
  | [c0, c1, c2, c3, c4, c5, c6, c7, c8, c9, c10, c11, c12, c13, c14, c15, c16, c17, c18, c19, c20, c21], _ =>
    obtain ⟨n0, y0, h0⟩ := hf 0 _ rfl
    simp only [List.getElem_toArray, List.getElem_cons_zero, List.getElem_cons_succ, cells_3, List.drop_zero, List.drop_succ_cons, List.take_succ_cons, List.take_zero] at h0
    obtain ⟨s0, m0, e0, r0, q0⟩ := open_t3 h0
    obtain rfl := List.head_eq_of_cons_eq e0
    obtain ⟨n1, y1, h1⟩ := hf 1 _ rfl
    simp only [List.getElem_toArray, List.getElem_cons_zero, List.getElem_cons_succ, cells_3, List.drop_zero, List.drop_succ_cons, List.take_succ_cons, List.take_zero] at h1
    obtain ⟨s1, m1, e1, r1, q1⟩ := open_t3 h1
    obtain rfl := List.head_eq_of_cons_eq e1
    obtain ⟨n2, y2, h2⟩ := hf 2 _ rfl
    simp only [List.getElem_toArray, List.getElem_cons_zero, List.getElem_cons_succ, cells_3, List.drop_zero, List.drop_succ_cons, List.take_succ_cons, List.take_zero] at h2
    obtain ⟨s2, m2, e2, r2, q2⟩ := open_t3 h2
    obtain rfl := List.head_eq_of_cons_eq e2
    obtain ⟨n3, y3, h3⟩ := hf 3 _ rfl
    simp only [List.getElem_toArray, List.getElem_cons_zero, List.getElem_cons_succ, cells_35, List.drop_zero, List.drop_succ_cons, List.take_succ_cons, List.take_zero] at h3
    obtain ⟨s3, m3, e3, r3, q3⟩ := open_api_Tele h3
    simp only [S.api_Tele.v, Value.cells, List.cons.injEq, and_true] at e3
    obtain ⟨rfl, rfl, rfl, rfl, rfl, rfl, rfl, rfl, rfl, rfl, rfl, rfl, rfl, rfl, rfl, rfl, rfl, rfl, rfl⟩ := e3
    subst r0
    subst r1
    subst r2
    subst r3
    exact ⟨⟨s0, s1, s2, s3⟩, _, rfl, rfl, q0, q1, q2, q3⟩
theorem cells_50 : Try.prog.cellsOf 50 = 1 := by kernel_rfl
theorem open_sl50 {H : Type} {enc : TypeId × Value → H} {w : World} {base : Nat} {spare : Nat → Bool} {held : Bool} {fuel : Nat} {cs : List Value} {x : DataW H × List MemPlace} (hsp : ∀ b, spare b = true) (h : DataW.trod enc Try.prog w base spare held fuel 50 cs = some x) :
    ∃ (s : Sl) (L : (List S.skeplaw17_Op)), cs = [.slice s.a s.len s.cap] ∧ (s.len ≤ s.cap ∧ s.cap ≤ maxLen) ∧ RdL w 22 S.skeplaw17_Op.v s L ∧ ∀ x ∈ L, Wf.skeplaw17_Op x := by
  obtain ⟨s, L, e, hb, hR, hQ⟩ := open_list (v := S.skeplaw17_Op.v) (R := (fun x m => x = m)) (Q := fun m => Wf.skeplaw17_Op m) Try.underlying50 cells_54 (fun s => .inr ⟨_, rfl⟩) (fun fuel cs x h => open_skeplaw17_Op h) hsp h
  exact ⟨s, L, e, hb, hR.rdl, hQ⟩
theorem open_s50 {H : Type} {enc : TypeId × Value → H} {w : World} {base : Nat} {spare : Nat → Bool} {held : Bool} {fuel : Nat} {cs : List Value} {x : DataW H × List MemPlace} (hsp : ∀ b, spare b = true) (h : DataW.trod enc Try.prog w base spare held fuel 50 cs = some x) :
    ∃ (s : Sl) (L : (List S.skeplaw17_Op)), cs = ((fun s : Sl => Value.slice s.a s.len s.cap) s).cells.toList ∧ RdL w 22 S.skeplaw17_Op.v s L ∧ ∀ x ∈ L, Wf.skeplaw17_Op x := by
  obtain ⟨s, L, e, _, hR, hQ⟩ := open_sl50 hsp h
  exact ⟨s, L, e, hR, hQ⟩
end Go.Proofs.Ytkafemfpfbcoaaa
