/- Arguments opened: for this seat's types. Written by opens.py. No conditions. -/
import Derived.Test.YtocbjadhcfjfiaaTab
import Derived.Test.YtocbjadhcfjfiaaOpenG
namespace Go.Proofs.Ytocbjadhcfjfiaa
open Go.RowKit Go.ChangeShapes Go.WideShapes Go.Eng
set_option linter.unusedSimpArgs false
set_option maxRecDepth 100000
set_option linter.unusedVariables false
theorem cells_22 : Try.prog.cellsOf 22 = 1 := by kernel_rfl
theorem cells_5 : Try.prog.cellsOf 5 = 1 := by kernel_rfl
theorem open_t5 {H : Type} {enc : TypeId × Value → H} {w : World} {base : Nat} {spare : Nat → Bool} {held : Bool} {fuel : Nat} {cs : List Value} {x : DataW H × List MemPlace} (h : DataW.trod enc Try.prog w base spare held fuel 5 cs = some x) :
    ∃ (s : Int) (m : Int), cs = ((Value.int .u8) s).cells.toList ∧ s = m ∧ in8 m := by obtain ⟨z, e, _, hw⟩ := DataW.trod_int Try.underlying5 h; exact ⟨z, z, e, rfl, wf8 hw⟩
theorem open_sl22 {H : Type} {enc : TypeId × Value → H} {w : World} {base : Nat} {spare : Nat → Bool} {held : Bool} {fuel : Nat} {cs : List Value} {x : DataW H × List MemPlace} (hsp : ∀ b, spare b = true) (h : DataW.trod enc Try.prog w base spare held fuel 22 cs = some x) :
    ∃ (s : Sl) (L : (List Int)), cs = [.slice s.a s.len s.cap] ∧ (s.len ≤ s.cap ∧ s.cap ≤ maxLen) ∧ RdL w 1 (Value.int .u8) s L ∧ ∀ x ∈ L, in8 x := by
  obtain ⟨s, L, e, hb, hR, hQ⟩ := open_list (v := (Value.int .u8)) (R := (fun x m => x = m)) (Q := fun m => in8 m) Try.underlying22 cells_5 (fun s => .inl rfl) (fun fuel cs x h => open_t5 h) hsp h
  exact ⟨s, L, e, hb, hR.rdl, hQ⟩
theorem open_s22 {H : Type} {enc : TypeId × Value → H} {w : World} {base : Nat} {spare : Nat → Bool} {held : Bool} {fuel : Nat} {cs : List Value} {x : DataW H × List MemPlace} (hsp : ∀ b, spare b = true) (h : DataW.trod enc Try.prog w base spare held fuel 22 cs = some x) :
    ∃ (s : Sl) (L : (List Int)), cs = ((fun s : Sl => Value.slice s.a s.len s.cap) s).cells.toList ∧ RdL w 1 (Value.int .u8) s L ∧ ∀ x ∈ L, in8 x := by
  obtain ⟨s, L, e, _, hR, hQ⟩ := open_sl22 hsp h
  exact ⟨s, L, e, hR, hQ⟩
theorem cells_3 : Try.prog.cellsOf 3 = 1 := by kernel_rfl
theorem open_t3 {H : Type} {enc : TypeId × Value → H} {w : World} {base : Nat} {spare : Nat → Bool} {held : Bool} {fuel : Nat} {cs : List Value} {x : DataW H × List MemPlace} (h : DataW.trod enc Try.prog w base spare held fuel 3 cs = some x) :
    ∃ (s : Int) (m : Int), cs = ((Value.int .i64) s).cells.toList ∧ s = m ∧ in64 m := by obtain ⟨z, e, _, hw⟩ := DataW.trod_int Try.underlying3 h; exact ⟨z, z, e, rfl, wf64 hw⟩
theorem cells_35 : Try.prog.cellsOf 35 = 3 := by kernel_rfl
def Wf.api_Op (m : S.api_Op) : Prop := in64 m.Kind ∧ in64 m.A ∧ in64 m.B
theorem open_api_Op {H : Type} {enc : TypeId × Value → H} {w : World} {base : Nat} {spare : Nat → Bool} {held : Bool} {fuel : Nat} {cs : List Value} {x : DataW H × List MemPlace} (h : DataW.trod enc Try.prog w base spare held fuel 35 cs = some x) :
    ∃ (s : S.api_Op) (m : S.api_Op), cs = (S.api_Op.v s).cells.toList ∧ s = m ∧ Wf.api_Op m := by
  obtain ⟨hl, hf⟩ := field_trod' Try.underlying35 h
  rw [cells_35] at hl
  match cs, hl with
  | [c0, c1, c2], _ =>
    obtain ⟨n0, y0, h0⟩ := hf 0 _ rfl
    simp only [List.getElem_toArray, List.getElem_cons_zero, List.getElem_cons_succ, cells_3, List.drop_zero, List.drop_succ_cons, List.take_succ_cons, List.take_zero] at h0
    obtain ⟨s0, m0, e0, r0, q0⟩ := open_t3 h0
    obtain rfl := List.head_eq_of_cons_eq e0
    obtain ⟨n1, y1, h1⟩ := hf 1 _ rfl
    simp only [List.getElem_toArray, List.getElem_cons_zero, List.getElem_cons_succ, cells_3, List.drop_zero, List.drop_succ_cons, List.take_succ_cons, List.take_zero] at h1
    obtain ⟨s1, m1, e1, r1, q1⟩ := open_t3 h1
    obtain rfl := List.head_eq_of_cons_eq e1
    obtain ⟨n2, y2, h2⟩ := hf 2 _ rfl
    simp only [List.getElem_toArray, List.getElem_cons_zero, List.getElem_cons_succ, cells_3, List.drop_zero, List.drop_succ_cons, List.take_succ_cons, List.take_zero] at h2
    obtain ⟨s2, m2, e2, r2, q2⟩ := open_t3 h2
    obtain rfl := List.head_eq_of_cons_eq e2
    subst r0
    subst r1
    subst r2
    exact ⟨⟨s0, s1, s2⟩, _, rfl, rfl, q0, q1, q2⟩
theorem cells_47 : Try.prog.cellsOf 47 = 2 := by kernel_rfl
def Wf.api_Cell (m : S.api_Cell) : Prop := in64 m.X ∧ in64 m.Y
theorem open_api_Cell {H : Type} {enc : TypeId × Value → H} {w : World} {base : Nat} {spare : Nat → Bool} {held : Bool} {fuel : Nat} {cs : List Value} {x : DataW H × List MemPlace} (h : DataW.trod enc Try.prog w base spare held fuel 47 cs = some x) :
    ∃ (s : S.api_Cell) (m : S.api_Cell), cs = (S.api_Cell.v s).cells.toList ∧ s = m ∧ Wf.api_Cell m := by
  obtain ⟨hl, hf⟩ := field_trod' Try.underlying47 h
  rw [cells_47] at hl
  match cs, hl with
  | [c0, c1], _ =>
    obtain ⟨n0, y0, h0⟩ := hf 0 _ rfl
    simp only [List.getElem_toArray, List.getElem_cons_zero, List.getElem_cons_succ, cells_3, List.drop_zero, List.drop_succ_cons, List.take_succ_cons, List.take_zero] at h0
    obtain ⟨s0, m0, e0, r0, q0⟩ := open_t3 h0
    obtain rfl := List.head_eq_of_cons_eq e0
    obtain ⟨n1, y1, h1⟩ := hf 1 _ rfl
    simp only [List.getElem_toArray, List.getElem_cons_zero, List.getElem_cons_succ, cells_3, List.drop_zero, List.drop_succ_cons, List.take_succ_cons, List.take_zero] at h1
    obtain ⟨s1, m1, e1, r1, q1⟩ := open_t3 h1
    obtain rfl := List.head_eq_of_cons_eq e1
    subst r0
    subst r1
    exact ⟨⟨s0, s1⟩, _, rfl, rfl, q0, q1⟩
theorem cells_4 : Try.prog.cellsOf 4 = 1 := by kernel_rfl
theorem open_t4 {H : Type} {enc : TypeId × Value → H} {w : World} {base : Nat} {spare : Nat → Bool} {held : Bool} {fuel : Nat} {cs : List Value} {x : DataW H × List MemPlace} (h : DataW.trod enc Try.prog w base spare held fuel 4 cs = some x) :
    ∃ (s : Bool) (m : Bool), cs = (Value.bool s).cells.toList ∧ s = m ∧ True := by obtain ⟨z, e, _⟩ := DataW.trod_bool Try.underlying4 h; exact ⟨z, z, e, rfl, trivial⟩
theorem cells_49 : Try.prog.cellsOf 49 = 3 := by kernel_rfl
def Wf.api_Pose (m : S.api_Pose) : Prop := Wf.api_Cell m.At ∧ True
theorem open_api_Pose {H : Type} {enc : TypeId × Value → H} {w : World} {base : Nat} {spare : Nat → Bool} {held : Bool} {fuel : Nat} {cs : List Value} {x : DataW H × List MemPlace} (h : DataW.trod enc Try.prog w base spare held fuel 49 cs = some x) :
    ∃ (s : S.api_Pose) (m : S.api_Pose), cs = (S.api_Pose.v s).cells.toList ∧ s = m ∧ Wf.api_Pose m := by
  obtain ⟨hl, hf⟩ := field_trod' Try.underlying49 h
  rw [cells_49] at hl
  match cs, hl with
  | [c0, c1, c2], _ =>
    obtain ⟨n0, y0, h0⟩ := hf 0 _ rfl
    simp only [List.getElem_toArray, List.getElem_cons_zero, List.getElem_cons_succ, cells_47, List.drop_zero, List.drop_succ_cons, List.take_succ_cons, List.take_zero] at h0
    obtain ⟨s0, m0, e0, r0, q0⟩ := open_api_Cell h0
    simp only [S.api_Cell.v, Value.cells, List.cons.injEq, and_true] at e0
    obtain ⟨rfl, rfl⟩ := e0
    obtain ⟨n1, y1, h1⟩ := hf 1 _ rfl
    simp only [List.getElem_toArray, List.getElem_cons_zero, List.getElem_cons_succ, cells_4, List.drop_zero, List.drop_succ_cons, List.take_succ_cons, List.take_zero] at h1
    obtain ⟨s1, m1, e1, r1, q1⟩ := open_t4 h1
    obtain rfl := List.head_eq_of_cons_eq e1
    subst r0
    subst r1
    exact ⟨⟨s0, s1⟩, _, rfl, rfl, q0, q1⟩
theorem cells_51 : Try.prog.cellsOf 51 = 11 := by kernel_rfl
def Wf.api_Move (m : S.api_Move) : Prop := in64 m.Kind ∧ in64 m.Dir ∧ in64 m.N ∧ Wf.api_Pose m.From ∧ Wf.api_Pose m.To ∧ in64 m.At ∧ in64 m.End
theorem open_api_Move {H : Type} {enc : TypeId × Value → H} {w : World} {base : Nat} {spare : Nat → Bool} {held : Bool} {fuel : Nat} {cs : List Value} {x : DataW H × List MemPlace} (h : DataW.trod enc Try.prog w base spare held fuel 51 cs = some x) :
    ∃ (s : S.api_Move) (m : S.api_Move), cs = (S.api_Move.v s).cells.toList ∧ s = m ∧ Wf.api_Move m := by
  obtain ⟨hl, hf⟩ := field_trod' Try.underlying51 h
  rw [cells_51] at hl
  match cs, hl with
  | [c0, c1, c2, c3, c4, c5, c6, c7, c8, c9, c10], _ =>
    obtain ⟨n0, y0, h0⟩ := hf 0 _ rfl
    simp only [List.getElem_toArray, List.getElem_cons_zero, List.getElem_cons_succ, cells_3, List.drop_zero, List.drop_succ_cons, List.take_succ_cons, List.take_zero] at h0
    obtain ⟨s0, m0, e0, r0, q0⟩ := open_t3 h0
    obtain rfl := List.head_eq_of_cons_eq e0
    obtain ⟨n1, y1, h1⟩ := hf 1 _ rfl
    simp only [List.getElem_toArray, List.getElem_cons_zero, List.getElem_cons_succ, cells_3, List.drop_zero, List.drop_succ_cons, List.take_succ_cons, List.take_zero] at h1
    obtain ⟨s1, m1, e1, r1, q1⟩ := open_t3 h1
    obtain rfl := List.head_eq_of_cons_eq e1
    obtain ⟨n2, y2, h2⟩ := hf 2 _ rfl
    simp only [List.getElem_toArray, List.getElem_cons_zero, List.getElem_cons_succ, cells_3, List.drop_zero, List.drop_succ_cons, List.take_succ_cons, List.take_zero] at h2
    obtain ⟨s2, m2, e2, r2, q2⟩ := open_t3 h2
    obtain rfl := List.head_eq_of_cons_eq e2
    obtain ⟨n3, y3, h3⟩ := hf 3 _ rfl
    simp only [List.getElem_toArray, List.getElem_cons_zero, List.getElem_cons_succ, cells_49, List.drop_zero, List.drop_succ_cons, List.take_succ_cons, List.take_zero] at h3
    obtain ⟨s3, m3, e3, r3, q3⟩ := open_api_Pose h3
    simp only [S.api_Pose.v, Value.cells, List.cons.injEq, and_true] at e3
    obtain ⟨rfl, rfl, rfl⟩ := e3
    obtain ⟨n4, y4, h4⟩ := hf 4 _ rfl
    simp only [List.getElem_toArray, List.getElem_cons_zero, List.getElem_cons_succ, cells_49, List.drop_zero, List.drop_succ_cons, List.take_succ_cons, List.take_zero] at h4
    obtain ⟨s4, m4, e4, r4, q4⟩ := open_api_Pose h4
    simp only [S.api_Pose.v, Value.cells, List.cons.injEq, and_true] at e4
    obtain ⟨rfl, rfl, rfl⟩ := e4
    obtain ⟨n5, y5, h5⟩ := hf 5 _ rfl
    simp only [List.getElem_toArray, List.getElem_cons_zero, List.getElem_cons_succ, cells_3, List.drop_zero, List.drop_succ_cons, List.take_succ_cons, List.take_zero] at h5
    obtain ⟨s5, m5, e5, r5, q5⟩ := open_t3 h5
    obtain rfl := List.head_eq_of_cons_eq e5
    obtain ⟨n6, y6, h6⟩ := hf 6 _ rfl
    simp only [List.getElem_toArray, List.getElem_cons_zero, List.getElem_cons_succ, cells_3, List.drop_zero, List.drop_succ_cons, List.take_succ_cons, List.take_zero] at h6
    obtain ⟨s6, m6, e6, r6, q6⟩ := open_t3 h6
    obtain rfl := List.head_eq_of_cons_eq e6
    subst r0
    subst r1
    subst r2
    subst r3
    subst r4
    subst r5
    subst r6
    exact ⟨⟨s0, s1, s2, s3, s4, s5, s6⟩, _, rfl, rfl, q0, q1, q2, q3, q4, q5, q6⟩
theorem cells_53 : Try.prog.cellsOf 53 = 19 := by kernel_rfl
def Wf.api_Tele (m : S.api_Tele) : Prop := in64 m.Kind ∧ in64 m.Robot ∧ in64 m.Epoch ∧ in64 m.Num ∧ Wf.api_Move m.Move ∧ Wf.api_Pose m.Pose ∧ in64 m.Load
theorem open_api_Tele {H : Type} {enc : TypeId × Value → H} {w : World} {base : Nat} {spare : Nat → Bool} {held : Bool} {fuel : Nat} {cs : List Value} {x : DataW H × List MemPlace} (h : DataW.trod enc Try.prog w base spare held fuel 53 cs = some x) :
    ∃ (s : S.api_Tele) (m : S.api_Tele), cs = (S.api_Tele.v s).cells.toList ∧ s = m ∧ Wf.api_Tele m := by
  obtain ⟨hl, hf⟩ := field_trod' Try.underlying53 h
  rw [cells_53] at hl
  match cs, hl with
  | [c0, c1, c2, c3, c4, c5, c6, c7, c8, c9, c10, c11, c12, c13, c14, c15, c16, c17, c18], _ =>
    obtain ⟨n0, y0, h0⟩ := hf 0 _ rfl
    simp only [List.getElem_toArray, List.getElem_cons_zero, List.getElem_cons_succ, cells_3, List.drop_zero, List.drop_succ_cons, List.take_succ_cons, List.take_zero] at h0
    obtain ⟨s0, m0, e0, r0, q0⟩ := open_t3 h0
    obtain rfl := List.head_eq_of_cons_eq e0
    obtain ⟨n1, y1, h1⟩ := hf 1 _ rfl
    simp only [List.getElem_toArray, List.getElem_cons_zero, List.getElem_cons_succ, cells_3, List.drop_zero, List.drop_succ_cons, List.take_succ_cons, List.take_zero] at h1
    obtain ⟨s1, m1, e1, r1, q1⟩ := open_t3 h1
    obtain rfl := List.head_eq_of_cons_eq e1
    obtain ⟨n2, y2, h2⟩ := hf 2 _ rfl
    simp only [List.getElem_toArray, List.getElem_cons_zero, List.getElem_cons_succ, cells_3, List.drop_zero, List.drop_succ_cons, List.take_succ_cons, List.take_zero] at h2
    obtain ⟨s2, m2, e2, r2, q2⟩ := open_t3 h2
    obtain rfl := List.head_eq_of_cons_eq e2
    obtain ⟨n3, y3, h3⟩ := hf 3 _ rfl
    simp only [List.getElem_toArray, List.getElem_cons_zero, List.getElem_cons_succ, cells_3, List.drop_zero, List.drop_succ_cons, List.take_succ_cons, List.take_zero] at h3
    obtain ⟨s3, m3, e3, r3, q3⟩ := open_t3 h3
    obtain rfl := List.head_eq_of_cons_eq e3
    obtain ⟨n4, y4, h4⟩ := hf 4 _ rfl
    simp only [List.getElem_toArray, List.getElem_cons_zero, List.getElem_cons_succ, cells_51, List.drop_zero, List.drop_succ_cons, List.take_succ_cons, List.take_zero] at h4
    obtain ⟨s4, m4, e4, r4, q4⟩ := open_api_Move h4
    simp only [S.api_Move.v, Value.cells, List.cons.injEq, and_true] at e4
    obtain ⟨rfl, rfl, rfl, rfl, rfl, rfl, rfl, rfl, rfl, rfl, rfl⟩ := e4
    obtain ⟨n5, y5, h5⟩ := hf 5 _ rfl
    simp only [List.getElem_toArray, List.getElem_cons_zero, List.getElem_cons_succ, cells_49, List.drop_zero, List.drop_succ_cons, List.take_succ_cons, List.take_zero] at h5
    obtain ⟨s5, m5, e5, r5, q5⟩ := open_api_Pose h5
    simp only [S.api_Pose.v, Value.cells, List.cons.injEq, and_true] at e5
    obtain ⟨rfl, rfl, rfl⟩ := e5
    obtain ⟨n6, y6, h6⟩ := hf 6 _ rfl
    simp only [List.getElem_toArray, List.getElem_cons_zero, List.getElem_cons_succ, cells_3, List.drop_zero, List.drop_succ_cons, List.take_succ_cons, List.take_zero] at h6
    obtain ⟨s6, m6, e6, r6, q6⟩ := open_t3 h6
    obtain rfl := List.head_eq_of_cons_eq e6
    subst r0
    subst r1
    subst r2
    subst r3
    subst r4
    subst r5
    subst r6
    exact ⟨⟨s0, s1, s2, s3, s4, s5, s6⟩, _, rfl, rfl, q0, q1, q2, q3, q4, q5, q6⟩
theorem cells_61 : Try.prog.cellsOf 61 = 1 := by kernel_rfl
theorem open_sl61 {H : Type} {enc : TypeId × Value → H} {w : World} {base : Nat} {spare : Nat → Bool} {held : Bool} {fuel : Nat} {cs : List Value} {x : DataW H × List MemPlace} (hsp : ∀ b, spare b = true) (h : DataW.trod enc Try.prog w base spare held fuel 61 cs = some x) :
    ∃ (s : Sl) (L : (List S.api_Move)), cs = [.slice s.a s.len s.cap] ∧ (s.len ≤ s.cap ∧ s.cap ≤ maxLen) ∧ RdL w 11 S.api_Move.v s L ∧ ∀ x ∈ L, Wf.api_Move x := by
  obtain ⟨s, L, e, hb, hR, hQ⟩ := open_list (v := S.api_Move.v) (R := (fun x m => x = m)) (Q := fun m => Wf.api_Move m) Try.underlying61 cells_51 (fun s => .inr ⟨_, rfl⟩) (fun fuel cs x h => open_api_Move h) hsp h
  exact ⟨s, L, e, hb, hR.rdl, hQ⟩
theorem open_s61 {H : Type} {enc : TypeId × Value → H} {w : World} {base : Nat} {spare : Nat → Bool} {held : Bool} {fuel : Nat} {cs : List Value} {x : DataW H × List MemPlace} (hsp : ∀ b, spare b = true) (h : DataW.trod enc Try.prog w base spare held fuel 61 cs = some x) :
    ∃ (s : Sl) (L : (List S.api_Move)), cs = ((fun s : Sl => Value.slice s.a s.len s.cap) s).cells.toList ∧ RdL w 11 S.api_Move.v s L ∧ ∀ x ∈ L, Wf.api_Move x := by
  obtain ⟨s, L, e, _, hR, hQ⟩ := open_sl61 hsp h
  exact ⟨s, L, e, hR, hQ⟩
theorem cells_63 : Try.prog.cellsOf 63 = 7 := by kernel_rfl
structure M.api_Event where
  Kind : Int
  A : Int
  B : Int
  Pose : S.api_Pose
  Moves : (List S.api_Move)
def Is.api_Event (w : World) (s : S.api_Event) (m : M.api_Event) : Prop := s.Kind = m.Kind ∧ s.A = m.A ∧ s.B = m.B ∧ s.Pose = m.Pose ∧ RdL w 11 S.api_Move.v s.Moves m.Moves
def Wf.api_Event (m : M.api_Event) : Prop := in64 m.Kind ∧ in64 m.A ∧ in64 m.B ∧ Wf.api_Pose m.Pose ∧ (∀ x ∈ m.Moves, Wf.api_Move x)
theorem open_api_Event {H : Type} {enc : TypeId × Value → H} {w : World} {base : Nat} {spare : Nat → Bool} {held : Bool} {fuel : Nat} {cs : List Value} {x : DataW H × List MemPlace} (hsp : ∀ b, spare b = true) (h : DataW.trod enc Try.prog w base spare held fuel 63 cs = some x) :
    ∃ (s : S.api_Event) (m : M.api_Event), cs = (S.api_Event.v s).cells.toList ∧ Is.api_Event w s m ∧ Wf.api_Event m := by
  obtain ⟨hl, hf⟩ := field_trod' Try.underlying63 h
  rw [cells_63] at hl
  match cs, hl with
  | [c0, c1, c2, c3, c4, c5, c6], _ =>
    obtain ⟨n0, y0, h0⟩ := hf 0 _ rfl
    simp only [List.getElem_toArray, List.getElem_cons_zero, List.getElem_cons_succ, cells_3, List.drop_zero, List.drop_succ_cons, List.take_succ_cons, List.take_zero] at h0
    obtain ⟨s0, m0, e0, r0, q0⟩ := open_t3 h0
    obtain rfl := List.head_eq_of_cons_eq e0
    obtain ⟨n1, y1, h1⟩ := hf 1 _ rfl
    simp only [List.getElem_toArray, List.getElem_cons_zero, List.getElem_cons_succ, cells_3, List.drop_zero, List.drop_succ_cons, List.take_succ_cons, List.take_zero] at h1
    obtain ⟨s1, m1, e1, r1, q1⟩ := open_t3 h1
    obtain rfl := List.head_eq_of_cons_eq e1
    obtain ⟨n2, y2, h2⟩ := hf 2 _ rfl
    simp only [List.getElem_toArray, List.getElem_cons_zero, List.getElem_cons_succ, cells_3, List.drop_zero, List.drop_succ_cons, List.take_succ_cons, List.take_zero] at h2
    obtain ⟨s2, m2, e2, r2, q2⟩ := open_t3 h2
    obtain rfl := List.head_eq_of_cons_eq e2
    obtain ⟨n3, y3, h3⟩ := hf 3 _ rfl
    simp only [List.getElem_toArray, List.getElem_cons_zero, List.getElem_cons_succ, cells_49, List.drop_zero, List.drop_succ_cons, List.take_succ_cons, List.take_zero] at h3
    obtain ⟨s3, m3, e3, r3, q3⟩ := open_api_Pose h3
    simp only [S.api_Pose.v, Value.cells, List.cons.injEq, and_true] at e3
    obtain ⟨rfl, rfl, rfl⟩ := e3
    obtain ⟨n4, y4, h4⟩ := hf 4 _ rfl
    simp only [List.getElem_toArray, List.getElem_cons_zero, List.getElem_cons_succ, cells_61, List.drop_zero, List.drop_succ_cons, List.take_succ_cons, List.take_zero] at h4
    obtain ⟨s4, m4, e4, r4, q4⟩ := open_s61 hsp h4
    obtain rfl := List.head_eq_of_cons_eq e4
    exact ⟨⟨s0, s1, s2, s3, s4⟩, ⟨m0, m1, m2, m3, m4⟩, rfl, ⟨r0, r1, r2, r3, r4⟩, q0, q1, q2, q3, q4⟩
theorem cells_108 : Try.prog.cellsOf 108 = 1 := by kernel_rfl
theorem open_sl108 {H : Type} {enc : TypeId × Value → H} {w : World} {base : Nat} {spare : Nat → Bool} {held : Bool} {fuel : Nat} {cs : List Value} {x : DataW H × List MemPlace} (hsp : ∀ b, spare b = true) (h : DataW.trod enc Try.prog w base spare held fuel 108 cs = some x) :
    ∃ (s : Sl) (L : (List Int)), cs = [.slice s.a s.len s.cap] ∧ (s.len ≤ s.cap ∧ s.cap ≤ maxLen) ∧ RdL w 1 (Value.int .i64) s L ∧ ∀ x ∈ L, in64 x := by
  obtain ⟨s, L, e, hb, hR, hQ⟩ := open_list (v := (Value.int .i64)) (R := (fun x m => x = m)) (Q := fun m => in64 m) Try.underlying108 cells_3 (fun s => .inl rfl) (fun fuel cs x h => open_t3 h) hsp h
  exact ⟨s, L, e, hb, hR.rdl, hQ⟩
theorem open_s108 {H : Type} {enc : TypeId × Value → H} {w : World} {base : Nat} {spare : Nat → Bool} {held : Bool} {fuel : Nat} {cs : List Value} {x : DataW H × List MemPlace} (hsp : ∀ b, spare b = true) (h : DataW.trod enc Try.prog w base spare held fuel 108 cs = some x) :
    ∃ (s : Sl) (L : (List Int)), cs = ((fun s : Sl => Value.slice s.a s.len s.cap) s).cells.toList ∧ RdL w 1 (Value.int .i64) s L ∧ ∀ x ∈ L, in64 x := by
  obtain ⟨s, L, e, _, hR, hQ⟩ := open_sl108 hsp h
  exact ⟨s, L, e, hR, hQ⟩
theorem cells_110 : Try.prog.cellsOf 110 = 3 := by kernel_rfl
structure M.api_Stack where
  At : S.api_Cell
  Bins : (List Int)
def Is.api_Stack (w : World) (s : S.api_Stack) (m : M.api_Stack) : Prop := s.At = m.At ∧ RdL w 1 (Value.int .i64) s.Bins m.Bins
def Wf.api_Stack (m : M.api_Stack) : Prop := Wf.api_Cell m.At ∧ (∀ x ∈ m.Bins, in64 x)
theorem open_api_Stack {H : Type} {enc : TypeId × Value → H} {w : World} {base : Nat} {spare : Nat → Bool} {held : Bool} {fuel : Nat} {cs : List Value} {x : DataW H × List MemPlace} (hsp : ∀ b, spare b = true) (h : DataW.trod enc Try.prog w base spare held fuel 110 cs = some x) :
    ∃ (s : S.api_Stack) (m : M.api_Stack), cs = (S.api_Stack.v s).cells.toList ∧ Is.api_Stack w s m ∧ Wf.api_Stack m := by
  obtain ⟨hl, hf⟩ := field_trod' Try.underlying110 h
  rw [cells_110] at hl
  match cs, hl with
  | [c0, c1, c2], _ =>
    obtain ⟨n0, y0, h0⟩ := hf 0 _ rfl
    simp only [List.getElem_toArray, List.getElem_cons_zero, List.getElem_cons_succ, cells_47, List.drop_zero, List.drop_succ_cons, List.take_succ_cons, List.take_zero] at h0
    obtain ⟨s0, m0, e0, r0, q0⟩ := open_api_Cell h0
    simp only [S.api_Cell.v, Value.cells, List.cons.injEq, and_true] at e0
    obtain ⟨rfl, rfl⟩ := e0
    obtain ⟨n1, y1, h1⟩ := hf 1 _ rfl
    simp only [List.getElem_toArray, List.getElem_cons_zero, List.getElem_cons_succ, cells_108, List.drop_zero, List.drop_succ_cons, List.take_succ_cons, List.take_zero] at h1
    obtain ⟨s1, m1, e1, r1, q1⟩ := open_s108 hsp h1
    obtain rfl := List.head_eq_of_cons_eq e1
    exact ⟨⟨s0, s1⟩, ⟨m0, m1⟩, rfl, ⟨r0, r1⟩, q0, q1⟩
theorem cells_72 : Try.prog.cellsOf 72 = 1 := by kernel_rfl
theorem open_sl72 {H : Type} {enc : TypeId × Value → H} {w : World} {base : Nat} {spare : Nat → Bool} {held : Bool} {fuel : Nat} {cs : List Value} {x : DataW H × List MemPlace} (hsp : ∀ b, spare b = true) (h : DataW.trod enc Try.prog w base spare held fuel 72 cs = some x) :
    ∃ (s : Sl) (L : (List M.api_Stack)), cs = [.slice s.a s.len s.cap] ∧ (s.len ≤ s.cap ∧ s.cap ≤ maxLen) ∧ IsL w 3 S.api_Stack.v (Is.api_Stack w) s L ∧ ∀ x ∈ L, Wf.api_Stack x := by
  obtain ⟨s, L, e, hb, hR, hQ⟩ := open_list (v := S.api_Stack.v) (R := (Is.api_Stack w)) (Q := fun m => Wf.api_Stack m) Try.underlying72 cells_110 (fun s => .inr ⟨_, rfl⟩) (fun fuel cs x h => open_api_Stack hsp h) hsp h
  exact ⟨s, L, e, hb, hR, hQ⟩
theorem open_s72 {H : Type} {enc : TypeId × Value → H} {w : World} {base : Nat} {spare : Nat → Bool} {held : Bool} {fuel : Nat} {cs : List Value} {x : DataW H × List MemPlace} (hsp : ∀ b, spare b = true) (h : DataW.trod enc Try.prog w base spare held fuel 72 cs = some x) :
    ∃ (s : Sl) (L : (List M.api_Stack)), cs = ((fun s : Sl => Value.slice s.a s.len s.cap) s).cells.toList ∧ IsL w 3 S.api_Stack.v (Is.api_Stack w) s L ∧ ∀ x ∈ L, Wf.api_Stack x := by
  obtain ⟨s, L, e, _, hR, hQ⟩ := open_sl72 hsp h
  exact ⟨s, L, e, hR, hQ⟩
theorem cells_116 : Try.prog.cellsOf 116 = 9 := by kernel_rfl
structure M.api_Robot where
  At : S.api_Pose
  Load : Int
  Job : Int
  Moves : (List S.api_Move)
  Out : Bool
  Num : Int
  Stands : Bool
def Is.api_Robot (w : World) (s : S.api_Robot) (m : M.api_Robot) : Prop := s.At = m.At ∧ s.Load = m.Load ∧ s.Job = m.Job ∧ RdL w 11 S.api_Move.v s.Moves m.Moves ∧ s.Out = m.Out ∧ s.Num = m.Num ∧ s.Stands = m.Stands
def Wf.api_Robot (m : M.api_Robot) : Prop := Wf.api_Pose m.At ∧ in64 m.Load ∧ in64 m.Job ∧ (∀ x ∈ m.Moves, Wf.api_Move x) ∧ True ∧ in64 m.Num ∧ True
theorem open_api_Robot {H : Type} {enc : TypeId × Value → H} {w : World} {base : Nat} {spare : Nat → Bool} {held : Bool} {fuel : Nat} {cs : List Value} {x : DataW H × List MemPlace} (hsp : ∀ b, spare b = true) (h : DataW.trod enc Try.prog w base spare held fuel 116 cs = some x) :
    ∃ (s : S.api_Robot) (m : M.api_Robot), cs = (S.api_Robot.v s).cells.toList ∧ Is.api_Robot w s m ∧ Wf.api_Robot m := by
  obtain ⟨hl, hf⟩ := field_trod' Try.underlying116 h
  rw [cells_116] at hl
  match cs, hl with
  | [c0, c1, c2, c3, c4, c5, c6, c7, c8], _ =>
    obtain ⟨n0, y0, h0⟩ := hf 0 _ rfl
    simp only [List.getElem_toArray, List.getElem_cons_zero, List.getElem_cons_succ, cells_49, List.drop_zero, List.drop_succ_cons, List.take_succ_cons, List.take_zero] at h0
    obtain ⟨s0, m0, e0, r0, q0⟩ := open_api_Pose h0
    simp only [S.api_Pose.v, Value.cells, List.cons.injEq, and_true] at e0
    obtain ⟨rfl, rfl, rfl⟩ := e0
    obtain ⟨n1, y1, h1⟩ := hf 1 _ rfl
    simp only [List.getElem_toArray, List.getElem_cons_zero, List.getElem_cons_succ, cells_3, List.drop_zero, List.drop_succ_cons, List.take_succ_cons, List.take_zero] at h1
    obtain ⟨s1, m1, e1, r1, q1⟩ := open_t3 h1
    obtain rfl := List.head_eq_of_cons_eq e1
    obtain ⟨n2, y2, h2⟩ := hf 2 _ rfl
    simp only [List.getElem_toArray, List.getElem_cons_zero, List.getElem_cons_succ, cells_3, List.drop_zero, List.drop_succ_cons, List.take_succ_cons, List.take_zero] at h2
    obtain ⟨s2, m2, e2, r2, q2⟩ := open_t3 h2
    obtain rfl := List.head_eq_of_cons_eq e2
    obtain ⟨n3, y3, h3⟩ := hf 3 _ rfl
    simp only [List.getElem_toArray, List.getElem_cons_zero, List.getElem_cons_succ, cells_61, List.drop_zero, List.drop_succ_cons, List.take_succ_cons, List.take_zero] at h3
    obtain ⟨s3, m3, e3, r3, q3⟩ := open_s61 hsp h3
    obtain rfl := List.head_eq_of_cons_eq e3
    obtain ⟨n4, y4, h4⟩ := hf 4 _ rfl
    simp only [List.getElem_toArray, List.getElem_cons_zero, List.getElem_cons_succ, cells_4, List.drop_zero, List.drop_succ_cons, List.take_succ_cons, List.take_zero] at h4
    obtain ⟨s4, m4, e4, r4, q4⟩ := open_t4 h4
    obtain rfl := List.head_eq_of_cons_eq e4
    obtain ⟨n5, y5, h5⟩ := hf 5 _ rfl
    simp only [List.getElem_toArray, List.getElem_cons_zero, List.getElem_cons_succ, cells_3, List.drop_zero, List.drop_succ_cons, List.take_succ_cons, List.take_zero] at h5
    obtain ⟨s5, m5, e5, r5, q5⟩ := open_t3 h5
    obtain rfl := List.head_eq_of_cons_eq e5
    obtain ⟨n6, y6, h6⟩ := hf 6 _ rfl
    simp only [List.getElem_toArray, List.getElem_cons_zero, List.getElem_cons_succ, cells_4, List.drop_zero, List.drop_succ_cons, List.take_succ_cons, List.take_zero] at h6
    obtain ⟨s6, m6, e6, r6, q6⟩ := open_t4 h6
    obtain rfl := List.head_eq_of_cons_eq e6
    exact ⟨⟨s0, s1, s2, s3, s4, s5, s6⟩, ⟨m0, m1, m2, m3, m4, m5, m6⟩, rfl, ⟨r0, r1, r2, r3, r4, r5, r6⟩, q0, q1, q2, q3, q4, q5, q6⟩
theorem cells_73 : Try.prog.cellsOf 73 = 1 := by kernel_rfl
theorem open_sl73 {H : Type} {enc : TypeId × Value → H} {w : World} {base : Nat} {spare : Nat → Bool} {held : Bool} {fuel : Nat} {cs : List Value} {x : DataW H × List MemPlace} (hsp : ∀ b, spare b = true) (h : DataW.trod enc Try.prog w base spare held fuel 73 cs = some x) :
    ∃ (s : Sl) (L : (List M.api_Robot)), cs = [.slice s.a s.len s.cap] ∧ (s.len ≤ s.cap ∧ s.cap ≤ maxLen) ∧ IsL w 9 S.api_Robot.v (Is.api_Robot w) s L ∧ ∀ x ∈ L, Wf.api_Robot x := by
  obtain ⟨s, L, e, hb, hR, hQ⟩ := open_list (v := S.api_Robot.v) (R := (Is.api_Robot w)) (Q := fun m => Wf.api_Robot m) Try.underlying73 cells_116 (fun s => .inr ⟨_, rfl⟩) (fun fuel cs x h => open_api_Robot hsp h) hsp h
  exact ⟨s, L, e, hb, hR, hQ⟩
theorem open_s73 {H : Type} {enc : TypeId × Value → H} {w : World} {base : Nat} {spare : Nat → Bool} {held : Bool} {fuel : Nat} {cs : List Value} {x : DataW H × List MemPlace} (hsp : ∀ b, spare b = true) (h : DataW.trod enc Try.prog w base spare held fuel 73 cs = some x) :
    ∃ (s : Sl) (L : (List M.api_Robot)), cs = ((fun s : Sl => Value.slice s.a s.len s.cap) s).cells.toList ∧ IsL w 9 S.api_Robot.v (Is.api_Robot w) s L ∧ ∀ x ∈ L, Wf.api_Robot x := by
  obtain ⟨s, L, e, _, hR, hQ⟩ := open_sl73 hsp h
  exact ⟨s, L, e, hR, hQ⟩
theorem cells_120 : Try.prog.cellsOf 120 = 3 := by kernel_rfl
structure M.api_Port where
  Bin : Int
  Active : Int
  Queue : (List Int)
def Is.api_Port (w : World) (s : S.api_Port) (m : M.api_Port) : Prop := s.Bin = m.Bin ∧ s.Active = m.Active ∧ RdL w 1 (Value.int .i64) s.Queue m.Queue
def Wf.api_Port (m : M.api_Port) : Prop := in64 m.Bin ∧ in64 m.Active ∧ (∀ x ∈ m.Queue, in64 x)
theorem open_api_Port {H : Type} {enc : TypeId × Value → H} {w : World} {base : Nat} {spare : Nat → Bool} {held : Bool} {fuel : Nat} {cs : List Value} {x : DataW H × List MemPlace} (hsp : ∀ b, spare b = true) (h : DataW.trod enc Try.prog w base spare held fuel 120 cs = some x) :
    ∃ (s : S.api_Port) (m : M.api_Port), cs = (S.api_Port.v s).cells.toList ∧ Is.api_Port w s m ∧ Wf.api_Port m := by
  obtain ⟨hl, hf⟩ := field_trod' Try.underlying120 h
  rw [cells_120] at hl
  match cs, hl with
  | [c0, c1, c2], _ =>
    obtain ⟨n0, y0, h0⟩ := hf 0 _ rfl
    simp only [List.getElem_toArray, List.getElem_cons_zero, List.getElem_cons_succ, cells_3, List.drop_zero, List.drop_succ_cons, List.take_succ_cons, List.take_zero] at h0
    obtain ⟨s0, m0, e0, r0, q0⟩ := open_t3 h0
    obtain rfl := List.head_eq_of_cons_eq e0
    obtain ⟨n1, y1, h1⟩ := hf 1 _ rfl
    simp only [List.getElem_toArray, List.getElem_cons_zero, List.getElem_cons_succ, cells_3, List.drop_zero, List.drop_succ_cons, List.take_succ_cons, List.take_zero] at h1
    obtain ⟨s1, m1, e1, r1, q1⟩ := open_t3 h1
    obtain rfl := List.head_eq_of_cons_eq e1
    obtain ⟨n2, y2, h2⟩ := hf 2 _ rfl
    simp only [List.getElem_toArray, List.getElem_cons_zero, List.getElem_cons_succ, cells_108, List.drop_zero, List.drop_succ_cons, List.take_succ_cons, List.take_zero] at h2
    obtain ⟨s2, m2, e2, r2, q2⟩ := open_s108 hsp h2
    obtain rfl := List.head_eq_of_cons_eq e2
    exact ⟨⟨s0, s1, s2⟩, ⟨m0, m1, m2⟩, rfl, ⟨r0, r1, r2⟩, q0, q1, q2⟩
theorem cells_74 : Try.prog.cellsOf 74 = 1 := by kernel_rfl
theorem open_sl74 {H : Type} {enc : TypeId × Value → H} {w : World} {base : Nat} {spare : Nat → Bool} {held : Bool} {fuel : Nat} {cs : List Value} {x : DataW H × List MemPlace} (hsp : ∀ b, spare b = true) (h : DataW.trod enc Try.prog w base spare held fuel 74 cs = some x) :
    ∃ (s : Sl) (L : (List M.api_Port)), cs = [.slice s.a s.len s.cap] ∧ (s.len ≤ s.cap ∧ s.cap ≤ maxLen) ∧ IsL w 3 S.api_Port.v (Is.api_Port w) s L ∧ ∀ x ∈ L, Wf.api_Port x := by
  obtain ⟨s, L, e, hb, hR, hQ⟩ := open_list (v := S.api_Port.v) (R := (Is.api_Port w)) (Q := fun m => Wf.api_Port m) Try.underlying74 cells_120 (fun s => .inr ⟨_, rfl⟩) (fun fuel cs x h => open_api_Port hsp h) hsp h
  exact ⟨s, L, e, hb, hR, hQ⟩
theorem open_s74 {H : Type} {enc : TypeId × Value → H} {w : World} {base : Nat} {spare : Nat → Bool} {held : Bool} {fuel : Nat} {cs : List Value} {x : DataW H × List MemPlace} (hsp : ∀ b, spare b = true) (h : DataW.trod enc Try.prog w base spare held fuel 74 cs = some x) :
    ∃ (s : Sl) (L : (List M.api_Port)), cs = ((fun s : Sl => Value.slice s.a s.len s.cap) s).cells.toList ∧ IsL w 3 S.api_Port.v (Is.api_Port w) s L ∧ ∀ x ∈ L, Wf.api_Port x := by
  obtain ⟨s, L, e, _, hR, hQ⟩ := open_sl74 hsp h
  exact ⟨s, L, e, hR, hQ⟩
theorem cells_124 : Try.prog.cellsOf 124 = 4 := by kernel_rfl
def Wf.api_Order (m : S.api_Order) : Prop := in64 m.ID ∧ in64 m.Bin ∧ in64 m.Port ∧ in64 m.State
theorem open_api_Order {H : Type} {enc : TypeId × Value → H} {w : World} {base : Nat} {spare : Nat → Bool} {held : Bool} {fuel : Nat} {cs : List Value} {x : DataW H × List MemPlace} (h : DataW.trod enc Try.prog w base spare held fuel 124 cs = some x) :
    ∃ (s : S.api_Order) (m : S.api_Order), cs = (S.api_Order.v s).cells.toList ∧ s = m ∧ Wf.api_Order m := by
  obtain ⟨hl, hf⟩ := field_trod' Try.underlying124 h
  rw [cells_124] at hl
  match cs, hl with
  | [c0, c1, c2, c3], _ =>
    obtain ⟨n0, y0, h0⟩ := hf 0 _ rfl
    simp only [List.getElem_toArray, List.getElem_cons_zero, List.getElem_cons_succ, cells_3, List.drop_zero, List.drop_succ_cons, List.take_succ_cons, List.take_zero] at h0
    obtain ⟨s0, m0, e0, r0, q0⟩ := open_t3 h0
    obtain rfl := List.head_eq_of_cons_eq e0
    obtain ⟨n1, y1, h1⟩ := hf 1 _ rfl
    simp only [List.getElem_toArray, List.getElem_cons_zero, List.getElem_cons_succ, cells_3, List.drop_zero, List.drop_succ_cons, List.take_succ_cons, List.take_zero] at h1
    obtain ⟨s1, m1, e1, r1, q1⟩ := open_t3 h1
    obtain rfl := List.head_eq_of_cons_eq e1
    obtain ⟨n2, y2, h2⟩ := hf 2 _ rfl
    simp only [List.getElem_toArray, List.getElem_cons_zero, List.getElem_cons_succ, cells_3, List.drop_zero, List.drop_succ_cons, List.take_succ_cons, List.take_zero] at h2
    obtain ⟨s2, m2, e2, r2, q2⟩ := open_t3 h2
    obtain rfl := List.head_eq_of_cons_eq e2
    obtain ⟨n3, y3, h3⟩ := hf 3 _ rfl
    simp only [List.getElem_toArray, List.getElem_cons_zero, List.getElem_cons_succ, cells_3, List.drop_zero, List.drop_succ_cons, List.take_succ_cons, List.take_zero] at h3
    obtain ⟨s3, m3, e3, r3, q3⟩ := open_t3 h3
    obtain rfl := List.head_eq_of_cons_eq e3
    subst r0
    subst r1
    subst r2
    subst r3
    exact ⟨⟨s0, s1, s2, s3⟩, _, rfl, rfl, q0, q1, q2, q3⟩
theorem cells_75 : Try.prog.cellsOf 75 = 1 := by kernel_rfl
theorem open_sl75 {H : Type} {enc : TypeId × Value → H} {w : World} {base : Nat} {spare : Nat → Bool} {held : Bool} {fuel : Nat} {cs : List Value} {x : DataW H × List MemPlace} (hsp : ∀ b, spare b = true) (h : DataW.trod enc Try.prog w base spare held fuel 75 cs = some x) :
    ∃ (s : Sl) (L : (List S.api_Order)), cs = [.slice s.a s.len s.cap] ∧ (s.len ≤ s.cap ∧ s.cap ≤ maxLen) ∧ RdL w 4 S.api_Order.v s L ∧ ∀ x ∈ L, Wf.api_Order x := by
  obtain ⟨s, L, e, hb, hR, hQ⟩ := open_list (v := S.api_Order.v) (R := (fun x m => x = m)) (Q := fun m => Wf.api_Order m) Try.underlying75 cells_124 (fun s => .inr ⟨_, rfl⟩) (fun fuel cs x h => open_api_Order h) hsp h
  exact ⟨s, L, e, hb, hR.rdl, hQ⟩
theorem open_s75 {H : Type} {enc : TypeId × Value → H} {w : World} {base : Nat} {spare : Nat → Bool} {held : Bool} {fuel : Nat} {cs : List Value} {x : DataW H × List MemPlace} (hsp : ∀ b, spare b = true) (h : DataW.trod enc Try.prog w base spare held fuel 75 cs = some x) :
    ∃ (s : Sl) (L : (List S.api_Order)), cs = ((fun s : Sl => Value.slice s.a s.len s.cap) s).cells.toList ∧ RdL w 4 S.api_Order.v s L ∧ ∀ x ∈ L, Wf.api_Order x := by
  obtain ⟨s, L, e, _, hR, hQ⟩ := open_sl75 hsp h
  exact ⟨s, L, e, hR, hQ⟩
theorem cells_128 : Try.prog.cellsOf 128 = 9 := by kernel_rfl
def Wf.api_Job (m : S.api_Job) : Prop := in64 m.ID ∧ in64 m.Kind ∧ in64 m.Order ∧ in64 m.Bin ∧ Wf.api_Cell m.From ∧ Wf.api_Cell m.To ∧ in64 m.Robot
theorem open_api_Job {H : Type} {enc : TypeId × Value → H} {w : World} {base : Nat} {spare : Nat → Bool} {held : Bool} {fuel : Nat} {cs : List Value} {x : DataW H × List MemPlace} (h : DataW.trod enc Try.prog w base spare held fuel 128 cs = some x) :
    ∃ (s : S.api_Job) (m : S.api_Job), cs = (S.api_Job.v s).cells.toList ∧ s = m ∧ Wf.api_Job m := by
  obtain ⟨hl, hf⟩ := field_trod' Try.underlying128 h
  rw [cells_128] at hl
  match cs, hl with
  | [c0, c1, c2, c3, c4, c5, c6, c7, c8], _ =>
    obtain ⟨n0, y0, h0⟩ := hf 0 _ rfl
    simp only [List.getElem_toArray, List.getElem_cons_zero, List.getElem_cons_succ, cells_3, List.drop_zero, List.drop_succ_cons, List.take_succ_cons, List.take_zero] at h0
    obtain ⟨s0, m0, e0, r0, q0⟩ := open_t3 h0
    obtain rfl := List.head_eq_of_cons_eq e0
    obtain ⟨n1, y1, h1⟩ := hf 1 _ rfl
    simp only [List.getElem_toArray, List.getElem_cons_zero, List.getElem_cons_succ, cells_3, List.drop_zero, List.drop_succ_cons, List.take_succ_cons, List.take_zero] at h1
    obtain ⟨s1, m1, e1, r1, q1⟩ := open_t3 h1
    obtain rfl := List.head_eq_of_cons_eq e1
    obtain ⟨n2, y2, h2⟩ := hf 2 _ rfl
    simp only [List.getElem_toArray, List.getElem_cons_zero, List.getElem_cons_succ, cells_3, List.drop_zero, List.drop_succ_cons, List.take_succ_cons, List.take_zero] at h2
    obtain ⟨s2, m2, e2, r2, q2⟩ := open_t3 h2
    obtain rfl := List.head_eq_of_cons_eq e2
    obtain ⟨n3, y3, h3⟩ := hf 3 _ rfl
    simp only [List.getElem_toArray, List.getElem_cons_zero, List.getElem_cons_succ, cells_3, List.drop_zero, List.drop_succ_cons, List.take_succ_cons, List.take_zero] at h3
    obtain ⟨s3, m3, e3, r3, q3⟩ := open_t3 h3
    obtain rfl := List.head_eq_of_cons_eq e3
    obtain ⟨n4, y4, h4⟩ := hf 4 _ rfl
    simp only [List.getElem_toArray, List.getElem_cons_zero, List.getElem_cons_succ, cells_47, List.drop_zero, List.drop_succ_cons, List.take_succ_cons, List.take_zero] at h4
    obtain ⟨s4, m4, e4, r4, q4⟩ := open_api_Cell h4
    simp only [S.api_Cell.v, Value.cells, List.cons.injEq, and_true] at e4
    obtain ⟨rfl, rfl⟩ := e4
    obtain ⟨n5, y5, h5⟩ := hf 5 _ rfl
    simp only [List.getElem_toArray, List.getElem_cons_zero, List.getElem_cons_succ, cells_47, List.drop_zero, List.drop_succ_cons, List.take_succ_cons, List.take_zero] at h5
    obtain ⟨s5, m5, e5, r5, q5⟩ := open_api_Cell h5
    simp only [S.api_Cell.v, Value.cells, List.cons.injEq, and_true] at e5
    obtain ⟨rfl, rfl⟩ := e5
    obtain ⟨n6, y6, h6⟩ := hf 6 _ rfl
    simp only [List.getElem_toArray, List.getElem_cons_zero, List.getElem_cons_succ, cells_3, List.drop_zero, List.drop_succ_cons, List.take_succ_cons, List.take_zero] at h6
    obtain ⟨s6, m6, e6, r6, q6⟩ := open_t3 h6
    obtain rfl := List.head_eq_of_cons_eq e6
    subst r0
    subst r1
    subst r2
    subst r3
    subst r4
    subst r5
    subst r6
    exact ⟨⟨s0, s1, s2, s3, s4, s5, s6⟩, _, rfl, rfl, q0, q1, q2, q3, q4, q5, q6⟩
theorem cells_76 : Try.prog.cellsOf 76 = 1 := by kernel_rfl
theorem open_sl76 {H : Type} {enc : TypeId × Value → H} {w : World} {base : Nat} {spare : Nat → Bool} {held : Bool} {fuel : Nat} {cs : List Value} {x : DataW H × List MemPlace} (hsp : ∀ b, spare b = true) (h : DataW.trod enc Try.prog w base spare held fuel 76 cs = some x) :
    ∃ (s : Sl) (L : (List S.api_Job)), cs = [.slice s.a s.len s.cap] ∧ (s.len ≤ s.cap ∧ s.cap ≤ maxLen) ∧ RdL w 9 S.api_Job.v s L ∧ ∀ x ∈ L, Wf.api_Job x := by
  obtain ⟨s, L, e, hb, hR, hQ⟩ := open_list (v := S.api_Job.v) (R := (fun x m => x = m)) (Q := fun m => Wf.api_Job m) Try.underlying76 cells_128 (fun s => .inr ⟨_, rfl⟩) (fun fuel cs x h => open_api_Job h) hsp h
  exact ⟨s, L, e, hb, hR.rdl, hQ⟩
theorem open_s76 {H : Type} {enc : TypeId × Value → H} {w : World} {base : Nat} {spare : Nat → Bool} {held : Bool} {fuel : Nat} {cs : List Value} {x : DataW H × List MemPlace} (hsp : ∀ b, spare b = true) (h : DataW.trod enc Try.prog w base spare held fuel 76 cs = some x) :
    ∃ (s : Sl) (L : (List S.api_Job)), cs = ((fun s : Sl => Value.slice s.a s.len s.cap) s).cells.toList ∧ RdL w 9 S.api_Job.v s L ∧ ∀ x ∈ L, Wf.api_Job x := by
  obtain ⟨s, L, e, _, hR, hQ⟩ := open_sl76 hsp h
  exact ⟨s, L, e, hR, hQ⟩
theorem cells_78 : Try.prog.cellsOf 78 = 10 := by kernel_rfl
structure M.api_State where
  Seq : Int
  Epoch : Int
  Held : Bool
  Stacks : (List M.api_Stack)
  Robots : (List M.api_Robot)
  Ports : (List M.api_Port)
  Orders : (List S.api_Order)
  Jobs : (List S.api_Job)
  NextOrder : Int
  NextJob : Int
def Is.api_State (w : World) (s : S.api_State) (m : M.api_State) : Prop := s.Seq = m.Seq ∧ s.Epoch = m.Epoch ∧ s.Held = m.Held ∧ IsL w 3 S.api_Stack.v (Is.api_Stack w) s.Stacks m.Stacks ∧ IsL w 9 S.api_Robot.v (Is.api_Robot w) s.Robots m.Robots ∧ IsL w 3 S.api_Port.v (Is.api_Port w) s.Ports m.Ports ∧ RdL w 4 S.api_Order.v s.Orders m.Orders ∧ RdL w 9 S.api_Job.v s.Jobs m.Jobs ∧ s.NextOrder = m.NextOrder ∧ s.NextJob = m.NextJob
def Wf.api_State (m : M.api_State) : Prop := in64 m.Seq ∧ in64 m.Epoch ∧ True ∧ (∀ x ∈ m.Stacks, Wf.api_Stack x) ∧ (∀ x ∈ m.Robots, Wf.api_Robot x) ∧ (∀ x ∈ m.Ports, Wf.api_Port x) ∧ (∀ x ∈ m.Orders, Wf.api_Order x) ∧ (∀ x ∈ m.Jobs, Wf.api_Job x) ∧ in64 m.NextOrder ∧ in64 m.NextJob
theorem open_api_State {H : Type} {enc : TypeId × Value → H} {w : World} {base : Nat} {spare : Nat → Bool} {held : Bool} {fuel : Nat} {cs : List Value} {x : DataW H × List MemPlace} (hsp : ∀ b, spare b = true) (h : DataW.trod enc Try.prog w base spare held fuel 78 cs = some x) :
    ∃ (s : S.api_State) (m : M.api_State), cs = (S.api_State.v s).cells.toList ∧ Is.api_State w s m ∧ Wf.api_State m := by
  obtain ⟨hl, hf⟩ := field_trod' Try.underlying78 h
  rw [cells_78] at hl
  match cs, hl with
  | [c0, c1, c2, c3, c4, c5, c6, c7, c8, c9], _ =>
    obtain ⟨n0, y0, h0⟩ := hf 0 _ rfl
    simp only [List.getElem_toArray, List.getElem_cons_zero, List.getElem_cons_succ, cells_3, List.drop_zero, List.drop_succ_cons, List.take_succ_cons, List.take_zero] at h0
    obtain ⟨s0, m0, e0, r0, q0⟩ := open_t3 h0
    obtain rfl := List.head_eq_of_cons_eq e0
    obtain ⟨n1, y1, h1⟩ := hf 1 _ rfl
    simp only [List.getElem_toArray, List.getElem_cons_zero, List.getElem_cons_succ, cells_3, List.drop_zero, List.drop_succ_cons, List.take_succ_cons, List.take_zero] at h1
    obtain ⟨s1, m1, e1, r1, q1⟩ := open_t3 h1
    obtain rfl := List.head_eq_of_cons_eq e1
    obtain ⟨n2, y2, h2⟩ := hf 2 _ rfl
    simp only [List.getElem_toArray, List.getElem_cons_zero, List.getElem_cons_succ, cells_4, List.drop_zero, List.drop_succ_cons, List.take_succ_cons, List.take_zero] at h2
    obtain ⟨s2, m2, e2, r2, q2⟩ := open_t4 h2
    obtain rfl := List.head_eq_of_cons_eq e2
    obtain ⟨n3, y3, h3⟩ := hf 3 _ rfl
    simp only [List.getElem_toArray, List.getElem_cons_zero, List.getElem_cons_succ, cells_72, List.drop_zero, List.drop_succ_cons, List.take_succ_cons, List.take_zero] at h3
    obtain ⟨s3, m3, e3, r3, q3⟩ := open_s72 hsp h3
    obtain rfl := List.head_eq_of_cons_eq e3
    obtain ⟨n4, y4, h4⟩ := hf 4 _ rfl
    simp only [List.getElem_toArray, List.getElem_cons_zero, List.getElem_cons_succ, cells_73, List.drop_zero, List.drop_succ_cons, List.take_succ_cons, List.take_zero] at h4
    obtain ⟨s4, m4, e4, r4, q4⟩ := open_s73 hsp h4
    obtain rfl := List.head_eq_of_cons_eq e4
    obtain ⟨n5, y5, h5⟩ := hf 5 _ rfl
    simp only [List.getElem_toArray, List.getElem_cons_zero, List.getElem_cons_succ, cells_74, List.drop_zero, List.drop_succ_cons, List.take_succ_cons, List.take_zero] at h5
    obtain ⟨s5, m5, e5, r5, q5⟩ := open_s74 hsp h5
    obtain rfl := List.head_eq_of_cons_eq e5
    obtain ⟨n6, y6, h6⟩ := hf 6 _ rfl
    simp only [List.getElem_toArray, List.getElem_cons_zero, List.getElem_cons_succ, cells_75, List.drop_zero, List.drop_succ_cons, List.take_succ_cons, List.take_zero] at h6
    obtain ⟨s6, m6, e6, r6, q6⟩ := open_s75 hsp h6
    obtain rfl := List.head_eq_of_cons_eq e6
    obtain ⟨n7, y7, h7⟩ := hf 7 _ rfl
    simp only [List.getElem_toArray, List.getElem_cons_zero, List.getElem_cons_succ, cells_76, List.drop_zero, List.drop_succ_cons, List.take_succ_cons, List.take_zero] at h7
    obtain ⟨s7, m7, e7, r7, q7⟩ := open_s76 hsp h7
    obtain rfl := List.head_eq_of_cons_eq e7
    obtain ⟨n8, y8, h8⟩ := hf 8 _ rfl
    simp only [List.getElem_toArray, List.getElem_cons_zero, List.getElem_cons_succ, cells_3, List.drop_zero, List.drop_succ_cons, List.take_succ_cons, List.take_zero] at h8
    obtain ⟨s8, m8, e8, r8, q8⟩ := open_t3 h8
    obtain rfl := List.head_eq_of_cons_eq e8
    obtain ⟨n9, y9, h9⟩ := hf 9 _ rfl
    simp only [List.getElem_toArray, List.getElem_cons_zero, List.getElem_cons_succ, cells_3, List.drop_zero, List.drop_succ_cons, List.take_succ_cons, List.take_zero] at h9
    obtain ⟨s9, m9, e9, r9, q9⟩ := open_t3 h9
    obtain rfl := List.head_eq_of_cons_eq e9
    exact ⟨⟨s0, s1, s2, s3, s4, s5, s6, s7, s8, s9⟩, ⟨m0, m1, m2, m3, m4, m5, m6, m7, m8, m9⟩, rfl, ⟨r0, r1, r2, r3, r4, r5, r6, r7, r8, r9⟩, q0, q1, q2, q3, q4, q5, q6, q7, q8, q9⟩
end Go.Proofs.Ytocbjadhcfjfiaa
