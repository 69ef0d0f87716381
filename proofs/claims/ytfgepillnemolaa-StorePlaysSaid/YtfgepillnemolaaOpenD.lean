/- Arguments opened: for this seat's types. Written by opens.py. No conditions. -/
import Derived.Test.YtfgepillnemolaaTab
import Derived.Test.YtfgepillnemolaaOpenG
namespace Go.Proofs.Ytfgepillnemolaa
open Go.RowKit Go.ChangeShapes Go.WideShapes Go.Eng
set_option linter.unusedSimpArgs false
set_option maxRecDepth 100000
set_option linter.unusedVariables false
theorem cells_27 : Try.prog.cellsOf 27 = 1 := by kernel_rfl
theorem cells_5 : Try.prog.cellsOf 5 = 1 := by kernel_rfl
theorem open_t5 {H : Type} {enc : TypeId × Value → H} {w : World} {base : Nat} {spare : Nat → Bool} {held : Bool} {fuel : Nat} {cs : List Value} {x : DataW H × List MemPlace} (h : DataW.trod enc Try.prog w base spare held fuel 5 cs = some x) :
    ∃ (s : Int) (m : Int), cs = ((Value.int .u8) s).cells.toList ∧ s = m ∧ in8 m := by obtain ⟨z, e, _, hw⟩ := DataW.trod_int Try.underlying5 h; exact ⟨z, z, e, rfl, wf8 hw⟩
theorem open_sl27 {H : Type} {enc : TypeId × Value → H} {w : World} {base : Nat} {spare : Nat → Bool} {held : Bool} {fuel : Nat} {cs : List Value} {x : DataW H × List MemPlace} (hsp : ∀ b, spare b = true) (h : DataW.trod enc Try.prog w base spare held fuel 27 cs = some x) :
    ∃ (s : Sl) (L : (List Int)), cs = [.slice s.a s.len s.cap] ∧ (s.len ≤ s.cap ∧ s.cap ≤ maxLen) ∧ RdL w 1 (Value.int .u8) s L ∧ ∀ x ∈ L, in8 x := by
  obtain ⟨s, L, e, hb, hR, hQ⟩ := open_list (v := (Value.int .u8)) (R := (fun x m => x = m)) (Q := fun m => in8 m) Try.underlying27 cells_5 (fun s => .inl rfl) (fun fuel cs x h => open_t5 h) hsp h
  exact ⟨s, L, e, hb, hR.rdl, hQ⟩
theorem open_s27 {H : Type} {enc : TypeId × Value → H} {w : World} {base : Nat} {spare : Nat → Bool} {held : Bool} {fuel : Nat} {cs : List Value} {x : DataW H × List MemPlace} (hsp : ∀ b, spare b = true) (h : DataW.trod enc Try.prog w base spare held fuel 27 cs = some x) :
    ∃ (s : Sl) (L : (List Int)), cs = ((fun s : Sl => Value.slice s.a s.len s.cap) s).cells.toList ∧ RdL w 1 (Value.int .u8) s L ∧ ∀ x ∈ L, in8 x := by
  obtain ⟨s, L, e, _, hR, hQ⟩ := open_sl27 hsp h
  exact ⟨s, L, e, hR, hQ⟩
theorem cells_22 : Try.prog.cellsOf 22 = 1 := by kernel_rfl
theorem open_sl22 {H : Type} {enc : TypeId × Value → H} {w : World} {base : Nat} {spare : Nat → Bool} {held : Bool} {fuel : Nat} {cs : List Value} {x : DataW H × List MemPlace} (hsp : ∀ b, spare b = true) (h : DataW.trod enc Try.prog w base spare held fuel 22 cs = some x) :
    ∃ (s : Sl) (L : (List (List Int))), cs = [.slice s.a s.len s.cap] ∧ (s.len ≤ s.cap ∧ s.cap ≤ maxLen) ∧ IsL w 1 (fun s : Sl => Value.slice s.a s.len s.cap) (fun s L => RdL w 1 (Value.int .u8) s L) s L ∧ ∀ x ∈ L, ∀ y ∈ x, in8 y := by
  obtain ⟨s, L, e, hb, hR, hQ⟩ := open_list (v := (fun s : Sl => Value.slice s.a s.len s.cap)) (R := (fun s L => RdL w 1 (Value.int .u8) s L)) (Q := fun m => ∀ x ∈ m, in8 x) Try.underlying22 cells_27 (fun s => .inl rfl) (fun fuel cs x h => open_s27 hsp h) hsp h
  exact ⟨s, L, e, hb, hR, hQ⟩
theorem open_s22 {H : Type} {enc : TypeId × Value → H} {w : World} {base : Nat} {spare : Nat → Bool} {held : Bool} {fuel : Nat} {cs : List Value} {x : DataW H × List MemPlace} (hsp : ∀ b, spare b = true) (h : DataW.trod enc Try.prog w base spare held fuel 22 cs = some x) :
    ∃ (s : Sl) (L : (List (List Int))), cs = ((fun s : Sl => Value.slice s.a s.len s.cap) s).cells.toList ∧ IsL w 1 (fun s : Sl => Value.slice s.a s.len s.cap) (fun s L => RdL w 1 (Value.int .u8) s L) s L ∧ ∀ x ∈ L, ∀ y ∈ x, in8 y := by
  obtain ⟨s, L, e, _, hR, hQ⟩ := open_sl22 hsp h
  exact ⟨s, L, e, hR, hQ⟩
theorem cells_23 : Try.prog.cellsOf 23 = 1 := by kernel_rfl
theorem cells_3 : Try.prog.cellsOf 3 = 1 := by kernel_rfl
theorem open_t3 {H : Type} {enc : TypeId × Value → H} {w : World} {base : Nat} {spare : Nat → Bool} {held : Bool} {fuel : Nat} {cs : List Value} {x : DataW H × List MemPlace} (h : DataW.trod enc Try.prog w base spare held fuel 3 cs = some x) :
    ∃ (s : Int) (m : Int), cs = ((Value.int .i64) s).cells.toList ∧ s = m ∧ in64 m := by obtain ⟨z, e, _, hw⟩ := DataW.trod_int Try.underlying3 h; exact ⟨z, z, e, rfl, wf64 hw⟩
theorem open_sl23 {H : Type} {enc : TypeId × Value → H} {w : World} {base : Nat} {spare : Nat → Bool} {held : Bool} {fuel : Nat} {cs : List Value} {x : DataW H × List MemPlace} (hsp : ∀ b, spare b = true) (h : DataW.trod enc Try.prog w base spare held fuel 23 cs = some x) :
    ∃ (s : Sl) (L : (List Int)), cs = [.slice s.a s.len s.cap] ∧ (s.len ≤ s.cap ∧ s.cap ≤ maxLen) ∧ RdL w 1 (Value.int .i64) s L ∧ ∀ x ∈ L, in64 x := by
  obtain ⟨s, L, e, hb, hR, hQ⟩ := open_list (v := (Value.int .i64)) (R := (fun x m => x = m)) (Q := fun m => in64 m) Try.underlying23 cells_3 (fun s => .inl rfl) (fun fuel cs x h => open_t3 h) hsp h
  exact ⟨s, L, e, hb, hR.rdl, hQ⟩
theorem open_s23 {H : Type} {enc : TypeId × Value → H} {w : World} {base : Nat} {spare : Nat → Bool} {held : Bool} {fuel : Nat} {cs : List Value} {x : DataW H × List MemPlace} (hsp : ∀ b, spare b = true) (h : DataW.trod enc Try.prog w base spare held fuel 23 cs = some x) :
    ∃ (s : Sl) (L : (List Int)), cs = ((fun s : Sl => Value.slice s.a s.len s.cap) s).cells.toList ∧ RdL w 1 (Value.int .i64) s L ∧ ∀ x ∈ L, in64 x := by
  obtain ⟨s, L, e, _, hR, hQ⟩ := open_sl23 hsp h
  exact ⟨s, L, e, hR, hQ⟩
theorem cells_44 : Try.prog.cellsOf 44 = 3 := by kernel_rfl
structure S.skeplaw06_Step where
  L : Sl
  Then : Int
  Snap : Sl
@[reducible] def S.skeplaw06_Step.v (s : S.skeplaw06_Step) : Value := .agg #[.slice s.L.a s.L.len s.L.cap, .int .i64 s.Then, .slice s.Snap.a s.Snap.len s.Snap.cap]
structure M.skeplaw06_Step where
  L : (List (List Int))
  Then : Int
  Snap : (List Int)
def Is.skeplaw06_Step (w : World) (s : S.skeplaw06_Step) (m : M.skeplaw06_Step) : Prop := IsL w 1 (fun s : Sl => Value.slice s.a s.len s.cap) (fun s L => RdL w 1 (Value.int .u8) s L) s.L m.L ∧ s.Then = m.Then ∧ RdL w 1 (Value.int .u8) s.Snap m.Snap
def Wf.skeplaw06_Step (m : M.skeplaw06_Step) : Prop := (∀ x ∈ m.L, ∀ y ∈ x, in8 y) ∧ in64 m.Then ∧ (∀ x ∈ m.Snap, in8 x)
theorem open_skeplaw06_Step {H : Type} {enc : TypeId × Value → H} {w : World} {base : Nat} {spare : Nat → Bool} {held : Bool} {fuel : Nat} {cs : List Value} {x : DataW H × List MemPlace} (hsp : ∀ b, spare b = true) (h : DataW.trod enc Try.prog w base spare held fuel 44 cs = some x) :
    ∃ (s : S.skeplaw06_Step) (m : M.skeplaw06_Step), cs = (S.skeplaw06_Step.v s).cells.toList ∧ Is.skeplaw06_Step w s m ∧ Wf.skeplaw06_Step m := by
  obtain ⟨hl, hf⟩ := field_trod' Try.underlying44 h
  rw [cells_44] at hl
  match cs, hl with
  | [c0, c1, c2], _ =>
    obtain ⟨n0, y0, h0⟩ := hf 0 _ rfl
    simp only [List.getElem_toArray, List.getElem_cons_zero, List.getElem_cons_succ, cells_22, List.drop_zero, List.drop_succ_cons, List.take_succ_cons, List.take_zero] at h0
    obtain ⟨s0, m0, e0, r0, q0⟩ := open_s22 hsp h0
    obtain rfl := List.head_eq_of_cons_eq e0
    obtain ⟨n1, y1, h1⟩ := hf 1 _ rfl
    simp only [List.getElem_toArray, List.getElem_cons_zero, List.getElem_cons_succ, cells_3, List.drop_zero, List.drop_succ_cons, List.take_succ_cons, List.take_zero] at h1
    obtain ⟨s1, m1, e1, r1, q1⟩ := open_t3 h1
    obtain rfl := List.head_eq_of_cons_eq e1
    obtain ⟨n2, y2, h2⟩ := hf 2 _ rfl
    simp only [List.getElem_toArray, List.getElem_cons_zero, List.getElem_cons_succ, cells_27, List.drop_zero, List.drop_succ_cons, List.take_succ_cons, List.take_zero] at h2
    obtain ⟨s2, m2, e2, r2, q2⟩ := open_s27 hsp h2
    obtain rfl := List.head_eq_of_cons_eq e2
    exact ⟨⟨s0, s1, s2⟩, ⟨m0, m1, m2⟩, rfl, ⟨r0, r1, r2⟩, q0, q1, q2⟩
theorem cells_42 : Try.prog.cellsOf 42 = 1 := by kernel_rfl
theorem open_sl42 {H : Type} {enc : TypeId × Value → H} {w : World} {base : Nat} {spare : Nat → Bool} {held : Bool} {fuel : Nat} {cs : List Value} {x : DataW H × List MemPlace} (hsp : ∀ b, spare b = true) (h : DataW.trod enc Try.prog w base spare held fuel 42 cs = some x) :
    ∃ (s : Sl) (L : (List M.skeplaw06_Step)), cs = [.slice s.a s.len s.cap] ∧ (s.len ≤ s.cap ∧ s.cap ≤ maxLen) ∧ IsL w 3 S.skeplaw06_Step.v (Is.skeplaw06_Step w) s L ∧ ∀ x ∈ L, Wf.skeplaw06_Step x := by
  obtain ⟨s, L, e, hb, hR, hQ⟩ := open_list (v := S.skeplaw06_Step.v) (R := (Is.skeplaw06_Step w)) (Q := fun m => Wf.skeplaw06_Step m) Try.underlying42 cells_44 (fun s => .inr ⟨_, rfl⟩) (fun fuel cs x h => open_skeplaw06_Step hsp h) hsp h
  exact ⟨s, L, e, hb, hR, hQ⟩
theorem open_s42 {H : Type} {enc : TypeId × Value → H} {w : World} {base : Nat} {spare : Nat → Bool} {held : Bool} {fuel : Nat} {cs : List Value} {x : DataW H × List MemPlace} (hsp : ∀ b, spare b = true) (h : DataW.trod enc Try.prog w base spare held fuel 42 cs = some x) :
    ∃ (s : Sl) (L : (List M.skeplaw06_Step)), cs = ((fun s : Sl => Value.slice s.a s.len s.cap) s).cells.toList ∧ IsL w 3 S.skeplaw06_Step.v (Is.skeplaw06_Step w) s L ∧ ∀ x ∈ L, Wf.skeplaw06_Step x := by
  obtain ⟨s, L, e, _, hR, hQ⟩ := open_sl42 hsp h
  exact ⟨s, L, e, hR, hQ⟩
theorem cells_60 : Try.prog.cellsOf 60 = 4 := by kernel_rfl
structure M.skeplaw06_Op where
  Kind : Int
  N : Int
  M_ : Int
  B : (List Int)
def Is.skeplaw06_Op (w : World) (s : S.skeplaw06_Op) (m : M.skeplaw06_Op) : Prop := s.Kind = m.Kind ∧ s.N = m.N ∧ s.M_ = m.M_ ∧ RdL w 1 (Value.int .u8) s.B m.B
def Wf.skeplaw06_Op (m : M.skeplaw06_Op) : Prop := in64 m.Kind ∧ in64 m.N ∧ in64 m.M_ ∧ (∀ x ∈ m.B, in8 x)
theorem open_skeplaw06_Op {H : Type} {enc : TypeId × Value → H} {w : World} {base : Nat} {spare : Nat → Bool} {held : Bool} {fuel : Nat} {cs : List Value} {x : DataW H × List MemPlace} (hsp : ∀ b, spare b = true) (h : DataW.trod enc Try.prog w base spare held fuel 60 cs = some x) :
    ∃ (s : S.skeplaw06_Op) (m : M.skeplaw06_Op), cs = (S.skeplaw06_Op.v s).cells.toList ∧ Is.skeplaw06_Op w s m ∧ Wf.skeplaw06_Op m := by
  obtain ⟨hl, hf⟩ := field_trod' Try.underlying60 h
  rw [cells_60] at hl
  match cs, hl with
  | [c0, c1, c2, c3], _ =>
    obtain ⟨n0, y0, h0⟩ := hf 0 _ rfl
    simp only [List.getElem_toArray, List.getElem_cons_zero, List.getElem_cons_succ, cells_3, List.drop_zero, List.drop_succ_cons, List.take_succ_cons, List.take_zero] at h0
    obtain ⟨s0, m0, e0, r0, q0⟩ := open_t3 h0
    obtain rfl := List.head_eq_of_cons_eq e0
    obtain ⟨n1, y1, h1⟩ := hf 1 _ rfl
    simp only [List.getElem_toArray, List.getElem_cons_zero, List.getElem_cons_succ, cells_3, List.drop_zero, List.drop_succ_cons, List.take_succ_cons, List.take_zero] at h1
    obtain ⟨s1, m1, e1, r1, q1⟩ := open_t3 h1
    obtain rfl := List.head_eq_of_cons_eq e1
    obtain ⟨n2, y2, h2⟩ := hf 2 _ rfl
    simp only [List.getElem_toArray, List.getElem_cons_zero, List.getElem_cons_succ, cells_3, List.drop_zero, List.drop_succ_cons, List.take_succ_cons, List.take_zero] at h2
    obtain ⟨s2, m2, e2, r2, q2⟩ := open_t3 h2
    obtain rfl := List.head_eq_of_cons_eq e2
    obtain ⟨n3, y3, h3⟩ := hf 3 _ rfl
    simp only [List.getElem_toArray, List.getElem_cons_zero, List.getElem_cons_succ, cells_27, List.drop_zero, List.drop_succ_cons, List.take_succ_cons, List.take_zero] at h3
    obtain ⟨s3, m3, e3, r3, q3⟩ := open_s27 hsp h3
    obtain rfl := List.head_eq_of_cons_eq e3
    exact ⟨⟨s0, s1, s2, s3⟩, ⟨m0, m1, m2, m3⟩, rfl, ⟨r0, r1, r2, r3⟩, q0, q1, q2, q3⟩
theorem cells_53 : Try.prog.cellsOf 53 = 1 := by kernel_rfl
theorem open_sl53 {H : Type} {enc : TypeId × Value → H} {w : World} {base : Nat} {spare : Nat → Bool} {held : Bool} {fuel : Nat} {cs : List Value} {x : DataW H × List MemPlace} (hsp : ∀ b, spare b = true) (h : DataW.trod enc Try.prog w base spare held fuel 53 cs = some x) :
    ∃ (s : Sl) (L : (List M.skeplaw06_Op)), cs = [.slice s.a s.len s.cap] ∧ (s.len ≤ s.cap ∧ s.cap ≤ maxLen) ∧ IsL w 4 S.skeplaw06_Op.v (Is.skeplaw06_Op w) s L ∧ ∀ x ∈ L, Wf.skeplaw06_Op x := by
  obtain ⟨s, L, e, hb, hR, hQ⟩ := open_list (v := S.skeplaw06_Op.v) (R := (Is.skeplaw06_Op w)) (Q := fun m => Wf.skeplaw06_Op m) Try.underlying53 cells_60 (fun s => .inr ⟨_, rfl⟩) (fun fuel cs x h => open_skeplaw06_Op hsp h) hsp h
  exact ⟨s, L, e, hb, hR, hQ⟩
theorem open_s53 {H : Type} {enc : TypeId × Value → H} {w : World} {base : Nat} {spare : Nat → Bool} {held : Bool} {fuel : Nat} {cs : List Value} {x : DataW H × List MemPlace} (hsp : ∀ b, spare b = true) (h : DataW.trod enc Try.prog w base spare held fuel 53 cs = some x) :
    ∃ (s : Sl) (L : (List M.skeplaw06_Op)), cs = ((fun s : Sl => Value.slice s.a s.len s.cap) s).cells.toList ∧ IsL w 4 S.skeplaw06_Op.v (Is.skeplaw06_Op w) s L ∧ ∀ x ∈ L, Wf.skeplaw06_Op x := by
  obtain ⟨s, L, e, _, hR, hQ⟩ := open_sl53 hsp h
  exact ⟨s, L, e, hR, hQ⟩
end Go.Proofs.Ytfgepillnemolaa
