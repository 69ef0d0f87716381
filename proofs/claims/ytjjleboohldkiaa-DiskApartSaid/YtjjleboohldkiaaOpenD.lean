/- Arguments opened: for this seat's types. Written by opens.py. No conditions. -/
import Derived.Test.YtjjleboohldkiaaTab
import Derived.Test.YtjjleboohldkiaaOpenG
namespace Go.Proofs.Ytjjleboohldkiaa
open Go.RowKit Go.ChangeShapes Go.WideShapes Go.Eng
set_option linter.unusedSimpArgs false
set_option maxRecDepth 100000
set_option linter.unusedVariables false
theorem cells_22 : Try.prog.cellsOf 22 = 1 := by kernel_rfl
theorem cells_5 : Try.prog.cellsOf 5 = 1 := by kernel_rfl
theorem open_t5 {H : Type} {enc : TypeId × Value → H} {w : World} {base : Nat} {spare : Nat → Bool} {held : Bool} {fuel : Nat} {cs : List Value} {x : DataW H × List MemPlace} (h : DataW.trod enc Try.prog w base spare held fuel 5 cs = some x) :
    ∃ (s : Int) (m : Int), cs = ((Value.int .u8) s).cells.toList ∧ s = m ∧ in8 m := by obtain ⟨z, e, _, hw⟩ := DataW.trod_int Try.underlying5 h; exact ⟨z, z, e, rfl, wf8 hw⟩
theorem open_sl22 {H : Type} {enc : TypeId × Value → H} {w : World} {base : Nat} {spare : Nat → Bool} {held : Bool} {fuel : Nat} {cs : List Value} {x : DataW H × List MemPlace} (hsp : ∀ b, spare b = true) (h : DataW.trod enc Try.prog w base spare held fuel 22 cs = some x) :
    ∃ (s : Sl) (L : (List Int)), cs = [.slice s.a s.len s.cap] ∧ (s.len ≤ s.cap ∧ s.cap ≤ maxLen) ∧ RdL w 1 (Value.int .u8) s L ∧ ∀ x ∈ L, in8 x := by
  obtain ⟨s, L, e, hb, hR, hQ⟩ := open_list (v := (Value.int .u8)) (R := (fun x m => x = m)) (Q := fun m => in8 m) Try.underlying22 cells_5 (fun s => .inl rfl) (fun fuel cs x h => open_t5 h) hsp h
  exact ⟨s, L, e, hb, hR.rdl, hQ⟩
theorem open_s22 {H : Type} {enc : TypeId × Value → H} {w : World} {base : Nat} {spare : Nat → Bool} {held : Bool} {fuel : Nat} {cs : List Value} {x : DataW H × List MemPlace} (hsp : ∀ b, spare b = true) (h : DataW.trod enc Try.prog w base spare held fuel 22 cs = some x) :
    ∃ (s : Sl) (L : (List Int)), cs = ((fun s : Sl => Value.slice s.a s.len s.cap) s).cells.toList ∧ RdL w 1 (Value.int .u8) s L ∧ ∀ x ∈ L, in8 x := by
  obtain ⟨s, L, e, _, hR, hQ⟩ := open_sl22 hsp h
  exact ⟨s, L, e, hR, hQ⟩
theorem cells_3 : Try.prog.cellsOf 3 = 1 := by kernel_rfl
theorem open_t3 {H : Type} {enc : TypeId × Value → H} {w : World} {base : Nat} {spare : Nat → Bool} {held : Bool} {fuel : Nat} {cs : List Value} {x : DataW H × List MemPlace} (h : DataW.trod enc Try.prog w base spare held fuel 3 cs = some x) :
    ∃ (s : Int) (m : Int), cs = ((Value.int .i64) s).cells.toList ∧ s = m ∧ in64 m := by obtain ⟨z, e, _, hw⟩ := DataW.trod_int Try.underlying3 h; exact ⟨z, z, e, rfl, wf64 hw⟩
theorem cells_38 : Try.prog.cellsOf 38 = 5 := by kernel_rfl
structure M.skeplaw03_Op where
  Kind : Int
  File : Int
  N : Int
  M_ : Int
  B : (List Int)
def Is.skeplaw03_Op (w : World) (s : S.skeplaw03_Op) (m : M.skeplaw03_Op) : Prop := s.Kind = m.Kind ∧ s.File = m.File ∧ s.N = m.N ∧ s.M_ = m.M_ ∧ RdL w 1 (Value.int .u8) s.B m.B
def Wf.skeplaw03_Op (m : M.skeplaw03_Op) : Prop := in64 m.Kind ∧ in64 m.File ∧ in64 m.N ∧ in64 m.M_ ∧ (∀ x ∈ m.B, in8 x)
theorem open_skeplaw03_Op {H : Type} {enc : TypeId × Value → H} {w : World} {base : Nat} {spare : Nat → Bool} {held : Bool} {fuel : Nat} {cs : List Value} {x : DataW H × List MemPlace} (hsp : ∀ b, spare b = true) (h : DataW.trod enc Try.prog w base spare held fuel 38 cs = some x) :
    ∃ (s : S.skeplaw03_Op) (m : M.skeplaw03_Op), cs = (S.skeplaw03_Op.v s).cells.toList ∧ Is.skeplaw03_Op w s m ∧ Wf.skeplaw03_Op m := by
  obtain ⟨hl, hf⟩ := field_trod' Try.underlying38 h
  rw [cells_38] at hl
  match cs, hl with
  | [c0, c1, c2, c3, c4], _ =>
    obtain ⟨n0, y0, h0⟩ := hf 0 _ rfl
    simp only [List.getElem_toArray, List.getElem_cons_zero, List.getElem_cons_succ, cells_3, List.drop_zero, List.drop_succ_cons, List.take_succ_cons, List.take_zero] at h0
    obtain ⟨s0, m0, e0, r0, q0⟩ := open_t3 h0
    obtain rfl := List.head_eq_of_cons_eq e0
    obtain ⟨n1, y1, h1⟩ := hf 1 _ rfl
    simp only [List.getElem_toArray, List.getElem_cons_zero, List.getElem_cons_succ, cells_3, List.drop_zero, List.drop_succ_cons, List.take_succ_cons, List.take_zero] at h1
    obtain ⟨s1, m1, e1, r1, q1⟩ := open_t3 h1
    obtain rfl := List.head_eq_of_cons_eq e1
    obtain ⟨n2, y2, h2⟩ := hf 2 _ rfl
    simp only [List.getElem_toArray, List.getElem_cons_zero, List.getElem_cons_succ, cells_3, List.drop_zero, List.drop_succ_cons, List.take_succ_cons, List.take_zero] at h2
    obtain ⟨s2, m2, e2, r2, q2⟩ := open_t3 h2
    obtain rfl := List.head_eq_of_cons_eq e2
    obtain ⟨n3, y3, h3⟩ := hf 3 _ rfl
    simp only [List.getElem_toArray, List.getElem_cons_zero, List.getElem_cons_succ, cells_3, List.drop_zero, List.drop_succ_cons, List.take_succ_cons, List.take_zero] at h3
    obtain ⟨s3, m3, e3, r3, q3⟩ := open_t3 h3
    obtain rfl := List.head_eq_of_cons_eq e3
    obtain ⟨n4, y4, h4⟩ := hf 4 _ rfl
    simp only [List.getElem_toArray, List.getElem_cons_zero, List.getElem_cons_succ, cells_22, List.drop_zero, List.drop_succ_cons, List.take_succ_cons, List.take_zero] at h4
    obtain ⟨s4, m4, e4, r4, q4⟩ := open_s22 hsp h4
    obtain rfl := List.head_eq_of_cons_eq e4
    exact ⟨⟨s0, s1, s2, s3, s4⟩, ⟨m0, m1, m2, m3, m4⟩, rfl, ⟨r0, r1, r2, r3, r4⟩, q0, q1, q2, q3, q4⟩
theorem cells_34 : Try.prog.cellsOf 34 = 1 := by kernel_rfl
theorem open_sl34 {H : Type} {enc : TypeId × Value → H} {w : World} {base : Nat} {spare : Nat → Bool} {held : Bool} {fuel : Nat} {cs : List Value} {x : DataW H × List MemPlace} (hsp : ∀ b, spare b = true) (h : DataW.trod enc Try.prog w base spare held fuel 34 cs = some x) :
    ∃ (s : Sl) (L : (List M.skeplaw03_Op)), cs = [.slice s.a s.len s.cap] ∧ (s.len ≤ s.cap ∧ s.cap ≤ maxLen) ∧ IsL w 5 S.skeplaw03_Op.v (Is.skeplaw03_Op w) s L ∧ ∀ x ∈ L, Wf.skeplaw03_Op x := by
  obtain ⟨s, L, e, hb, hR, hQ⟩ := open_list (v := S.skeplaw03_Op.v) (R := (Is.skeplaw03_Op w)) (Q := fun m => Wf.skeplaw03_Op m) Try.underlying34 cells_38 (fun s => .inr ⟨_, rfl⟩) (fun fuel cs x h => open_skeplaw03_Op hsp h) hsp h
  exact ⟨s, L, e, hb, hR, hQ⟩
theorem open_s34 {H : Type} {enc : TypeId × Value → H} {w : World} {base : Nat} {spare : Nat → Bool} {held : Bool} {fuel : Nat} {cs : List Value} {x : DataW H × List MemPlace} (hsp : ∀ b, spare b = true) (h : DataW.trod enc Try.prog w base spare held fuel 34 cs = some x) :
    ∃ (s : Sl) (L : (List M.skeplaw03_Op)), cs = ((fun s : Sl => Value.slice s.a s.len s.cap) s).cells.toList ∧ IsL w 5 S.skeplaw03_Op.v (Is.skeplaw03_Op w) s L ∧ ∀ x ∈ L, Wf.skeplaw03_Op x := by
  obtain ⟨s, L, e, _, hR, hQ⟩ := open_sl34 hsp h
  exact ⟨s, L, e, hR, hQ⟩
end Go.Proofs.Ytjjleboohldkiaa
