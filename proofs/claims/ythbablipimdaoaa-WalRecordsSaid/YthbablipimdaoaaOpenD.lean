/- Arguments opened: for this seat's types. Written by opens.py. No conditions. -/
import Derived.Test.YthbablipimdaoaaTab
import Derived.Test.YthbablipimdaoaaOpenG
namespace Go.Proofs.Ythbablipimdaoaa
open Go.RowKit Go.ChangeShapes Go.WideShapes Go.Eng
set_option linter.unusedSimpArgs false
set_option maxRecDepth 100000
set_option linter.unusedVariables false
theorem cells_22 : Try.prog.cellsOf 22 = 1 := by kernel_rfl
theorem cells_5 : Try.prog.cellsOf 5 = 1 := by kernel_rfl
theorem open_t5 {H : Type} {enc : TypeId × Value → H} {w : World} {base : Nat} {spare : Nat → Bool} {held : Bool} {fuel : Nat} {cs : List Value} {x : DataW H × List MemPlace} (h : DataW.trod enc Try.prog w base spare held fuel 5 cs = some x) :
    ∃ (s : Int) (m : Int), cs = ((Value.int .u8) s).cells.toList ∧ s = m ∧ in8 m := by obtain ⟨z, e, _, hw⟩ := DataW.trod_int Try.underlying5 h; exact ⟨z, z, e, rfl, wf8 hw⟩
theorem open_sl22 {H : Type} {enc : TypeId × Value → H} {w : World} {base : Nat} {spare : Nat → Bool} {held : Bool} {fuel : Nat} {cs : List Value} {x : DataW H × List MemPlace} (hsp : ∀ b, spare b = true) (h : DataW.trod enc Try.prog w base spare held fuel 22 cs = some x) :
    ∃ (s : Sl) (L : (List Int)), cs = [.slice s.a s.len s.cap] ∧ (s.len ≤ s.cap ∧ s.cap ≤ maxLen) ∧ RdL w 1 (Value.int .u8) s L ∧ ∀ x ∈ L, in8 x := by
  obtain ⟨s, L, e, hb, hR, hQ⟩ := open_list (v := (Value.int .u8)) (R := (fun x m => x = m)) (Q := fun m => in8 m) Try.underlying22 cells_5 (fun s => .inl rfl) (fun fuel cs x h => open_t5 h) hsp h
  exact ⟨s, L, e, hb, hR.rdl, hQ⟩
theorem open_s22 {H : Type} {enc : TypeId × Value → H} {w : World} {base : Nat} {spare : Nat → Bool} {held : Bool} {fuel : Nat} {cs : List Value} {x : DataW H × List MemPlace} (hsp : ∀ b, spare b = true) (h : DataW.trod enc Try.prog w base spare held fuel 22 cs = some x) :
    ∃ (s : Sl) (L : (List Int)), cs = ((fun s : Sl => Value.slice s.a s.len s.cap) s).cells.toList ∧ RdL w 1 (Value.int .u8) s L ∧ ∀ x ∈ L, in8 x := by
  obtain ⟨s, L, e, _, hR, hQ⟩ := open_sl22 hsp h
  exact ⟨s, L, e, hR, hQ⟩
theorem cells_27 : Try.prog.cellsOf 27 = 1 := by kernel_rfl
theorem open_sl27 {H : Type} {enc : TypeId × Value → H} {w : World} {base : Nat} {spare : Nat → Bool} {held : Bool} {fuel : Nat} {cs : List Value} {x : DataW H × List MemPlace} (hsp : ∀ b, spare b = true) (h : DataW.trod enc Try.prog w base spare held fuel 27 cs = some x) :
    ∃ (s : Sl) (L : (List (List Int))), cs = [.slice s.a s.len s.cap] ∧ (s.len ≤ s.cap ∧ s.cap ≤ maxLen) ∧ IsL w 1 (fun s : Sl => Value.slice s.a s.len s.cap) (fun s L => RdL w 1 (Value.int .u8) s L) s L ∧ ∀ x ∈ L, ∀ y ∈ x, in8 y := by
  obtain ⟨s, L, e, hb, hR, hQ⟩ := open_list (v := (fun s : Sl => Value.slice s.a s.len s.cap)) (R := (fun s L => RdL w 1 (Value.int .u8) s L)) (Q := fun m => ∀ x ∈ m, in8 x) Try.underlying27 cells_22 (fun s => .inl rfl) (fun fuel cs x h => open_s22 hsp h) hsp h
  exact ⟨s, L, e, hb, hR, hQ⟩
theorem open_s27 {H : Type} {enc : TypeId × Value → H} {w : World} {base : Nat} {spare : Nat → Bool} {held : Bool} {fuel : Nat} {cs : List Value} {x : DataW H × List MemPlace} (hsp : ∀ b, spare b = true) (h : DataW.trod enc Try.prog w base spare held fuel 27 cs = some x) :
    ∃ (s : Sl) (L : (List (List Int))), cs = ((fun s : Sl => Value.slice s.a s.len s.cap) s).cells.toList ∧ IsL w 1 (fun s : Sl => Value.slice s.a s.len s.cap) (fun s L => RdL w 1 (Value.int .u8) s L) s L ∧ ∀ x ∈ L, ∀ y ∈ x, in8 y := by
  obtain ⟨s, L, e, _, hR, hQ⟩ := open_sl27 hsp h
  exact ⟨s, L, e, hR, hQ⟩
end Go.Proofs.Ythbablipimdaoaa
