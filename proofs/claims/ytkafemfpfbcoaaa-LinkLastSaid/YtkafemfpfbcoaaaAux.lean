/- Small things for the proofs by my engine. No conditions. -/
import Derived.Test.YtkafemfpfbcoaaaEng
import Derived.IntWalk
namespace Go.Eng
open Go.RowKit
set_option linter.unusedVariables false
abbrev noP : List PanicEntry → World → Prop := fun _ _ => False
theorem cond_t {t : Bool} {X Y : Prop} (h : t = true) (k : X) : cond t X Y := by subst h; exact k
theorem cond_f {t : Bool} {X Y : Prop} (h : t = false) (k : Y) : cond t X Y := by subst h; exact k
theorem ret_true {P : Program} {f : Nat} {args : Array Value} {w : World} (h : Calls P f args w (Ret (fun v w' => v = .bool true ∧ Kp [] w w') noP)) : Calls P f args w fun e w' => e = .returned (.bool true) ∧ Below w.heap.size w w' :=
  h.mono fun e w' he => by
    cases e with
    | returned v => obtain ⟨rfl, k⟩ := he; exact ⟨rfl, k.below⟩
    | panicked c => exact he.elim
    | outgrown => exact he.elim
theorem set_get {α : Type} {cs : List α} {o n : Nat} {vs : List α} (hl : vs.length = n) (ho : o + n ≤ cs.length) (j : Nat) :
    (cs.take o ++ vs ++ cs.drop (o + n))[j]? = if j < o then cs[j]? else if j < o + n then vs[j - o]? else cs[j]? := by
  rw [List.append_assoc, List.getElem?_append]
  simp only [List.length_take, Nat.min_eq_left (show o ≤ cs.length by omega)]
  split
  · rename_i h; simp [h]
  · rename_i h
    rw [List.getElem?_append]
    split
    · rename_i h2; rw [if_pos (by omega)]
    · rename_i h2; rw [if_neg (by omega), List.getElem?_drop]; congr 1; omega
theorem w64 {x : Int} {y : Int} (h : -9223372036854775808 ≤ x ∧ x ≤ 9223372036854775807 ∧ x = y) : IntKind.i64.wrap x = y := by rw [IntWalk.i64_in _ ⟨h.1, h.2.1⟩]; exact h.2.2
end Go.Eng
