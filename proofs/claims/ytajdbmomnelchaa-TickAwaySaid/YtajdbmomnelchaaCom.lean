/- Small words that all walks of this seat share. -/
import Derived.Test.YtajdbmomnelchaaProg
import Derived.WalkKit
import Derived.ProofKit
import Derived.Handy
import Derived.Deep.QuietTactic
import Derived.BigQuiet
import Derived.Below
import Derived.Deep.Draws
namespace Go.Proofs.Ytajdbmomnelchaa
open Go.RowKit

theorem ret_int {k : IntKind} {a b : Int} (h : a = b) : Ending.returned (.int k a) = .returned (.int k b) := by rw [h]
theorem ret_bool {a b : Bool} (h : a = b) : Ending.returned (.bool a) = .returned (.bool b) := by rw [h]

/-- What lies below stays: two steps. -/
theorem bThen {B : Nat} {w w1 w2 : World} (h : Below B w w1) (k : Below w1.heap.size w1 w2) (hB : B ≤ w.heap.size := by first | exact Nat.le_refl _ | assumption | omega) : Below B w w2 :=
  h.trans (k.mono (Nat.le_trans hB h.size))
theorem bAlloc {B : Nat} {w w1 : World} (h : Below B w w1) (o : Obj) (hB : B ≤ w.heap.size := by first | exact Nat.le_refl _ | assumption | omega) : Below B w (w1.alloc o) := h.alloc (Nat.le_trans hB h.size) o
theorem bDrewN {B : Nat} {w w1 : World} (h : Below B w w1) (n : Nat) : Below B w (w1.drewN n) := ⟨h.os, h.tape, h.output, h.size, h.block⟩
/-- Of a block that is there nothing turns. -/
theorem bcell {W w1 : World} (hb : Below W.heap.size W w1) : (∀ b o, b < W.heap.size → w1.cell? ⟨b, o, none⟩ = W.cell? ⟨b, o, none⟩) ∧ (∀ b o, b < W.heap.size → w1.frozen? ⟨b, o, none⟩ = W.frozen? ⟨b, o, none⟩) :=
  ⟨fun b o h => hb.cell (p := ⟨b, o, none⟩) h, fun b o h => hb.frozen (p := ⟨b, o, none⟩) h⟩
/-- 'Below', kept from the walk. -/
structure BelT (B : Nat) (w w1 : World) : Prop where
  out : Below B w w1
theorem beq_t {a b : Int} (h : a = b) : (a == b) = true := by simpa using h
theorem beq_f {a b : Int} (h : a ≠ b) : (a == b) = false := by simpa using h
theorem bne_f {a b : Int} (h : a = b) : (a != b) = false := by simpa using h
theorem bne_t {a b : Int} (h : a ≠ b) : (a != b) = true := by simpa using h
end Go.Proofs.Ytajdbmomnelchaa
