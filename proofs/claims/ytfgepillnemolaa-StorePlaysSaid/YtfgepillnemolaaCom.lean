/- Small words that all walks of this seat share. -/
import Derived.Test.YtfgepillnemolaaProg
import Derived.WalkKit
import Derived.ProofKit
import Derived.Handy
import Derived.Deep.QuietTactic
import Derived.BigQuiet
import Derived.Below
import Derived.Deep.Draws
import Derived.Lib.Hide
namespace Go.Proofs.Ytfgepillnemolaa
open Go.RowKit

theorem ret_int {k : IntKind} {a b : Int} (h : a = b) : Ending.returned (.int k a) = .returned (.int k b) := by rw [h]
theorem ret_bool {a b : Bool} (h : a = b) : Ending.returned (.bool a) = .returned (.bool b) := by rw [h]
theorem val_int {k : IntKind} {a b : Int} (h : a = b) : Value.int k a = .int k b := by rw [h]

/-- What lies below stays: two steps. -/
theorem bThen {B : Nat} {w w1 w2 : World} (h : Below B w w1) (k : Below w1.heap.size w1 w2) (hB : B ≤ w.heap.size := by first | exact Nat.le_refl _ | assumption | omega) : Below B w w2 :=
  h.trans (k.mono (Nat.le_trans hB h.size))
theorem bAlloc {B : Nat} {w w1 : World} (h : Below B w w1) (o : Obj) (hB : B ≤ w.heap.size := by first | exact Nat.le_refl _ | assumption | omega) : Below B w (w1.alloc o) := h.alloc (Nat.le_trans hB h.size) o
theorem bDrewN {B : Nat} {w w1 : World} (h : Below B w w1) (n : Nat) : Below B w (w1.drewN n) := ⟨h.os, h.tape, h.output, h.size, h.block⟩
/-- Of a block that is there nothing turns. -/
theorem bcell {W w1 : World} (hb : Below W.heap.size W w1) : (∀ b o, b < W.heap.size → w1.cell? ⟨b, o, none⟩ = W.cell? ⟨b, o, none⟩) ∧ (∀ b o, b < W.heap.size → w1.frozen? ⟨b, o, none⟩ = W.frozen? ⟨b, o, none⟩) :=
  ⟨fun b o h => hb.cell (p := ⟨b, o, none⟩) h, fun b o h => hb.frozen (p := ⟨b, o, none⟩) h⟩
/-- 'Below', kept from the walk. -/
structure BelT (B : Nat) (w w1 : World) : Prop where
  out : Below B w w1
theorem beq_t {a b : Int} (h : a = b) : (a == b) = true := by simpa using h
theorem beq_f {a b : Int} (h : a ≠ b) : (a == b) = false := by simpa using h
theorem bne_f {a b : Int} (h : a = b) : (a != b) = false := by simpa using h
theorem bne_t {a b : Int} (h : a ≠ b) : (a != b) = true := by simpa using h

/-- The number at a place of a list. -/
def rd (l : List Int) (i : Nat) : Int := l.getD i 0
theorem rd_take_succ (l : List Int) (k : Nat) (h : k < l.length) : l.take (k + 1) = l.take k ++ [rd l k] := by
  rw [List.take_succ_eq_append_getElem h]; simp [rd, List.getD_eq_getElem?_getD, List.getElem?_eq_getElem h]

/-- A slice that reads as these numbers (nil too); its length is theirs. -/
structure Rd (k : IntKind) (w : World) (A : Option Addr) (l : List Int) : Prop where
  len : l.length ≤ 140737488351232
  at_ : 0 < l.length → ∃ ad, A = some ad ∧ ∀ j, j < l.length → w.cell? (ad.add j) = some (.int k (rd l j))
  wf : ∀ x ∈ l, (Lit.int k x).wf = true
theorem Rd.get {k : IntKind} {w : World} {A : Option Addr} {l : List Int} (h : Rd k w A l) (j : Nat) (hj : j < l.length) : ∃ ad, A = some ad ∧ w.cell? (ad.add j) = some (.int k (rd l j)) := by
  obtain ⟨ad, e, hc⟩ := h.at_ (by omega)
  exact ⟨ad, e, hc j hj⟩
theorem rd_mem {l : List Int} {j : Nat} (hj : j < l.length) : rd l j ∈ l := by
  simp [rd, List.getD_eq_getElem?_getD, List.getElem?_eq_getElem hj]
theorem Rd.below {k : IntKind} {w w1 : World} {A : Option Addr} {l : List Int} (h : Rd k w A l) (hb : Below w.heap.size w w1) : Rd k w1 A l :=
  ⟨h.len, fun hn => by
    obtain ⟨ad, e, hc⟩ := h.at_ hn
    exact ⟨ad, e, fun j hj => (hb.cell (World.block_lt_of_cell? w _ (hc j hj))).trans (hc j hj)⟩, h.wf⟩
theorem Rd.drewN {k : IntKind} {w : World} {A : Option Addr} {l : List Int} (h : Rd k w A l) (n : Nat) : Rd k (w.drewN n) A l := h.below (bDrewN (Below.refl _ _) n)
theorem Rd.drew {k : IntKind} {w : World} {A : Option Addr} {l : List Int} (h : Rd k w A l) : Rd k w.drew A l := h.below (Below.refl _ _).drew
theorem Rd.nil {k : IntKind} {w : World} {A : Option Addr} : Rd k w A [] := ⟨by simp, fun h => by simp at h, by simp⟩
theorem wf_u8 {x : Int} (h : (Lit.int .u8 x).wf = true) : 0 ≤ x ∧ x ≤ 255 := by simpa [Lit.wf, IntKind.has, IntKind.min, IntKind.max, IntKind.signed, IntKind.bits] using h
theorem wf_of_u8 {x : Int} (h0 : 0 ≤ x) (h1 : x ≤ 255) : (Lit.int .u8 x).wf = true := by simp [Lit.wf, IntKind.min, IntKind.max, IntKind.signed, IntKind.bits]; omega
theorem wf_u32 {x : Int} (h : (Lit.int .u32 x).wf = true) : 0 ≤ x ∧ x ≤ 4294967295 := by simpa [Lit.wf, IntKind.has, IntKind.min, IntKind.max, IntKind.signed, IntKind.bits] using h
theorem wf_i64 {x : Int} (h : (Lit.int .i64 x).wf = true) : -9223372036854775808 ≤ x ∧ x ≤ 9223372036854775807 := by simpa [Lit.wf, IntKind.has, IntKind.min, IntKind.max, IntKind.signed, IntKind.bits] using h
theorem Rd.u8 {w : World} {A : Option Addr} {l : List Int} (h : Rd .u8 w A l) (j : Nat) (hj : j < l.length) : 0 ≤ rd l j ∧ rd l j ≤ 255 := wf_u8 (h.wf _ (rd_mem hj))
end Go.Proofs.Ytfgepillnemolaa
