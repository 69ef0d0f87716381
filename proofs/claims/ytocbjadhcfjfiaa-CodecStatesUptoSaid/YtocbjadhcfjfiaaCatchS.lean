/- What read defers: recover. After the worked text GuardedWalksIn. No conditions. -/
import Derived.Test.YtocbjadhcfjfiaaCatchE
import Derived.Tactics
import Derived.Tactics2
import Derived.Defers
import Derived.Recover
import Derived.Laws.Pointers
import Derived.TacticsInMore
import Derived.RegionIn
import Derived.LoopNIn
import Derived.RecoverIn
namespace Go.Proofs.Ytocbjadhcfjfiaa
open Go.RowKit Go.Eng
set_option linter.unusedVariables false
set_option maxRecDepth 100000 in
set_option maxHeartbeats 2000000 in
theorem catch_State {w : World} {b1 b3 : Nat} {cs0 : List Value} {e0 : Value} (h1 : Blk w b1 cs0) (hl : cs0.length = 10) (h3 : Blk w b3 [e0]) (hne : b1 ≠ b3) :
    CallsDIn Fence.wide 0 Try.prog 106 #[.pointer (PK b1), .pointer (PK b3)] (.panicking noneE) w (fun e u' w' => e = .returned (.tuple #[]) ∧ u' = .panicking [{ v := .iface 151 (.agg #[]), recovered := true }] ∧ Blk w' b1 [.int .i64 0, .int .i64 0, .bool false, .slice none 0 0, .slice none 0 0, .slice none 0 0, .slice none 0 0, .slice none 0 0, .int .i64 0, .int .i64 0] ∧ Blk w' b3 [.int .i64 4] ∧ Kp [b1, b3] w w') := by
  refine callsDIn_of_wpSIn Try.func106 rfl trivial fun c₀ cs hu => ?_
  apply wpSIn_seq
  apply wpSIn_region
  simp [wpOpsSIn, go_sem, recoverD, hu, Try.ntmps106, Exit.thenS]
  refine wpSIn_of_wpIn rfl (wpIn_block (wpIn_seq ?_))
  apply wpIn_region
  simp [wpOpsIn, go_sem, Exit.then]
  refine wpIn_cond (t := false) (by simp [Act.eval]) ?_
  simp only [Bool.false_eq_true, if_false]
  refine wpIn_seq ?_
  apply wpIn_region
  simp [wpOpsIn, go_sem, Exit.then]
  refine wpIn_cond (t := true) (by simp [Act.eval, Act.put]) ?_
  simp only [if_true]
  refine run_code 13 (by simp [Act.put]) rfl (by kernel_rfl) (fun w' => Blk w' b1 [.int .i64 0, .int .i64 0, .bool false, .slice none 0 0, .slice none 0 0, .slice none 0 0, .slice none 0 0, .slice none 0 0, .int .i64 0, .int .i64 0] ∧ Blk w' b3 [.int .i64 4] ∧ Kp [b1, b3] w w') ?_ ?_
  · have h : ∀ (c1 : Nat) (w2 : World), Alloc w c1 151 [] w2 → (okVal true 0 (.agg #[]) = true ∧ canPut w2 ⟨c1, 0, none⟩ (.agg #[])) ∧ ∀ w3 : World, w3 = putAt w2 ⟨c1, 0, none⟩ (.agg #[]) →
        ∀ (c2 : Nat) (w4 : World), Alloc w3 c2 78 [.int .i64 0, .int .i64 0, .bool false, .slice none 0 0, .slice none 0 0, .slice none 0 0, .slice none 0 0, .slice none 0 0, .int .i64 0, .int .i64 0] w4 → ∃ y : S.api_State, (okVal true 10 (S.api_State.v y) = true ∧ Go.Eng.rd w4 ⟨c2, 0, none⟩ (S.api_State.v y)) ∧ (okVal true 10 (S.api_State.v y) = true ∧ canPut w4 ⟨b1, 0, none⟩ (S.api_State.v y)) ∧ ∀ w5 : World, w5 = putAt w4 ⟨b1, 0, none⟩ (S.api_State.v y) →
        (okVal false 1 (.int .i64 4) = true ∧ canPut w5 ⟨b3, 0, none⟩ (.int .i64 4)) ∧ ∀ w6 : World, w6 = putAt w5 ⟨b3, 0, none⟩ (.int .i64 4) → [] = ([] : List Deferred) ∧ (fun w' => Blk w' b1 [.int .i64 0, .int .i64 0, .bool false, .slice none 0 0, .slice none 0 0, .slice none 0 0, .slice none 0 0, .slice none 0 0, .int .i64 0, .int .i64 0] ∧ Blk w' b3 [.int .i64 4] ∧ Kp [b1, b3] w w') w6 := by
      intro c1 w2 hA
      refine ⟨⟨rfl, hA.blk.canN _ (Nat.le_refl _)⟩, fun w3 e3 c2 w4 hA4 => ?_⟩
      obtain ⟨g1, g2, g3⟩ := hA.blk.putAll (vs := #[]) rfl e3
      have s2 := hA.eq
      have s4 := hA4.eq
      have l1 := h1.lt
      have l3 := h3.lt
      have k4 : Kp [] w w4 := (hA.kp.then g2 (by simp; omega)).then0 hA4.kp
      have q1 := h1.keep k4 (by simp)
      have q3 := h3.keep k4 (by simp)
      refine ⟨⟨0, 0, false, ⟨none, 0, 0⟩, ⟨none, 0, 0⟩, ⟨none, 0, 0⟩, ⟨none, 0, 0⟩, ⟨none, 0, 0⟩, 0, 0⟩, ⟨rfl, hA4.blk.rd0⟩, ⟨rfl, q1.canN _ (Nat.le_of_eq (by rw [Nat.zero_add, hl]; rfl))⟩, fun w5 e5 => ?_⟩
      obtain ⟨m1, m2, m3⟩ := q1.putAll (vs := #[.int .i64 0, .int .i64 0, .bool false, .slice none 0 0, .slice none 0 0, .slice none 0 0, .slice none 0 0, .slice none 0 0, .int .i64 0, .int .i64 0]) (by rw [hl]; rfl) e5
      have r3 := q3.keep m2 (by simp; omega)
      refine ⟨⟨rfl, r3.can1 _ rfl (Nat.le_of_ble_eq_true rfl)⟩, fun w6 e6 => ?_⟩
      obtain ⟨n1, n2, n3⟩ := r3.put1 rfl e6
      exact ⟨rfl, m1.keep n2 (by simp; omega), n1, ((k4.up _).then m2 (by simp)).then n2 (by simp)⟩
    exact Eq.mp (by kernel_rfl) h
  · rintro a' w' hd ⟨p1, p2, p3⟩
    simp [Exit.inBlock, bodyPostS, results, hd, Try.results106]
    exact ⟨p1, p2, p3⟩
theorem idle_State {w : World} {b1 b3 : Nat} :
    CallsDIn Fence.wide 0 Try.prog 106 #[.pointer (PK b1), .pointer (PK b3)] .returning w (fun e u' w' => e = .returned (.tuple #[]) ∧ u' = .returning ∧ w' = w) := by
  refine callsDIn_of_wpSIn Try.func106 rfl trivial fun c₀ cs hu => ?_
  apply wpSIn_seq
  apply wpSIn_region
  simp [wpOpsSIn, go_sem, recoverD, hu, Try.ntmps106, Exit.thenS]
  refine wpSIn_of_wpIn rfl (wpIn_block (wpIn_seq ?_))
  apply wpIn_region
  simp [wpOpsIn, go_sem, Exit.then]
  refine wpIn_cond (t := true) (by simp [Act.eval]) ?_
  simp only [if_true]
  apply wpIn_region
  simp [wpOpsIn, go_sem, Exit.inBlock]
  cases c₀
  simp_all [bodyPostS, results, Try.results106]
end Go.Proofs.Ytocbjadhcfjfiaa
