/- What read defers: recover. After the worked text GuardedWalksIn. No conditions. -/
import Derived.Test.YtocbjadhcfjfiaaCod1
import Derived.Tactics
import Derived.Tactics2
import Derived.Defers
import Derived.Recover
import Derived.Laws.Pointers
import Derived.TacticsInMore
import Derived.RegionIn
import Derived.LoopNIn
import Derived.RecoverIn
namespace Go.Proofs.Ytocbjadhcfjfiaa
open Go.RowKit Go.Eng
set_option linter.unusedVariables false
abbrev T0 : Tab := mkTab [] [] [] [] [] [] []
theorem run_code {c : Code} {a : Act} {w : World} {Q : Exit → Act → World → Prop} (n : Nat) (hsz : a.tmps.size = n) (hd : a.defers = []) (hck : ckCode Try.prog T0 n c = true) (POST : World → Prop)
    (h : xcode Try.prog E T0 c ⟨fun t => a.tmps.getD t undef, []⟩ w (fun e w' => e.ms = [] ∧ POST w') (fun _ _ _ => False) (fun _ _ => False) (fun _ _ _ => False)) (hQ : ∀ a' w', a'.defers = [] → POST w' → Q .normal a' w') : c.wpIn Fence.wide 0 Try.prog Q a w := by
  refine wpIn_mono (xcode_sound (E := E) ⟨⟩ mixed c none hck (.inl rfl) _ w _ _ _ _ a ⟨hsz, fun _ => rfl, hd⟩ h) ?_
  intro e a' w' hq
  cases e with
  | normal =>
    obtain ⟨e', h1, h2, h3, h4⟩ := hq
    exact hQ a' w' (h1.dfr.trans h3) h4
  | exit id => obtain ⟨e', h1, h2, h3⟩ := hq; exact h3.elim
  | ret => obtain ⟨e', h1, h2, h3⟩ := hq; exact h3.elim
  | panic c => obtain ⟨e', h1, h2, h3, h4⟩ := hq; exact h4.elim
  | goto l => exact hq.elim
  | outgrown => exact hq.elim
set_option maxRecDepth 100000 in
set_option maxHeartbeats 2000000 in
theorem catch_Op {w : World} {b1 b3 : Nat} {cs0 : List Value} {e0 : Value} (h1 : Blk w b1 cs0) (hl : cs0.length = 3) (h3 : Blk w b3 [e0]) (hne : b1 ≠ b3) :
    CallsDIn Fence.wide 0 Try.prog 103 #[.pointer (PK b1), .pointer (PK b3)] (.panicking noneE) w (fun e u' w' => e = .returned (.tuple #[]) ∧ u' = .panicking [{ v := .iface 151 (.agg #[]), recovered := true }] ∧ Blk w' b1 [.int .i64 0, .int .i64 0, .int .i64 0] ∧ Blk w' b3 [.int .i64 4] ∧ Kp [b1, b3] w w') := by
  refine callsDIn_of_wpSIn Try.func103 rfl trivial fun c₀ cs hu => ?_
  apply wpSIn_seq
  apply wpSIn_region
  simp [wpOpsSIn, go_sem, recoverD, hu, Try.ntmps103, Exit.thenS]
  refine wpSIn_of_wpIn rfl (wpIn_block (wpIn_seq ?_))
  apply wpIn_region
  simp [wpOpsIn, go_sem, Exit.then]
  refine wpIn_cond (t := false) (by simp [Act.eval]) ?_
  simp only [Bool.false_eq_true, if_false]
  refine wpIn_seq ?_
  apply wpIn_region
  simp [wpOpsIn, go_sem, Exit.then]
  refine wpIn_cond (t := true) (by simp [Act.eval, Act.put]) ?_
  simp only [if_true]
  refine run_code 13 (by simp [Act.put]) rfl (by kernel_rfl) (fun w' => Blk w' b1 [.int .i64 0, .int .i64 0, .int .i64 0] ∧ Blk w' b3 [.int .i64 4] ∧ Kp [b1, b3] w w') ?_ ?_
  · have h : ∀ (c1 : Nat) (w2 : World), Alloc w c1 151 [] w2 → (okVal true 0 (.agg #[]) = true ∧ canPut w2 ⟨c1, 0, none⟩ (.agg #[])) ∧ ∀ w3 : World, w3 = putAt w2 ⟨c1, 0, none⟩ (.agg #[]) →
        ∀ (c2 : Nat) (w4 : World), Alloc w3 c2 35 [.int .i64 0, .int .i64 0, .int .i64 0] w4 → ∃ y : S.api_Op, (okVal true 3 (S.api_Op.v y) = true ∧ Go.Eng.rd w4 ⟨c2, 0, none⟩ (S.api_Op.v y)) ∧ (okVal true 3 (S.api_Op.v y) = true ∧ canPut w4 ⟨b1, 0, none⟩ (S.api_Op.v y)) ∧ ∀ w5 : World, w5 = putAt w4 ⟨b1, 0, none⟩ (S.api_Op.v y) →
        (okVal false 1 (.int .i64 4) = true ∧ canPut w5 ⟨b3, 0, none⟩ (.int .i64 4)) ∧ ∀ w6 : World, w6 = putAt w5 ⟨b3, 0, none⟩ (.int .i64 4) → [] = ([] : List Deferred) ∧ (fun w' => Blk w' b1 [.int .i64 0, .int .i64 0, .int .i64 0] ∧ Blk w' b3 [.int .i64 4] ∧ Kp [b1, b3] w w') w6 := by
      intro c1 w2 hA
      refine ⟨⟨rfl, hA.blk.canN _ (Nat.le_refl _)⟩, fun w3 e3 c2 w4 hA4 => ?_⟩
      obtain ⟨g1, g2, g3⟩ := hA.blk.putAll (vs := #[]) rfl e3
      have s2 := hA.eq
      have s4 := hA4.eq
      have l1 := h1.lt
      have l3 := h3.lt
      have k4 : Kp [] w w4 := (hA.kp.then g2 (by simp; omega)).then0 hA4.kp
      have q1 := h1.keep k4 (by simp)
      have q3 := h3.keep k4 (by simp)
      refine ⟨⟨0, 0, 0⟩, ⟨rfl, hA4.blk.rd0⟩, ⟨rfl, q1.canN _ (Nat.le_of_eq (by rw [Nat.zero_add, hl]; rfl))⟩, fun w5 e5 => ?_⟩
      obtain ⟨m1, m2, m3⟩ := q1.putAll (vs := #[.int .i64 0, .int .i64 0, .int .i64 0]) (by rw [hl]; rfl) e5
      have r3 := q3.keep m2 (by simp; omega)
      refine ⟨⟨rfl, r3.can1 _ rfl (Nat.le_of_ble_eq_true rfl)⟩, fun w6 e6 => ?_⟩
      obtain ⟨n1, n2, n3⟩ := r3.put1 rfl e6
      exact ⟨rfl, m1.keep n2 (by simp; omega), n1, ((k4.up _).then m2 (by simp)).then n2 (by simp)⟩
    exact Eq.mp (by kernel_rfl) h
  · rintro a' w' hd ⟨p1, p2, p3⟩
    simp [Exit.inBlock, bodyPostS, results, hd, Try.results103]
    exact ⟨p1, p2, p3⟩
theorem idle_Op {w : World} {b1 b3 : Nat} :
    CallsDIn Fence.wide 0 Try.prog 103 #[.pointer (PK b1), .pointer (PK b3)] .returning w (fun e u' w' => e = .returned (.tuple #[]) ∧ u' = .returning ∧ w' = w) := by
  refine callsDIn_of_wpSIn Try.func103 rfl trivial fun c₀ cs hu => ?_
  apply wpSIn_seq
  apply wpSIn_region
  simp [wpOpsSIn, go_sem, recoverD, hu, Try.ntmps103, Exit.thenS]
  refine wpSIn_of_wpIn rfl (wpIn_block (wpIn_seq ?_))
  apply wpIn_region
  simp [wpOpsIn, go_sem, Exit.then]
  refine wpIn_cond (t := true) (by simp [Act.eval]) ?_
  simp only [if_true]
  apply wpIn_region
  simp [wpOpsIn, go_sem, Exit.inBlock]
  cases c₀
  simp_all [bodyPostS, results, Try.results103]
set_option maxRecDepth 100000 in
set_option maxHeartbeats 2000000 in
theorem catch_Tele {w : World} {b1 b3 : Nat} {cs0 : List Value} {e0 : Value} (h1 : Blk w b1 cs0) (hl : cs0.length = 19) (h3 : Blk w b3 [e0]) (hne : b1 ≠ b3) :
    CallsDIn Fence.wide 0 Try.prog 104 #[.pointer (PK b1), .pointer (PK b3)] (.panicking noneE) w (fun e u' w' => e = .returned (.tuple #[]) ∧ u' = .panicking [{ v := .iface 151 (.agg #[]), recovered := true }] ∧ Blk w' b1 [.int .i64 0, .int .i64 0, .int .i64 0, .int .i64 0, .int .i64 0, .int .i64 0, .int .i64 0, .int .i64 0, .int .i64 0, .bool false, .int .i64 0, .int .i64 0, .bool false, .int .i64 0, .int .i64 0, .int .i64 0, .int .i64 0, .bool false, .int .i64 0] ∧ Blk w' b3 [.int .i64 4] ∧ Kp [b1, b3] w w') := by
  refine callsDIn_of_wpSIn Try.func104 rfl trivial fun c₀ cs hu => ?_
  apply wpSIn_seq
  apply wpSIn_region
  simp [wpOpsSIn, go_sem, recoverD, hu, Try.ntmps104, Exit.thenS]
  refine wpSIn_of_wpIn rfl (wpIn_block (wpIn_seq ?_))
  apply wpIn_region
  simp [wpOpsIn, go_sem, Exit.then]
  refine wpIn_cond (t := false) (by simp [Act.eval]) ?_
  simp only [Bool.false_eq_true, if_false]
  refine wpIn_seq ?_
  apply wpIn_region
  simp [wpOpsIn, go_sem, Exit.then]
  refine wpIn_cond (t := true) (by simp [Act.eval, Act.put]) ?_
  simp only [if_true]
  refine run_code 13 (by simp [Act.put]) rfl (by kernel_rfl) (fun w' => Blk w' b1 [.int .i64 0, .int .i64 0, .int .i64 0, .int .i64 0, .int .i64 0, .int .i64 0, .int .i64 0, .int .i64 0, .int .i64 0, .bool false, .int .i64 0, .int .i64 0, .bool false, .int .i64 0, .int .i64 0, .int .i64 0, .int .i64 0, .bool false, .int .i64 0] ∧ Blk w' b3 [.int .i64 4] ∧ Kp [b1, b3] w w') ?_ ?_
  · have h : ∀ (c1 : Nat) (w2 : World), Alloc w c1 151 [] w2 → (okVal true 0 (.agg #[]) = true ∧ canPut w2 ⟨c1, 0, none⟩ (.agg #[])) ∧ ∀ w3 : World, w3 = putAt w2 ⟨c1, 0, none⟩ (.agg #[]) →
        ∀ (c2 : Nat) (w4 : World), Alloc w3 c2 53 [.int .i64 0, .int .i64 0, .int .i64 0, .int .i64 0, .int .i64 0, .int .i64 0, .int .i64 0, .int .i64 0, .int .i64 0, .bool false, .int .i64 0, .int .i64 0, .bool false, .int .i64 0, .int .i64 0, .int .i64 0, .int .i64 0, .bool false, .int .i64 0] w4 → ∃ y : S.api_Tele, (okVal true 19 (S.api_Tele.v y) = true ∧ Go.Eng.rd w4 ⟨c2, 0, none⟩ (S.api_Tele.v y)) ∧ (okVal true 19 (S.api_Tele.v y) = true ∧ canPut w4 ⟨b1, 0, none⟩ (S.api_Tele.v y)) ∧ ∀ w5 : World, w5 = putAt w4 ⟨b1, 0, none⟩ (S.api_Tele.v y) →
        (okVal false 1 (.int .i64 4) = true ∧ canPut w5 ⟨b3, 0, none⟩ (.int .i64 4)) ∧ ∀ w6 : World, w6 = putAt w5 ⟨b3, 0, none⟩ (.int .i64 4) → [] = ([] : List Deferred) ∧ (fun w' => Blk w' b1 [.int .i64 0, .int .i64 0, .int .i64 0, .int .i64 0, .int .i64 0, .int .i64 0, .int .i64 0, .int .i64 0, .int .i64 0, .bool false, .int .i64 0, .int .i64 0, .bool false, .int .i64 0, .int .i64 0, .int .i64 0, .int .i64 0, .bool false, .int .i64 0] ∧ Blk w' b3 [.int .i64 4] ∧ Kp [b1, b3] w w') w6 := by
      intro c1 w2 hA
      refine ⟨⟨rfl, hA.blk.canN _ (Nat.le_refl _)⟩, fun w3 e3 c2 w4 hA4 => ?_⟩
      obtain ⟨g1, g2, g3⟩ := hA.blk.putAll (vs := #[]) rfl e3
      have s2 := hA.eq
      have s4 := hA4.eq
      have l1 := h1.lt
      have l3 := h3.lt
      have k4 : Kp [] w w4 := (hA.kp.then g2 (by simp; omega)).then0 hA4.kp
      have q1 := h1.keep k4 (by simp)
      have q3 := h3.keep k4 (by simp)
      refine ⟨⟨0, 0, 0, 0, ⟨0, 0, 0, ⟨⟨0, 0⟩, false⟩, ⟨⟨0, 0⟩, false⟩, 0, 0⟩, ⟨⟨0, 0⟩, false⟩, 0⟩, ⟨rfl, hA4.blk.rd0⟩, ⟨rfl, q1.canN _ (Nat.le_of_eq (by rw [Nat.zero_add, hl]; rfl))⟩, fun w5 e5 => ?_⟩
      obtain ⟨m1, m2, m3⟩ := q1.putAll (vs := #[.int .i64 0, .int .i64 0, .int .i64 0, .int .i64 0, .int .i64 0, .int .i64 0, .int .i64 0, .int .i64 0, .int .i64 0, .bool false, .int .i64 0, .int .i64 0, .bool false, .int .i64 0, .int .i64 0, .int .i64 0, .int .i64 0, .bool false, .int .i64 0]) (by rw [hl]; rfl) e5
      have r3 := q3.keep m2 (by simp; omega)
      refine ⟨⟨rfl, r3.can1 _ rfl (Nat.le_of_ble_eq_true rfl)⟩, fun w6 e6 => ?_⟩
      obtain ⟨n1, n2, n3⟩ := r3.put1 rfl e6
      exact ⟨rfl, m1.keep n2 (by simp; omega), n1, ((k4.up _).then m2 (by simp)).then n2 (by simp)⟩
    exact Eq.mp (by kernel_rfl) h
  · rintro a' w' hd ⟨p1, p2, p3⟩
    simp [Exit.inBlock, bodyPostS, results, hd, Try.results104]
    exact ⟨p1, p2, p3⟩
theorem idle_Tele {w : World} {b1 b3 : Nat} :
    CallsDIn Fence.wide 0 Try.prog 104 #[.pointer (PK b1), .pointer (PK b3)] .returning w (fun e u' w' => e = .returned (.tuple #[]) ∧ u' = .returning ∧ w' = w) := by
  refine callsDIn_of_wpSIn Try.func104 rfl trivial fun c₀ cs hu => ?_
  apply wpSIn_seq
  apply wpSIn_region
  simp [wpOpsSIn, go_sem, recoverD, hu, Try.ntmps104, Exit.thenS]
  refine wpSIn_of_wpIn rfl (wpIn_block (wpIn_seq ?_))
  apply wpIn_region
  simp [wpOpsIn, go_sem, Exit.then]
  refine wpIn_cond (t := true) (by simp [Act.eval]) ?_
  simp only [if_true]
  apply wpIn_region
  simp [wpOpsIn, go_sem, Exit.inBlock]
  cases c₀
  simp_all [bodyPostS, results, Try.results104]
end Go.Proofs.Ytocbjadhcfjfiaa
