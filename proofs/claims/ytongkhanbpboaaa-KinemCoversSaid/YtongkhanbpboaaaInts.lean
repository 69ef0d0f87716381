/- Lists of whole numbers. No conditions. -/
import Derived.Test.YtongkhanbpboaaaMemF
import Derived.Test.YtongkhanbpboaaaV0
namespace Go.Proofs.Ytongkhanbpboaaa
open Go.RowKit Go.Eng
set_option linter.unusedVariables false
theorem int_info : (Try.prog.info? 3).map (fun i => (i.zero, i.size, i.bytes)) = some (some (.int .i64 0), 1, 8) := by kernel_rfl
abbrev iv (L : List Int) : List Value := L.map (Value.int .i64)
theorem app_ints {ty : TypeId} {w : World} {B b : Nat} {s : Sl} {L : List Int} {v : Int} {w1 : World} (ho : Go.Eng.Own w B 1 s (iv L)) (hA : Alloc w b 3 [.int .i64 v] w1) (hB : B ≤ w.heap.size) (hb : L.length ≤ 1000000000) :
    ∃ q n c w2, (Builtin.append_ #[33, 33] ty #[.slice s.a s.len s.cap, .slice (some ⟨b, 0, none⟩) 1 1]).run Try.prog w1 = .ok (.slice q n c) w2 ∧ n = s.len + 1 ∧ Go.Eng.Own w2 B 1 ⟨q, n, c⟩ (iv (L ++ [v])) ∧ Kp (blkOf s) w w2 ∧ ∀ y ∈ blkOf ⟨q, n, c⟩, y ∈ blkOf s ∨ w.heap.size ≤ y := by
  have h1 := ho.len
  rw [List.length_map] at h1
  have s1 := hA.eq
  obtain ⟨q, n, c, w2, hrun, hn, ho1, k1, hq⟩ := app_any (ty := ty) Try.underlying33 int_info rfl (by decide) (ho.keep0 hA.kp) (show Rds w1 1 ⟨some ⟨b, 0, none⟩, 1, 1⟩ [.int .i64 v] from ⟨rfl, fun _ => ⟨_, rfl, hA.blk.has 0 _ (fun i u hi => by rw [Nat.zero_add]; exact hi)⟩⟩) (fun u hu => by simp at hu; subst hu; rfl) (by omega) (by dsimp only; omega) (by dsimp only; omega)
  have e : iv L ++ [.int .i64 v] = iv (L ++ [v]) := by simp [iv]
  rw [e] at ho1
  refine ⟨q, n, c, w2, hrun, hn, ho1, (hA.kp.up _).then k1 (fun y hy => .inl hy), fun y hy => ?_⟩
  rcases hq with e | ⟨hf, _⟩
  · left; unfold blkOf at hy ⊢; rw [e] at hy; exact hy
  · exact .inr (by have := hf y hy; omega)
theorem iv_get {w : World} {s : Sl} {L : List Int} (h : Rds w 1 s (iv L)) {i : Nat} (hi : i < L.length) : ∃ a, s.a = some a ∧ w.cell? (a.add (i * 1)) = some (.int .i64 L[i]) := by
  have hl := h.len
  rw [List.length_map] at hl
  obtain ⟨a, ha, hh⟩ := h.has (by omega)
  refine ⟨a, ha, ?_⟩
  rw [Nat.mul_one]
  exact hh i _ (by rw [List.getElem?_map, List.getElem?_eq_getElem hi]; rfl)
theorem iv_len {w : World} {s : Sl} {L : List Int} (h : Rds w 1 s (iv L)) : L.length = s.len := by
  have := h.len
  rw [List.length_map] at this
  omega
/-- append onto a nil slice: a copy. -/
theorem copy_ints {ty : TypeId} {w : World} {s : Sl} {L : List Int} (h : Rds w 1 s (iv L)) (hl : L.length ≤ 1000000000) :
    ∃ q n c w2, (Builtin.append_ #[33, 33] ty #[.slice none 0 0, .slice s.a s.len s.cap]).run Try.prog w = .ok (.slice q n c) w2 ∧ Go.Eng.Own w2 w.heap.size 1 ⟨q, n, c⟩ (iv L) ∧ Kp [] w w2 := by
  have h1 := iv_len h
  obtain ⟨q, n, c, w2, hrun, hn, ho1, k1, hq⟩ := app_any (s := ⟨none, 0, 0⟩) (ty := ty) Try.underlying33 int_info rfl (by decide) (Go.Eng.Own.nil w w.heap.size 1) h (fun u hu => by simp only [List.mem_map] at hu; obtain ⟨y, _, rfl⟩ := hu; rfl) (Nat.le_refl _) (by dsimp only; omega) (by dsimp only; omega)
  exact ⟨q, n, c, w2, hrun, by simpa using ho1, k1⟩
theorem SameInts_s (a b : Sl) {A B : List Int} {w : World} (ha : Rds w 1 a (iv A)) (hb : Rds w 1 b (iv B)) (hA : A.length ≤ 1000000000) : C.skeplaw00_SameInts a b w (fun v w' => v = .bool (decide (A = B)) ∧ Kp [] w w') noP := skeplaw00_SameInts_of (by
  unfold W.skeplaw00_SameInts
  have h1 := iv_len ha
  have h2 := iv_len hb
  refine cond_n (fun h => ⟨by
    rw [decide_eq_false]
    intro e
    rw [e] at h1
    omega, Kp.refl _ _⟩) (fun h => ?_)
  refine ⟨fun v w' => ∃ k : Nat, v = k ∧ k ≤ A.length ∧ A.take k = B.take k ∧ Kp [] w w', fun v _ => A.length - v.toNat, ⟨_, rfl, 0, rfl, by omega, rfl, Kp.refl _ _⟩, fun e0 v w5 hI => ?_⟩
  obtain ⟨k, rfl, hk, ht, k5⟩ := hI
  refine cond_d (fun h3 w6 hD => ?_) (fun h3 => ?_)
  · have k6 := k5.then0 hD.kp
    obtain ⟨x, ex, hx⟩ := iv_get (ha.keep0 k6) (i := k) (by omega)
    obtain ⟨y, ey, hy⟩ := iv_get (hb.keep0 k6) (i := k) (by omega)
    have hw : IntKind.i64.wrap ((k : Int) + 1) = (k + 1 : Nat) := by rw [IntKind.wrap_i64]; omega
    rw [ex, ey, Int.toNat_natCast, hw]
    refine ⟨⟨by omega, h3⟩, _, ⟨rfl, hx⟩, ⟨by omega, by omega⟩, _, ⟨rfl, hy⟩, cond_n (fun hne => ⟨?_, k6⟩) (fun heq => ⟨_, rfl, ⟨k + 1, rfl, by omega, ?_, k6⟩, by simp only [Int.toNat_natCast]; omega⟩)⟩
    · rw [decide_eq_false]
      intro he
      subst he
      exact hne rfl
    · rw [List.take_add_one, List.take_add_one, ht, List.getElem?_eq_getElem (by omega), List.getElem?_eq_getElem (by omega), heq]
  · have e1 : k = A.length := by omega
    subst e1
    rw [List.take_length, List.take_of_length_le (by omega)] at ht
    exact ⟨by rw [ht]; simp, k5⟩)
end Go.Proofs.Ytongkhanbpboaaa
