/- The law WalTurns. No conditions. -/
import Derived.Test.YthbablipimdaoaaWalT
import Derived.Test.YthbablipimdaoaaCrcMath
namespace Go.Proofs.Ythbablipimdaoaa
open Go.RowKit Go.Eng
set_option linter.unusedVariables false
theorem bi_rd (l : Bs) (i : Nat) (h : i < l.length) : Go.Proofs.Ythbablipimdaoaa.rd (bi l) i = (l[i].toNat : Int) := by
  simp [Go.Proofs.Ythbablipimdaoaa.rd, bi, List.getD_eq_getElem?_getD, h]
theorem bi_inj {a b : Bs} (h : bi a = bi b) : a = b := by
  have hl : a.length = b.length := by have := congrArg List.length h; rwa [bi_len, bi_len] at this
  apply List.ext_getElem hl
  intro i h1 h2
  have e1 := bi_rd a i h1
  have e2 := bi_rd b i h2
  rw [h] at e1
  exact UInt8.toNat.inj (by omega)
/-- A byte that is turned is told by the sum. -/
theorem sum_turn {a : Bs} {i : Nat} (hi : i < a.length) {c : UInt8} (hc : c ≠ a[i]) : sumB a ≠ sumB (a.set i c) := by
  intro h
  have h2 : C.more 0 (bi a) = C.more 0 (bi (a.set i c)) := by rw [← sumB_val, ← sumB_val, h]
  have := C.burst (bi a) (bi (a.set i c)) (8 * i) (bi_in a) (bi_in _) (by rw [bi_len, bi_len, List.length_set]) (fun j hj hk => ?_) h2
  · have e := bi_inj this
    have : a[i] = (a.set i c)[i]'(by rw [List.length_set]; exact hi) := by congr 1
    rw [List.getElem_set_self] at this
    exact hc this.symm
  · unfold C.bitAt
    rw [bi_len] at hj
    have hne : j / 8 ≠ i := by omega
    rw [bi_rd a _ (by omega), bi_rd (a.set i c) _ (by rw [List.length_set]; omega), List.getElem_set_ne (by omega)]
theorem set_app {α : Type} (a b : List α) (j : Nat) (c : α) : (a ++ b).set j c = if j < a.length then a.set j c ++ b else a ++ b.set (j - a.length) c := List.set_append
theorem recAt_turned {s : Bs} (h : okR s) {j : Nat} (h4 : 4 ≤ j) (hj : j < 8 + s.length) {c : UInt8} (hc : c ≠ (recB s)[j]'(by rw [recB_len]; exact hj)) (r : Bs) : recAt ((recB s).set j c ++ r) = none := by
  have hl : ((recB s).set j c ++ r).length = 8 + s.length + r.length := by rw [List.length_append, List.length_set, recB_len]
  obtain ⟨u, hu⟩ : ∃ u, fourB (sumB (fourB s.length ++ s)) ++ s = u := ⟨_, rfl⟩
  have hul : u.length = 4 + s.length := by rw [← hu, List.length_append, fourB_len]
  have e0 : recB s = fourB s.length ++ u := by rw [← hu]; rfl
  have e1 : (recB s).set j c ++ r = fourB s.length ++ (u.set (j - 4) c ++ r) := by rw [e0, set_app, if_neg (by rw [fourB_len]; omega), fourB_len, List.append_assoc]
  have hcu : c ≠ u[j - 4]'(by omega) := by
    intro e
    apply hc
    rw [e]
    have : (recB s)[j]'(by rw [recB_len]; exact hj) = (fourB s.length ++ u)[j]'(by rw [List.length_append, fourB_len]; omega) := by congr 1
    rw [this, List.getElem_append_right (by rw [fourB_len]; omega)]
    rfl
  have ht : toldB ((recB s).set j c ++ r) = s.length := by rw [e1]; exact toldB_four _ (by have := h.2; omega) _
  have h4t : ((recB s).set j c ++ r).take 4 = fourB s.length := by rw [e1]; exact List.take_left' (fourB_len _)
  have hd4 : ((recB s).set j c ++ r).drop 4 = u.set (j - 4) c ++ r := by rw [e1]; exact List.drop_left' (fourB_len _)
  have hd8 : ((recB s).set j c ++ r).drop 8 = (u.set (j - 4) c ++ r).drop 4 := by rw [show 8 = 4 + 4 from rfl, ← List.drop_drop, hd4]
  unfold recAt
  rw [if_neg (by omega), ht, if_neg (by have := h.1; have := h.2; omega), h4t, hd8, hd4, if_neg]
  intro hs
  obtain ⟨e3, _⟩ := four_told (l := u.set (j - 4) c ++ r) (by rw [List.length_append, List.length_set]; omega)
  rw [← hs] at e3
  by_cases h8 : j < 8
  · have e4 : u.set (j - 4) c = (fourB (sumB (fourB s.length ++ s))).set (j - 4) c ++ s := by rw [← hu, set_app, if_pos (by rw [fourB_len]; omega)]
    rw [e4, List.append_assoc, List.drop_left' (by rw [List.length_set, fourB_len]), List.take_left' rfl, List.take_left' (by rw [List.length_set, fourB_len])] at e3
    have hlt : j - 4 < (fourB (sumB (fourB s.length ++ s))).length := by rw [fourB_len]; omega
    have e5 : (fourB (sumB (fourB s.length ++ s)))[j - 4] = ((fourB (sumB (fourB s.length ++ s))).set (j - 4) c)[j - 4]'(by rw [List.length_set]; exact hlt) := by congr 1
    rw [List.getElem_set_self] at e5
    apply hcu
    have : u[j - 4]'(by omega) = (fourB (sumB (fourB s.length ++ s)) ++ s)[j - 4]'(by rw [List.length_append]; omega) := by congr 1; exact hu.symm
    exact e5.symm.trans (this.trans (List.getElem_append_left hlt)).symm
  · have e4 : u.set (j - 4) c = fourB (sumB (fourB s.length ++ s)) ++ s.set (j - 8) c := by rw [← hu, set_app, if_neg (by rw [fourB_len]; omega), fourB_len]; congr 2
    rw [e4, List.append_assoc, List.drop_left' (fourB_len _), List.take_left' (by rw [List.length_set])] at hs
    rw [toldB_four _ (sumB_lt _)] at hs
    have e6 : fourB s.length ++ s.set (j - 8) c = (fourB s.length ++ s).set (j - 4) c := by rw [set_app, if_neg (by rw [fourB_len]; omega), fourB_len]; congr 2
    rw [e6] at hs
    refine sum_turn (a := fourB s.length ++ s) (i := j - 4) (by rw [List.length_append, fourB_len]; omega) ?_ hs.symm
    intro e
    apply hcu
    refine e.trans ?_
    rw [List.getElem_append_right (by rw [fourB_len]; omega)]
    have : u[j - 4]'(by omega) = (fourB (sumB (fourB s.length ++ s)) ++ s)[j - 4]'(by rw [List.length_append, fourB_len]; omega) := by congr 1; exact hu.symm
    rw [this, List.getElem_append_right (by rw [fourB_len]; omega)]
    rfl
theorem drop_split {α : Type} (A : List α) {n : Nat} (h : n < A.length) : A = A.take n ++ (A[n] :: A.drop (n + 1)) := by
  have := (List.take_append_drop n A).symm
  rwa [List.drop_eq_getElem_cons h] at this
/-- A byte that is turned behind a record's length. -/
theorem recs_turned {A : List Bs} (hA : ∀ s ∈ A, okR s) {n : Nat} (hn : n < A.length) {k : Nat} (h1 : endL (A.take n) + 4 ≤ k) (h2 : k < endL (A.take (n + 1))) {c : UInt8} (hk : k < (flatR A).length) (hc : c ≠ (flatR A)[k]) : recs ((flatR A).set k c) = A.take n := by
  have hs := drop_split A hn
  obtain ⟨s, hse⟩ : ∃ s, A[n] = s := ⟨_, rfl⟩
  have hso : okR s := hse ▸ hA _ (List.getElem_mem _)
  have e1 : flatR A = flatR (A.take n) ++ (recB s ++ flatR (A.drop (n + 1))) := by
    rw [hse] at hs
    conv => lhs; rw [hs]
    rw [flatR_app]
    simp [flatR]
  have hl := flatR_len (A.take n)
  have h3 : endL (A.take (n + 1)) = endL (A.take n) + (8 + s.length) := by rw [take_snoc A hn, endL_app, hse]; rfl
  obtain ⟨j, hj⟩ : ∃ j, k - endL (A.take n) = j := ⟨_, rfl⟩
  have e2 : (flatR A).set k c = flatR (A.take n) ++ ((recB s).set j c ++ flatR (A.drop (n + 1))) := by
    rw [e1, set_app, if_neg (by omega), hl, hj, set_app, if_pos (by rw [recB_len]; omega)]
  have hcj : c ≠ (recB s)[j]'(by rw [recB_len]; omega) := by
    intro e
    apply hc
    rw [e]
    have : (flatR A)[k] = (flatR (A.take n) ++ (recB s ++ flatR (A.drop (n + 1))))[k]'(by rw [← e1]; exact hk) := by congr 1
    rw [this, List.getElem_append_right (by omega), List.getElem_append_left (by rw [recB_len]; omega)]
    congr 1
    omega
  rw [e2, recs_flat _ _ (fun s hs => hA s (List.mem_of_mem_take hs)), recs_none (recAt_turned hso (by omega) (by omega) hcj _), List.append_nil]
theorem xor_ne {y b : Int} (hy : in8 y) (hb : in8 b) (h : b ≠ 0) : xorI .u8 y b ≠ y := by
  have e : xorI .u8 y b = C.bx y b := C.bits_bx hy hb
  rw [e]
  unfold C.bx
  intro he
  have h1 : y.toNat ^^^ b.toNat = y.toNat := by have := hy.1; omega
  have h2 := congrArg (y.toNat ^^^ ·) h1
  simp only [← Nat.xor_assoc, Nat.xor_self, Nat.zero_xor] at h2
  have := hb.1
  omega
theorem xor_in8' (y b : Int) : in8 (xorI .u8 y b) := by
  unfold xorI
  rw [IntKind.wrap_u8]
  omega
end Go.Proofs.Ythbablipimdaoaa
