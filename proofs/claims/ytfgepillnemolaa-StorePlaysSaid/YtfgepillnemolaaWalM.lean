/- The records of a log: the plain law. No conditions. -/
import Derived.Test.YtfgepillnemolaaMemF
import Derived.Test.YtfgepillnemolaaCrc
namespace Go.Proofs.Ytfgepillnemolaa
open Go.RowKit Go.Eng
set_option linter.unusedVariables false
def bi (l : Bs) : List Int := l.map fun x => (x.toNat : Int)
theorem bi_len (l : Bs) : (bi l).length = l.length := by simp [bi]
theorem bi_app (a b : Bs) : bi (a ++ b) = bi a ++ bi b := by simp [bi]
theorem bi_in (l : Bs) : ∀ x ∈ bi l, 0 ≤ x ∧ x ≤ 255 := by
  intro x hx
  simp only [bi, List.mem_map] at hx
  obtain ⟨y, _, rfl⟩ := hx
  have := y.toNat_lt
  omega
/-- The sum of bytes. -/
def sumI (l : Bs) : Int := C.more 0 (bi l)
theorem more_range (s : Int) (l : List Int) : 0 ≤ C.more s l ∧ C.more s l ≤ 4294967295 := by
  unfold C.more
  have := (~~~ (C.run (~~~ BitVec.ofInt 32 s) l)).isLt
  omega
theorem more_more (s : Int) (a b : List Int) : C.more (C.more s a) b = C.more s (a ++ b) := by
  have h : BitVec.ofInt 32 (C.more s a) = ~~~ (C.run (~~~ BitVec.ofInt 32 s) a) := C.ofInt_toNat _
  have h2 : C.run (~~~ BitVec.ofInt 32 s) (a ++ b) = C.run (C.run (~~~ BitVec.ofInt 32 s) a) b := List.foldl_append ..
  show ((~~~ (C.run (~~~ BitVec.ofInt 32 (C.more s a)) b)).toNat : Int) = ((~~~ (C.run (~~~ BitVec.ofInt 32 s) (a ++ b))).toNat : Int)
  rw [h, h2, BitVec.not_not]
def sumB (l : Bs) : Nat := (sumI l).toNat
theorem sumB_lt (l : Bs) : sumB l < 4294967296 := by
  have := more_range 0 (bi l)
  unfold sumB sumI
  omega
theorem sumB_val (l : Bs) : (sumB l : Int) = C.more 0 (bi l) := by
  have := more_range 0 (bi l)
  unfold sumB sumI
  omega
def fourB (n : Nat) : Bs := [UInt8.ofNat n, UInt8.ofNat (n / 256), UInt8.ofNat (n / 65536), UInt8.ofNat (n / 16777216)]
theorem fourB_len (n : Nat) : (fourB n).length = 4 := rfl
def toldB : Bs → Nat
  | a :: b :: c :: d :: _ => a.toNat + 256 * b.toNat + 65536 * c.toNat + 16777216 * d.toNat
  | _ => 0
theorem toldB_four (n : Nat) (h : n < 4294967296) (r : Bs) : toldB (fourB n ++ r) = n := by
  simp only [fourB, List.cons_append, toldB, UInt8.toNat_ofNat']
  omega
theorem four_told {l : Bs} (h : 4 ≤ l.length) : fourB (toldB l) = l.take 4 ∧ toldB l < 4294967296 := by
  match l, h with
  | a :: b :: c :: d :: r, _ =>
    have ha := a.toNat_lt; have hb := b.toNat_lt; have hc := c.toNat_lt; have hd := d.toNat_lt
    simp only [toldB, fourB, List.take_succ_cons, List.take_zero]
    refine ⟨?_, by omega⟩
    refine List.cons_eq_cons.2 ⟨?_, List.cons_eq_cons.2 ⟨?_, List.cons_eq_cons.2 ⟨?_, List.cons_eq_cons.2 ⟨?_, rfl⟩⟩⟩⟩ <;>
      (apply UInt8.toNat.inj; rw [UInt8.toNat_ofNat']; omega)
theorem toldB_take (l : Bs) : toldB (l.take 4) = toldB l := by
  match l with
  | [] => rfl
  | [a] => rfl
  | [a, b] => rfl
  | [a, b, c] => rfl
  | a :: b :: c :: d :: r => rfl
def okR (s : Bs) : Prop := 1 ≤ s.length ∧ s.length ≤ 65536
def recB (s : Bs) : Bs := fourB s.length ++ (fourB (sumB (fourB s.length ++ s)) ++ s)
theorem recB_len (s : Bs) : (recB s).length = 8 + s.length := by simp [recB, fourB_len]; omega
def recAt (l : Bs) : Option Bs :=
  if l.length < 8 then none else
  if toldB l < 1 ∨ 65536 < toldB l ∨ l.length - 8 < toldB l then none else
  if sumB (l.take 4 ++ (l.drop 8).take (toldB l)) = toldB (l.drop 4) then some ((l.drop 8).take (toldB l)) else none
theorem recAt_rec {s : Bs} (h : okR s) (r : Bs) : recAt (recB s ++ r) = some s := by
  have hl : (recB s ++ r).length = 8 + s.length + r.length := by rw [List.length_append, recB_len]
  have ht : toldB (recB s ++ r) = s.length := by
    unfold recB
    rw [List.append_assoc]
    exact toldB_four _ (by have := h.2; omega) _
  have h4 : (recB s ++ r).take 4 = fourB s.length := by
    unfold recB
    rw [List.append_assoc]
    exact List.take_left' (fourB_len _)
  have hd4 : (recB s ++ r).drop 4 = fourB (sumB (fourB s.length ++ s)) ++ (s ++ r) := by
    unfold recB
    rw [List.append_assoc, List.drop_left' (fourB_len _), List.append_assoc]
  have hd8 : (recB s ++ r).drop 8 = s ++ r := by
    rw [show 8 = 4 + 4 from rfl, ← List.drop_drop, hd4]
    exact List.drop_left' (fourB_len _)
  unfold recAt
  rw [if_neg (by omega), ht, if_neg (by have := h.1; have := h.2; omega), h4, hd8, hd4, List.take_left' rfl, toldB_four _ (sumB_lt _), if_pos rfl]
theorem recAt_some {l s : Bs} (h : recAt l = some s) : okR s ∧ 8 + s.length ≤ l.length ∧ l = recB s ++ l.drop (8 + s.length) := by
  unfold recAt at h
  split at h
  · cases h
  · split at h
    · cases h
    · split at h
      · rename_i h1 h2 h3
        injection h with h
        have hn : s.length = toldB l := by rw [← h, List.length_take, List.length_drop]; omega
        refine ⟨⟨by omega, by omega⟩, by omega, ?_⟩
        rw [h] at h3
        obtain ⟨e1, l1⟩ := four_told (l := l) (by omega)
        obtain ⟨e2, l2⟩ := four_told (l := l.drop 4) (by rw [List.length_drop]; omega)
        have x1 : recB s = l.take 4 ++ ((l.drop 4).take 4 ++ s) := by
          unfold recB
          rw [hn, e1, h3, e2]
        rw [x1]
        have e3 : l.drop 8 = s ++ l.drop (8 + s.length) := by
          rw [← h]
          have := (List.take_append_drop (toldB l) (l.drop 8)).symm
          rw [List.drop_drop] at this
          rw [h] at this ⊢
          rw [hn]
          exact this
        have e4 : l.drop 4 = (l.drop 4).take 4 ++ l.drop 8 := by
          have := (List.take_append_drop 4 (l.drop 4)).symm
          rwa [List.drop_drop] at this
        have e5 := (List.take_append_drop 4 l).symm
        rw [List.append_assoc, List.append_assoc, ← e3, ← e4]
        exact e5
      · cases h
def recsN : Nat → Bs → List Bs
  | 0, _ => []
  | k + 1, l => match recAt l with
    | none => []
    | some s => s :: recsN k (l.drop (8 + s.length))
def recs (l : Bs) : List Bs := recsN l.length l
theorem recAt_short {l : Bs} (h : l.length < 8) : recAt l = none := by unfold recAt; rw [if_pos h]
theorem recsN_more : ∀ (k : Nat) (l : Bs), l.length ≤ k → recsN k l = recsN l.length l := by
  intro k
  induction k using Nat.strongRecOn with
  | ind k ih =>
    intro l hl
    cases k with
    | zero => rw [show l.length = 0 by omega]
    | succ k =>
      by_cases h0 : l.length = 0
      · rw [h0, recsN, recsN, recAt_short (by omega)]
      · obtain ⟨n, hn⟩ : ∃ n, l.length = n + 1 := ⟨l.length - 1, by omega⟩
        rw [hn, recsN, recsN]
        cases hr : recAt l with
        | none => rfl
        | some s =>
          obtain ⟨ho, hle, _⟩ := recAt_some hr
          have hd : (l.drop (8 + s.length)).length ≤ n := by rw [List.length_drop]; omega
          simp only
          rw [ih k (by omega) _ (by omega), ih n (by omega) _ hd]
theorem recs_step (l : Bs) : recs l = match recAt l with | none => [] | some s => s :: recs (l.drop (8 + s.length)) := by
  unfold recs
  by_cases h0 : l.length = 0
  · rw [h0, recsN, recAt_short (by omega)]
  · obtain ⟨n, hn⟩ : ∃ n, l.length = n + 1 := ⟨l.length - 1, by omega⟩
    rw [hn, recsN]
    cases hr : recAt l with
    | none => rfl
    | some s =>
      have hd : (l.drop (8 + s.length)).length ≤ n := by rw [List.length_drop]; omega
      simp only
      rw [recsN_more n _ hd]
theorem recs_none {l : Bs} (h : recAt l = none) : recs l = [] := by rw [recs_step, h]
theorem recs_some {l s : Bs} (h : recAt l = some s) : recs l = s :: recs (l.drop (8 + s.length)) := by rw [recs_step, h]
def endL : List Bs → Nat
  | [] => 0
  | s :: r => 8 + s.length + endL r
theorem endL_app (a b : List Bs) : endL (a ++ b) = endL a + endL b := by
  induction a with
  | nil => simp [endL]
  | cons s r ih => simp only [List.cons_append, endL, ih]; omega
def flatR (L : List Bs) : Bs := L.flatMap recB
theorem flatR_len (L : List Bs) : (flatR L).length = endL L := by
  unfold flatR
  induction L with
  | nil => rfl
  | cons s r ih => rw [List.flatMap_cons, List.length_append, recB_len, ih, endL]
theorem flatR_app (a b : List Bs) : flatR (a ++ b) = flatR a ++ flatR b := by simp [flatR]
theorem flatR_one (s : Bs) : flatR [s] = recB s := by simp [flatR]
theorem recs_flat : ∀ (L : List Bs) (r : Bs), (∀ s ∈ L, okR s) → recs (flatR L ++ r) = L ++ recs r
  | [], r, _ => rfl
  | s :: L, r, h => by
    have e : flatR (s :: L) ++ r = recB s ++ (flatR L ++ r) := by simp [flatR]
    rw [e, recs_some (recAt_rec (h s (List.mem_cons_self ..)) _), List.drop_left' (recB_len s), recs_flat L r (fun x hx => h x (List.mem_cons_of_mem _ hx))]
    rfl
theorem recs_nil : recs [] = [] := rfl
theorem recs_all {L : List Bs} (h : ∀ s ∈ L, okR s) : recs (flatR L) = L := by
  have := recs_flat L [] h
  rwa [List.append_nil, recs_nil, List.append_nil] at this
/-- What the records say are the bytes ahead. -/
theorem recs_bytes : ∀ (n : Nat) (l : Bs), l.length ≤ n → endL (recs l) ≤ l.length ∧ l = flatR (recs l) ++ l.drop (endL (recs l)) ∧ ∀ s ∈ recs l, okR s
  | 0, l, h => by
    have : l = [] := List.length_eq_zero_iff.1 (by omega)
    subst this
    exact ⟨Nat.le_refl _, rfl, by simp [recs_nil]⟩
  | n + 1, l, h => by
    cases hr : recAt l with
    | none => rw [recs_none hr]; exact ⟨Nat.zero_le _, rfl, by simp⟩
    | some s =>
      obtain ⟨ho, hle, he⟩ := recAt_some hr
      obtain ⟨i1, i2, i3⟩ := recs_bytes n (l.drop (8 + s.length)) (by rw [List.length_drop]; omega)
      rw [recs_some hr]
      rw [List.length_drop] at i1
      refine ⟨by rw [endL]; omega, ?_, ?_⟩
      · have e : flatR (s :: recs (l.drop (8 + s.length))) = recB s ++ flatR (recs (l.drop (8 + s.length))) := by simp [flatR]
        have e2 : l.drop (8 + s.length + endL (recs (l.drop (8 + s.length)))) = (l.drop (8 + s.length)).drop (endL (recs (l.drop (8 + s.length)))) := by rw [List.drop_drop]
        rw [e, endL, e2, List.append_assoc, ← i2]
        exact he
      · intro x hx
        rcases List.mem_cons.1 hx with rfl | hx
        · exact ho
        · exact i3 x hx
theorem recs_end (l : Bs) : endL (recs l) ≤ l.length := (recs_bytes _ l (Nat.le_refl _)).1
theorem recs_take (l : Bs) : l.take (endL (recs l)) = flatR (recs l) := by
  obtain ⟨h1, h2, h3⟩ := recs_bytes _ l (Nat.le_refl _)
  have : (flatR (recs l) ++ l.drop (endL (recs l))).take (endL (recs l)) = flatR (recs l) := List.take_left' (flatR_len _)
  rwa [← h2] at this
theorem recs_ok (l : Bs) : ∀ s ∈ recs l, okR s := (recs_bytes _ l (Nat.le_refl _)).2.2
/-- A record that is broken off is none. -/
theorem recAt_torn {s : Bs} (h : okR s) {k : Nat} (hk : k < 8 + s.length) : recAt ((recB s).take k) = none := by
  have hl : ((recB s).take k).length = k := by rw [List.length_take, recB_len]; omega
  by_cases h8 : k < 8
  · exact recAt_short (by omega)
  · have ht : toldB ((recB s).take k) = s.length := by
      rw [← toldB_take, List.take_take, Nat.min_eq_left (by omega), toldB_take]
      exact toldB_four _ (by have := h.2; omega) _
    unfold recAt
    rw [if_neg (by omega), ht, if_pos (by omega)]
theorem recs_torn : ∀ (L : List Bs), (∀ s ∈ L, okR s) → ∀ k, ∃ j, j ≤ L.length ∧ recs ((flatR L).take k) = L.take j
  | [], _, k => ⟨0, Nat.le_refl _, by simp [flatR, recs_nil]⟩
  | s :: L, h, k => by
    have e : flatR (s :: L) = recB s ++ flatR L := by simp [flatR]
    have hs := h s (List.mem_cons_self ..)
    rw [e]
    by_cases hk : k < 8 + s.length
    · rw [List.take_append_of_le_length (by rw [recB_len]; omega), recs_none (recAt_torn hs hk)]
      exact ⟨0, Nat.zero_le _, rfl⟩
    · obtain ⟨j, hj, ej⟩ := recs_torn L (fun x hx => h x (List.mem_cons_of_mem _ hx)) (k - (8 + s.length))
      rw [List.take_append, List.take_of_length_le (by rw [recB_len]; omega), recB_len, recs_some (recAt_rec hs _), List.drop_left' (recB_len s), ej]
      exact ⟨j + 1, by simp only [List.length_cons]; omega, rfl⟩
end Go.Proofs.Ytfgepillnemolaa
