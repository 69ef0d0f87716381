/- From when to when a robot is on a cell: the plain law. No conditions. -/
import Derived.Test.YtongkhanbpboaaaKinY
namespace Go.Proofs.Ytongkhanbpboaaa
open Go.RowKit Go.Eng
set_option linter.unusedVariables false
def cnt (p : Nat → Bool) : Nat → Nat
  | 0 => 0
  | n + 1 => if p n = true then cnt p n + 1 else cnt p n
theorem cnt_le (p : Nat → Bool) : ∀ n, cnt p n ≤ n
  | 0 => Nat.le_refl _
  | n + 1 => by
    rw [cnt]
    have := cnt_le p n
    split <;> omega
theorem cnt_iff {p : Nat → Bool} (hp : ∀ s t, s ≤ t → p t = true → p s = true) : ∀ n t, t < n → (p t = true ↔ t < cnt p n)
  | 0, t, h => by omega
  | n + 1, t, h => by
    have ih := cnt_iff hp n
    have hl := cnt_le p n
    rw [cnt]
    by_cases hn : p n = true
    · rw [if_pos hn]
      have e : cnt p n = n := by
        rcases Nat.lt_or_ge (cnt p n) n with h1 | h1
        · have := (ih _ h1).1 (hp _ _ (by omega) hn)
          omega
        · omega
      exact ⟨fun _ => by omega, fun _ => hp _ _ (by omega) hn⟩
    · rw [if_neg hn]
      by_cases e : t = n
      · subst e
        exact ⟨fun h => absurd h hn, fun h => by omega⟩
      · exact ih t (by omega)
def loW (u : Nat) (l : List Nat) (ln i : Nat) : Nat := cnt (fun t => decide (posA 0 l (t + 1) + ln * u ≤ i * u)) l.length
def hiW (u : Nat) (l : List Nat) (i : Nat) : Nat := cnt (fun t => decide (posA 0 l t < (i + 1) * u)) l.length
structure WinF (u : Nat) (l : List Nat) (ln i : Nat) : Prop where
  ord : loW u l ln i < hiW u l i
  hi : hiW u l i ≤ l.length
  ifP : ∀ t, t < l.length → (i * u < posA 0 l (t + 1) + ln * u ↔ loW u l ln i ≤ t)
  ifQ : ∀ t, t < l.length → (posA 0 l t < (i + 1) * u ↔ t < hiW u l i)
theorem win_f {u a v n ln i : Nat} {l : List Nat} (hr : Run false a v (n * u) 0 0 l) (hu : 1 ≤ u) (hl : 1 ≤ l.length) (hn : 1 ≤ ln) (hi : i < n + ln) : WinF u l ln i := by
  have hP : ∀ t, t < l.length → (i * u < posA 0 l (t + 1) + ln * u ↔ loW u l ln i ≤ t) := fun t ht => by
    have h := cnt_iff (p := fun t => decide (posA 0 l (t + 1) + ln * u ≤ i * u)) (fun s t hst h => by
      simp only [decide_eq_true_eq] at h ⊢
      have := hr.mono' (j := s + 1) (k := t + 1) (by omega)
      omega) l.length t ht
    simp only [decide_eq_true_eq] at h
    unfold loW
    omega
  have hQ : ∀ t, t < l.length → (posA 0 l t < (i + 1) * u ↔ t < hiW u l i) := fun t ht => by
    have h := cnt_iff (p := fun t => decide (posA 0 l t < (i + 1) * u)) (fun s t hst h => by
      simp only [decide_eq_true_eq] at h ⊢
      have := hr.mono' (j := s) (k := t) hst
      omega) l.length t ht
    simp only [decide_eq_true_eq] at h
    exact h
  have hlo : loW u l ln i ≤ l.length - 1 := by
    refine (hP (l.length - 1) (by omega)).1 ?_
    rw [Nat.sub_add_cancel hl, hr.last (Nat.le_refl _), ← Nat.add_mul]
    exact Nat.mul_lt_mul_of_pos_right hi hu
  refine ⟨(hQ _ (by omega)).1 ?_, cnt_le _ _, hP, hQ⟩
  rw [Nat.add_mul, Nat.one_mul]
  rcases Nat.eq_zero_or_pos (loW u l ln i) with e | e
  · rw [e, posA_zero]; omega
  · have h1 := hP (loW u l ln i - 1) (by omega)
    rw [Nat.sub_add_cancel e] at h1
    have : ¬ i * u < posA 0 l (loW u l ln i) + ln * u := fun h => by have := h1.1 h; omega
    omega
theorem win_mono {u : Nat} {l : List Nat} {ln i : Nat} (h0 : WinF u l ln i) (h1 : WinF u l ln (i + 1)) (hn : 1 ≤ ln) (hm : ∀ k, posA 0 l k ≤ posA 0 l (k + 1)) : loW u l ln i ≤ loW u l ln (i + 1) ∧ hiW u l i ≤ hiW u l (i + 1) ∧ loW u l ln (i + 1) ≤ hiW u l i := by
  have e1 : (i + 1) * u = i * u + u := by rw [Nat.add_mul, Nat.one_mul]
  have e2 : (i + 1 + 1) * u = i * u + u + u := by rw [Nat.add_mul, Nat.one_mul, e1]
  have o1 := h1.ord; have o0 := h0.ord; have l1 := h1.hi; have l0 := h0.hi
  refine ⟨?_, ?_, ?_⟩
  · have := (h1.ifP _ (show loW u l ln (i + 1) < l.length by omega)).2 (Nat.le_refl _)
    exact (h0.ifP _ (by omega)).1 (by omega)
  · rcases Nat.lt_or_ge (hiW u l (i + 1)) (hiW u l i) with h | h
    · have h2 := (h0.ifQ _ (show hiW u l (i + 1) < l.length by omega)).2 h
      have h3 := (h1.ifQ _ (show hiW u l (i + 1) < l.length by omega)).1 (by omega)
      omega
    · exact h
  · rcases Nat.lt_or_ge (hiW u l i) (loW u l ln (i + 1)) with h | h
    · have h2 : ¬ posA 0 l (hiW u l i) < (i + 1) * u := fun hh => by have := (h0.ifQ _ (by omega)).1 hh; omega
      have h3 := hm (hiW u l i)
      have h5 : u ≤ ln * u := by have := Nat.mul_le_mul_right u hn; rw [Nat.one_mul] at this; exact this
      by_cases hu : u = 0
      · subst hu
        simp only [Nat.mul_zero] at h2 e1
        have h6 := h0.ifQ 0 (by omega)
        rw [posA_zero] at h6
        simp only [Nat.mul_zero] at h6
        omega
      have h4 := (h1.ifP _ (show hiW u l i < l.length by omega)).1 (by omega)
      omega
    · exact h
def wc (x : Nat × Nat) : List Value := [.int .i64 (x.1 : Nat), .int .i64 (x.2 : Nat)]
def winL (u : Nat) (l : List Nat) (ln N : Nat) : List (Nat × Nat) := (List.range N).map fun i => (loW u l ln i, hiW u l i)
theorem winL_len (u : Nat) (l : List Nat) (ln N : Nat) : (winL u l ln N).length = N := by simp [winL]
theorem winL_get (u : Nat) (l : List Nat) (ln N i : Nat) (h : i < N) : (winL u l ln N)[i]? = some (loW u l ln i, hiW u l i) := by simp [winL, h]
theorem wc_len (x : Nat × Nat) : (wc x).length = 2 := rfl
theorem flat_len2 {α : Type} {f : α → List Value} (hf : ∀ x, (f x).length = 2) : ∀ L : List α, (L.flatMap f).length = L.length * 2
  | [] => rfl
  | x :: L => by rw [List.flatMap_cons, List.length_append, hf, flat_len2 hf L, List.length_cons]; omega
theorem rows_eq {cs : List Value} {N : Nat} {f : Nat → List Value} {L : List (Nat × Nat)} (hl : cs.length = N * 2) (h : RowsOf 2 cs N f) (hL : L.length = N) (hf : ∀ i, i < N → ∀ x, L[i]? = some x → f i = wc x) : cs = L.flatMap wc := by
  apply List.ext_getElem?
  intro k
  rcases Nat.lt_or_ge k (N * 2) with hk | hk
  · have e : k = k / 2 * 2 + k % 2 := by omega
    have hi : k / 2 < N := by omega
    have hx : L[k / 2]? = some (L[k / 2]'(by omega)) := List.getElem?_eq_getElem (by omega)
    rw [e, flat_get (n := 2) wc_len L (k / 2) (k % 2) (by omega), hx]
    have hff := hf _ hi _ hx
    have hj : k % 2 < (f (k / 2)).length := by rw [hff, wc_len]; omega
    rw [h (k / 2) hi (k % 2) _ (List.getElem?_eq_getElem hj), Option.bind_some, ← hff, List.getElem?_eq_getElem hj]
  · rw [List.getElem?_eq_none (by omega), List.getElem?_eq_none (by rw [flat_len2 wc_len]; omega)]
end Go.Proofs.Ytongkhanbpboaaa
