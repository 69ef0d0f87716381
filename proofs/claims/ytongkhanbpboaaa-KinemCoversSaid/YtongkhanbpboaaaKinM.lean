/- How robots run: the plain law. No conditions. -/
import Derived.Test.YtongkhanbpboaaaMemF
namespace Go.Proofs.Ytongkhanbpboaaa
set_option linter.unusedVariables false
/-- How far a robot goes behind a tick of the speed s. -/
def brkF : Nat → Nat → Nat → Nat
  | 0, _, _ => 0
  | f + 1, a, s => if s ≤ a then 0 else (s - a) + brkF f a (s - a)
def brk (a s : Nat) : Nat := brkF s a s
theorem brkF_more {a : Nat} (ha : 1 ≤ a) : ∀ (f s : Nat), s ≤ f → brkF f a s = brkF s a s := by
  intro f
  induction f using Nat.strongRecOn with
  | ind f ih =>
    intro s hs
    cases f with
    | zero => rw [show s = 0 by omega]
    | succ f =>
      cases s with
      | zero => rw [brkF, brkF, if_pos (by omega)]
      | succ s =>
        rw [brkF, brkF]
        split
        · rfl
        · rw [ih f (by omega) _ (by omega), ih s (by omega) _ (by omega)]
theorem brk_eq {a : Nat} (ha : 1 ≤ a) (s : Nat) : brk a s = (s - a) + brk a (s - a) := by
  unfold brk
  cases s with
  | zero => simp [brkF]
  | succ s =>
    rw [brkF]
    split
    · rename_i h
      rw [show s + 1 - a = 0 by omega]
      rfl
    · rename_i h
      rw [brkF_more ha s (s + 1 - a) (by omega)]
theorem brk_small {a s : Nat} (h : s ≤ a) : brk a s = 0 := by
  unfold brk
  cases s with
  | zero => rfl
  | succ s => rw [brkF, if_pos h]
theorem brk_mono {a : Nat} (ha : 1 ≤ a) : ∀ (t s : Nat), s ≤ t → brk a s ≤ brk a t := by
  intro t
  induction t using Nat.strongRecOn with
  | ind t ih =>
    intro s hs
    by_cases h : s ≤ a
    · rw [brk_small h]; exact Nat.zero_le _
    · rw [brk_eq ha s, brk_eq ha t]
      have := ih (t - a) (by omega) (s - a) (by omega)
      omega
theorem brk_le {a : Nat} (ha : 1 ≤ a) : ∀ s, brk a s ≤ s * s := by
  intro s
  induction s using Nat.strongRecOn with
  | ind s ih =>
    by_cases h : s ≤ a
    · rw [brk_small h]; exact Nat.zero_le _
    · rw [brk_eq ha]
      have h1 := ih (s - a) (by omega)
      have h2 : (s - a) * (s - a) ≤ (s - 1) * (s - 1) := Nat.mul_le_mul (by omega) (by omega)
      have h3 : (s - 1) * (s - 1) + (s - 1) ≤ s * s := by
        obtain ⟨k, rfl⟩ : ∃ k, s = k + 1 := ⟨s - 1, by omega⟩
        simp only [Nat.add_sub_cancel]
        have : (k + 1) * (k + 1) = k * k + k + k + 1 := by rw [Nat.add_mul, Nat.mul_add]; omega
        omega
      omega
/-- From q down to the first speed that can be stopped in time. -/
def nxd (a r : Nat) : Nat → Nat
  | 0 => 0
  | q + 1 => if 1 < q + 1 ∧ r - (q + 1) < brk a (q + 1) then nxd a r q else q + 1
def nx (a v r s : Nat) : Nat := nxd a r (min (s + a) (min v r))
theorem nxd_le (a r : Nat) : ∀ q, nxd a r q ≤ q
  | 0 => Nat.le_refl _
  | q + 1 => by
    rw [nxd]
    split
    · have := nxd_le a r q; omega
    · exact Nat.le_refl _
theorem nxd_pos (a r : Nat) : ∀ q, 1 ≤ q → 1 ≤ nxd a r q
  | 0, h => by omega
  | q + 1, h => by
    rw [nxd]
    split
    · rename_i hc; exact nxd_pos a r q (by omega)
    · omega
theorem nxd_ok {a r : Nat} (ha : 1 ≤ a) : ∀ q, q ≤ r → nxd a r q + brk a (nxd a r q) ≤ r
  | 0, h => by rw [nxd, brk_small (Nat.zero_le _)]; omega
  | q + 1, h => by
    rw [nxd]
    split
    · exact nxd_ok ha q (by omega)
    · rename_i hc
      by_cases h1 : q = 0
      · subst h1; rw [brk_small (by omega)]; omega
      · omega
theorem nxd_max {a r : Nat} : ∀ q x, q ≤ r → nxd a r q < x → x ≤ q → r < x + brk a x
  | 0, x, _, h1, h2 => by rw [nxd] at h1; omega
  | q + 1, x, hr, h1, h2 => by
    rw [nxd] at h1
    split at h1
    · rename_i hc
      by_cases e : x = q + 1
      · subst e; omega
      · exact nxd_max q x (by omega) h1 (by omega)
    · omega
section
variable {a v r s : Nat}
theorem nx_le (a v r s : Nat) : nx a v r s ≤ s + a ∧ nx a v r s ≤ v ∧ nx a v r s ≤ r := by
  have := nxd_le a r (min (s + a) (min v r))
  unfold nx
  omega
theorem nx_pos (ha : 1 ≤ a) (hv : 1 ≤ v) (hr : 1 ≤ r) : 1 ≤ nx a v r s := nxd_pos a r _ (by omega)
theorem nx_ok (ha : 1 ≤ a) : nx a v r s + brk a (nx a v r s) ≤ r := nxd_ok ha _ (by omega)
theorem nx_max {x : Nat} (h : nx a v r s < x) (h1 : x ≤ s + a) (h2 : x ≤ v) (h3 : x ≤ r) : r < x + brk a x := nxd_max _ x (by omega) h (by omega)
/-- It never brakes harder than it may. -/
theorem nx_ge (ha : 1 ≤ a) (hs : s ≤ v) (hb : brk a s ≤ r) : s - a ≤ nx a v r s := by
  rcases Nat.lt_or_ge (nx a v r s) (s - a) with h | h
  · rw [brk_eq ha] at hb
    have := nx_max h (by omega) (by omega) (by omega)
    omega
  · exact h
theorem nx_far (ha : 1 ≤ a) (hs : s ≤ v) (hb : brk a s ≤ r) : brk a s ≤ nx a v r s + brk a (nx a v r s) := by
  have h := nx_ge ha hs hb
  have h2 := brk_mono ha _ _ h
  rw [brk_eq ha s]
  omega
end
/-- The next speed; F: never faster than it was. -/
def nz (F : Bool) (a v r s : Nat) : Nat := nx a (if F then s else v) r s
theorem nz_le (F : Bool) (a v r s : Nat) : nz F a v r s ≤ s + a ∧ nz F a v r s ≤ (if F then s else v) ∧ nz F a v r s ≤ r := nx_le a _ r s
theorem nz_pos {F : Bool} {a v r s : Nat} (ha : 1 ≤ a) (hv : 1 ≤ v) (hr : 1 ≤ r) (hs : F = true → 1 ≤ s) : 1 ≤ nz F a v r s := by
  unfold nz
  refine nx_pos ha ?_ hr
  split
  · rename_i h; exact hs h
  · exact hv
/-- A run from p with the speed s to E: each tick as fast as it may. -/
inductive Run (F : Bool) (a v E : Nat) : Nat → Nat → List Nat → Prop
  | done (s : Nat) : Run F a v E E s []
  | step {p s : Nat} {l : List Nat} : p < E → Run F a v E (p + nz F a v (E - p) s) (nz F a v (E - p) s) l → Run F a v E p s ((p + nz F a v (E - p) s) :: l)
def stp (F : Bool) (a v E : Nat) : Nat → Nat → Nat → List Nat
  | 0, _, _ => []
  | f + 1, p, s => if p < E then (p + nz F a v (E - p) s) :: stp F a v E f (p + nz F a v (E - p) s) (nz F a v (E - p) s) else []
theorem stp_run {F : Bool} {a v E : Nat} (ha : 1 ≤ a) (hv : 1 ≤ v) : ∀ (f p s : Nat), p ≤ E → E ≤ p + f → (F = true → 1 ≤ s) → Run F a v E p s (stp F a v E f p s)
  | 0, p, s, h1, h2, _ => by
    have : p = E := by omega
    subst this
    exact .done s
  | f + 1, p, s, h1, h2, h3 => by
    rw [stp]
    split
    · rename_i h
      have hp := nz_pos (F := F) (a := a) (v := v) (r := E - p) (s := s) ha hv (by omega) h3
      have hr := (nz_le F a v (E - p) s).2.2
      exact .step h (stp_run ha hv f _ _ (by omega) (by omega) (fun _ => hp))
    · have : p = E := by omega
      subst this
      exact .done s
/-- The places behind each tick. -/
def prof (a v E : Nat) : List Nat := stp false a v E E 0 0
theorem prof_run {a v : Nat} (ha : 1 ≤ a) (hv : 1 ≤ v) (E : Nat) : Run false a v E 0 0 (prof a v E) := stp_run ha hv E 0 0 (Nat.zero_le _) (by omega) (fun h => by cases h)
theorem Run.uniq {F : Bool} {a v E p s : Nat} {l m : List Nat} (h : Run F a v E p s l) (k : Run F a v E p s m) : l = m := by
  induction h generalizing m with
  | done s => cases k with
    | done => rfl
    | step h _ => omega
  | step h _ ih => cases k with
    | done => omega
    | step _ k => rw [ih k]
theorem Run.le {F : Bool} {a v E p s : Nat} {l : List Nat} (h : Run F a v E p s l) : p ≤ E := by
  cases h with
  | done => exact Nat.le_refl _
  | step h _ => omega
/-- Where it is behind k ticks. -/
def posA (p : Nat) (l : List Nat) (k : Nat) : Nat := (p :: l).getD (min k l.length) 0
theorem posA_zero (p : Nat) (l : List Nat) : posA p l 0 = p := by simp [posA]
theorem posA_succ (p x : Nat) (l : List Nat) (k : Nat) : posA p (x :: l) (k + 1) = posA x l k := by
  unfold posA
  rw [List.length_cons, show min (k + 1) (l.length + 1) = min k l.length + 1 by omega, List.getD_cons_succ]
theorem posA_nil (p k : Nat) : posA p [] k = p := by simp [posA]
/-- How fast it went in the tick k (the first is 1); behind the last one: not at all. -/
def spdA (p s : Nat) (l : List Nat) : Nat → Nat
  | 0 => s
  | k + 1 => posA p l (k + 1) - posA p l k
theorem spdA_succ (p s x s' : Nat) (l : List Nat) (k : Nat) (h : x = p + s') : spdA p s (x :: l) (k + 1) = spdA x s' l k := by
  cases k with
  | zero =>
    show posA p (x :: l) (0 + 1) - posA p (x :: l) 0 = s'
    rw [posA_succ, posA_zero, posA_zero]; omega
  | succ k =>
    show posA p (x :: l) (k + 1 + 1) - posA p (x :: l) (k + 1) = posA x l (k + 1) - posA x l k
    rw [posA_succ, posA_succ]
theorem Run.drop {F : Bool} {a v E : Nat} : ∀ {p s : Nat} {l : List Nat}, Run F a v E p s l → ∀ k, k ≤ l.length → Run F a v E (posA p l k) (spdA p s l k) (l.drop k)
  | p, s, l, h, 0, _ => by rw [posA_zero]; exact h
  | _, _, _, .done s, k + 1, hk => by simp at hk
  | p, s, _, .step (l := l) h h', k + 1, hk => by
    rw [posA_succ, spdA_succ p s _ _ l k rfl, List.drop_succ_cons]
    exact h'.drop k (by simpa using hk)
/-- One tick of a run. -/
theorem Run.tick {F : Bool} {a v E p s : Nat} {l : List Nat} (h : Run F a v E p s l) {k : Nat} (hk : k < l.length) :
    posA p l k < E ∧ spdA p s l (k + 1) = nz F a v (E - posA p l k) (spdA p s l k) ∧ posA p l (k + 1) = posA p l k + spdA p s l (k + 1) := by
  have h1 := h.drop k (by omega)
  have e := List.drop_eq_getElem_cons hk
  rw [e] at h1
  have hx : posA p l (k + 1) = l[k] := by
    unfold posA
    rw [Nat.min_eq_left (by omega), List.getD_cons_succ]
    simp [List.getD_eq_getElem?_getD, hk]
  obtain ⟨x, hx2⟩ : ∃ x, l[k] = x := ⟨_, rfl⟩
  rw [hx2] at h1 hx
  obtain ⟨m, hm⟩ : ∃ m, l.drop (k + 1) = m := ⟨_, rfl⟩
  rw [hm] at h1
  have key : ∀ {P S : Nat} {x : Nat} {m : List Nat}, Run F a v E P S (x :: m) → P < E ∧ x = P + nz F a v (E - P) S := by
    intro P S x m h
    cases h with
    | step h1 _ => exact ⟨h1, rfl⟩
  obtain ⟨k1, k2⟩ := key h1
  have e3 : spdA p s l (k + 1) = posA p l (k + 1) - posA p l k := rfl
  refine ⟨k1, ?_, ?_⟩ <;> omega
theorem Run.pos {F : Bool} {a v E p s : Nat} {l : List Nat} (h : Run F a v E p s l) (ha : 1 ≤ a) (hv : 1 ≤ v) (hs : F = true → 1 ≤ s) : ∀ k, k < l.length → 1 ≤ spdA p s l (k + 1)
  | 0, hk => by
    obtain ⟨t1, t2, _⟩ := h.tick hk
    rw [t2]
    exact nz_pos ha hv (by omega) hs
  | k + 1, hk => by
    obtain ⟨t1, t2, _⟩ := h.tick hk
    rw [t2]
    exact nz_pos ha hv (by omega) (fun _ => h.pos ha hv hs k (by omega))
theorem Run.last {F : Bool} {a v E p s : Nat} {l : List Nat} (h : Run F a v E p s l) {k : Nat} (hk : l.length ≤ k) : posA p l k = E := by
  have h1 := h.drop l.length (Nat.le_refl _)
  rw [List.drop_length] at h1
  have e : posA p l k = posA p l l.length := by unfold posA; rw [Nat.min_eq_right hk, Nat.min_self]
  rw [e]
  generalize posA p l l.length = P at h1
  cases h1
  rfl
theorem posA_last (p : Nat) (l : List Nat) {k : Nat} (hk : l.length ≤ k) : posA p l k = posA p l l.length := by unfold posA; rw [Nat.min_eq_right hk, Nat.min_self]
theorem Run.mono {F : Bool} {a v E p s : Nat} {l : List Nat} (h : Run F a v E p s l) (k : Nat) : posA p l k ≤ posA p l (k + 1) := by
  rcases Nat.lt_or_ge k l.length with hk | hk
  · have := (h.tick hk).2.2; omega
  · rw [posA_last p l hk, posA_last p l (k := k + 1) (by omega)]; exact Nat.le_refl _
theorem Run.mono' {F : Bool} {a v E p s : Nat} {l : List Nat} (h : Run F a v E p s l) {j k : Nat} (hjk : j ≤ k) : posA p l j ≤ posA p l k := by
  induction k with
  | zero => rw [show j = 0 by omega]; exact Nat.le_refl _
  | succ k ih =>
    by_cases e : j = k + 1
    · rw [e]; exact Nat.le_refl _
    · exact Nat.le_trans (ih (by omega)) (h.mono k)
theorem Run.end_le {F : Bool} {a v E p s : Nat} {l : List Nat} (h : Run F a v E p s l) (k : Nat) : posA p l k ≤ E := by
  have h1 := h.mono' (Nat.le_max_left k l.length)
  rw [h.last (Nat.le_max_right k l.length)] at h1
  exact h1
end Go.Proofs.Ytongkhanbpboaaa
