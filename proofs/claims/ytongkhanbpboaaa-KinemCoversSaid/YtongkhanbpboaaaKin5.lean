/- What a Kin tells of a run, and the document. No conditions. -/
import Derived.Test.YtongkhanbpboaaaKin4
namespace Go.Proofs.Ytongkhanbpboaaa
open Go.RowKit Go.Eng
set_option linter.unusedVariables false
theorem Run.len {F : Bool} {a v E p s : Nat} {l : List Nat} (h : Run F a v E p s l) (ha : 1 ≤ a) (hv : 1 ≤ v) (hs : F = true → 1 ≤ s) : p + l.length ≤ E := by
  have key : ∀ k, k ≤ l.length → p + k ≤ posA p l k := by
    intro k
    induction k with
    | zero => intro _; rw [posA_zero]; omega
    | succ k ih =>
      intro hk
      have h1 := ih (by omega)
      have h2 := (h.tick (k := k) (by omega)).2.2
      have h3 := h.pos ha hv hs k (by omega)
      omega
  have := key l.length (Nat.le_refl _)
  have := h.end_le l.length
  omega
theorem spdA_S (p s : Nat) (l : List Nat) (k : Nat) : spdA p s l (k + 1) = posA p l (k + 1) - posA p l k := rfl
theorem spdA_zero (p s : Nat) (l : List Nat) : spdA p s l 0 = s := rfl
theorem Run.spd_le {F : Bool} {a v E p s : Nat} {l : List Nat} (h : Run F a v E p s l) (hs : s ≤ v) : ∀ k, spdA p s l k ≤ v
  | 0 => hs
  | k + 1 => by
    rcases Nat.lt_or_ge k l.length with hk | hk
    · rw [(h.tick hk).2.1]
      have := (nz_le F a v (E - posA p l k) (spdA p s l k)).2.1
      have h2 := h.spd_le hs k
      cases F
      · exact this
      · exact Nat.le_trans this h2
    · rw [spdA_S]
      rw [posA_last p l hk, posA_last p l (k := k + 1) (by omega)]
      omega
/-- It could always have stopped ahead of the end. -/
theorem Run.stop {F : Bool} {a v E p s : Nat} {l : List Nat} (h : Run F a v E p s l) (ha : 1 ≤ a) (h0 : p + brk a s ≤ E) : ∀ k, posA p l k + brk a (spdA p s l k) ≤ E
  | 0 => by rw [posA_zero, spdA_zero]; exact h0
  | k + 1 => by
    rcases Nat.lt_or_ge k l.length with hk | hk
    · obtain ⟨t1, t2, t3⟩ := h.tick hk
      rw [t3, t2]
      have : nz F a v (E - posA p l k) (spdA p s l k) + brk a (nz F a v (E - posA p l k) (spdA p s l k)) ≤ E - posA p l k := nx_ok ha
      omega
    · have := h.end_le (k + 1)
      have e : spdA p s l (k + 1) = 0 := by
        rw [spdA_S, posA_last p l hk, posA_last p l (k := k + 1) (by omega)]
        omega
      rw [e, brk_small (by omega)]
      omega
section
variable {u a v : Nat} (hN : Nums u a v)
include hN
theorem pf_run {n : Int} (h1 : 1 ≤ n) (h2 : n ≤ 16) : Run false a v (n.toNat * u) 0 0 (pf u a v n) := by
  unfold pf
  rw [if_pos ⟨h1, h2⟩]
  exact prof_run hN.a1 hN.v1 _
omit hN in
theorem pf_no {n : Int} (h : ¬ (1 ≤ n ∧ n ≤ 16)) : pf u a v n = [] := by unfold pf; rw [if_neg h]
theorem nu_le {n : Int} (h2 : n ≤ 16) : n.toNat * u ≤ 16000 := Nat.le_trans (Nat.mul_le_mul (show n.toNat ≤ 16 by omega) hN.u2) (by omega)
theorem pf_len (n : Int) : (pf u a v n).length ≤ 16000 := by
  by_cases h : 1 ≤ n ∧ n ≤ 16
  · have := (pf_run hN h.1 h.2).len hN.a1 hN.v1 (fun h => by cases h)
    have := nu_le hN h.2
    omega
  · rw [pf_no h]; simp
theorem pf_pos (n : Int) (k : Nat) : posA 0 (pf u a v n) k ≤ 16000 := by
  by_cases h : 1 ≤ n ∧ n ≤ 16
  · have := (pf_run hN h.1 h.2).end_le k
    have := nu_le hN h.2
    omega
  · rw [pf_no h, posA_nil]; omega
theorem pf_ne {n : Int} (h1 : 1 ≤ n) (h2 : n ≤ 16) : 1 ≤ (pf u a v n).length := by
  have h := pf_run hN h1 h2
  rcases Nat.eq_zero_or_pos (pf u a v n).length with e | e
  · have h3 := h.last (k := 0) (by omega)
    rw [posA_zero] at h3
    have : 1 ≤ n.toNat * u := Nat.mul_pos (by omega) hN.u1
    omega
  · exact e
end
theorem posA_mono_step {u a v : Nat} (hN : Nums u a v) (n : Int) (k : Nat) : posA 0 (pf u a v n) k ≤ posA 0 (pf u a v n) (k + 1) := by
  by_cases h : 1 ≤ n ∧ n ≤ 16
  · exact (pf_run hN h.1 h.2).mono k
  · rw [pf_no h, posA_nil, posA_nil]; exact Nat.le_refl _
theorem posA_get (l : List Nat) {i : Nat} (h : i < l.length) : posA 0 l (i + 1) = l[i] := by
  unfold posA
  rw [Nat.min_eq_left (by omega), List.getD_cons_succ]
  simp [List.getD_eq_getElem?_getD, h]
theorem ni_at {w : World} {s : Sl} {l : List Nat} (h : Rds w 1 s (iv (ni l))) {i : Nat} (hi : i < l.length) : ∃ a, s.a = some a ∧ w.cell? (a.add (i * 1)) = some (.int .i64 (posA 0 l (i + 1) : Nat)) := by
  obtain ⟨a, ha, hc⟩ := iv_get h (i := i) (by rw [ni_len]; exact hi)
  refine ⟨a, ha, ?_⟩
  rw [hc, ni_get, posA_get l hi]
theorem ni_size {w : World} {s : Sl} {l : List Nat} (h : Rds w 1 s (iv (ni l))) : l.length = s.len := by
  have := iv_len h
  rw [ni_len] at this
  exact this
section
variable {w : World} {kb u a v : Nat} (hN : Nums u a v) (n : Int) (h : KS w kb u a v)
include hN h
theorem Time_s : C.kinem_Kin_Time (PK kb) n w (fun r w' => r = .int .i64 ((pf u a v n).length : Nat) ∧ KS w' kb u a v ∧ Kp [kb] w w') noP := kinem_Kin_Time_of (by
  unfold W.kinem_Kin_Time
  refine use (places_s hN n h) ?_
  rintro _ w1 ⟨s, rfl, ho, hS, k1⟩
  exact ⟨s, rfl, by rw [ni_size ho.rds], hS, k1⟩)
theorem Profile_s : C.kinem_Kin_Profile (PK kb) n w (fun r w' => ∃ s : Sl, r = slv s ∧ Go.Eng.Own w' w.heap.size 1 s (iv (ni (pf u a v n))) ∧ KS w' kb u a v ∧ Kp [kb] w w') noP := kinem_Kin_Profile_of (by
  unfold W.kinem_Kin_Profile
  refine use (places_s hN n h) ?_
  rintro _ w1 ⟨s, rfl, ho, hS, k1⟩
  have hl := pf_len hN n
  obtain ⟨q, m, c, w2, hrun, ho2, k2⟩ := copy_ints (ty := 33) ho.rds (by rw [ni_len]; omega)
  exact ⟨s, rfl, q, m, c, w2, hrun, ⟨q, m, c⟩, rfl, ho2.mono k1.size, hS.keep0 k2, k1.then0 k2⟩)
theorem At_s (t : Int) : C.kinem_Kin_At (PK kb) n t w (fun r w' => r = .int .i64 (posA 0 (pf u a v n) t.toNat : Nat) ∧ KS w' kb u a v ∧ Kp [kb] w w') noP := kinem_Kin_At_of (by
  unfold W.kinem_Kin_At
  refine use (places_s hN n h) ?_
  rintro _ w1 ⟨s, rfl, ho, hS, k1⟩
  have hsz := ni_size ho.rds
  have hl := pf_len hN n
  refine ⟨s, rfl, cond_d (fun hc => ⟨by rw [show t.toNat = 0 by omega, posA_zero]; rfl, hS, k1⟩) (fun ht => ?_)⟩
  by_cases h0 : s.len = 0
  · refine cond_t (by simpa using h0) ⟨?_, hS, k1⟩
    have : pf u a v n = [] := List.length_eq_zero_iff.1 (by omega)
    rw [this, posA_nil]; rfl
  refine cond_f (by simpa using h0) ?_
  obtain ⟨j, hj⟩ : ∃ j : Nat, j + 1 = min s.len t.toNat := ⟨min s.len t.toNat - 1, by omega⟩
  have hw : IntKind.i64.wrap ((if ((s.len : Int) : Int) < t then (s.len : Int) else t) - 1) = (j : Int) := by
    have : (if ((s.len : Int) : Int) < t then (s.len : Int) else t) - 1 = (j : Int) := by split <;> omega
    rw [this, IntKind.wrap_i64]; omega
  rw [hw, Int.toNat_natCast]
  obtain ⟨A, hA, hc⟩ := ni_at ho.rds (i := j) (by omega)
  rw [hA]
  refine ⟨⟨by omega, by omega⟩, _, ⟨rfl, hc⟩, ?_, hS, k1⟩
  rcases Nat.lt_or_ge s.len t.toNat with hlt | hge
  · rw [posA_last 0 (pf u a v n) (k := j + 1) (by omega), posA_last 0 (pf u a v n) (k := t.toNat) (by omega)]
  · rw [show j + 1 = t.toNat by omega])
theorem Speed_s (t : Int) (ht : t ≤ 9223372036854775807) : C.kinem_Kin_Speed (PK kb) n t w (fun r w' => r = .int .i64 (spdA 0 0 (pf u a v n) t.toNat : Nat) ∧ KS w' kb u a v ∧ Kp [kb] w w') noP := kinem_Kin_Speed_of (by
  unfold W.kinem_Kin_Speed
  refine cond_d (fun hc => ⟨by rw [show t.toNat = 0 by omega]; rfl, h, Kp.refl _ _⟩) (fun hc => ?_)
  refine use (At_s hN n h t) ?_
  rintro _ w1 ⟨rfl, h1, k1⟩
  refine ⟨_, rfl, ?_⟩
  refine use (At_s hN n h1 _) ?_
  rintro _ w4 ⟨rfl, h4, k4⟩
  refine ⟨_, rfl, ?_, h4, k1.then k4 (by simp)⟩
  obtain ⟨j, hj⟩ : ∃ j : Nat, t = ((j + 1 : Nat) : Int) := ⟨t.toNat - 1, by omega⟩
  have e1 : IntKind.i64.wrap (t - 1) = (j : Nat) := by rw [hj, IntKind.wrap_i64]; omega
  rw [e1, hj, Int.toNat_natCast, Int.toNat_natCast]
  have m := posA_mono_step hN n j
  have p := pf_pos hN n (j + 1)
  rw [spdA_S]
  refine val_int ?_
  rw [IntKind.wrap_i64]; omega)
end
section
variable {u a v : Nat} (hN : Nums u a v) (n : Int) (w : World)
include hN
set_option maxHeartbeats 1000000 in
theorem rProfile_s : C.skepref09_K_Profile (kS u a v) n w (fun r w' => ∃ s : Sl, r = slv s ∧ Go.Eng.Own w' w.heap.size 1 s (iv (ni (pf u a v n))) ∧ Kp [] w w') noP := skepref09_K_Profile_of (by
  unfold W.skepref09_K_Profile
  intro b1 w2 hA
  rw [kS_cells] at hA
  have hB := hA.blk
  have sA := hA.eq
  have h2 := hN.a2; have h1 := hN.a1; have h3 := hN.v2; have h4 := hN.v1; have h5 := hN.u1; have h6 := hN.u2
  have no : ∀ w', Kp [] w w' → ¬ (1 ≤ n ∧ n ≤ 16) → ∃ s : Sl, Value.slice none 0 0 = slv s ∧ Go.Eng.Own w' w.heap.size 1 s (iv (ni (pf u a v n))) ∧ Kp [] w w' := fun w' k hn => ⟨⟨none, 0, 0⟩, rfl, by rw [pf_no hn]; exact Go.Eng.Own.nil _ _ _, k⟩
  refine cond_d (fun hc => no _ hA.kp (by omega)) (fun n1 => cond_d (fun hc => no _ hA.kp (by omega)) (fun n2 => ?_))
  refine ⟨kS u a v, ⟨rfl, hB.rd0⟩, ?_⟩
  refine use (May_s u a v w2) ?_
  rintro _ w4 ⟨rfl, k4⟩
  refine ⟨_, rfl, cond_f (by rw [decide_eq_true (show MayI u a v from ⟨by omega, by omega, by omega⟩)]; rfl) ?_⟩
  obtain ⟨m, rfl⟩ : ∃ m : Nat, n = m := ⟨n.toNat, by omega⟩
  have hr := pf_run hN (n := m) (by omega) (by omega)
  have hnu := nu_le hN (n := m) (by omega)
  rw [Int.toNat_natCast] at hr hnu
  have hlen := pf_len hN m
  obtain ⟨l, hl⟩ : ∃ l, pf u a v m = l := ⟨_, rfl⟩
  rw [hl] at hr hlen ⊢
  obtain ⟨E, hE⟩ : ∃ E, m * u = E := ⟨_, rfl⟩
  rw [hE] at hr hnu
  have hw : IntKind.i64.wrap ((m : Int) * (u : Int)) = ((E : Nat) : Int) := by
    have : (m : Int) * (u : Int) = ((E : Nat) : Int) := by rw [← hE]; push_cast; rfl
    rw [this, IntKind.wrap_i64]; omega
  refine ⟨fun s p q w' => ∃ k : Nat, k ≤ l.length ∧ p = (posA 0 l k : Nat) ∧ q = (spdA 0 0 l k : Nat) ∧ Go.Eng.Own w' w4.heap.size 1 s (iv (ni (l.take k))) ∧ Kp [] w4 w', fun _ p _ _ => E - p.toNat, ⟨⟨none, 0, 0⟩, rfl, _, rfl, _, rfl, 0, Nat.zero_le _, by rw [posA_zero]; rfl, rfl, Go.Eng.Own.nil _ _ _, Kp.refl _ _⟩, fun e0 s p q w15 hI => ?_⟩
  obtain ⟨k, hk, rfl, rfl, ho, k15⟩ := hI
  have hB15 := (hB.keep k4 (by simp)).keep k15 (by simp)
  refine ⟨_, ⟨rfl, hB15.at rfl⟩, ?_⟩
  rw [hw]
  refine cond_d (fun hlt => ?_) (fun hge => ?_)
  · have hk2 : k < l.length := by
      rcases Nat.lt_or_ge k l.length with h | h
      · exact h
      · have := hr.last h; omega
    obtain ⟨t1, t2, t3⟩ := hr.tick hk2
    have hsv := hr.spd_le (Nat.zero_le _) k
    refine ⟨kS u a v, ⟨rfl, hB15.rd0⟩, _, ⟨rfl, hB15.at rfl⟩, _, ⟨rfl, hB15.at rfl⟩, ?_⟩
    rw [hw]
    have w1 : IntKind.i64.wrap ((E : Int) - ((posA 0 l k : Nat) : Int)) = ((E - posA 0 l k : Nat) : Int) := by rw [IntKind.wrap_i64]; omega
    rw [w1]
    refine use (rnext_s h1 h2 (E - posA 0 l k) (spdA 0 0 l k) v (by omega) (by omega) (by omega) w15) ?_
    rintro _ w20 ⟨rfl, k20⟩
    have eq : nx a v (E - posA 0 l k) (spdA 0 0 l k) = spdA 0 0 l (k + 1) := t2.symm
    rw [eq]
    refine ⟨_, rfl, fun b23 w24 hA24 => ?_⟩
    have hen := hr.end_le (k + 1)
    have w3 : IntKind.i64.wrap (((posA 0 l k : Nat) : Int) + ((spdA 0 0 l (k + 1) : Nat) : Int)) = ((posA 0 l (k + 1) : Nat) : Int) := by rw [IntKind.wrap_i64]; omega
    rw [w3] at hA24 ⊢
    have s20 := k15.size
    have s202 := k20.size
    obtain ⟨q, m', c, w28, hrun, hm, ho2, k28, hq⟩ := app_ints (ty := 33) (ho.keep0 k20) hA24 (by omega) (by rw [ni_len, List.length_take]; omega)
    have e1 : ni (l.take k) ++ [((posA 0 l (k + 1) : Nat) : Int)] = ni (l.take (k + 1)) := by
      have : l.take (k + 1) = l.take k ++ [l[k]] := by rw [List.take_add_one, List.getElem?_eq_getElem hk2]; rfl
      rw [posA_get l hk2, this]
      simp only [ni, List.map_append, List.map_cons, List.map_nil]
    rw [e1] at ho2
    have hlo := ho.lo
    have hpos := hr.pos h1 h4 (fun h => by cases h) k hk2
    refine ⟨q, m', c, w28, hrun, ⟨q, m', c⟩, rfl, _, rfl, _, rfl, ⟨k + 1, by omega, rfl, rfl, ho2, (k15.then0 k20).then k28 (fun y hy => .inr (hlo y hy).1)⟩, ?_⟩
    simp only [Int.toNat_natCast]
    omega
  · have : k = l.length := by
      rcases Nat.lt_or_ge k l.length with h | h
      · have := (hr.tick h).1; omega
      · omega
    subst this
    rw [List.take_length] at ho
    have := k4.size
    exact ⟨s, rfl, ho.mono (by omega), (hA.kp.then0 k4).then0 k15⟩)
theorem rTime_s : C.skepref09_K_Time (kS u a v) n w (fun r w' => r = .int .i64 ((pf u a v n).length : Nat) ∧ Kp [] w w') noP := skepref09_K_Time_of (by
  unfold W.skepref09_K_Time
  intro b1 w2 hA
  rw [kS_cells] at hA
  refine ⟨kS u a v, ⟨rfl, hA.blk.rd0⟩, use (rProfile_s hN n w2) ?_⟩
  rintro _ w4 ⟨s, rfl, ho, k4⟩
  exact ⟨s, rfl, by rw [ni_size ho.rds], hA.kp.then0 k4⟩)
theorem rAt_s (t : Int) : C.skepref09_K_At (kS u a v) n t w (fun r w' => r = .int .i64 (posA 0 (pf u a v n) t.toNat : Nat) ∧ Kp [] w w') noP := skepref09_K_At_of (by
  unfold W.skepref09_K_At
  intro b1 w2 hA
  rw [kS_cells] at hA
  refine ⟨kS u a v, ⟨rfl, hA.blk.rd0⟩, use (rProfile_s hN n w2) ?_⟩
  rintro _ w4 ⟨s, rfl, ho, k4⟩
  have hB := hA.blk.keep k4 (by simp)
  have hsz := ni_size ho.rds
  have k := hA.kp.then0 k4
  have hl := pf_len hN n
  refine ⟨s, rfl, cond_d (fun hc => ⟨by rw [show t.toNat = 0 by omega, posA_zero]; rfl, k⟩) (fun ht => ?_)⟩
  by_cases h0 : s.len = 0
  · refine cond_t (by simpa using h0) ⟨?_, k⟩
    have : pf u a v n = [] := List.length_eq_zero_iff.1 (by omega)
    rw [this, posA_nil]; rfl
  refine cond_f (by simpa using h0) (cond_d (fun hge => ?_) (fun hlt => ?_))
  · refine ⟨_, ⟨rfl, hB.at rfl⟩, ?_, k⟩
    have hn : 1 ≤ n ∧ n ≤ 16 := by
      rcases Decidable.em (1 ≤ n ∧ n ≤ 16) with h | h
      · exact h
      · rw [pf_no h] at hsz; simp at hsz; omega
    have hr := pf_run hN hn.1 hn.2
    rw [hr.last (k := t.toNat) (by omega)]
    have hnu := nu_le hN hn.2
    have e : n * (u : Int) = ((n.toNat * u : Nat) : Int) := by push_cast; rw [Int.toNat_of_nonneg (by omega)]
    refine val_int ?_
    rw [e, IntKind.wrap_i64]; omega
  · obtain ⟨j, hj⟩ : ∃ j : Nat, t = ((j + 1 : Nat) : Int) := ⟨t.toNat - 1, by omega⟩
    have e1 : IntKind.i64.wrap (t - 1) = (j : Nat) := by rw [IntKind.wrap_i64]; omega
    rw [e1]
    obtain ⟨A, hA', hc⟩ := ni_at ho.rds (i := j) (by omega)
    rw [hA', Int.toNat_natCast]
    refine ⟨⟨by omega, by omega⟩, _, ⟨rfl, hc⟩, ?_, k⟩
    rw [hj, Int.toNat_natCast])
theorem rSpeed_s (t : Int) (ht : t ≤ 9223372036854775807) : C.skepref09_K_Speed1 (kS u a v) n t w (fun r w' => r = .int .i64 (spdA 0 0 (pf u a v n) t.toNat : Nat) ∧ Kp [] w w') noP := skepref09_K_Speed1_of (by
  unfold W.skepref09_K_Speed1
  intro b1 w2 hA
  rw [kS_cells] at hA
  refine cond_d (fun hc => ⟨by rw [show t.toNat = 0 by omega]; rfl, hA.kp⟩) (fun hc w3 hD => ?_)
  have hB := hA.blk.keep hD.kp (by simp)
  refine ⟨kS u a v, ⟨rfl, hB.rd0⟩, kS u a v, ⟨rfl, hB.rd0⟩, use (rAt_s hN n w3 t) ?_⟩
  rintro _ w6 ⟨rfl, k6⟩
  refine ⟨_, rfl, (hB.keep k6 (by simp)).rd0, use (rAt_s hN n w6 _) ?_⟩
  rintro _ w9 ⟨rfl, k9⟩
  refine ⟨_, rfl, ?_, ((hA.kp.then0 hD.kp).then0 k6).then0 k9⟩
  obtain ⟨j, hj⟩ : ∃ j : Nat, t = ((j + 1 : Nat) : Int) := ⟨t.toNat - 1, by omega⟩
  have e1 : IntKind.i64.wrap (t - 1) = (j : Nat) := by rw [hj, IntKind.wrap_i64]; omega
  rw [e1, hj, Int.toNat_natCast, Int.toNat_natCast]
  have m := posA_mono_step hN n j
  have p := pf_pos hN n (j + 1)
  rw [spdA_S]
  refine val_int ?_
  rw [IntKind.wrap_i64]; omega)
end
end Go.Proofs.Ytongkhanbpboaaa
