/- From when to when a robot is on each cell. No conditions. -/
import Derived.Test.YtongkhanbpboaaaKinU
namespace Go.Proofs.Ytongkhanbpboaaa
open Go.RowKit Go.Eng
set_option linter.unusedVariables false
/-- May there be windows? -/
def WinOk (n ln : Int) : Prop := (1 ≤ n ∧ n ≤ 16) ∧ 1 ≤ ln ∧ ln ≤ 2
instance (n ln : Int) : Decidable (WinOk n ln) := by unfold WinOk; infer_instance
/-- The window of one cell, behind t ticks. -/
def wat (u : Nat) (l : List Nat) (ln i t : Nat) (z : Int) : List Value := [.int .i64 (if loW u l ln i < t then ((loW u l ln i : Nat) : Int) else z), .int .i64 (if loW u l ln i < t then ((min t (hiW u l i) : Nat) : Int) else z)]
def rowsAt (u : Nat) (l : List Nat) (ln i t : Nat) : Nat → List Value := fun j => if j < i then wc (loW u l ln j, hiW u l j) else if j = i then wat u l ln i t 0 else [.int .i64 0, .int .i64 0]
theorem rowsAt_len (u : Nat) (l : List Nat) (ln i t j : Nat) : (rowsAt u l ln i t j).length = 2 := by
  unfold rowsAt
  split
  · rfl
  · split <;> rfl
theorem wat_out {u : Nat} {l : List Nat} {ln i t : Nat} {z : Int} (h : WinF u l ln i) (ht : t < l.length) (ho : ¬ (loW u l ln i ≤ t ∧ t < hiW u l i)) : wat u l ln i (t + 1) z = wat u l ln i t z := by
  have o := h.ord
  unfold wat
  by_cases hc : loW u l ln i < t
  · rw [if_pos hc, if_pos hc, if_pos (by omega), if_pos (by omega), Nat.min_eq_right (by omega), Nat.min_eq_right (by omega)]
  · rw [if_neg hc, if_neg hc, if_neg (by omega), if_neg (by omega)]
theorem wat_first {u : Nat} {l : List Nat} {ln i t : Nat} {z : Int} (h : WinF u l ln i) (h1 : loW u l ln i ≤ t) (h2 : t < hiW u l i) (hc : ¬ loW u l ln i < t) : wat u l ln i (t + 1) z = ((wat u l ln i t z).set 0 (.int .i64 t)).set 1 (.int .i64 ((t + 1 : Nat) : Int)) := by
  unfold wat
  rw [if_pos (by omega), if_pos (by omega), Nat.min_eq_left (by omega), show loW u l ln i = t by omega]
  rfl
theorem wat_next {u : Nat} {l : List Nat} {ln i t : Nat} {z : Int} (h : WinF u l ln i) (h2 : t < hiW u l i) (hc : loW u l ln i < t) : wat u l ln i (t + 1) z = (wat u l ln i t z).set 1 (.int .i64 ((t + 1 : Nat) : Int)) := by
  unfold wat
  rw [if_pos (by omega), if_pos (by omega), if_pos hc, if_pos hc, Nat.min_eq_left (by omega)]
  rfl
theorem wat_end {u : Nat} {l : List Nat} {ln i : Nat} {z : Int} (h : WinF u l ln i) : wat u l ln i l.length z = wc (loW u l ln i, hiW u l i) := by
  have o := h.ord
  have o2 := h.hi
  unfold wat wc
  rw [if_pos (by omega), if_pos (by omega), Nat.min_eq_right (by omega)]
theorem rows_set {u : Nat} {l : List Nat} {ln i t : Nat} {cs : List Value} {N : Nat} {f : Nat → List Value} (h : RowsOf 2 cs N f) (hf : ∀ j, f j = if j = i then f i else rowsAt u l ln i t j) (hi : i < N) (hl : cs.length = N * 2) (hl2 : (f i).length = 2) {k : Nat} (hk : k < 2) (v : Value) :
    RowsOf 2 (cs.set (i * 2 + k) v) N (fun j => if j = i then (f i).set k v else rowsAt u l ln i t j) :=
  h.cell (r := i) (k := k) hi hk (by omega) (fun j => by rw [hf]; split <;> first | exact hl2 | exact rowsAt_len _ _ _ _ _ _) (by simp) (fun j _ hne => by rw [hf j]; simp [hne])
set_option maxHeartbeats 4000000 in
theorem Windows_s {w : World} {kb u a v : Nat} (hN : Nums u a v) (n ln : Int) (h : KS w kb u a v) (hi63 : in64 n) :
    C.kinem_Kin_Windows (PK kb) n ln w (fun r w' => (¬ WinOk n ln → r = slv ⟨none, 0, 0⟩) ∧ (WinOk n ln → ∃ b, r = slv ⟨PK b, (n + ln).toNat, (n + ln).toNat⟩ ∧ Blk w' b ((winL u (pf u a v n) ln.toNat (n + ln).toNat).flatMap wc) ∧ w.heap.size ≤ b) ∧ KS w' kb u a v ∧ Kp [kb] w w') noP := kinem_Kin_Windows_of (by
  unfold W.kinem_Kin_Windows
  refine use (Time_s hN n h) ?_
  rintro _ w1 ⟨rfl, h1, k1⟩
  refine ⟨_, rfl, ?_⟩
  by_cases h0 : (pf u a v n).length = 0
  · refine cond_t (by rw [h0]; rfl) ⟨fun _ => rfl, fun hw => ?_, h1, k1⟩
    have := pf_ne hN hw.1.1 hw.1.2
    omega
  refine cond_f (beq_f (by omega)) ?_
  have hn := in_pf h0
  refine cond_d (fun hc => ⟨fun _ => rfl, fun hw => by have := hw.2.1; omega, h1, k1⟩) (fun l1 => cond_d (fun hc => ⟨fun _ => rfl, fun hw => by have := hw.2.2; omega, h1, k1⟩) (fun l2 => ?_))
  have hok : WinOk n ln := ⟨hn, by omega, by omega⟩
  obtain ⟨n, rfl⟩ : ∃ m : Nat, n = m := ⟨n.toNat, by omega⟩
  obtain ⟨ln, rfl⟩ : ∃ m : Nat, ln = m := ⟨ln.toNat, by omega⟩
  have hr := pf_run hN hn.1 hn.2
  have hlen := pf_len hN n
  have hu1 := hN.u1; have hu2 := hN.u2
  rw [Int.toNat_natCast] at hr
  rw [add_wrap (by omega) (by omega)]
  have eN : ((n : Int) + (ln : Int)).toNat = n + ln := by omega
  rw [Int.toNat_natCast, eN, Int.toNat_natCast]
  obtain ⟨l, hl⟩ : ∃ l, pf u a v n = l := ⟨_, rfl⟩
  have hpos : ∀ k, posA 0 l k ≤ 16000 := fun k => hl ▸ pf_pos hN n k
  rw [hl] at hr hlen h0 ⊢
  have hWF : ∀ i, i < n + ln → WinF u l ln i := fun i hi => win_f hr hu1 (by omega) (by omega) hi
  refine ⟨⟨by omega, by omega, by omega, by omega⟩, fun b4 w5 hA => ?_⟩
  have s5 := hA.eq
  have sk := h1.lt
  have s1 := k1.size
  have h5 := (h1.x (fun y => y = b4) (by rintro y rfl; omega)).keep0 hA.kp
  refine ⟨fun x w' => ∃ i cs, x = ((i : Nat) : Int) ∧ i ≤ n + ln ∧ KSX (fun y => y = b4) w' kb u a v ∧ Kp [kb] w w' ∧ Blk w' b4 cs ∧ cs.length = (n + ln) * 2 ∧ RowsOf 2 cs (n + ln) (rowsAt u l ln i 0), fun x _ => 100 - x.toNat, ⟨_, rfl, 0, _, rfl, by omega, h5, k1.then0 hA.kp, hA.blk, made_len _ _, ?_⟩, ?_⟩
  · intro i hi j x hx
    have e : rowsAt u l ln 0 0 i = [.int .i64 0, .int .i64 0] := by
      unfold rowsAt
      rw [if_neg (by omega)]
      split
      · rename_i he; subst he; unfold wat; rw [if_neg (by omega), if_neg (by omega)]
      · rfl
    rw [e] at hx
    match j, hx with
    | 0, hx => rw [made_get _ (by omega)]; injection hx with hx; subst hx; have : (i * 2 + 0) % 2 = 0 := by omega
               show some ((#[Value.int .i64 0, .int .i64 0])[(i * 2 + 0) % 2]!) = _; rw [this]; rfl
    | 1, hx => rw [made_get _ (by omega)]; injection hx with hx; subst hx; have : (i * 2 + 1) % 2 = 1 := by omega
               show some ((#[Value.int .i64 0, .int .i64 0])[(i * 2 + 1) % 2]!) = _; rw [this]; rfl
    | j + 2, hx => cases hx
  clear h5
  rintro e0 _ w10 ⟨i, cs, rfl, hi, h10, k10, hB, hcl, hR⟩
  refine cond_d (fun hc => ?_) (fun hc => ?_)
  · have hi2 : i < n + ln := by omega
    have hF := hWF i hi2
    refine ⟨fun f x w' => ∃ t cs, f = decide (loW u l ln i < t) ∧ x = ((t : Nat) : Int) ∧ t ≤ l.length ∧ KSX (fun y => y = b4) w' kb u a v ∧ Kp [kb] w w' ∧ Blk w' b4 cs ∧ cs.length = (n + ln) * 2 ∧ RowsOf 2 cs (n + ln) (rowsAt u l ln i t), fun _ x _ => 20000 - x.toNat, ⟨_, rfl, _, rfl, 0, cs, by simp, rfl, by omega, h10, k10, hB, hcl, hR⟩, ?_⟩
    clear h10 hB hR hcl cs k10
    rintro e1 _ _ w17 ⟨t, cs, rfl, rfl, ht, h17, k17, hB, hcl, hR⟩
    refine cond_d (fun ht2 w18 hD => ?_) (fun ht2 => ?_)
    · have ht3 : t < l.length := by omega
      have h18 := h17.keep0 hD.kp
      replace hB := hB.keep hD.kp (by simp)
      have hX18 : ∀ y, y = b4 → y < w18.heap.size := fun y e => e ▸ hB.lt
      refine ⟨_, ⟨rfl, h18.ks.kc.u⟩, use (At_x hX18 hN n h18 t) ?_⟩
      rintro _ w21 ⟨rfl, h21, k21⟩
      rw [hl, Int.toNat_natCast, wlk t (by omega)]
      have hX21 : ∀ y, y = b4 → y < w21.heap.size := fun y e => e ▸ (hB.keep k21 (by simp; omega)).lt
      refine ⟨_, rfl, h21.ks.kc.u, use (At_x hX21 hN n h21 (t + 1 : Nat)) ?_⟩
      rintro _ w24 ⟨rfl, h24, k24⟩
      rw [hl, Int.toNat_natCast, wlk i (by omega)]
      have p1 := hpos t
      have p2 := hpos (t + 1)
      have i18 : (i + 1) * u ≤ 18 * 1000 := Nat.mul_le_mul (by omega) hu2
      have i17 : i * u ≤ 18 * 1000 := Nat.mul_le_mul (by omega) hu2
      have l18 : ln * u ≤ 2 * 1000 := Nat.mul_le_mul (by omega) hu2
      have kk : Kp [kb] w w24 := ((k17.then0 hD.kp).then k21 (by simp)).then k24 (by simp)
      replace hB := (hB.keep k21 (by simp; omega)).keep k24 (by simp; omega)
      refine ⟨_, rfl, h24.ks.kc.u, _, ⟨rfl, h24.ks.kc.u⟩, ?_⟩
      rw [mul_wrap (by omega)]
      have skip : ¬ (loW u l ln i ≤ t ∧ t < hiW u l i) → ∃ u29 : Bool, (.bool (decide (loW u l ln i < t)) : Value) = .bool u29 ∧ ∃ u30 : Int, (.int .i64 ((t + 1 : Nat) : Int) : Value) = .int .i64 u30 ∧ ((∃ t cs, u29 = decide (loW u l ln i < t) ∧ u30 = ((t : Nat) : Int) ∧ t ≤ l.length ∧ KSX (fun y => y = b4) w24 kb u a v ∧ Kp [kb] w w24 ∧ Blk w24 b4 cs ∧ cs.length = (n + ln) * 2 ∧ RowsOf 2 cs (n + ln) (rowsAt u l ln i t)) ∧ 20000 - u30.toNat < 20000 - ((t : Nat) : Int).toNat) := fun hno => by
        refine ⟨_, rfl, _, rfl, ⟨t + 1, cs, ?_, rfl, by omega, h24, kk, hB, hcl, ?_⟩, by simp only [Int.toNat_natCast]; omega⟩
        · have o := hF.ord
          exact decide_eq_decide.2 (by omega)
        · have : rowsAt u l ln i (t + 1) = rowsAt u l ln i t := by
            funext j
            unfold rowsAt
            rw [wat_out hF ht3 hno]
          rw [this]; exact hR
      have ifP := hF.ifP t ht3
      have ifQ := hF.ifQ t ht3
      refine cond_d (fun hge => skip (by omega)) (fun hlt => ⟨_, ⟨rfl, h24.ks.kc.u⟩, ?_⟩)
      rw [mul_wrap (by omega), add_wrap (by omega) (by omega), mul_wrap (by omega)]
      refine cond_d (fun hge => skip (by omega)) (fun hlt2 => ?_)
      have q1 : loW u l ln i ≤ t := by omega
      have q2 : t < hiW u l i := by omega
      have ad : Addr.add ⟨b4, 0, none⟩ (((i : Nat) : Int).toNat * 2) = ⟨b4, i * 2, none⟩ := by rw [Int.toNat_natCast, add_blk, Nat.zero_add]
      have ad1 : Addr.add (Addr.add ⟨b4, 0, none⟩ (((i : Nat) : Int).toNat * 2)) 1 = ⟨b4, i * 2 + 1, none⟩ := by rw [ad, add_blk]
      have fself : ∀ j, rowsAt u l ln i t j = if j = i then rowsAt u l ln i t i else rowsAt u l ln i t j := fun j => by
        split
        · rename_i e; rw [e]
        · rfl
      have rowi : rowsAt u l ln i t i = wat u l ln i t 0 := by unfold rowsAt; rw [if_neg (by omega), if_pos rfl]
      have fin : ∀ (W : World) (cs' : List Value), Blk W b4 cs' → cs'.length = (n + ln) * 2 → RowsOf 2 cs' (n + ln) (fun j => if j = i then wat u l ln i (t + 1) 0 else rowsAt u l ln i t j) → RowsOf 2 cs' (n + ln) (rowsAt u l ln i (t + 1)) := fun W cs' _ _ hh => by
        have : (fun j => if j = i then wat u l ln i (t + 1) 0 else rowsAt u l ln i t j) = rowsAt u l ln i (t + 1) := by
          funext j
          unfold rowsAt
          by_cases hj : j = i
          · subst hj; rw [if_pos rfl, if_neg (by omega), if_pos rfl]
          · rw [if_neg hj, if_neg hj, if_neg hj]
        rw [← this]; exact hh
      by_cases hfd : loW u l ln i < t
      · refine cond_f (by rw [decide_eq_true hfd]; rfl) ?_
        rw [ad1]
        refine ⟨⟨by omega, by omega⟩, ⟨by omega, by omega⟩, ⟨rfl, hB.can1 _ rfl (by omega)⟩, fun w39 e39 => ?_⟩
        obtain ⟨g1, g2, g3⟩ := hB.put1 rfl e39
        refine ⟨_, rfl, _, rfl, ⟨t + 1, _, ?_, rfl, by omega, h24.keepB g2 (by simp; omega) (by simp), kk.then g2 (by simp; omega), g1, by rw [List.length_set]; exact hcl, fin w39 _ g1 (by rw [List.length_set]; exact hcl) ?_⟩, by simp only [Int.toNat_natCast]; omega⟩
        · exact decide_eq_decide.2 (by omega)
        · rw [wat_next hF q2 hfd, ← rowi]
          exact rows_set hR fself hi2 hcl (rowsAt_len _ _ _ _ _ _) (by omega) _
      · refine cond_t (by rw [decide_eq_false hfd]; rfl) ?_
        rw [ad]
        refine ⟨⟨by omega, by omega⟩, ⟨by omega, by omega⟩, ⟨rfl, hB.can1 _ rfl (by omega)⟩, fun w35 e35 => ?_⟩
        obtain ⟨g1, g2, g3⟩ := hB.put1 rfl e35
        rw [add_blk]
        refine ⟨⟨by omega, by omega⟩, ⟨by omega, by omega⟩, ⟨rfl, g1.can1 _ rfl (by rw [List.length_set]; omega)⟩, fun w36 e36 => ?_⟩
        obtain ⟨j1, j2, j3⟩ := g1.put1 rfl e36
        have g2' : Kp [b4] w24 w36 := g2.then j2 (by simp)
        refine ⟨_, rfl, _, rfl, ⟨t + 1, _, ?_, rfl, by omega, h24.keepB g2' (by simp; omega) (by simp), kk.then g2' (by simp; omega), j1, by rw [List.length_set, List.length_set]; exact hcl, fin w36 _ j1 (by rw [List.length_set, List.length_set]; exact hcl) ?_⟩, by simp only [Int.toNat_natCast]; omega⟩
        · exact (decide_eq_true (by omega)).symm
        · rw [wat_first hF q1 q2 hfd, ← rowi]
          have r1 := rows_set (k := 0) hR fself hi2 hcl (rowsAt_len _ _ _ _ _ _) (by omega) (.int .i64 t)
          have r2 := rows_set (u := u) (l := l) (ln := ln) (i := i) (t := t) (k := 1) r1 (fun j => by by_cases hj : j = i <;> simp [hj]) hi2 (by rw [List.length_set]; exact hcl) (by simp [rowsAt_len]) (by omega) (.int .i64 ((t + 1 : Nat) : Int))
          simpa using r2
    · have : t = l.length := by omega
      subst this
      rw [wlk i (by omega)]
      refine ⟨_, rfl, ⟨i + 1, cs, rfl, by omega, h17, k17, hB, hcl, ?_⟩, by simp only [Int.toNat_natCast]; omega⟩
      have : rowsAt u l ln (i + 1) 0 = rowsAt u l ln i l.length := by
        funext j
        unfold rowsAt
        rcases Nat.lt_trichotomy j i with hj | hj | hj
        · rw [if_pos (by omega), if_pos hj]
        · subst hj; rw [if_pos (by omega), if_neg (by omega), if_pos rfl, wat_end hF]
        · rw [if_neg (show ¬ j < i + 1 by omega), if_neg (show ¬ j < i by omega), if_neg (show ¬ j = i by omega)]
          split
          · unfold wat; rw [if_neg (by omega), if_neg (by omega)]
          · rfl
      rw [this]; exact hR
  · have : i = n + ln := by omega
    subst this
    refine ⟨fun hno => absurd hok hno, fun _ => ⟨b4, rfl, ?_, by omega⟩, h10.ks, k10⟩
    rw [← rows_eq hcl hR (winL_len _ _ _ _) (fun j hj x hx => ?_)]
    · exact hB
    · rw [winL_get _ _ _ _ _ hj] at hx
      injection hx with hx
      subst hx
      unfold rowsAt
      rw [if_pos (by simpa using hj)])
end Go.Proofs.Ytongkhanbpboaaa
