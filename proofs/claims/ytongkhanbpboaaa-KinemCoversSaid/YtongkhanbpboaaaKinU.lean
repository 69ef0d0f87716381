/- A Kin whose lists lie apart from some blocks. No conditions. -/
import Derived.Test.YtongkhanbpboaaaKinN
namespace Go.Proofs.Ytongkhanbpboaaa
open Go.RowKit Go.Eng
set_option linter.unusedVariables false
def KSX (X : Nat → Prop) (w : World) (kb u a v : Nat) : Prop := ∃ dn : Nat → Option Sl, KinR w kb u a v (fun i => runC (dn i)) ∧ (∀ i s, dn i = some s → Go.Eng.Own w (kb + 1) 1 s (iv (ni (prof a v (i * u))))) ∧ ∀ i s, dn i = some s → ∀ y ∈ blkOf s, ¬ X y
theorem KSX.ks {X : Nat → Prop} {w : World} {kb u a v : Nat} (h : KSX X w kb u a v) : KS w kb u a v := by
  obtain ⟨dn, h1, h2, h3⟩ := h
  exact ⟨dn, h1, h2⟩
theorem KSX.keep0 {X : Nat → Prop} {w w' : World} {kb u a v : Nat} (h : KSX X w kb u a v) (k : Kp [] w w') : KSX X w' kb u a v := by
  obtain ⟨dn, h1, h2, h3⟩ := h
  exact ⟨dn, h1.keep k (by simp), fun i s e => (h2 i s e).keep0 k, h3⟩
/-- What is written lies apart. -/
theorem KSX.keepB {X : Nat → Prop} {w w' : World} {kb u a v : Nat} {l : List Nat} (h : KSX X w kb u a v) (k : Kp l w w') (hk : kb ∉ l) (hl : ∀ x ∈ l, X x) : KSX X w' kb u a v := by
  obtain ⟨dn, h1, h2, h3⟩ := h
  exact ⟨dn, h1.keep k hk, fun i s e => (h2 i s e).keep k fun y hy hm => h3 i s e y hy (hl y hm), h3⟩
theorem KS.x {w : World} {kb u a v : Nat} (h : KS w kb u a v) (X : Nat → Prop) (hX : ∀ y, X y → w.heap.size ≤ y) : KSX X w kb u a v := by
  obtain ⟨dn, h1, h2⟩ := h
  exact ⟨dn, h1, h2, fun i s e y hy hxy => by have := (h2 i s e).lo y hy; have := hX y hxy; omega⟩
set_option maxHeartbeats 1000000 in
theorem places_x {X : Nat → Prop} {w : World} {kb u a v : Nat} (hX : ∀ y, X y → y < w.heap.size) (hN : Nums u a v) (n : Int) (h : KSX X w kb u a v) :
    C.kinem_Kin_places (PK kb) n w (fun r w' => ∃ s : Sl, r = slv s ∧ Go.Eng.Own w' (kb + 1) 1 s (iv (ni (pf u a v n))) ∧ KSX X w' kb u a v ∧ Kp [kb] w w') noP := kinem_Kin_places_of (by
  unfold W.kinem_Kin_places
  intro b1 w2 hA1 b3 w4 hA3
  have s2 := hA1.eq
  have s4 := hA3.eq
  have sk := h.ks.lt
  have k4 : Kp [] w w4 := hA1.kp.then0 hA3.kp
  have h4 := h.keep0 k4
  have y1 := hA1.blk.keep hA3.kp (by simp)
  have y3 := hA3.blk
  have none_ : ¬ (1 ≤ n ∧ n ≤ 16) → ∃ s : Sl, (Value.slice none 0 0) = slv s ∧ Go.Eng.Own w4 (kb + 1) 1 s (iv (ni (pf u a v n))) ∧ KSX X w4 kb u a v ∧ Kp [kb] w w4 := fun hc => ⟨⟨none, 0, 0⟩, rfl, by unfold pf; rw [if_neg hc]; exact Go.Eng.Own.nil _ _ _, h4, k4.up _⟩
  have hu1 := hN.u1
  refine ⟨PK kb, ⟨rfl, y1.at rfl⟩, cond_f rfl ⟨PK kb, ⟨rfl, y1.at rfl⟩, _, ⟨rfl, h4.ks.kc.u⟩, cond_d (fun hc => by omega) (fun _ => ⟨_, ⟨rfl, y3.at rfl⟩, cond_d (fun hc => none_ (by omega)) (fun hlo => ⟨_, ⟨rfl, y3.at rfl⟩, cond_d (fun hc => none_ (by omega)) (fun hhi w11 hD => ?_)⟩)⟩)⟩⟩
  obtain ⟨m, rfl⟩ : ∃ m : Nat, n = m := ⟨n.toNat, by omega⟩
  have hpf : pf u a v m = prof a v (m * u) := by unfold pf; rw [if_pos (by omega), Int.toNat_natCast]
  rw [hpf]
  have y1' := y1.keep hD.kp (by simp)
  have y3' := y3.keep hD.kp (by simp)
  refine ⟨PK kb, ⟨rfl, y1'.at rfl⟩, _, ⟨rfl, y3'.at rfl⟩, ⟨by omega, by omega⟩, fun b15 w16 hA15 => ?_⟩
  have s11 := hD.sz
  have s16 := hA15.eq
  have z1 := y1'.keep hA15.kp (by simp)
  have z3 := y3'.keep hA15.kp (by simp)
  have z15 := hA15.blk
  have k16 : Kp [] w w16 := (k4.then0 hD.kp).then0 hA15.kp
  have e0 : Addr.add (Addr.add ⟨kb, 0, none⟩ 3) ((m : Int).toNat * 4) = ⟨kb, 3 + m * 4, none⟩ := by rw [Int.toNat_natCast, add_blk, add_blk, Nat.zero_add]
  show _ ∧ _ ∧ (_ ∧ canPut w16 ⟨b15, 0, none⟩ (.pointer (some (Addr.add (Addr.add ⟨kb, 0, none⟩ 3) ((m : Int).toNat * 4))))) ∧ ∀ w17 : World, w17 = putAt w16 ⟨b15, 0, none⟩ (.pointer (some (Addr.add (Addr.add ⟨kb, 0, none⟩ 3) ((m : Int).toNat * 4)))) → _
  rw [e0]
  refine ⟨z3.at rfl, z1.at rfl, ⟨rfl, z15.can1 _ rfl (Nat.le_of_ble_eq_true rfl)⟩, fun w17 e17 => ?_⟩
  obtain ⟨q15, k17', s17⟩ := z15.put1 (v := .pointer (some ⟨kb, 3 + m * 4, none⟩)) rfl e17
  have k17 : Kp [] w w17 := k16.then k17' (by simp; omega)
  have q1 := z1.keep k17' (by simp; omega)
  have q3 := z3.keep k17' (by simp; omega)
  obtain ⟨dn, hR, hO, hXn⟩ := h.keep0 k17
  refine ⟨some ⟨kb, 3 + m * 4, none⟩, ⟨rfl, q15.at rfl⟩, ?_⟩
  show C.sync_Once_Do (some ⟨kb, 3 + m * 4, none⟩) _ w17 _ noP
  have fin : ∀ w20 : World, ∀ (dn' : Nat → Option Sl) (s : Sl), dn' m = some s → KinR w20 kb u a v (fun i => runC (dn' i)) → (∀ i s, dn' i = some s → Go.Eng.Own w20 (kb + 1) 1 s (iv (ni (prof a v (i * u))))) → (∀ i s, dn' i = some s → ∀ y ∈ blkOf s, ¬ X y) → Kp [kb] w17 w20 →
      ∃ y23 : (Option Addr), (okVal false 1 (.pointer y23) = true ∧ w20.cell? ⟨b15, 0, none⟩ = some (.pointer y23)) ∧ withSome y23 fun a24 => ∃ y25 : Sl, (okVal false 1 (.slice y25.a y25.len y25.cap) = true ∧ w20.cell? (Addr.add a24 3) = some (.slice y25.a y25.len y25.cap)) ∧
      ∃ s : Sl, (.slice y25.a y25.len y25.cap : Value) = slv s ∧ Go.Eng.Own w20 (kb + 1) 1 s (iv (ni (prof a v (m * u)))) ∧ KSX X w20 kb u a v ∧ Kp [kb] w w20 := fun w20 dn' s hm hR' hO' hX' k20 => by
    refine ⟨some ⟨kb, 3 + m * 4, none⟩, ⟨rfl, (q15.keep k20 (by simp; omega)).at rfl⟩, s, ⟨rfl, ?_⟩, s, rfl, hO' m s hm, ⟨dn', hR', hO', hX'⟩, (k17.up _).then k20 (by simp)⟩
    rw [add_blk]
    exact hR'.cell (j := 3) (by omega) (by rw [hm]; rfl)
  cases hm : dn m with
  | some s =>
    refine use (once_d (n := m) (s := s) (by omega) hR (by rw [hm]; rfl)) ?_
    rintro _ _ ⟨rfl, rfl⟩
    exact ⟨(), rfl, fin w17 dn s hm hR hO hXn (Kp.refl _ _)⟩
  | none =>
    have e1 : ∀ i, runC (dn i) = withRow (fun i => runC (dn i)) m (rowC 0 0 ⟨none, 0, 0⟩) i := by
      intro i
      unfold withRow
      by_cases hi : i = m
      · subst hi; rw [if_pos rfl, hm]; rfl
      · rw [if_neg hi]
    refine use (once_s (L := iv (ni (prof a v (m * u)))) (by omega) (hR.congr e1) ?_) ?_
    · intro w7 h7 k7
      refine ⟨by kernel_rfl, ?_⟩
      refine use (places1_s hN (by omega) (by omega) h7 (q1.keep k7 (by simp; omega)) (q3.keep k7 (by simp; omega)) (q15.keep k7 (by simp; omega)) (by omega) (by omega) (by omega)) ?_
      rintro _ w8 ⟨rfl, s, g1, g2, g3⟩
      exact ⟨rfl, s, g1, g2.mono k7.size, g3⟩
    rintro _ w8 ⟨rfl, s, g1, g2, g3⟩
    have sk17 := hR.lt
    refine ⟨(), rfl, fin w8 (fun i => if i = m then some s else dn i) s (by simp) (g1.congr fun i => ?_) (fun i t hi => ?_) (fun i t hi => ?_) g3⟩
    · unfold withRow
      by_cases hi : i = m
      · simp [hi, runC]
      · simp [hi]
    · by_cases hm' : i = m
      · subst hm'
        simp at hi
        subst hi
        exact g2.mono (by omega)
      · simp [hm'] at hi
        exact (hO i t hi).keep g3 (own_far (hO i t hi))
    · by_cases hm' : i = m
      · subst hm'
        simp at hi
        subst hi
        intro y hy hxy
        have := (g2.lo y hy).1
        have := hX y hxy
        have := k17.size
        omega
      · simp [hm'] at hi
        exact hXn i t hi)
theorem At_x {X : Nat → Prop} {w : World} {kb u a v : Nat} (hX : ∀ y, X y → y < w.heap.size) (hN : Nums u a v) (n : Int) (h : KSX X w kb u a v) (t : Int) : C.kinem_Kin_At (PK kb) n t w (fun r w' => r = .int .i64 (posA 0 (pf u a v n) t.toNat : Nat) ∧ KSX X w' kb u a v ∧ Kp [kb] w w') noP := kinem_Kin_At_of (by
  unfold W.kinem_Kin_At
  refine use (places_x hX hN n h) ?_
  rintro _ w1 ⟨s, rfl, ho, hS, k1⟩
  have hsz := ni_size ho.rds
  have hl := pf_len hN n
  refine ⟨s, rfl, cond_d (fun hc => ⟨by rw [show t.toNat = 0 by omega, posA_zero]; rfl, hS, k1⟩) (fun ht => ?_)⟩
  by_cases h0 : s.len = 0
  · refine cond_t (by simpa using h0) ⟨?_, hS, k1⟩
    have : pf u a v n = [] := List.length_eq_zero_iff.1 (by omega)
    rw [this, posA_nil]; rfl
  refine cond_f (by simpa using h0) ?_
  obtain ⟨j, hj⟩ : ∃ j : Nat, j + 1 = min s.len t.toNat := ⟨min s.len t.toNat - 1, by omega⟩
  have hw : IntKind.i64.wrap ((if ((s.len : Int) : Int) < t then (s.len : Int) else t) - 1) = (j : Int) := by
    have : (if ((s.len : Int) : Int) < t then (s.len : Int) else t) - 1 = (j : Int) := by split <;> omega
    rw [this, IntKind.wrap_i64]; omega
  rw [hw, Int.toNat_natCast]
  obtain ⟨A, hA, hc⟩ := ni_at ho.rds (i := j) (by omega)
  rw [hA]
  refine ⟨⟨by omega, by omega⟩, _, ⟨rfl, hc⟩, ?_, hS, k1⟩
  rcases Nat.lt_or_ge s.len t.toNat with hlt | hge
  · rw [posA_last 0 (pf u a v n) (k := j + 1) (by omega), posA_last 0 (pf u a v n) (k := t.toNat) (by omega)]
  · rw [show j + 1 = t.toNat by omega])
end Go.Proofs.Ytongkhanbpboaaa
