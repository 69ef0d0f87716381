/- sync.Once in a run; the places of a run; a new Kin. No conditions. -/
import Derived.Test.YtongkhanbpboaaaKin3
namespace Go.Proofs.Ytongkhanbpboaaa
open Go.RowKit Go.Eng
set_option linter.unusedVariables false
set_option maxHeartbeats 1000000 in
/-- sync.Once, the first time: what is to be done once is done. -/
theorem once_s {w : World} {kb u a v n : Nat} {f : Nat → List Value} {fv : Value} {L : List Value} (hn : n < 17) (hK : KinR w kb u a v (withRow f n (rowC 0 0 ⟨none, 0, 0⟩)))
    (hf : ∀ w7, KinR w7 kb u a v (withRow f n (rowC 0 1 ⟨none, 0, 0⟩)) → Kp [kb] w w7 → callV Try.prog fv [] w7 (Ret (fun r w' => r = .tuple #[] ∧ ∃ s : Sl, KinR w' kb u a v (withRow f n (rowC 0 1 s)) ∧ Go.Eng.Own w' w.heap.size 1 s L ∧ Kp [kb] w7 w') noP)) :
    C.sync_Once_Do (some ⟨kb, 3 + n * 4, none⟩) fv w (fun r w' => r = .tuple #[] ∧ ∃ s : Sl, KinR w' kb u a v (withRow f n (rowC 1 0 s)) ∧ Go.Eng.Own w' w.heap.size 1 s L ∧ Kp [kb] w w') noP := sync_Once_Do_of (by
  have ld : ∀ {V : World} {d m : Int} {s : Sl}, KinR V kb u a v (withRow f n (rowC d m s)) → C.sync_atomic_Bool_Load (some ⟨kb, 3 + n * 4, none⟩) V (fun r w' => r = .bool (d != 0) ∧ V = w') noP := fun {V d m s} h => sync_atomic_Bool_Load_of (by
    unfold W.sync_atomic_Bool_Load
    exact ⟨d, V, o_load _ _ _ (h.rowCell (j := 0) hn rfl), rfl, rfl⟩)
  unfold W.sync_Once_Do
  refine use (ld hK) ?_
  rintro _ _ ⟨rfl, rfl⟩
  refine ⟨_, rfl, cond_t rfl ?_⟩
  refine use (K := fun r w' => r = .tuple #[] ∧ ∃ s : Sl, KinR w' kb u a v (withRow f n (rowC 1 0 s)) ∧ Go.Eng.Own w' w.heap.size 1 s L ∧ Kp [kb] w w') (sync_Once_doSlow_of ?_) (fun r w' h => ⟨(), h.1, rfl, h.2⟩)
  unfold W.sync_Once_doSlow
  refine use (K := fun r w' => r = .tuple #[] ∧ w' = w.setCell ⟨kb, 3 + n * 4 + 1, none⟩ (.int .i32 1)) (sync_Mutex_Lock_of ?_) ?_
  · unfold W.sync_Mutex_Lock
    refine Calls.mono (o_ilock ⟨kb, 3 + n * 4 + 1, none⟩ w (hK.rowCell (j := 1) hn rfl) (hK.fr hn (by omega))) ?_
    rintro e w' ⟨rfl, rfl⟩
    exact ⟨(), rfl, rfl, rfl⟩
  rintro _ w2 ⟨rfl, e2⟩
  obtain ⟨h2, k2, s2⟩ := hK.row hn (by omega) rfl e2
  replace h2 : KinR w2 kb u a v (withRow f n (rowC 0 1 ⟨none, 0, 0⟩)) := h2
  refine ⟨(), rfl, use (ld h2) ?_⟩
  rintro _ _ ⟨rfl, rfl⟩
  refine ⟨_, rfl, cond_t rfl ?_⟩
  refine callV_mono (hf w2 h2 k2) ?_
  rintro _ w11 ⟨rfl, s, h11, o11, k11⟩
  refine ⟨(), rfl, ?_⟩
  show bodied Try.prog _ = true ∧ _
  refine ⟨by kernel_rfl, ?_⟩
  have hlo := o11.lo
  have sk := hK.lt
  refine CallsDIn.mono (sync_atomic_Bool_Store_ofd (p0_ := some ⟨kb, 3 + n * 4, none⟩) (val := true) (K := fun r w' => KinR w' kb u a v (withRow f n (rowC 1 1 s)) ∧ Kp [kb] w11 w') (KP := noP) ?_) ?_
  · unfold W.sync_atomic_Bool_Store
    intro w12 hD
    have h12 := h11.keep hD.kp (by simp)
    refine use (K := fun r w' => r = .int .u32 1 ∧ w12 = w') (sync_atomic_b32_of ?_) ?_
    · exact cond_t rfl ⟨rfl, rfl⟩
    rintro _ _ ⟨rfl, rfl⟩
    obtain ⟨g1, g2, g3⟩ := h12.row (j := 0) (x := .int .u32 1) hn (by omega) rfl rfl
    exact ⟨1, rfl, (), _, o_put _ _ _ (h12.rowCell (j := 0) hn rfl) (h12.fr (j := 0) hn (by omega)), g1, (hD.kp.up _).then g2 (by simp)⟩
  rintro e u' w12 ⟨rfl, hr⟩
  cases e with
  | panicked c => exact hr.elim
  | outgrown => exact hr.elim
  | returned r =>
    obtain ⟨h12, k12⟩ := hr
    refine ⟨by simp [settle], ?_⟩
    show bodied Try.prog _ = true ∧ _
    refine ⟨by kernel_rfl, ?_⟩
    refine CallsDIn.mono (sync_Mutex_Unlock_ofd (m := some ⟨kb, 3 + n * 4 + 1, none⟩) (K := fun r w' => KinR w' kb u a v (withRow f n (rowC 1 0 s)) ∧ Kp [kb] w12 w') (KP := noP) ?_) ?_
    · unfold W.sync_Mutex_Unlock
      refine Calls.mono (o_iunlock ⟨kb, 3 + n * 4 + 1, none⟩ w12 (h12.rowCell (j := 1) hn rfl) (h12.fr hn (by omega))) ?_
      rintro e w' ⟨rfl, e'⟩
      obtain ⟨g1, g2, g3⟩ := h12.row hn (by omega) rfl e'
      exact ⟨(), rfl, g1, g2⟩
    rintro e u' w13 ⟨rfl, hr⟩
    cases e with
    | panicked c => exact hr.elim
    | outgrown => exact hr.elim
    | returned r =>
      obtain ⟨h13, k13⟩ := hr
      refine ⟨by simp [settle], ?_⟩
      show _ = _ ∧ _
      refine ⟨rfl, s, h13, (o11.keep k12 (fun y hy => by have := hlo y hy; simp; omega)).keep k13 (fun y hy => by have := hlo y hy; simp; omega), ?_⟩
      exact ((k2.then k11 (by simp)).then k12 (by simp)).then k13 (by simp))
/-- sync.Once, when it was done. -/
theorem once_d {w : World} {kb u a v n : Nat} {f : Nat → List Value} {fv : Value} {s : Sl} (hn : n < 17) (hK : KinR w kb u a v f) (hr : f n = rowC 1 0 s) :
    C.sync_Once_Do (some ⟨kb, 3 + n * 4, none⟩) fv w (fun r w' => r = .tuple #[] ∧ w = w') noP := sync_Once_Do_of (by
  unfold W.sync_Once_Do
  refine use (K := fun r w' => r = .bool true ∧ w = w') (sync_atomic_Bool_Load_of ?_) ?_
  · unfold W.sync_atomic_Bool_Load
    exact ⟨1, w, o_load _ _ _ (hK.cell (j := 0) hn (by rw [hr]; rfl)), rfl, rfl⟩
  rintro _ _ ⟨rfl, rfl⟩
  exact ⟨_, rfl, cond_f rfl ⟨rfl, rfl⟩⟩)
/-- A Kin as it may be found. -/
def KS (w : World) (kb u a v : Nat) : Prop := ∃ dn : Nat → Option Sl, KinR w kb u a v (fun i => runC (dn i)) ∧ ∀ i s, dn i = some s → Go.Eng.Own w (kb + 1) 1 s (iv (ni (prof a v (i * u))))
theorem KS.keep0 {w w' : World} {kb u a v : Nat} (h : KS w kb u a v) (k : Kp [] w w') : KS w' kb u a v := by
  obtain ⟨dn, h1, h2⟩ := h
  exact ⟨dn, h1.keep k (by simp), fun i s e => (h2 i s e).keep0 k⟩
theorem KS.kc {w : World} {kb u a v : Nat} (h : KS w kb u a v) : KC w kb u a v := by
  obtain ⟨dn, h1, h2⟩ := h
  exact h1.kc
theorem KS.lt {w : World} {kb u a v : Nat} (h : KS w kb u a v) : kb < w.heap.size := by
  obtain ⟨dn, h1, h2⟩ := h
  exact h1.lt
/-- The places of a run of n cells. -/
def pf (u a v : Nat) (n : Int) : List Nat := if 1 ≤ n ∧ n ≤ 16 then prof a v (n.toNat * u) else []
theorem own_far {w : World} {kb : Nat} {s : Sl} {L : List Value} (h : Go.Eng.Own w (kb + 1) 1 s L) : ∀ y ∈ blkOf s, y ∉ [kb] := fun y hy => by have := h.lo y hy; simp; omega
set_option maxHeartbeats 1000000 in
theorem places_s {w : World} {kb u a v : Nat} (hN : Nums u a v) (n : Int) (h : KS w kb u a v) :
    C.kinem_Kin_places (PK kb) n w (fun r w' => ∃ s : Sl, r = slv s ∧ Go.Eng.Own w' (kb + 1) 1 s (iv (ni (pf u a v n))) ∧ KS w' kb u a v ∧ Kp [kb] w w') noP := kinem_Kin_places_of (by
  unfold W.kinem_Kin_places
  intro b1 w2 hA1 b3 w4 hA3
  have s2 := hA1.eq
  have s4 := hA3.eq
  have sk := h.lt
  have k4 : Kp [] w w4 := hA1.kp.then0 hA3.kp
  have h4 := h.keep0 k4
  have y1 := hA1.blk.keep hA3.kp (by simp)
  have y3 := hA3.blk
  have none_ : ¬ (1 ≤ n ∧ n ≤ 16) → ∃ s : Sl, (Value.slice none 0 0) = slv s ∧ Go.Eng.Own w4 (kb + 1) 1 s (iv (ni (pf u a v n))) ∧ KS w4 kb u a v ∧ Kp [kb] w w4 := fun hc => ⟨⟨none, 0, 0⟩, rfl, by unfold pf; rw [if_neg hc]; exact Go.Eng.Own.nil _ _ _, h4, k4.up _⟩
  have hu1 := hN.u1
  refine ⟨PK kb, ⟨rfl, y1.at rfl⟩, cond_f rfl ⟨PK kb, ⟨rfl, y1.at rfl⟩, _, ⟨rfl, h4.kc.u⟩, cond_d (fun hc => by omega) (fun _ => ⟨_, ⟨rfl, y3.at rfl⟩, cond_d (fun hc => none_ (by omega)) (fun hlo => ⟨_, ⟨rfl, y3.at rfl⟩, cond_d (fun hc => none_ (by omega)) (fun hhi w11 hD => ?_)⟩)⟩)⟩⟩
  obtain ⟨m, rfl⟩ : ∃ m : Nat, n = m := ⟨n.toNat, by omega⟩
  have hpf : pf u a v m = prof a v (m * u) := by unfold pf; rw [if_pos (by omega), Int.toNat_natCast]
  rw [hpf]
  have y1' := y1.keep hD.kp (by simp)
  have y3' := y3.keep hD.kp (by simp)
  refine ⟨PK kb, ⟨rfl, y1'.at rfl⟩, _, ⟨rfl, y3'.at rfl⟩, ⟨by omega, by omega⟩, fun b15 w16 hA15 => ?_⟩
  have s11 := hD.sz
  have s16 := hA15.eq
  have z1 := y1'.keep hA15.kp (by simp)
  have z3 := y3'.keep hA15.kp (by simp)
  have z15 := hA15.blk
  have k16 : Kp [] w w16 := (k4.then0 hD.kp).then0 hA15.kp
  have e0 : Addr.add (Addr.add ⟨kb, 0, none⟩ 3) ((m : Int).toNat * 4) = ⟨kb, 3 + m * 4, none⟩ := by rw [Int.toNat_natCast, add_blk, add_blk, Nat.zero_add]
  show _ ∧ _ ∧ (_ ∧ canPut w16 ⟨b15, 0, none⟩ (.pointer (some (Addr.add (Addr.add ⟨kb, 0, none⟩ 3) ((m : Int).toNat * 4))))) ∧ ∀ w17 : World, w17 = putAt w16 ⟨b15, 0, none⟩ (.pointer (some (Addr.add (Addr.add ⟨kb, 0, none⟩ 3) ((m : Int).toNat * 4)))) → _
  rw [e0]
  refine ⟨z3.at rfl, z1.at rfl, ⟨rfl, z15.can1 _ rfl (Nat.le_of_ble_eq_true rfl)⟩, fun w17 e17 => ?_⟩
  obtain ⟨q15, k17', s17⟩ := z15.put1 (v := .pointer (some ⟨kb, 3 + m * 4, none⟩)) rfl e17
  have k17 : Kp [] w w17 := k16.then k17' (by simp; omega)
  have q1 := z1.keep k17' (by simp; omega)
  have q3 := z3.keep k17' (by simp; omega)
  obtain ⟨dn, hR, hO⟩ := h.keep0 k17
  refine ⟨some ⟨kb, 3 + m * 4, none⟩, ⟨rfl, q15.at rfl⟩, ?_⟩
  show C.sync_Once_Do (some ⟨kb, 3 + m * 4, none⟩) _ w17 _ noP
  have fin : ∀ w20 : World, ∀ (dn' : Nat → Option Sl) (s : Sl), dn' m = some s → KinR w20 kb u a v (fun i => runC (dn' i)) → (∀ i s, dn' i = some s → Go.Eng.Own w20 (kb + 1) 1 s (iv (ni (prof a v (i * u))))) → Kp [kb] w17 w20 →
      ∃ y23 : (Option Addr), (okVal false 1 (.pointer y23) = true ∧ w20.cell? ⟨b15, 0, none⟩ = some (.pointer y23)) ∧ withSome y23 fun a24 => ∃ y25 : Sl, (okVal false 1 (.slice y25.a y25.len y25.cap) = true ∧ w20.cell? (Addr.add a24 3) = some (.slice y25.a y25.len y25.cap)) ∧
      ∃ s : Sl, (.slice y25.a y25.len y25.cap : Value) = slv s ∧ Go.Eng.Own w20 (kb + 1) 1 s (iv (ni (prof a v (m * u)))) ∧ KS w20 kb u a v ∧ Kp [kb] w w20 := fun w20 dn' s hm hR' hO' k20 => by
    refine ⟨some ⟨kb, 3 + m * 4, none⟩, ⟨rfl, (q15.keep k20 (by simp; omega)).at rfl⟩, s, ⟨rfl, ?_⟩, s, rfl, hO' m s hm, ⟨dn', hR', hO'⟩, (k17.up _).then k20 (by simp)⟩
    rw [add_blk]
    exact hR'.cell (j := 3) (by omega) (by rw [hm]; rfl)
  cases hm : dn m with
  | some s =>
    refine use (once_d (n := m) (s := s) (by omega) hR (by rw [hm]; rfl)) ?_
    rintro _ _ ⟨rfl, rfl⟩
    exact ⟨(), rfl, fin w17 dn s hm hR hO (Kp.refl _ _)⟩
  | none =>
    have e1 : ∀ i, runC (dn i) = withRow (fun i => runC (dn i)) m (rowC 0 0 ⟨none, 0, 0⟩) i := by
      intro i
      unfold withRow
      by_cases hi : i = m
      · subst hi; rw [if_pos rfl, hm]; rfl
      · rw [if_neg hi]
    refine use (once_s (L := iv (ni (prof a v (m * u)))) (by omega) (hR.congr e1) ?_) ?_
    · intro w7 h7 k7
      refine ⟨by kernel_rfl, ?_⟩
      refine use (places1_s hN (by omega) (by omega) h7 (q1.keep k7 (by simp; omega)) (q3.keep k7 (by simp; omega)) (q15.keep k7 (by simp; omega)) (by omega) (by omega) (by omega)) ?_
      rintro _ w8 ⟨rfl, s, g1, g2, g3⟩
      exact ⟨rfl, s, g1, g2.mono k7.size, g3⟩
    rintro _ w8 ⟨rfl, s, g1, g2, g3⟩
    have sk17 := hR.lt
    refine ⟨(), rfl, fin w8 (fun i => if i = m then some s else dn i) s (by simp) (g1.congr fun i => ?_) (fun i t hi => ?_) g3⟩
    · unfold withRow
      by_cases hi : i = m
      · simp [hi, runC]
      · simp [hi]
    · by_cases hm' : i = m
      · subst hm'
        simp at hi
        subst hi
        exact g2.mono (by omega)
      · simp [hm'] at hi
        exact (hO i t hi).keep g3 (own_far (hO i t hi)))
/-- New: a Kin, if the numbers may be. -/
theorem New_s (u a v : Int) (w : World) : C.kinem_New u a v w (fun r w' => (¬ MayI u a v → r = .tuple #[.pointer none, .int .i64 1]) ∧ (MayI u a v → ∃ kb, r = .tuple #[.pointer (PK kb), .int .i64 0] ∧ KS w' kb u.toNat a.toNat v.toNat ∧ w.heap.size ≤ kb) ∧ Kp [] w w') noP := kinem_New_of (by
  unfold W.kinem_New
  refine ⟨fun i w' => ∃ k : Nat, i = k ∧ k ≤ 3 ∧ (0 < k → 1 ≤ u ∧ u ≤ 1000) ∧ (1 < k → 1 ≤ a ∧ a ≤ 1000) ∧ (2 < k → 1 ≤ v ∧ v ≤ 1000) ∧ w = w', fun i _ => 3 - i.toNat, ⟨_, rfl, 0, rfl, by omega, by omega, by omega, by omega, rfl⟩, ?_⟩
  rintro e0 _ w5 ⟨k, rfl, hk, i1, i2, i3, rfl⟩
  refine cond_d (fun hc => ?_) (fun hc => ?_)
  · refine ⟨⟨by omega, hc⟩, ?_⟩
    have go : ∀ x : Int, (k = 0 → x = u) → (k = 1 → x = a) → (k = 2 → x = v) → partV Try.prog 3 #[.int .i64 u, .int .i64 a, .int .i64 v] ((k : Int).toNat * 1) = some (.int .i64 x) → ∃ y6 : Int, partV Try.prog 3 #[.int .i64 u, .int .i64 a, .int .i64 v] ((k : Int).toNat * 1) = some (.int .i64 y6) ∧ (cond (decide ((y6 : Int) < 1)) (((¬ MayI u a v → (.tuple #[.pointer none, .int .i64 1] : Value) = .tuple #[.pointer none, .int .i64 1]) ∧ (MayI u a v → ∃ kb, (.tuple #[.pointer none, .int .i64 1] : Value) = .tuple #[.pointer (PK kb), .int .i64 0] ∧ KS w kb u.toNat a.toNat v.toNat ∧ w.heap.size ≤ kb) ∧ Kp [] w w))
      ((cond (decide ((y6 : Int) > 1000)) (((¬ MayI u a v → (.tuple #[.pointer none, .int .i64 1] : Value) = .tuple #[.pointer none, .int .i64 1]) ∧ (MayI u a v → ∃ kb, (.tuple #[.pointer none, .int .i64 1] : Value) = .tuple #[.pointer (PK kb), .int .i64 0] ∧ KS w kb u.toNat a.toNat v.toNat ∧ w.heap.size ≤ kb) ∧ Kp [] w w))
      (∃ u7 : Int, (.int .i64 (IntKind.i64.wrap ((k : Int) + 1)) : Value) = .int .i64 u7 ∧ ((∃ k : Nat, u7 = k ∧ k ≤ 3 ∧ (0 < k → 1 ≤ u ∧ u ≤ 1000) ∧ (1 < k → 1 ≤ a ∧ a ≤ 1000) ∧ (2 < k → 1 ≤ v ∧ v ≤ 1000) ∧ w = w) ∧ 3 - u7.toNat < 3 - (k : Int).toNat))))) := fun x h0 h1 h2 hx => by
      refine ⟨x, hx, ?_⟩
      have bad : ¬ (1 ≤ x ∧ x ≤ 1000) → ¬ MayI u a v := fun hx hm => by
        unfold MayI at hm
        have : k = 0 ∨ k = 1 ∨ k = 2 := by omega
        rcases this with rfl | rfl | rfl
        · have := h0 rfl; omega
        · have := h1 rfl; omega
        · have := h2 rfl; omega
      refine cond_d (fun hc => ⟨fun _ => rfl, fun hm => absurd hm (bad (by omega)), Kp.refl _ _⟩) (fun hc1 => cond_d (fun hc => ⟨fun _ => rfl, fun hm => absurd hm (bad (by omega)), Kp.refl _ _⟩) (fun hc2 => ?_))
      have hw : IntKind.i64.wrap ((k : Int) + 1) = (k + 1 : Nat) := by rw [IntKind.wrap_i64]; omega
      rw [hw]
      refine ⟨_, rfl, ⟨k + 1, rfl, by omega, fun _ => ?_, fun _ => ?_, fun _ => ?_, rfl⟩, by omega⟩
      · by_cases hk0 : k = 0
        · have := h0 hk0; omega
        · exact i1 (by omega)
      · by_cases hk0 : k = 1
        · have := h1 hk0; omega
        · exact i2 (by omega)
      · by_cases hk0 : k = 2
        · have := h2 hk0; omega
        · omega
    have : k = 0 ∨ k = 1 ∨ k = 2 := by omega
    rcases this with rfl | rfl | rfl
    · exact go u (fun _ => rfl) (by omega) (by omega) rfl
    · exact go a (by omega) (fun _ => rfl) (by omega) rfl
    · exact go v (by omega) (by omega) (fun _ => rfl) rfl
  · have hk3 : k = 3 := by omega
    subst hk3
    have i1 := i1 (by omega)
    have i2 := i2 (by omega)
    have i3 := i3 (by omega)
    intro b8 w9 hA
    have e1 : ((u.toNat : Nat) : Int) = u := by omega
    have e2 : ((a.toNat : Nat) : Int) = a := by omega
    have e3 : ((v.toNat : Nat) : Int) = v := by omega
    obtain ⟨rs, hB, hl, hR⟩ : ∃ rs, Blk w9 b8 (.int .i64 u :: .int .i64 a :: .int .i64 v :: rs) ∧ rs.length = 68 ∧ RowsOf 4 rs 17 (fun _ => runC none) := ⟨_, hA.blk, rfl, by
      intro i hi j x hx
      have : i = 0 ∨ i = 1 ∨ i = 2 ∨ i = 3 ∨ i = 4 ∨ i = 5 ∨ i = 6 ∨ i = 7 ∨ i = 8 ∨ i = 9 ∨ i = 10 ∨ i = 11 ∨ i = 12 ∨ i = 13 ∨ i = 14 ∨ i = 15 ∨ i = 16 := by omega
      match j, hx with
      | 0, hx => rcases this with rfl | rfl | rfl | rfl | rfl | rfl | rfl | rfl | rfl | rfl | rfl | rfl | rfl | rfl | rfl | rfl | rfl <;> exact hx
      | 1, hx => rcases this with rfl | rfl | rfl | rfl | rfl | rfl | rfl | rfl | rfl | rfl | rfl | rfl | rfl | rfl | rfl | rfl | rfl <;> exact hx
      | 2, hx => rcases this with rfl | rfl | rfl | rfl | rfl | rfl | rfl | rfl | rfl | rfl | rfl | rfl | rfl | rfl | rfl | rfl | rfl <;> exact hx
      | 3, hx => rcases this with rfl | rfl | rfl | rfl | rfl | rfl | rfl | rfl | rfl | rfl | rfl | rfl | rfl | rfl | rfl | rfl | rfl <;> exact hx
      | j + 4, hx => cases hx⟩
    have hs := hA.eq
    refine ⟨fun h => absurd ⟨i1, i2, i3⟩ h, fun _ => ⟨b8, rfl, ⟨fun _ => none, ⟨⟨rs, ?_, hl, hR⟩, fun _ => rfl⟩, fun i s h => by cases h⟩, by omega⟩, hA.kp⟩
    rw [e1, e2, e3]
    exact hB)
end Go.Proofs.Ytongkhanbpboaaa
