/- The laws of the runs: awake, News, Profiles, Stops, Takes. No conditions. -/
import Derived.Test.YtongkhanbpboaaaKin6
namespace Go.Proofs.Ytongkhanbpboaaa
open Go.RowKit Go.Eng
set_option linter.unusedVariables false
theorem Place_s (v n : Int) (w : World) (h : 0 < n) (h' : n ≤ 4611686018427387904) : C.skeplaw00_Place v n w (fun r w' => r = .int .i64 (v % n) ∧ w = w') noP := skeplaw00_Place_of (by
  unfold W.skeplaw00_Place
  have h1 := Int.tmod_lt_of_pos v h
  have h2 := Int.lt_tmod_of_pos v h
  have h3 := Int.tmod_eq_emod (a := v) (b := n)
  have e0 := Int.emod_nonneg v (show n ≠ 0 by omega)
  have e1 := Int.emod_lt_of_pos v h
  have hn : (n.natAbs : Int) = n := by omega
  refine ⟨by omega, cond_d (fun h0 => ?_) (fun h0 => ?_)⟩
  · have hr : v % n = v.tmod n + n := by
      rw [h3] at h0 ⊢
      split at h0
      · omega
      · rename_i hc; rw [if_neg hc]; omega
    rw [hr, IntKind.wrap_i64]
    exact ⟨by congr 1; omega, rfl⟩
  · have hr : v % n = v.tmod n := by
      rw [h3] at h0 ⊢
      split at h0
      · rename_i hc; rw [if_pos hc]; omega
      · omega
    exact ⟨by rw [hr], rfl⟩)
theorem few_s (u a v : Int) (w : World) : C.skeplaw09_few u a v w (fun r w' => (∃ U A V : Nat, r = .tuple #[.int .i64 (U : Int), .int .i64 (A : Int), .int .i64 (V : Int)] ∧ (Nums U A V ∧ U ≤ 60 ∧ A ≤ 20 ∧ V ≤ 40)) ∧ w = w') noP := skeplaw09_few_of (by
  unfold W.skeplaw09_few
  refine use (Place_s u 60 w (by decide) (by decide)) ?_
  rintro _ _ ⟨rfl, rfl⟩
  refine ⟨_, rfl, use (Place_s a 20 w (by decide) (by decide)) ?_⟩
  rintro _ _ ⟨rfl, rfl⟩
  refine ⟨_, rfl, use (Place_s v 40 w (by decide) (by decide)) ?_⟩
  rintro _ _ ⟨rfl, rfl⟩
  have h1 := Int.emod_nonneg u (show (60 : Int) ≠ 0 by decide)
  have h2 := Int.emod_lt_of_pos u (show (0 : Int) < 60 by decide)
  have h3 := Int.emod_nonneg a (show (20 : Int) ≠ 0 by decide)
  have h4 := Int.emod_lt_of_pos a (show (0 : Int) < 20 by decide)
  have h5 := Int.emod_nonneg v (show (40 : Int) ≠ 0 by decide)
  have h6 := Int.emod_lt_of_pos v (show (0 : Int) < 40 by decide)
  refine ⟨_, rfl, ⟨(1 + u % 60).toNat, (1 + a % 20).toNat, (1 + v % 40).toNat, ?_, ⟨by omega, by omega, by omega, by omega, by omega, by omega⟩, by omega, by omega, by omega⟩, rfl⟩
  have w1 : IntKind.i64.wrap (1 + u % 60) = ((1 + u % 60).toNat : Nat) := by rw [IntKind.wrap_i64]; omega
  have w2 : IntKind.i64.wrap (1 + a % 20) = ((1 + a % 20).toNat : Nat) := by rw [IntKind.wrap_i64]; omega
  have w3 : IntKind.i64.wrap (1 + v % 40) = ((1 + v % 40).toNat : Nat) := by rw [IntKind.wrap_i64]; omega
  rw [w1, w2, w3])
theorem KS.keepL {w w' : World} {kb u a v : Nat} {l : List Nat} (h : KS w kb u a v) (k : Kp l w w') (hl : ∀ x ∈ l, x < kb) : KS w' kb u a v := by
  obtain ⟨dn, h1, h2⟩ := h
  refine ⟨dn, h1.keep k (fun hm => absurd (hl _ hm) (Nat.lt_irrefl _)), fun i s e => (h2 i s e).keep k fun y hy hm => ?_⟩
  have := (h2 i s e).lo y hy
  have := hl y hm
  omega
theorem made_s (u a v : Int) (w : World) : C.skeplaw09_made u a v w (fun r w' => (MayI u a v → ∃ kb, r = .tuple #[.pointer (PK kb), S.skepref09_K.v ⟨u, a, v⟩, .bool true] ∧ KS w' kb u.toNat a.toNat v.toNat ∧ w.heap.size ≤ kb) ∧ (¬ MayI u a v → r = .tuple #[.pointer none, S.skepref09_K.v ⟨u, a, v⟩, .bool true]) ∧ Kp [] w w') noP := skeplaw09_made_of (by
  unfold W.skeplaw09_made
  intro b1 w2 hA1
  refine use (New_s u a v w2) ?_
  rintro r w3 ⟨hno, hyes, k3⟩
  have hr : ∃ p4 : (Option Addr) × Int, r = .tuple #[.pointer p4.1, .int .i64 p4.2] ∧ (MayI u a v → ∃ kb, p4 = (PK kb, 0) ∧ KS w3 kb u.toNat a.toNat v.toNat ∧ w2.heap.size ≤ kb) ∧ (¬ MayI u a v → p4 = (none, 1)) := by
    have := hA1.eq
    rcases Decidable.em (MayI u a v) with h | h
    · obtain ⟨kb, rfl, h1, h2⟩ := hyes h
      exact ⟨(PK kb, 0), rfl, fun _ => ⟨kb, rfl, h1, h2⟩, fun hn => absurd h hn⟩
    · rw [hno h]
      exact ⟨(none, 1), rfl, fun hn => absurd hn h, fun _ => rfl⟩
  clear hno hyes
  obtain ⟨p4, rfl, hyes, hno⟩ := hr
  refine ⟨p4, rfl, fun b6 w7 hA6 => ⟨⟨rfl, hA6.blk.canN _ (Nat.le_refl _)⟩, fun w8 e8 => ?_⟩⟩
  have s2 := hA1.eq
  have s3 := k3.size
  have s7 := hA6.eq
  obtain ⟨q6, k8, s8⟩ := hA6.blk.putAll (vs := #[.int .i64 u, .int .i64 a, .int .i64 v]) rfl e8
  refine ⟨⟨u, a, v⟩, ⟨rfl, q6.rd0⟩, use (May_s u a v w8) ?_⟩
  rintro _ w10 ⟨rfl, k10⟩
  have kk : Kp [] w3 w10 := (hA6.kp.then k8 (by simp; omega)).then0 k10
  have c1 := (hA1.blk.keep k3 (by simp)).keep kk (by simp)
  refine ⟨_, rfl, ?_⟩
  have go : ∀ w13, Drew w10 w13 → (okVal true 3 (S.skepref09_K.v ⟨u, a, v⟩) = true ∧ Go.Eng.rd w13 ⟨b6, 0, none⟩ (S.skepref09_K.v ⟨u, a, v⟩)) ∧ canPut w13 ⟨b1, 0, none⟩ (S.skepref09_K.v ⟨u, a, v⟩) ∧ ∀ w15, w15 = putAt w13 ⟨b1, 0, none⟩ (S.skepref09_K.v ⟨u, a, v⟩) → Go.Eng.rd w15 ⟨b1, 0, none⟩ (S.skepref09_K.v ⟨u, a, v⟩) ∧ Kp [] w3 w13 ∧ Kp [b1] w13 w15 := fun w13 hD => by
    have c2 := c1.keep hD.kp (by simp)
    refine ⟨⟨rfl, ((q6.keep k10 (by simp)).keep hD.kp (by simp)).rd0⟩, c2.canN _ (Nat.le_refl _), fun w15 e15 => ?_⟩
    obtain ⟨g1, g2, g3⟩ := c2.putAll (vs := #[.int .i64 u, .int .i64 a, .int .i64 v]) rfl e15
    exact ⟨g1.rd0, kk.then0 hD.kp, g2⟩
  rcases Decidable.em (MayI u a v) with h | h
  · obtain ⟨kb, rfl, h1, h2⟩ := hyes h
    refine cond_f (by rw [decide_eq_true h]; rfl) (fun w19 hD => ?_)
    obtain ⟨g1, g2, g3⟩ := go w19 hD
    refine ⟨⟨u, a, v⟩, g1, cond_t rfl ⟨⟨rfl, g2⟩, fun w21 e21 => ?_⟩⟩
    obtain ⟨j1, j2, j3⟩ := g3 w21 e21
    have hS : KS w21 kb u.toNat a.toNat v.toNat := (h1.keep0 j2).keepL j3 (by simp; omega)
    exact ⟨⟨u, a, v⟩, ⟨rfl, j1⟩, fun _ => ⟨kb, rfl, hS, by omega⟩, fun hm => absurd h hm, ((hA1.kp.then0 k3).then0 j2).then j3 (by simp; omega)⟩
  · have hp := hno h
    subst hp
    refine cond_t (by rw [decide_eq_false h]; rfl) (fun w13 hD => ?_)
    obtain ⟨g1, g2, g3⟩ := go w13 hD
    refine ⟨⟨u, a, v⟩, g1, cond_t rfl ⟨⟨rfl, g2⟩, fun w15 e15 => ?_⟩⟩
    obtain ⟨j1, j2, j3⟩ := g3 w15 e15
    exact ⟨⟨u, a, v⟩, ⟨rfl, j1⟩, fun hm => absurd hm h, fun _ => rfl, ((hA1.kp.then0 k3).then0 j2).then j3 (by simp; omega)⟩)
/-- Where a law stands: its Kin, the document's, nothing else touched. -/
structure LW (w0 w : World) (kb b u a v : Nat) : Prop where
  kp : Kp [] w0 w
  lo : w0.heap.size ≤ kb
  ks : KS w kb u a v
  bl : Blk w b [.int .i64 u, .int .i64 a, .int .i64 v]
  ne : b ≠ kb
theorem LW.step0 {w0 w w' : World} {kb b u a v : Nat} (h : LW w0 w kb b u a v) (k : Kp [] w w') : LW w0 w' kb b u a v := ⟨h.kp.then0 k, h.lo, h.ks.keep0 k, h.bl.keep k (by simp), h.ne⟩
theorem LW.step {w0 w w' : World} {kb b u a v : Nat} (h : LW w0 w kb b u a v) (hS : KS w' kb u a v) (k : Kp [kb] w w') : LW w0 w' kb b u a v := ⟨h.kp.then k (by simp [h.lo]), h.lo, hS, h.bl.keep k (by simpa using h.ne), h.ne⟩
theorem LW.rd {w0 w : World} {kb b u a v : Nat} (h : LW w0 w kb b u a v) : (okVal true 3 (S.skepref09_K.v (kS u a v)) = true ∧ Go.Eng.rd w ⟨b, 0, none⟩ (S.skepref09_K.v (kS u a v))) := ⟨rfl, h.bl.rd0⟩
/-- After made: the document's numbers are laid down. -/
theorem LW.of {w0 w w1 w2 w3 : World} {kb b u a v : Nat} {t : TypeId} (k : Kp [] w0 w) (hS : KS w1 kb u a v) (hb : w.heap.size ≤ kb) (k1 : Kp [] w w1) (hA : Alloc w1 b t [.int .i64 0, .int .i64 0, .int .i64 0] w2) (e : w3 = putAt w2 ⟨b, 0, none⟩ (S.skepref09_K.v (kS u a v))) : LW w0 w3 kb b u a v := by
  obtain ⟨g1, g2, g3⟩ := hA.blk.putAll (vs := #[.int .i64 u, .int .i64 a, .int .i64 v]) rfl e
  have s1 := hA.eq
  have s2 := hS.lt
  have s3 := k.size
  have s4 := k1.size
  refine ⟨((k.then0 k1).then0 hA.kp).then g2 (by simp; omega), by omega, ?_, g1, by omega⟩
  obtain ⟨dn, h1, h2⟩ := hS
  refine ⟨dn, (h1.keep hA.kp (by simp)).keep g2 (by simp; omega), fun i s e => ((h2 i s e).keep0 hA.kp).keep g2 fun y hy => ?_⟩
  have := (h2 i s e).lo y hy
  simp
  omega
theorem awake_s (w : World) : C.skeplaw09_awake w (fun v w' => v = .bool true ∧ Kp [] w w') noP := skeplaw09_awake_of (by
  unfold W.skeplaw09_awake
  have hN : Nums 10 2 4 := ⟨by decide, by decide, by decide, by decide, by decide, by decide⟩
  refine use (New_s 10 2 4 w) ?_
  rintro r w1 ⟨_, hy, k1⟩
  obtain ⟨kb, rfl, hS, hlo⟩ := hy (by decide)
  replace hS : KS w1 kb 10 2 4 := hS
  refine ⟨(PK kb, 0), rfl, cond_f rfl (cond_f rfl ?_)⟩
  refine use (Stop_s hN 1 hS 1 (by decide)) ?_
  rintro _ w4 ⟨rfl, h4, k4⟩
  refine ⟨_, rfl, use (Profile_s hN 1 h4) ?_⟩
  rintro _ w7 ⟨s, rfl, ho, h7, k7⟩
  refine ⟨s, rfl, fun b10 w11 hA => ?_⟩
  have h11 := h7.keep0 hA.kp
  have e1 : pf 10 2 4 1 = [2, 6, 9, 10] := by decide +kernel
  have hB : Rds w11 1 ⟨some ⟨b10, 0, none⟩, 4, 4⟩ (iv [2, 6, 9, 10]) := ⟨rfl, fun _ => ⟨_, rfl, hA.blk.has 0 _ (fun i u hi => by rw [Nat.zero_add]; exact hi)⟩⟩
  refine use (SameInts_s s _ (ho.rds.keep0 hA.kp) hB (by rw [e1]; decide)) ?_
  rintro _ w12 ⟨rfl, k12⟩
  have h12 := h11.keep0 k12
  refine ⟨_, rfl, cond_t (by rw [e1]; decide) (cond_t (by decide +kernel) (cond_t (by decide +kernel) ?_))⟩
  refine use (Time_s hN 1 h12) ?_
  rintro _ w15 ⟨rfl, h15, k15⟩
  refine ⟨_, rfl, cond_t (by decide +kernel) ?_⟩
  refine use (At_s hN 1 h15 2) ?_
  rintro _ w18 ⟨rfl, h18, k18⟩
  refine ⟨_, rfl, cond_t (by decide +kernel) ?_⟩
  refine use (Speed_s hN 1 h18 2 (by decide)) ?_
  rintro _ w21 ⟨rfl, h21, k21⟩
  refine ⟨_, rfl, congrArg Value.bool (by decide +kernel), ?_⟩
  have kk : Kp [kb] w1 w21 := (((((k4.then k7 (by simp)).then0 hA.kp).then0 k12).then k15 (by simp)).then k18 (by simp)).then k21 (by simp)
  exact k1.then kk (by simp [hlo]))
theorem aw_s {w0 w : World} (k : Kp [] w0 w) : C.skeplaw09_awake w (fun r w' => ∃ p : Bool, r = .bool p ∧ ((.bool p : Value) = .bool true ∧ Kp [] w0 w')) noP := by
  refine use (awake_s w) ?_
  rintro _ w1 ⟨rfl, k1⟩
  exact ⟨_, rfl, rfl, k.then0 k1⟩
theorem KinemNews_s (u a v s : Int) (w : World) : C.skeplaw09_KinemNews u a v s w (fun v w' => v = .bool true ∧ Kp [] w w') noP := skeplaw09_KinemNews_of (by
  unfold W.skeplaw09_KinemNews
  refine use (made_s u a v w) ?_
  rintro r w1 ⟨hy, hn, k1⟩
  rcases Decidable.em (MayI u a v) with h | h
  · obtain ⟨kb, rfl, hS, hlo⟩ := hy h
    obtain ⟨⟨u1, u2⟩, ⟨a1, a2⟩, v1, v2⟩ := h
    obtain ⟨U, rfl⟩ : ∃ U : Nat, u = U := ⟨u.toNat, by omega⟩
    obtain ⟨A, rfl⟩ : ∃ A : Nat, a = A := ⟨a.toNat, by omega⟩
    obtain ⟨V, rfl⟩ : ∃ V : Nat, v = V := ⟨v.toNat, by omega⟩
    simp only [Int.toNat_natCast] at hS
    have hN : Nums U A V := ⟨by omega, by omega, by omega, by omega, by omega, by omega⟩
    refine ⟨(PK kb, kS U A V, true), rfl, fun b4 w5 hA => ⟨⟨rfl, hA.blk.canN _ (Nat.le_refl _)⟩, fun w6 e6 => ?_⟩⟩
    have hL := LW.of (Kp.refl [] w) hS hlo k1 hA e6
    refine cond_f rfl (cond_f rfl (fun w13 hD => ?_))
    replace hL := hL.step0 hD.kp
    refine ⟨_, hL.rd, use (Brake_s hN s hL.ks.kc) ?_⟩
    rintro _ w15 ⟨rfl, k15⟩
    replace hL := hL.step0 k15
    refine ⟨_, rfl, hL.rd.2, use (rBrake_s hN s w15) ?_⟩
    rintro _ w18 ⟨rfl, k18⟩
    replace hL := hL.step0 k18
    exact ⟨_, rfl, cond_t (beq_self_eq_true _) (aw_s hL.kp)⟩
  · rw [hn h]
    refine ⟨(none, ⟨u, a, v⟩, true), rfl, fun b4 w5 hA => ⟨⟨rfl, hA.blk.canN _ (Nat.le_refl _)⟩, fun w6 e6 => ?_⟩⟩
    obtain ⟨g1, g2, g3⟩ := hA.blk.putAll (vs := #[.int .i64 u, .int .i64 a, .int .i64 v]) rfl e6
    have s1 := hA.eq
    have s2 := k1.size
    exact cond_t rfl (cond_t rfl (aw_s ((k1.then0 hA.kp).then g2 (by simp; omega)))))
/-- What most laws begin with. -/
theorem start_s {w0 w : World} (u a v : Int) (k0 : Kp [] w0 w) {U A V : Nat} (hN : Nums U A V) (K : Value → World → Prop)
    (hK : ∀ kb w4, KS w4 kb U A V → w.heap.size ≤ kb → Kp [] w w4 → K (.tuple #[.pointer (PK kb), S.skepref09_K.v (kS U A V), .bool true]) w4) :
    C.skeplaw09_made U A V w K noP := by
  refine use (made_s U A V w) ?_
  rintro r w4 ⟨hy, hn, k4⟩
  obtain ⟨kb, rfl, hS, hlo⟩ := hy ⟨⟨by have := hN.u1; omega, by have := hN.u2; omega⟩, ⟨by have := hN.a1; omega, by have := hN.a2; omega⟩, by have := hN.v1; omega, by have := hN.v2; omega⟩
  simp only [Int.toNat_natCast] at hS
  exact hK kb w4 hS hlo k4
theorem KinemProfiles_s (u a v n t : Int) (w : World) (ht : in64 t) : C.skeplaw09_KinemProfiles u a v n t w (fun v w' => v = .bool true ∧ Kp [] w w') noP := skeplaw09_KinemProfiles_of (by
  unfold W.skeplaw09_KinemProfiles
  refine use (few_s u a v w) ?_
  rintro _ _ ⟨⟨U, A, V, rfl, hN, _⟩, rfl⟩
  refine ⟨((U : Int), (A : Int), (V : Int)), rfl, start_s u a v (Kp.refl [] w) hN _ fun kb w4 hS hlo k4 => ?_⟩
  refine ⟨(PK kb, kS U A V, true), rfl, fun b7 w8 hA => ⟨⟨rfl, hA.blk.canN _ (Nat.le_refl _)⟩, fun w9 e9 => ?_⟩⟩
  have hL := LW.of (Kp.refl [] w) hS hlo k4 hA e9
  refine cond_f rfl (cond_f rfl (fun w10 hD => ?_))
  replace hL := hL.step0 hD.kp
  refine ⟨_, hL.rd, use (Profile_s hN n hL.ks) ?_⟩
  rintro _ w12 ⟨s, rfl, ho, h12, k12⟩
  replace hL := hL.step h12 k12
  refine ⟨s, rfl, hL.rd.2, use (rProfile_s hN n w12) ?_⟩
  rintro _ w15 ⟨s', rfl, ho', k15⟩
  replace hL := hL.step0 k15
  have hl := pf_len hN n
  refine ⟨s', rfl, use (SameInts_s s s' (ho.rds.keep0 k15) ho'.rds (by rw [ni_len]; omega)) ?_⟩
  rintro _ w18 ⟨rfl, k18⟩
  replace hL := hL.step0 k18
  refine ⟨_, rfl, cond_t (by simp) ⟨_, hL.rd, use (Time_s hN n hL.ks) ?_⟩⟩
  rintro _ w22 ⟨rfl, h22, k22⟩
  replace hL := hL.step h22 k22
  refine ⟨_, rfl, hL.rd.2, use (rTime_s hN n w22) ?_⟩
  rintro _ w25 ⟨rfl, k25⟩
  replace hL := hL.step0 k25
  refine ⟨_, rfl, cond_t (beq_self_eq_true _) ⟨_, hL.rd, use (At_s hN n hL.ks t) ?_⟩⟩
  rintro _ w29 ⟨rfl, h29, k29⟩
  replace hL := hL.step h29 k29
  refine ⟨_, rfl, hL.rd.2, use (rAt_s hN n w29 t) ?_⟩
  rintro _ w32 ⟨rfl, k32⟩
  replace hL := hL.step0 k32
  refine ⟨_, rfl, cond_t (beq_self_eq_true _) ⟨_, hL.rd, use (Speed_s hN n hL.ks t ht.2) ?_⟩⟩
  rintro _ w36 ⟨rfl, h36, k36⟩
  replace hL := hL.step h36 k36
  refine ⟨_, rfl, hL.rd.2, use (rSpeed_s hN n w36 t ht.2) ?_⟩
  rintro _ w39 ⟨rfl, k39⟩
  replace hL := hL.step0 k39
  exact ⟨_, rfl, cond_t (beq_self_eq_true _) (aw_s hL.kp)⟩)
theorem KinemStops_s (u a v n t : Int) (w : World) (ht : in64 t) : C.skeplaw09_KinemStops u a v n t w (fun v w' => v = .bool true ∧ Kp [] w w') noP := skeplaw09_KinemStops_of (by
  unfold W.skeplaw09_KinemStops
  refine use (few_s u a v w) ?_
  rintro _ _ ⟨⟨U, A, V, rfl, hN, _⟩, rfl⟩
  refine ⟨((U : Int), (A : Int), (V : Int)), rfl, start_s u a v (Kp.refl [] w) hN _ fun kb w4 hS hlo k4 => ?_⟩
  refine ⟨(PK kb, kS U A V, true), rfl, fun b7 w8 hA => ⟨⟨rfl, hA.blk.canN _ (Nat.le_refl _)⟩, fun w9 e9 => ?_⟩⟩
  have hL := LW.of (Kp.refl [] w) hS hlo k4 hA e9
  refine cond_f rfl (cond_f rfl ?_)
  refine ⟨fun i w' => ∃ j : Nat, i = j ∧ j ≤ 3 ∧ LW w w' kb b7 U A V, fun i _ => 3 - i.toNat, ⟨_, rfl, 0, rfl, by omega, hL⟩, ?_⟩
  clear hL
  rintro e0 _ w14 ⟨j, rfl, hj, hL⟩
  refine cond_d (fun hc => ?_) (fun hc => aw_s hL.kp)
  have hl := pf_len hN n
  refine ⟨fun x w' => x ≤ 9223372036854775807 ∧ LW w w' kb b7 U A V, cond_d (fun h0 => ?_) (fun h0 => ⟨t, rfl, ht.2, hL⟩), ?_⟩
  · refine use (Time_s hN n hL.ks) ?_
    rintro _ w16 ⟨rfl, h16, k16⟩
    replace hL := hL.step h16 k16
    obtain ⟨T, hT⟩ : ∃ T, (pf U A V n).length = T := ⟨_, rfl⟩
    rw [hT] at hl ⊢
    have e1 : IntKind.i64.wrap ((T : Int) + 2) = (T : Int) + 2 := by rw [IntKind.wrap_i64]; omega
    refine ⟨_, rfl, ?_⟩
    rw [e1]
    refine use (Place_s t ((T : Int) + 2) w16 (by omega) (by omega)) ?_
    rintro _ _ ⟨rfl, rfl⟩
    have h1 := Int.emod_nonneg t (show (T : Int) + 2 ≠ 0 by omega)
    have h2 := Int.emod_lt_of_pos t (show (0 : Int) < (T : Int) + 2 by omega)
    refine ⟨_, rfl, _, rfl, ?_, hL⟩
    generalize t % ((T : Int) + 2) = z at h1 h2 ⊢
    rw [IntKind.wrap_i64, IntKind.wrap_i64]
    omega
  clear hL
  rintro e1 x w25 ⟨hx, hL⟩
  refine use (Stop_s hN n hL.ks x hx) ?_
  rintro _ w26 ⟨rfl, h26, k26⟩
  replace hL := hL.step h26 k26
  refine ⟨_, rfl, _, hL.rd, use (rStop_s hN n w26 x hx) ?_⟩
  rintro _ w30 ⟨rfl, k30⟩
  replace hL := hL.step0 k30
  have hw : IntKind.i64.wrap ((j : Int) + 1) = ((j + 1 : Nat) : Int) := by rw [IntKind.wrap_i64]; omega
  rw [hw]
  exact ⟨_, rfl, cond_f (bne_f rfl) (cond_f (bne_f rfl) ⟨_, rfl, ⟨j + 1, rfl, by omega, hL⟩, by simp only [Int.toNat_natCast]; omega⟩)⟩)
end Go.Proofs.Ytongkhanbpboaaa
