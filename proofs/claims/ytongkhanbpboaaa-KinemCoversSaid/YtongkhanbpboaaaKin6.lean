/- How a run is stopped. No conditions. -/
import Derived.Test.YtongkhanbpboaaaKin5
namespace Go.Proofs.Ytongkhanbpboaaa
open Go.RowKit Go.Eng
set_option linter.unusedVariables false
/-- The whole cell where a run ends that is stopped behind the tick k. -/
def stopE (u a : Nat) (l : List Nat) (k : Nat) : Nat := (posA 0 l k + brk a (spdA 0 0 l k) + u - 1) / u
def stopL (u a v : Nat) (l : List Nat) (k : Nat) : List Nat := stp true a v (stopE u a l k * u) (stopE u a l k * u) (posA 0 l k) (spdA 0 0 l k)
def stopP (u a v : Nat) (n t : Int) : Int × Int :=
  if t < 1 then (0, 0) else if (pf u a v n).length = 0 then (0, 0) else if ((pf u a v n).length : Int) ≤ t then (n, 0)
  else (((stopE u a (pf u a v n) t.toNat : Nat) : Int), (((stopL u a v (pf u a v n) t.toNat).length : Nat) : Int))
theorem ceil_ge {u : Nat} (hu : 1 ≤ u) (x : Nat) : x ≤ (x + u - 1) / u * u := by
  have h1 := Nat.div_add_mod (x + u - 1) u
  have h2 := Nat.mod_lt (x + u - 1) (show 0 < u by omega)
  rw [Nat.mul_comm] at h1
  omega
theorem ceil_lt {u : Nat} (hu : 1 ≤ u) (x : Nat) : (x + u - 1) / u * u ≤ x + u - 1 := Nat.div_mul_le_self _ _
structure StopF (u a v : Nat) (l : List Nat) (k E : Nat) : Prop where
  pb : posA 0 l k + brk a (spdA 0 0 l k) ≤ E
  lo : posA 0 l k + brk a (spdA 0 0 l k) ≤ stopE u a l k * u
  hi : stopE u a l k * u ≤ posA 0 l k + brk a (spdA 0 0 l k) + u - 1
  e5 : stopE u a l k * u ≤ 17000
  s1 : 1 ≤ spdA 0 0 l k
  sv : spdA 0 0 l k ≤ v
  run : Run true a v (stopE u a l k * u) (posA 0 l k) (spdA 0 0 l k) (stopL u a v l k)
theorem stop_f {u a v k : Nat} {n : Int} (hN : Nums u a v) (h1 : 1 ≤ n) (h2 : n ≤ 16) (hk1 : 1 ≤ k) (hk : k ≤ (pf u a v n).length) : StopF u a v (pf u a v n) k (n.toNat * u) := by
  have hr := pf_run hN h1 h2
  have e1 := hr.stop hN.a1 (by rw [brk_small (by omega)]; omega) k
  have e2 := nu_le hN h2
  have e3 := ceil_ge hN.u1 (posA 0 (pf u a v n) k + brk a (spdA 0 0 (pf u a v n) k))
  have e4 := ceil_lt hN.u1 (posA 0 (pf u a v n) k + brk a (spdA 0 0 (pf u a v n) k))
  have hu := hN.u2
  obtain ⟨j, rfl⟩ : ∃ j, k = j + 1 := ⟨k - 1, by omega⟩
  have e6 := hr.pos hN.a1 hN.v1 (fun h => by cases h) j (by omega)
  have e7 := hr.spd_le (Nat.zero_le _) (j + 1)
  refine ⟨e1, e3, e4, ?_, e6, e7, ?_⟩
  · unfold stopE
    omega
  · unfold stopL
    exact stp_run hN.a1 hN.v1 _ _ _ (Nat.le_trans (Nat.le_add_right _ _) e3) (by omega) (fun _ => e6)
theorem div_wrap {u a : Nat} (hu1 : 1 ≤ u) (hu : u ≤ 1000) (l : List Nat) (k : Nat) (h : posA 0 l k + brk a (spdA 0 0 l k) ≤ 16000) :
    IntKind.i64.wrap (Int.tdiv (IntKind.i64.wrap ((IntKind.i64.wrap ((IntKind.i64.wrap (((posA 0 l k : Nat) : Int) + ((brk a (spdA 0 0 l k) : Nat) : Int))) + (u : Int))) - 1)) (u : Int)) = ((stopE u a l k : Nat) : Int) := by
  have h1 : IntKind.i64.wrap (((posA 0 l k : Nat) : Int) + ((brk a (spdA 0 0 l k) : Nat) : Int)) = ((posA 0 l k + brk a (spdA 0 0 l k) : Nat) : Int) := by rw [IntKind.wrap_i64]; omega
  rw [h1]
  have h2 : IntKind.i64.wrap (((posA 0 l k + brk a (spdA 0 0 l k) : Nat) : Int) + (u : Int)) = ((posA 0 l k + brk a (spdA 0 0 l k) + u : Nat) : Int) := by rw [IntKind.wrap_i64]; omega
  rw [h2]
  have h3 : IntKind.i64.wrap (((posA 0 l k + brk a (spdA 0 0 l k) + u : Nat) : Int) - 1) = ((posA 0 l k + brk a (spdA 0 0 l k) + u - 1 : Nat) : Int) := by rw [IntKind.wrap_i64]; omega
  rw [h3, ← Int.ofNat_tdiv]
  have h4 : (posA 0 l k + brk a (spdA 0 0 l k) + u - 1) / u ≤ posA 0 l k + brk a (spdA 0 0 l k) + u - 1 := Nat.div_le_self _ _
  unfold stopE
  generalize (posA 0 l k + brk a (spdA 0 0 l k) + u - 1) / u = q at h4 ⊢
  rw [IntKind.wrap_i64]
  omega
theorem mul_wrap {e u : Nat} (h : e * u ≤ 1000000000) : IntKind.i64.wrap ((e : Int) * (u : Int)) = ((e * u : Nat) : Int) := by
  have : (e : Int) * (u : Int) = ((e * u : Nat) : Int) := by push_cast; rfl
  rw [this, IntKind.wrap_i64]; omega
def pairV (p : Int × Int) : Value := .tuple #[.int .i64 p.1, .int .i64 p.2]
theorem in_pf {u a v : Nat} {n : Int} (h : (pf u a v n).length ≠ 0) : 1 ≤ n ∧ n ≤ 16 := by
  rcases Decidable.em (1 ≤ n ∧ n ≤ 16) with h' | h'
  · exact h'
  · rw [pf_no h'] at h; exact absurd rfl h
set_option maxHeartbeats 4000000 in
theorem Stop_s {w : World} {kb u a v : Nat} (hN : Nums u a v) (n : Int) (h : KS w kb u a v) (t : Int) (ht : t ≤ 9223372036854775807) :
    C.kinem_Kin_Stop (PK kb) n t w (fun r w' => r = pairV (stopP u a v n t) ∧ KS w' kb u a v ∧ Kp [kb] w w') noP := kinem_Kin_Stop_of (by
  unfold W.kinem_Kin_Stop
  refine use (Time_s hN n h) ?_
  rintro _ w1 ⟨rfl, h1, k1⟩
  refine ⟨_, rfl, cond_d (fun hc => ⟨by unfold stopP; rw [if_pos hc]; rfl, h1, k1⟩) (fun ht1 => ?_)⟩
  by_cases h0 : (pf u a v n).length = 0
  · exact cond_t (by rw [h0]; rfl) ⟨by unfold stopP; rw [if_neg ht1, if_pos h0]; rfl, h1, k1⟩
  refine cond_f (by simp; exact fun e => h0 (by rw [e]; rfl)) (cond_d (fun hc => ⟨by unfold stopP; rw [if_neg ht1, if_neg h0, if_pos (by omega)]; rfl, h1, k1⟩) (fun hlt => ?_))
  have hsp : stopP u a v n t = (((stopE u a (pf u a v n) t.toNat : Nat) : Int), (((stopL u a v (pf u a v n) t.toNat).length : Nat) : Int)) := by unfold stopP; rw [if_neg ht1, if_neg h0, if_neg (by omega)]
  rw [hsp]
  obtain ⟨n1, n2⟩ := in_pf h0
  obtain ⟨k, rfl⟩ : ∃ k : Nat, t = k := ⟨t.toNat, by omega⟩
  have hF := stop_f (k := k) hN n1 n2 (by omega) (by omega)
  have hnu := nu_le hN n2
  refine use (At_s hN n h1 k) ?_
  rintro _ w4 ⟨rfl, h4, k4⟩
  refine ⟨_, rfl, use (Speed_s hN n h4 k ht) ?_⟩
  rintro _ w7 ⟨rfl, h7, k7⟩
  rw [Int.toNat_natCast]
  refine ⟨_, rfl, fun w10 hD => ?_⟩
  have h10 := h7.keep0 hD.kp
  obtain ⟨l, hl⟩ : ∃ l, pf u a v n = l := ⟨_, rfl⟩
  rw [hl] at hF ⊢
  have hpb := hF.pb
  have hu1 := hN.u1; have hu2 := hN.u2; have hv2 := hN.v2
  have hsv := hF.sv
  have he5 := hF.e5
  refine ⟨_, ⟨rfl, h10.kc.u⟩, _, ⟨rfl, h10.kc.u⟩, use (Brake_s hN _ h10.kc) ?_⟩
  rintro _ w15 ⟨rfl, k15⟩
  have h15 := h10.keep0 k15
  rw [Int.toNat_natCast, Nat.min_eq_left hsv]
  refine ⟨_, rfl, h15.kc.u, h15.kc.u, by omega, fun b18 w19 hA18 => ⟨⟨rfl, hA18.blk.can1 _ rfl (Nat.le_of_ble_eq_true rfl)⟩, fun w20 e20 => ?_⟩⟩
  have s19 := hA18.eq
  obtain ⟨q18, k20, s20⟩ := hA18.blk.put1 rfl e20
  have k1520 : Kp [] w15 w20 := hA18.kp.then k20 (by simp; omega)
  have h20 := h15.keep0 k1520
  refine ⟨_, ⟨rfl, h20.kc.u⟩, ?_⟩
  rw [div_wrap hu1 hu2 l k (by omega), mul_wrap (by omega)]
  obtain ⟨E, hE⟩ : ∃ E, stopE u a l k * u = E := ⟨_, rfl⟩
  have hrun := hF.run
  have hplo := hF.lo
  rw [hE] at hrun hplo he5 ⊢
  obtain ⟨L0, hL0⟩ : ∃ L0, stopL u a v l k = L0 := ⟨_, rfl⟩
  rw [hL0] at hrun ⊢
  have hs1 := hF.s1
  have hlen := hrun.len hN.a1 hN.v1 (fun _ => hs1)
  have sk := h15.lt
  have kall : Kp [kb] w w15 := (((k1.then k4 (by simp)).then k7 (by simp)).then0 hD.kp).then0 k15
  obtain ⟨p0, hp0⟩ : ∃ p0, posA 0 l k = p0 := ⟨_, rfl⟩
  obtain ⟨s0, hs0⟩ : ∃ s0, spdA 0 0 l k = s0 := ⟨_, rfl⟩
  rw [hp0, hs0] at hrun hplo hpb
  rw [hp0] at hlen
  rw [hs0] at hsv hs1
  rw [hp0, hs0]
  clear e20 hF
  refine kinem_Kin_steps_of ?_
  unfold W.kinem_Kin_steps
  intro c1 v2 g1 c3 v4 g3 c5 v6 g5 c7 v8 g7 c9 v10 g9
  have z2 := g1.eq
  have z4 := g3.eq
  have z6 := g5.eq
  have z8 := g7.eq
  have z10 := g9.eq
  have k10 : Kp [] w20 v10 := (((g1.kp.then0 g3.kp).then0 g5.kp).then0 g7.kp).then0 g9.kp
  refine ⟨_, rfl, fun D L lr w29 hS y30 hy30 => ?_⟩
  obtain ⟨eD, eL, s29, hD29, hL29, k29⟩ := hS
  have y1 := ((((g1.blk.keep g3.kp (by simp)).keep g5.kp (by simp)).keep g7.kp (by simp)).keep g9.kp (by simp)).keep k29 (by simp)
  have y3 := (((g3.blk.keep g5.kp (by simp)).keep g7.kp (by simp)).keep g9.kp (by simp)).keep k29 (by simp)
  have y5 := ((g5.blk.keep g7.kp (by simp)).keep g9.kp (by simp)).keep k29 (by simp)
  have y7 := (g7.blk.keep g9.kp (by simp)).keep k29 (by simp)
  have y9 := g9.blk.keep k29 (by simp)
  have k2029 := k10.then0 k29
  have q18' := q18.keep k2029 (by simp)
  have k1529 : Kp [] w15 w29 := k1520.then0 k2029
  refine ⟨by kernel_rfl, ?_⟩
  change C.kinem_Kin_steps_1 y30 (PK c1) (PK c9) (PK c5) (PK c3) (PK c7) w29 _ _
  refine use (steps_it (F := true) (kb := kb) (l := L0) hN hrun (by omega) (by omega) (fun _ => hs1) y30 (fun x => x = b18 ∨ x = L)
    (fun k W => Blk W b18 [.int .i64 k] ∧ W.heap[L]? = some (lr .ready none) ∧ W.heap[D]? = some (.deferred (some [])) ∧ Kp [] w15 W) ?_ ?_ ?_ ⟨by omega, by omega, by omega, by omega, by omega⟩ ⟨by omega, by omega, by omega, by omega, by omega, by omega, by omega⟩ y1 y9 y5 y3 y7 ⟨q18', hL29, hD29, k1529⟩) ?_
  · rintro k W ⟨_, _, _, a4⟩
    exact (h15.keep0 a4).kc
  · rintro k W W' ⟨a1, a2, a3, a4⟩ kk
    exact ⟨a1.keep kk (by simp; omega), heap_keep a2 kk (by simp; omega), heap_keep a3 kk (by simp; omega), a4.then kk (by simp; omega)⟩
  · rintro i hi W ⟨a1, a2, a3, a4⟩
    refine hy30 _ W (fun r w' => r = .bool true ∧ (Blk w' b18 [.int .i64 ((i + 1 : Nat) : Int)] ∧ w'.heap[L]? = some (lr .ready none) ∧ w'.heap[D]? = some (.deferred (some [])) ∧ Kp [] w15 w') ∧ KpF (fun x => x = b18 ∨ x = L) W w') a2 ⟨a2, fun w34 e34 => ?_⟩
    have hLlt := heap_lt a2
    have k34 : Kp [L] W w34 := e34 ▸ put_kp W L _
    have u2 : w34.heap[L]? = some (lr .busy none) := e34 ▸ put_at _ hLlt
    clear e34
    have x1 := a1.keep k34 (by simp; omega)
    have x3 := heap_keep a3 k34 (by simp; omega)
    have hw : IntKind.i64.wrap ((i : Int) + 1) = ((i + 1 : Nat) : Int) := by rw [IntKind.wrap_i64]; omega
    refine ⟨_, ⟨rfl, x1.at rfl⟩, ?_⟩
    rw [hw]
    refine ⟨⟨rfl, x1.can1 _ rfl (Nat.le_of_ble_eq_true rfl)⟩, fun w36 e36 => ?_⟩
    obtain ⟨m1, k36, s36⟩ := x1.put1 rfl e36
    have m2 := heap_keep u2 k36 (by simp; omega)
    have m3 := heap_keep x3 k36 (by simp; omega)
    refine ⟨m2, fun w37 e37 => ⟨rfl, ?_⟩⟩
    have hLlt2 := heap_lt m2
    have k37 : Kp [L] w36 w37 := e37 ▸ put_kp w36 L _
    have o2 : w37.heap[L]? = some (lr .ready none) := e37 ▸ put_at _ hLlt2
    clear e37
    refine ⟨⟨m1.keep k37 (by simp; omega), o2, heap_keep m3 k37 (by simp; omega), ?_⟩, ?_⟩
    · exact ((a4.then k34 (by simp; omega)).then k36 (by simp; omega)).then k37 (by simp; omega)
    · exact ((k34.toF (F := fun x => x = b18 ∨ x = L) (by simp)).thenK k36 (by simp)).thenK k37 (by simp)
  · rintro _ w39 ⟨rfl, a1, a2, a3, a4⟩
    refine ⟨.ready, none, a2, by simp, fun w40 e40 => ?_⟩
    have k40 : Kp [L] w39 w40 := e40 ▸ put_kp w39 L _
    clear e40
    intro w43 hD43
    have b1 := (a1.keep k40 (by simp; omega)).keep hD43.kp (by simp)
    have b3 := heap_keep (heap_keep a3 k40 (by simp; omega)) hD43.kp (by simp)
    refine ⟨_, ⟨rfl, b1.at rfl⟩, ?_⟩
    show w43.heap[D]? = some (.deferred (some [])) ∧ _
    refine ⟨b3, fun w44 e44 => ?_⟩
    have k44 : Kp [D] w43 w44 := e44 ▸ put_kp w43 D _
    have kk : Kp [] w15 w44 := ((a4.then k40 (by simp; omega)).then0 hD43.kp).then k44 (by simp; omega)
    exact ⟨rfl, h15.keep0 kk, kall.then0 kk⟩)
set_option maxHeartbeats 1000000 in
theorem rStop_s {u a v : Nat} (hN : Nums u a v) (n : Int) (w : World) (t : Int) (ht : t ≤ 9223372036854775807) :
    C.skepref09_K_Stop (kS u a v) n t w (fun r w' => r = pairV (stopP u a v n t) ∧ Kp [] w w') noP := skepref09_K_Stop_of (by
  unfold W.skepref09_K_Stop
  intro b1 w2 hA
  rw [kS_cells] at hA
  refine ⟨kS u a v, ⟨rfl, hA.blk.rd0⟩, use (rProfile_s hN n w2) ?_⟩
  rintro _ w4 ⟨s, rfl, ho, k4⟩
  have hB := hA.blk.keep k4 (by simp)
  have hsz := ni_size ho.rds
  have kk := hA.kp.then0 k4
  refine ⟨s, rfl, cond_d (fun hc => ⟨by unfold stopP; rw [if_pos hc]; rfl, kk⟩) (fun ht1 => ?_)⟩
  by_cases h0 : (pf u a v n).length = 0
  · exact cond_t (by rw [← hsz, h0]; rfl) ⟨by unfold stopP; rw [if_neg ht1, if_pos h0]; rfl, kk⟩
  refine cond_f (by rw [← hsz]; simp; exact fun e => h0 (by rw [e]; rfl)) (cond_d (fun hc => ⟨by unfold stopP; rw [if_neg ht1, if_neg h0, if_pos (by omega)]; rfl, kk⟩) (fun hlt => ?_))
  have hsp : stopP u a v n t = (((stopE u a (pf u a v n) t.toNat : Nat) : Int), (((stopL u a v (pf u a v n) t.toNat).length : Nat) : Int)) := by unfold stopP; rw [if_neg ht1, if_neg h0, if_neg (by omega)]
  rw [hsp]
  obtain ⟨n1, n2⟩ := in_pf h0
  obtain ⟨k, rfl⟩ : ∃ k : Nat, t = k := ⟨t.toNat, by omega⟩
  have hF := stop_f (k := k) hN n1 n2 (by omega) (by omega)
  have hnu := nu_le hN n2
  refine ⟨kS u a v, ⟨rfl, hB.rd0⟩, use (rAt_s hN n w4 k) ?_⟩
  rintro _ w8 ⟨rfl, k8⟩
  replace hB := hB.keep k8 (by simp)
  refine ⟨_, rfl, kS u a v, ⟨rfl, hB.rd0⟩, use (rSpeed_s hN n w8 k ht) ?_⟩
  rintro _ w12 ⟨rfl, k12⟩
  replace hB := hB.keep k12 (by simp)
  rw [Int.toNat_natCast]
  refine ⟨_, rfl, fun w15 hD => ?_⟩
  replace hB := hB.keep hD.kp (by simp)
  replace kk := ((kk.then0 k8).then0 k12).then0 hD.kp
  obtain ⟨l, hl⟩ : ∃ l, pf u a v n = l := ⟨_, rfl⟩
  rw [hl] at hF ⊢
  have hpb := hF.pb
  have hu1 := hN.u1; have hu2 := hN.u2; have hv2 := hN.v2
  have hsv := hF.sv
  have he5 := hF.e5
  refine ⟨kS u a v, ⟨rfl, hB.rd0⟩, _, ⟨rfl, hB.at rfl⟩, _, ⟨rfl, hB.at rfl⟩, use (rbrake_s u a v (spdA 0 0 l k) hN.a1 hN.a2 (by omega) w15) ?_⟩
  rintro _ w19 ⟨rfl, k19⟩
  replace hB := hB.keep k19 (by simp)
  replace kk := kk.then0 k19
  refine ⟨_, rfl, hB.at rfl, hB.at rfl, by omega, ?_⟩
  rw [div_wrap hu1 hu2 l k (by omega)]
  have hrun := hF.run
  have hplo := hF.lo
  have hs1 := hF.s1
  obtain ⟨e, he⟩ : ∃ e, stopE u a l k = e := ⟨_, rfl⟩
  rw [he] at hrun hplo he5 ⊢
  obtain ⟨L0, hL0⟩ : ∃ L0, stopL u a v l k = L0 := ⟨_, rfl⟩
  rw [hL0] at hrun ⊢
  have hmw := mul_wrap (e := e) (u := u) (by omega)
  obtain ⟨E, hE⟩ : ∃ E, e * u = E := ⟨_, rfl⟩
  rw [hE] at hrun hplo he5 hmw
  have hlen := hrun.len hN.a1 hN.v1 (fun _ => hs1)
  obtain ⟨p0, hp0⟩ : ∃ p0, posA 0 l k = p0 := ⟨_, rfl⟩
  obtain ⟨s0, hs0⟩ : ∃ s0, spdA 0 0 l k = s0 := ⟨_, rfl⟩
  rw [hp0, hs0] at hrun hplo hpb
  rw [hp0] at hlen
  rw [hs0] at hsv hs1
  rw [hp0, hs0]
  refine ⟨fun p q c w' => ∃ i : Nat, i ≤ L0.length ∧ p = (posA p0 L0 i : Nat) ∧ q = (spdA p0 s0 L0 i : Nat) ∧ c = i ∧ Kp [] w19 w', fun p _ _ _ => E - p.toNat, ⟨_, rfl, _, rfl, _, rfl, 0, Nat.zero_le _, by rw [posA_zero], rfl, rfl, Kp.refl _ _⟩, fun e0 p q c w30 hI => ?_⟩
  obtain ⟨i, hi, rfl, rfl, rfl, k30⟩ := hI
  have hB30 := hB.keep k30 (by simp)
  refine ⟨_, ⟨rfl, hB30.at rfl⟩, ?_⟩
  rw [hmw]
  refine cond_d (fun hlt2 => ?_) (fun hge => ?_)
  · have hi2 : i < L0.length := by
      rcases Nat.lt_or_ge i L0.length with h | h
      · exact h
      · have := hrun.last h; omega
    obtain ⟨t1, t2, t3⟩ := hrun.tick hi2
    have hsv2 := hrun.spd_le hsv i
    refine ⟨kS u a v, ⟨rfl, hB30.rd0⟩, _, ⟨rfl, hB30.at rfl⟩, ?_⟩
    rw [hmw]
    have w1 : IntKind.i64.wrap ((E : Int) - ((posA p0 L0 i : Nat) : Int)) = ((E - posA p0 L0 i : Nat) : Int) := by rw [IntKind.wrap_i64]; omega
    rw [w1]
    refine use (rnext_s hN.a1 hN.a2 (E - posA p0 L0 i) (spdA p0 s0 L0 i) (spdA p0 s0 L0 i) (by omega) (by omega) (by omega) w30) ?_
    rintro _ w34 ⟨rfl, k34⟩
    have eq : nx a (spdA p0 s0 L0 i) (E - posA p0 L0 i) (spdA p0 s0 L0 i) = spdA p0 s0 L0 (i + 1) := t2.symm
    rw [eq]
    have hen := hrun.end_le (i + 1)
    have w3 : IntKind.i64.wrap (((posA p0 L0 i : Nat) : Int) + ((spdA p0 s0 L0 (i + 1) : Nat) : Int)) = ((posA p0 L0 (i + 1) : Nat) : Int) := by rw [IntKind.wrap_i64]; omega
    have w4 : IntKind.i64.wrap ((i : Int) + 1) = ((i + 1 : Nat) : Int) := by rw [IntKind.wrap_i64]; omega
    have hpos := hrun.pos hN.a1 hN.v1 (fun _ => hs1) i hi2
    refine ⟨_, rfl, ?_⟩
    rw [w3, w4]
    refine ⟨_, rfl, _, rfl, _, rfl, ⟨i + 1, by omega, rfl, rfl, rfl, k30.then0 k34⟩, ?_⟩
    simp only [Int.toNat_natCast]
    omega
  · have : i = L0.length := by
      rcases Nat.lt_or_ge i L0.length with h | h
      · have := (hrun.tick h).1; omega
      · omega
    subst this
    exact ⟨rfl, kk.then0 k30⟩)
end Go.Proofs.Ytongkhanbpboaaa
