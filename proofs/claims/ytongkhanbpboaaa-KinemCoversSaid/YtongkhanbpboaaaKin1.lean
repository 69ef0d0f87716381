/- How robots run: what only computes. No conditions. -/
import Derived.Test.YtongkhanbpboaaaKinM
import Derived.Test.YtongkhanbpboaaaV0
import Derived.Test.YtongkhanbpboaaaCom
namespace Go.Proofs.Ytongkhanbpboaaa
open Go.RowKit Go.Eng
set_option linter.unusedVariables false
theorem wlk (k : Nat) (h : k ≤ 1000000000000) : IntKind.i64.wrap ((k : Int) + 1) = (k + 1 : Nat) := by rw [IntKind.wrap_i64]; omega
/-- The numbers of a Kin, in memory. -/
structure KC (w : World) (kb u a v : Nat) : Prop where
  u : w.cell? ⟨kb, 0, none⟩ = some (.int .i64 u)
  a : w.cell? ⟨kb, 1, none⟩ = some (.int .i64 a)
  v : w.cell? ⟨kb, 2, none⟩ = some (.int .i64 v)
theorem KC.keep {w w' : World} {kb u a v : Nat} {l : List Nat} (h : KC w kb u a v) (k : Kp l w w') (hn : kb ∉ l) : KC w' kb u a v := ⟨cell_keep h.u k hn, cell_keep h.a k hn, cell_keep h.v k hn⟩
theorem KC.keep0 {w w' : World} {kb u a v : Nat} (h : KC w kb u a v) (k : Kp [] w w') : KC w' kb u a v := h.keep k (by simp)
abbrev PK (b : Nat) : Option Addr := some ⟨b, 0, none⟩
/-- Numbers that are not too great. -/
structure Nums (u a v : Nat) : Prop where
  u1 : 1 ≤ u
  u2 : u ≤ 1000
  a1 : 1 ≤ a
  a2 : a ≤ 1000
  v1 : 1 ≤ v
  v2 : v ≤ 1000
theorem brk_1e6 {a s : Nat} (ha : 1 ≤ a) (hs : s ≤ 1000) : brk a s ≤ 1000000 := Nat.le_trans (brk_le ha s) (Nat.mul_le_mul hs hs)
theorem clamp (v : Nat) (s : Int) : (if (if (v : Int) < s then (v : Int) else s) > 0 then (if (v : Int) < s then (v : Int) else s) else 0) = ((min s.toNat v : Nat) : Int) := by
  split <;> split <;> omega
theorem Brake_s {kb u a v : Nat} (hN : Nums u a v) (s : Int) {w : World} (h : KC w kb u a v) : C.kinem_Kin_Brake (PK kb) s w (fun r w' => r = .int .i64 (brk a (min s.toNat v)) ∧ Kp [] w w') noP := kinem_Kin_Brake_of (by
  unfold W.kinem_Kin_Brake
  have h2 := hN.a2; have h1 := hN.a1; have h3 := hN.v2
  refine cond_f rfl ⟨_, ⟨rfl, h.a⟩, cond_d (fun hc => by omega) (fun _ w3 hD => ?_)⟩
  have hk := h.keep0 hD.kp
  refine ⟨_, ⟨rfl, hk.v⟩, _, ⟨rfl, hk.a⟩, ?_⟩
  rw [clamp]
  obtain ⟨x, hx⟩ : ∃ x, min s.toNat v = x := ⟨_, rfl⟩
  rw [hx]
  have hxv : x ≤ 1000 := by omega
  have htot := brk_1e6 h1 hxv
  have hw : IntKind.i64.wrap ((x : Int) - (a : Int)) = (x : Int) - a := by rw [IntKind.wrap_i64]; omega
  refine ⟨fun sm y w' => ∃ z S : Nat, sm = S ∧ y = (z : Int) - a ∧ z ≤ 1000 ∧ S + brk a z = brk a x ∧ Kp [] w w', fun _ y _ => (y + 1000).toNat, ⟨_, rfl, _, rfl, x, 0, rfl, hw, hxv, by omega, hD.kp⟩, fun e0 sm y w14 hI => ?_⟩
  obtain ⟨z, S, rfl, rfl, hz, hS, k14⟩ := hI
  refine cond_d (fun hp => ⟨_, ⟨rfl, (h.keep0 k14).a⟩, ?_⟩) (fun hp => ?_)
  · have hb := brk_eq h1 z
    have w1 : IntKind.i64.wrap ((S : Int) + ((z : Int) - a)) = ((S + (z - a) : Nat) : Int) := by rw [IntKind.wrap_i64]; omega
    have w2 : IntKind.i64.wrap ((z : Int) - (a : Int) - (a : Int)) = (((z - a : Nat) : Int) - a) := by rw [IntKind.wrap_i64]; omega
    exact ⟨_, rfl, _, rfl, ⟨z - a, S + (z - a), w1, w2, by omega, by omega, k14⟩, by simp only [w2]; omega⟩
  · rw [brk_small (by omega)] at hS
    exact ⟨by rw [← hS]; rfl, k14⟩)
theorem min3 (s a v r : Nat) : (if (r : Int) < (if (v : Int) < ((s + a : Nat) : Int) then (v : Int) else ((s + a : Nat) : Int)) then (r : Int) else (if (v : Int) < ((s + a : Nat) : Int) then (v : Int) else ((s + a : Nat) : Int))) = ((min (s + a) (min v r) : Nat) : Int) := by
  split <;> split <;> omega
theorem next_s {kb u a v : Nat} (hN : Nums u a v) (r s vm : Nat) (hr : r ≤ 1000000) (hs : s ≤ 1000000) (hv : vm ≤ v) {w : World} (h : KC w kb u a v) : C.kinem_Kin_next (PK kb) r s vm w (fun q w' => q = .int .i64 (nx a vm r s) ∧ Kp [] w w') noP := kinem_Kin_next_of (by
  unfold W.kinem_Kin_next
  have h2 := hN.a2; have h1 := hN.a1; have h3 := hN.v2
  refine ⟨_, ⟨rfl, h.a⟩, ?_⟩
  have w1 : IntKind.i64.wrap ((s : Int) + (a : Int)) = ((s + a : Nat) : Int) := by rw [IntKind.wrap_i64]; omega
  rw [w1, min3]
  refine ⟨fun q w' => ∃ z : Nat, q = z ∧ z ≤ min (s + a) (min vm r) ∧ nxd a r z = nx a vm r s ∧ Kp [] w w', fun q _ => q.toNat, ⟨_, rfl, _, rfl, Nat.le_refl _, rfl, Kp.refl _ _⟩, fun e0 q w7 hI => ?_⟩
  obtain ⟨z, rfl, hz, hn, k7⟩ := hI
  refine cond_d (fun hc => ?_) (fun hc => ?_)
  · refine use (Brake_s hN (z : Int) (h.keep0 k7)) ?_
    rintro _ w8 ⟨rfl, k8⟩
    rw [Int.toNat_natCast, Nat.min_eq_left (by omega)]
    have w2 : IntKind.i64.wrap ((r : Int) - (z : Int)) = ((r - z : Nat) : Int) := by rw [IntKind.wrap_i64]; omega
    rw [w2]
    obtain ⟨y, rfl⟩ : ∃ y, z = y + 1 := ⟨z - 1, by omega⟩
    refine ⟨_, rfl, cond_d (fun hb => ?_) (fun hb => ?_)⟩
    · have w3 : IntKind.i64.wrap (((y + 1 : Nat) : Int) - 1) = (y : Nat) := by rw [IntKind.wrap_i64]; omega
      refine ⟨_, rfl, ⟨y, w3, by omega, ?_, k7.then0 k8⟩, by simp only [w3]; omega⟩
      rw [nxd, if_pos ⟨by omega, by omega⟩] at hn
      exact hn
    · rw [nxd, if_neg (by omega)] at hn
      exact ⟨by rw [← hn], k7.then0 k8⟩
  · refine ⟨?_, k7⟩
    have : z = 0 ∨ z = 1 := by omega
    rcases this with rfl | rfl
    · rw [← hn]; rfl
    · rw [nxd, if_neg (by omega)] at hn
      rw [← hn])
/-- The document's. -/
def kS (u a v : Nat) : S.skepref09_K := ⟨u, a, v⟩
theorem kS_cells (u a v : Nat) : (S.skepref09_K.v (kS u a v) : Value).cells.toList = [.int .i64 u, .int .i64 a, .int .i64 v] := rfl
theorem rbrake_s (u a v s : Nat) (ha : 1 ≤ a) (ha2 : a ≤ 1000) (hs : s ≤ 1000000) (w : World) : C.skepref09_K_brake (kS u a v) s w (fun r w' => r = .int .i64 (brk a s) ∧ Kp [] w w') noP := skepref09_K_brake_of (by
  unfold W.skepref09_K_brake
  intro b1 w2 hA
  rw [kS_cells] at hA
  have hB := hA.blk
  have htot := brk_le ha s
  have hss : s * s ≤ 1000000 * 1000000 := Nat.mul_le_mul hs hs
  have hw : IntKind.i64.wrap ((s : Int) - (a : Int)) = (s : Int) - a := by rw [IntKind.wrap_i64]; omega
  refine ⟨_, ⟨rfl, hB.at rfl⟩, fun y sm w' => ∃ z S : Nat, sm = S ∧ y = (z : Int) - a ∧ z ≤ 1000000 ∧ S + brk a z = brk a s ∧ Kp [] w2 w', fun y _ _ => (y + 1000).toNat, ⟨_, rfl, _, rfl, s, 0, rfl, hw, hs, by omega, Kp.refl _ _⟩, fun e0 y sm w14 hI => ?_⟩
  obtain ⟨z, S, rfl, rfl, hz, hS, k14⟩ := hI
  refine cond_d (fun hp => ⟨_, ⟨rfl, (hB.keep k14 (by simp)).at rfl⟩, ?_⟩) (fun hp => ?_)
  · have hb := brk_eq ha z
    have w1 : IntKind.i64.wrap ((S : Int) + ((z : Int) - a)) = ((S + (z - a) : Nat) : Int) := by rw [IntKind.wrap_i64]; omega
    have w2 : IntKind.i64.wrap ((z : Int) - (a : Int) - (a : Int)) = (((z - a : Nat) : Int) - a) := by rw [IntKind.wrap_i64]; omega
    exact ⟨_, rfl, _, rfl, ⟨z - a, S + (z - a), w1, w2, by omega, by omega, k14⟩, by simp only [w2]; omega⟩
  · rw [brk_small (by omega)] at hS
    exact ⟨by rw [← hS]; rfl, hA.kp.then0 k14⟩)
theorem rBrake_s {u a v : Nat} (hN : Nums u a v) (s : Int) (w : World) : C.skepref09_K_Brake (kS u a v) s w (fun r w' => r = .int .i64 (brk a (min s.toNat v)) ∧ Kp [] w w') noP := skepref09_K_Brake_of (by
  unfold W.skepref09_K_Brake
  have h2 := hN.a2; have h1 := hN.a1; have h3 := hN.v2; have h4 := hN.v1
  intro b1 w2 hA
  rw [kS_cells] at hA
  have hB := hA.blk
  have c2 := hB.at (i := 2) rfl
  have cr : Go.Eng.rd w2 ⟨b1, 0, none⟩ (S.skepref09_K.v (kS u a v)) := hB.rd0
  have go : ∀ x : Nat, x ≤ 1000 → min s.toNat v = x → C.skepref09_K_brake (kS u a v) x w2 (fun r8 w6 => ∃ p7 : Int, r8 = .int .i64 p7 ∧ ((.int .i64 p7 : Value) = .int .i64 (brk a (min s.toNat v)) ∧ Kp [] w w6)) noP := fun x hx e => by
    refine use (rbrake_s u a v x h1 h2 (by omega) w2) ?_
    rintro _ w6 ⟨rfl, k6⟩
    exact ⟨_, rfl, by rw [e], hA.kp.then0 k6⟩
  refine cond_d (fun hs => ⟨_, ⟨rfl, c2⟩, cond_d (fun hc => by omega) (fun _ => ⟨kS u a v, ⟨rfl, cr⟩, go 0 (by omega) (by omega)⟩)⟩) (fun hs => ⟨_, ⟨rfl, c2⟩, cond_d (fun hc => ⟨_, ⟨rfl, c2⟩, kS u a v, ⟨rfl, cr⟩, go v h3 (by omega)⟩) (fun hc => ⟨kS u a v, ⟨rfl, cr⟩, ?_⟩)⟩)
  obtain ⟨n, rfl⟩ : ∃ n : Nat, s = n := ⟨s.toNat, by omega⟩
  exact go n (by omega) (by omega))
theorem rnext_s {u a v : Nat} (ha : 1 ≤ a) (ha2 : a ≤ 1000) (r s vm : Nat) (hr : r ≤ 1000000) (hs : s ≤ 100000) (hv : vm ≤ 100000) (w : World) : C.skepref09_K_next (kS u a v) r s vm w (fun q w' => q = .int .i64 (nx a vm r s) ∧ Kp [] w w') noP := skepref09_K_next_of (by
  unfold W.skepref09_K_next
  intro b1 w2 hA
  rw [kS_cells] at hA
  have hB := hA.blk
  have w1 : IntKind.i64.wrap ((s : Int) + (a : Int)) = ((s + a : Nat) : Int) := by rw [IntKind.wrap_i64]; omega
  refine ⟨_, ⟨rfl, hB.at rfl⟩, ?_⟩
  rw [w1]
  refine ⟨fun q w' => q = ((min (s + a) vm : Nat) : Int) ∧ w2 = w', cond_d (fun hc => ⟨_, rfl, by omega, rfl⟩) (fun hc => ⟨_, rfl, by omega, rfl⟩), ?_⟩
  rintro e0 _ _ ⟨rfl, rfl⟩
  refine ⟨fun q w' => q = ((min (s + a) (min vm r) : Nat) : Int) ∧ w2 = w', cond_d (fun hc => ⟨_, rfl, by omega, rfl⟩) (fun hc => ⟨_, rfl, by omega, rfl⟩), ?_⟩
  rintro e1 _ _ ⟨rfl, rfl⟩
  refine ⟨fun q w' => ∃ z : Nat, q = z ∧ z ≤ min (s + a) (min vm r) ∧ nxd a r z = nx a vm r s ∧ Kp [] w2 w', fun q _ => q.toNat, ⟨_, rfl, _, rfl, Nat.le_refl _, rfl, Kp.refl _ _⟩, fun e0 q w7 hI => ?_⟩
  obtain ⟨z, rfl, hz, hn, k7⟩ := hI
  refine cond_d (fun hc => ?_) (fun hc => ?_)
  · refine ⟨kS u a v, ⟨rfl, (hB.keep k7 (by simp)).rd0⟩, ?_⟩
    refine use (rbrake_s u a v z ha ha2 (by omega) w7) ?_
    rintro _ w8 ⟨rfl, k8⟩
    have w2 : IntKind.i64.wrap ((r : Int) - (z : Int)) = ((r - z : Nat) : Int) := by rw [IntKind.wrap_i64]; omega
    rw [w2]
    obtain ⟨y, rfl⟩ : ∃ y, z = y + 1 := ⟨z - 1, by omega⟩
    refine ⟨_, rfl, cond_d (fun hb => ?_) (fun hb => ?_)⟩
    · have w3 : IntKind.i64.wrap (((y + 1 : Nat) : Int) - 1) = (y : Nat) := by rw [IntKind.wrap_i64]; omega
      refine ⟨_, rfl, ⟨y, w3, by omega, ?_, k7.then0 k8⟩, by simp only [w3]; omega⟩
      rw [nxd, if_pos ⟨by omega, by omega⟩] at hn
      exact hn
    · rw [nxd, if_neg (by omega)] at hn
      exact ⟨by rw [← hn], hA.kp.then0 (k7.then0 k8)⟩
  · refine ⟨?_, hA.kp.then0 k7⟩
    have : z = 0 ∨ z = 1 := by omega
    rcases this with rfl | rfl
    · rw [← hn]; rfl
    · rw [nxd, if_neg (by omega)] at hn
      rw [← hn])
def MayI (u a v : Int) : Prop := (1 ≤ u ∧ u ≤ 1000) ∧ (1 ≤ a ∧ a ≤ 1000) ∧ (1 ≤ v ∧ v ≤ 1000)
instance (u a v : Int) : Decidable (MayI u a v) := by unfold MayI; infer_instance
theorem May_s (u a v : Int) (w : World) : C.skepref09_May ⟨u, a, v⟩ w (fun r w' => r = .bool (decide (MayI u a v)) ∧ Kp [] w w') noP := skepref09_May_of (by
  unfold W.skepref09_May
  intro b1 w2 hA
  have hB := hA.blk
  have c0 := hB.at (i := 0) rfl
  have c1 := hB.at (i := 1) rfl
  have c2 := hB.at (i := 2) rfl
  have no : ¬ MayI u a v → Value.bool false = .bool (decide (MayI u a v)) ∧ Kp [] w w2 := fun h => ⟨by rw [decide_eq_false h], hA.kp⟩
  unfold MayI at no ⊢
  refine ⟨u, ⟨rfl, c0⟩, cond_d (fun h0 => ⟨u, ⟨rfl, c0⟩, cond_d (fun h1 => ⟨a, ⟨rfl, c1⟩, cond_d (fun h2 => ⟨a, ⟨rfl, c1⟩, cond_d (fun h3 => ⟨v, ⟨rfl, c2⟩, cond_d (fun h4 => ⟨v, ⟨rfl, c2⟩, ?_, hA.kp⟩) (fun _ => no (by omega))⟩) (fun _ => no (by omega))⟩) (fun _ => no (by omega))⟩) (fun _ => no (by omega))⟩) (fun _ => no (by omega))⟩
  congr 1
  exact decide_eq_decide.2 ⟨fun h => ⟨⟨h0, h1⟩, ⟨h2, h3⟩, h4, h⟩, fun h => h.2.2.2⟩)
end Go.Proofs.Ytongkhanbpboaaa
