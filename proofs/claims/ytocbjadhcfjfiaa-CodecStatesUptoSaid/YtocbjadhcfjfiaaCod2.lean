/- The document's numbers; PutNumber. No conditions. -/
import Derived.Test.YtocbjadhcfjfiaaCod1
namespace Go.Proofs.Ytocbjadhcfjfiaa
open Go.RowKit Go.Eng
set_option linter.unusedVariables false
theorem use2 {P : Program} {f : Nat} {args : Array Value} {w : World} {K K' : Value → World → Prop} {KP KP' : List PanicEntry → World → Prop} (h : Calls P f args w (Ret K KP)) (k : ∀ v w', K v w' → K' v w') (kp : ∀ c w', KP c w' → KP' c w') : Calls P f args w (Ret K' KP') :=
  Calls.mono h (fun e w' he => by cases e <;> first | exact k _ _ he | exact kp _ _ he | exact he.elim)
abbrev slv (x : Sl) : Value := .slice x.a x.len x.cap
/-- What appends the bytes x to the bytes of s. -/
def Apd (call : World → (Value → World → Prop) → (List PanicEntry → World → Prop) → Prop) (s : Sl) (x : Bs) : Prop :=
  ∀ (w : World) (B : Nat) (l : Bs), OwnB w B s l → B ≤ w.heap.size → l.length + x.length ≤ 1000000000 → call w (fun r w' => ∃ s' : Sl, r = slv s' ∧ OwnB w' B s' (l ++ x) ∧ Kp (blkOf s) w w' ∧ ∀ y ∈ blkOf s', y ∈ blkOf s ∨ w.heap.size ≤ y) noP
theorem number_a (s : Sl) (v : Int) (hv : in64 v) : Apd (fun w K KP => C.codec_number s v w K KP) s (putN v) := fun w B l ho hB hl => number_s v hv ho hB (by omega)
set_option maxHeartbeats 1000000 in
theorem rNumber_s (v : Int) (hv : in64 v) (w : World) : C.skepref05_Number v w (fun r w' => ∃ s : Sl, r = slv s ∧ OwnB w' w.heap.size s (putN v) ∧ Kp [] w w') noP := skepref05_Number_of (by
  unfold W.skepref05_Number
  refine ⟨by decide, fun x w' => x = ((zig v : Nat) : Int) ∧ w = w', ?_, ?_⟩
  · have hz := zig_lt hv
    refine cond_d (fun hn => ⟨by decide, _, rfl, ?_, rfl⟩) (fun hp => ⟨_, rfl, ?_, rfl⟩)
    · show IntKind.u64.wrap (IntKind.u64.wrap (IntKind.u64.wrap (IntKind.i64.wrap (0 - IntKind.i64.wrap (v + 1))) * 2 ^ 1) + 1) = _
      rw [IntKind.wrap_i64, IntKind.wrap_i64, wrap_u64, wrap_u64, wrap_u64]
      unfold zig
      rw [if_neg (by omega)]
      omega
    · show IntKind.u64.wrap (IntKind.u64.wrap v * 2 ^ 1) = _
      rw [wrap_u64, wrap_u64]
      unfold zig
      rw [if_pos (by omega)]
      omega
  rintro e0 _ _ ⟨rfl, rfl⟩
  refine ⟨fun x s w' => ∃ (u f : Nat) (m : Bs), x = u ∧ f ≤ 9 ∧ m.length + f = 9 ∧ u < 2 * 128 ^ f ∧ putN v = m ++ encF f u ∧ OwnB w' w.heap.size s m ∧ Kp [] w w', fun x _ _ => x.toNat, ⟨_, rfl, ⟨none, 0, 0⟩, rfl, zig v, 9, [], rfl, by omega, rfl, by rw [p64]; exact zig_lt hv, rfl, Go.Eng.Own.nil _ _ _, Kp.refl _ _⟩, ?_⟩
  rintro e1 _ s w12 ⟨u, f, m, rfl, hf, hm, hu, hp, ho, k12⟩
  have hsz := ho.rds.bsize
  have s12 := k12.size
  have hlo := ho.lo
  refine cond_d (fun hc => ⟨by decide, fun b13 w14 hA => ?_⟩) (fun hc b21 w22 hA => ?_)
  · obtain ⟨g, rfl⟩ : ∃ g, f = g + 1 := ⟨f - 1, by
      rcases Nat.eq_zero_or_pos f with e | e
      · subst e; simp at hu; omega
      · omega⟩
    have e8 : IntKind.u8.wrap (IntKind.u8.wrap (Int.tmod (u : Int) 128) + 128) = ((u % 128 + 128 : Nat) : Int) := by
      rw [wrap_u8, wrap_u8, Int.tmod_eq_emod_of_nonneg (by omega)]; omega
    rw [e8] at hA
    have hx : RdB w14 ⟨some ⟨b13, 0, none⟩, 1, 1⟩ [UInt8.ofNat (u % 128 + 128)] := ⟨rfl, fun _ => ⟨_, rfl, hA.blk.has 0 _ (fun i w hi => by
      rw [Nat.zero_add]
      simp only [bv, vb, List.map_cons, List.map_nil, u8n (show u % 128 + 128 < 256 by omega)] at hi
      exact hi)⟩⟩
    have s14 := hA.eq
    obtain ⟨q, n, c, w18, hrun, hn, ho18, k18, hq⟩ := app_bytes (ty := 22) Try.underlying22 byte_inf (ho.keep0 hA.kp) hx (by omega) (by simp; omega)
    have ed : IntKind.u64.wrap (Int.tdiv (u : Int) 128) = ((u / 128 : Nat) : Int) := by
      rw [wrap_u64, Int.tdiv_eq_ediv_of_nonneg (by omega)]
      rw [pow_step] at hu
      have h9 : 128 ^ g ≤ 128 ^ 9 := Nat.pow_le_pow_right (by omega) (by omega)
      rw [p9] at h9
      omega
    refine ⟨q, n, c, w18, hrun, by decide, _, rfl, ⟨q, n, c⟩, rfl, ⟨u / 128, g, m ++ [UInt8.ofNat (u % 128 + 128)], ed, by omega, by simp; omega, by rw [pow_step] at hu; omega, ?_, ho18, (k12.then0 hA.kp).then k18 (fun y hy => .inr (hlo y hy).1)⟩, ?_⟩
    · rw [hp, encF, if_neg (by omega)]; simp
    · rw [ed]; simp only [Int.toNat_natCast]; omega
  · have hw : IntKind.u8.wrap (u : Int) = (u : Nat) := by rw [wrap_u8]; omega
    rw [hw] at hA
    have hx : RdB w22 ⟨some ⟨b21, 0, none⟩, 1, 1⟩ [UInt8.ofNat u] := ⟨rfl, fun _ => ⟨_, rfl, hA.blk.has 0 _ (fun i w hi => by
      rw [Nat.zero_add]
      simp only [bv, vb, List.map_cons, List.map_nil, u8n (show u < 256 by omega)] at hi
      exact hi)⟩⟩
    have s22 := hA.eq
    obtain ⟨q, n, c, w26, hrun, hn, ho26, k26, hq⟩ := app_bytes (ty := 22) Try.underlying22 byte_inf (ho.keep0 hA.kp) hx (by omega) (by simp; omega)
    refine ⟨q, n, c, w26, hrun, ⟨q, n, c⟩, rfl, ?_, (k12.then0 hA.kp).then k26 (fun y hy => .inr (hlo y hy).1)⟩
    have : encF f u = [UInt8.ofNat u] := by
      cases f with
      | zero => rfl
      | succ g => rw [encF, if_pos (by omega)]
    rw [hp, this]
    exact ho26)
theorem rnum_a (s : Sl) (v : Int) (hv : in64 v) : Apd (fun w K KP => C.skepref05_num s v w K KP) s (putN v) := fun w B l ho hB hl => skepref05_num_of (by
  unfold W.skepref05_num
  refine use (rNumber_s v hv w) ?_
  rintro _ w1 ⟨x, rfl, hx, k1⟩
  have s1 := k1.size
  obtain ⟨q, n, c, w7, hrun, hn, ho7, k7, hq⟩ := app_bytes (ty := 22) Try.underlying22 byte_inf (ho.keep0 k1) hx.rds (by omega) (by omega)
  refine ⟨x, rfl, q, n, c, w7, hrun, ⟨q, n, c⟩, rfl, ho7, (k1.up _).then k7 (fun y hy => .inl hy), fun y hy => ?_⟩
  rcases hq with e | ⟨hf', _⟩
  · have : y ∈ blkOf s := by unfold blkOf at hy ⊢; rw [e] at hy; exact hy
    exact .inl this
  · have := hf' y hy; exact .inr (by omega))
/-- The document's reader: none: it went bad. -/
structure RsR (w : World) (r : Nat) (s : Sl) (l : Bs) (st : Option Nat) : Prop where
  b : ∃ (at_ : Int) (bad : Bool), Blk w r [slv s, .int .i64 at_, .bool bad] ∧ match st with | some p => at_ = p ∧ bad = false ∧ p ≤ l.length | none => bad = true
  d : RdB w s l
  n : 0 < s.len → r ∉ blkOf s
  sm : l.length ≤ 140737488355328
theorem Rds.keepZ {w w' : World} {sz : Nat} {s : Sl} {xs : List Value} {l : List Nat} (h : Rds w sz s xs) (k : Kp l w w') (hn : 0 < s.len → ∀ y ∈ blkOf s, y ∉ l) : Rds w' sz s xs := by
  rcases Nat.eq_zero_or_pos s.len with e | e
  · exact ⟨h.1, fun h0 => by omega⟩
  · exact Rds.keepL h k (hn e)
theorem RsR.keep0 {w w' : World} {r : Nat} {s : Sl} {l : Bs} {st : Option Nat} (h : RsR w r s l st) (k : Kp [] w w') : RsR w' r s l st := by
  obtain ⟨⟨a, b, h1, h2⟩, h3, h4, h5⟩ := h
  exact ⟨⟨a, b, h1.keep k (by simp), h2⟩, h3.keep0 k, h4, h5⟩
theorem RsR.keep {w w' : World} {r : Nat} {s : Sl} {l : Bs} {st : Option Nat} {B : List Nat} (h : RsR w r s l st) (k : Kp B w w') (hr : r ∉ B) (hn : 0 < s.len → ∀ y ∈ blkOf s, y ∉ B) : RsR w' r s l st := by
  obtain ⟨⟨a, b, h1, h2⟩, h3, h4, h5⟩ := h
  exact ⟨⟨a, b, h1.keep k hr, h2⟩, Rds.keepZ h3 k hn, h4, h5⟩
/-- What reading by p comes to. -/
def Res {α : Type} (p : Bs → Option (α × Bs)) (l : Bs) (st : Option Nat) (x : α) (st' : Option Nat) : Prop :=
  (∃ k k', st = some k ∧ st' = some k' ∧ p (l.drop k) = some (x, l.drop k')) ∨ (st' = none ∧ ∀ k, st = some k → p (l.drop k) = none)
def ParR {α : Type} (p : Bs → Option (α × Bs)) (enc : α → Value) (call : World → (Value → World → Prop) → (List PanicEntry → World → Prop) → Prop) (r : Nat) : Prop :=
  ∀ (w : World) (s : Sl) (l : Bs) (st : Option Nat), RsR w r s l st → call w (fun v w' => ∃ x st', v = enc x ∧ Res p l st x st' ∧ RsR w' r s l st' ∧ Kp [r] w w') noP
theorem num_none {l : Bs} (h : dec 0 l = none) : num l = none := by unfold num; rw [h]; rfl
theorem res_zag (U : Nat) (h : U < 18446744073709551616) : (if Int.tmod (U : Int) 2 = 1 then IntKind.i64.wrap (IntKind.i64.wrap (0 - IntKind.i64.wrap (IntKind.u64.wrap (Int.tdiv (U : Int) 2))) - 1) else IntKind.i64.wrap (IntKind.u64.wrap (Int.tdiv (U : Int) 2))) = zag U := by
  rw [Int.tmod_eq_emod_of_nonneg (by omega), Int.tdiv_eq_ediv_of_nonneg (by omega)]
  unfold zag
  rw [wrap_u64, IntKind.wrap_i64, IntKind.wrap_i64, IntKind.wrap_i64]
  split <;> split <;> omega
set_option maxRecDepth 20000 in
set_option maxHeartbeats 2000000 in
theorem R_Number_p (r : Nat) : ParR num (Value.int .i64) (fun w K KP => C.skepref05_R_Number (some ⟨r, 0, none⟩) w K KP) r := fun w s l st hR => skepref05_R_Number_of (by
  unfold W.skepref05_R_Number
  obtain ⟨⟨at0, bad0, hB, hst⟩, hd, hn, hsm⟩ := hR
  cases st with
  | none =>
    subst hst
    refine ⟨fun u i w' => i = 0 ∧ Kp [] w w', fun _ _ _ => 0, ⟨_, rfl, _, rfl, rfl, Kp.refl _ _⟩, ?_⟩
    rintro e0 u _ w7 ⟨rfl, k7⟩
    refine cond_t rfl (fun w8 hD => ?_)
    have hB8 := (hB.keep k7 (by simp)).keep hD.kp (by simp)
    refine ⟨true, ⟨rfl, hB8.at rfl⟩, cond_t rfl ⟨⟨rfl, hB8.can1 _ rfl (Nat.le_of_ble_eq_true rfl)⟩, fun w12 e12 => ?_⟩⟩
    obtain ⟨g1, g2, g3⟩ := hB8.put1 (i := 2) rfl e12
    have kk := ((k7.then0 hD.kp).up [r]).then g2 (by simp)
    exact ⟨0, none, rfl, .inr ⟨rfl, fun k h => by cases h⟩, ⟨⟨at0, true, g1, rfl⟩, Rds.keepZ hd kk (fun h0 y hy => by simp; intro e; exact hn h0 (e ▸ hy)), hn, hsm⟩, kk⟩
  | some p =>
    obtain ⟨rfl, rfl, hp⟩ := hst
    obtain ⟨L, hL⟩ : ∃ L, l.drop p = L := ⟨_, rfl⟩
    have hLl : L.length = l.length - p := by rw [← hL, List.length_drop]
    have hsz := hd.bsize
    have nn : 0 < s.len → ∀ y ∈ blkOf s, y ∉ [r] := fun h0 y hy => by simp; intro e; exact hn h0 (e ▸ hy)
    have fail : ∀ (W W' : World) (cs : List Value) (x : Int), Kp [r] w W → Blk W r [slv s, .int .i64 x, .bool false] → dec 0 L = none → W' = putAt W ⟨r, 2, none⟩ (.bool true) → ∃ (y : Int) (st' : Option Nat), (.int .i64 0 : Value) = .int .i64 y ∧ Res num l (some p) y st' ∧ RsR W' r s l st' ∧ Kp [r] w W' := fun W W' cs x kW hW hdn e => by
      obtain ⟨g1, g2, g3⟩ := hW.put1 (i := 2) rfl e
      have kk := kW.then g2 (by simp)
      exact ⟨0, none, rfl, .inr ⟨rfl, fun k h => by injection h with h; subst h; rw [hL]; exact num_none hdn⟩, ⟨⟨x, true, g1, rfl⟩, Rds.keepZ hd kk nn, hn, hsm⟩, kk⟩
    refine ⟨fun u i w' => ∃ a j : Nat, u = a ∧ i = j ∧ j ≤ 10 ∧ a < 128 ^ j ∧ dec 0 L = (dec j (L.drop j)).map (fun q => (a + 128 ^ j * q.1, j + q.2)) ∧ j ≤ L.length ∧ Blk w' r [slv s, .int .i64 (p + j : Nat), .bool false] ∧ Kp [r] w w', fun _ i _ => 10 - i.toNat, ⟨_, rfl, _, rfl, 0, 0, rfl, rfl, by omega, by decide, by simp, by omega, hB, Kp.refl _ _⟩, ?_⟩
    rintro e0 _ _ w7 ⟨a, j, rfl, rfl, hj, haj, hdd, hjL, hB7, k7⟩
    refine cond_i (fun hc w8 hD => ?_) (fun hc => ?_)
    · replace hc := of_decide_eq_true hc
      have hB8 := hB7.keep hD.kp (by simp)
      have k8 := k7.then0 hD.kp
      refine ⟨false, ⟨rfl, hB8.at rfl⟩, cond_f rfl ⟨_, ⟨rfl, hB8.at rfl⟩, s, ⟨rfl, hB8.at rfl⟩, cond_i (fun hge => ?_) (fun hlt w19 hD19 => ?_)⟩⟩
      · replace hge := of_decide_eq_true hge
        have : L.drop j = [] := List.drop_eq_nil_of_le (by omega)
        rw [this] at hdd
        exact ⟨⟨rfl, hB8.can1 _ rfl (Nat.le_of_ble_eq_true rfl)⟩, fun w18 e18 => fail w8 w18 [] _ k8 hB8 hdd e18⟩
      replace hlt := of_decide_eq_false hlt
      have hjL2 : j < L.length := by omega
      have hB19 := hB8.keep hD19.kp (by simp)
      have k19 := k8.then0 hD19.kp
      obtain ⟨A, hA, hcell⟩ := (Rds.keepZ hd k19 nn).byte (i := p + j) (by omega)
      have hLk : L[j] = l[p + j]'(by omega) := by subst hL; simp
      rw [drop_cons hjL2, dec] at hdd
      obtain ⟨y, hy⟩ : ∃ y : Nat, (L[j]).toNat = y := ⟨_, rfl⟩
      have hyl : y < 256 := hy ▸ (L[j]).toNat_lt
      rw [hy] at hdd
      rw [← hLk, hy] at hcell
      refine ⟨s, ⟨rfl, hB19.at rfl⟩, _, ⟨rfl, hB19.at rfl⟩, ?_⟩
      rw [hA, Int.toNat_natCast]
      have e1 : IntKind.i64.wrap (((p + j : Nat) : Int) + 1) = ((p + (j + 1) : Nat) : Int) := by rw [IntKind.wrap_i64]; omega
      refine ⟨⟨by omega, by omega⟩, _, ⟨rfl, hcell⟩, _, ⟨rfl, hB19.at rfl⟩, ?_⟩
      rw [e1]
      refine ⟨⟨rfl, hB19.can1 _ rfl (Nat.le_of_ble_eq_true rfl)⟩, fun w29 e29 => ?_⟩
      obtain ⟨g1, g2, g3⟩ := hB19.put1 (i := 1) rfl e29
      replace g1 : Blk w29 r [slv s, .int .i64 ((p + (j + 1) : Nat) : Int), .bool false] := g1
      have k29 := k19.then g2 (by simp)
      clear e29
      refine ⟨fun w' => ¬ (j = 9 ∧ 1 < y) ∧ w29 = w', ?_, ?_⟩
      · by_cases h9 : j = 9
        · refine cond_t (beq_t (by omega)) (cond_i (fun hg => ?_) (fun hg => ⟨by have := of_decide_eq_false hg; omega, rfl⟩))
          replace hg := of_decide_eq_true hg
          rw [if_pos (by omega)] at hdd
          exact ⟨⟨rfl, g1.can1 _ rfl (Nat.le_of_ble_eq_true rfl)⟩, fun w32 e32 => fail w29 w32 [] _ k29 g1 hdd e32⟩
        · exact cond_f (beq_f (by omega)) ⟨by omega, rfl⟩
      rintro e1 _ ⟨hgood, rfl⟩
      have hpl := part_lt (i := j) (y := y) (acc := a) (by omega) haj (by omega)
      have e7 : IntKind.i64.wrap (7 * (j : Int)) = ((7 * j : Nat) : Int) := by rw [IntKind.wrap_i64]; omega
      have eI : IntKind.u64.wrap (IntKind.i64.wrap (7 * (j : Int))) = IntKind.i64.wrap (7 * (j : Int)) := by rw [e7, wrap_u64]; omega
      have em : Int.tmod (y : Int) 128 = ((y % 128 : Nat) : Int) := by rw [Int.tmod_eq_emod_of_nonneg (by omega)]; omega
      rw [eI, em, shl_at (by omega) (by omega)]
      have es : IntKind.u64.wrap ((a : Int) + ((y % 128 * 128 ^ j : Nat) : Int)) = ((a + y % 128 * 128 ^ j : Nat) : Int) := by
        generalize y % 128 * 128 ^ j = z at hpl ⊢
        rw [wrap_u64]; omega
      rw [es, e7]
      refine ⟨by decide, by omega, cond_i (fun hlt => ?_) (fun hge => ?_)⟩
      · replace hlt := of_decide_eq_true hlt
        refine ⟨fun w' => ¬ (0 < j ∧ y = 0) ∧ w29 = w', ?_, ?_⟩
        · by_cases hy0 : y = 0
          · refine cond_t (beq_t (by omega)) (cond_i (fun hg => ?_) (fun hg => ⟨by have := of_decide_eq_false hg; omega, rfl⟩))
            replace hg := of_decide_eq_true hg
            rw [if_pos (by omega)] at hdd
            exact ⟨⟨rfl, g1.can1 _ rfl (Nat.le_of_ble_eq_true rfl)⟩, fun w36 e36 => fail w29 w36 [] _ k29 g1 hdd e36⟩
          · exact cond_f (beq_f (by omega)) ⟨by omega, rfl⟩
        rintro e2 _ ⟨hgood2, rfl⟩
        have hy2 : y % 128 = y := by omega
        rw [hy2] at hpl ⊢
        rw [if_neg (by omega), if_pos (by omega)] at hdd
        have hz := res_zag _ hpl
        have hres : Res num l (some p) (zag (a + y * 128 ^ j)) (some (p + (j + 1))) := .inl ⟨p, p + (j + 1), rfl, rfl, by
          rw [hL]
          unfold num
          rw [hdd]
          simp only [Option.map_some]
          rw [Nat.mul_comm (128 ^ j), ← hL, List.drop_drop]⟩
        have hRs : RsR w29 r s l (some (p + (j + 1))) := ⟨⟨_, false, g1, rfl, rfl, by omega⟩, Rds.keepZ hd k29 nn, hn, hsm⟩
        refine ⟨by decide, ?_⟩
        by_cases ht : Int.tmod ((a + y * 128 ^ j : Nat) : Int) 2 = 1
        · rw [if_pos ht] at hz
          refine cond_t (beq_t ht) ⟨by decide, ?_⟩
          rw [hz]
          exact ⟨_, _, rfl, hres, hRs, k29⟩
        · rw [if_neg ht] at hz
          refine cond_f (beq_f ht) ⟨by decide, ?_⟩
          rw [hz]
          exact ⟨_, _, rfl, hres, hRs, k29⟩
      · replace hge := of_decide_eq_false hge
        rw [if_neg (by omega), if_neg (by omega)] at hdd
        have e3 : IntKind.i64.wrap ((j : Int) + 1) = ((j + 1 : Nat) : Int) := by rw [IntKind.wrap_i64]; omega
        rw [e3]
        refine ⟨_, rfl, _, rfl, ⟨a + y % 128 * 128 ^ j, j + 1, rfl, rfl, by omega, ?_, ?_, by omega, g1, k29⟩, by simp only [Int.toNat_natCast]; omega⟩
        · rw [Nat.pow_succ]
          have h2 : y % 128 * 128 ^ j ≤ 127 * 128 ^ j := Nat.mul_le_mul_right _ (by omega)
          omega
        · rw [hdd, Option.map_map]
          congr 1
          funext q
          simp only [Function.comp]
          refine Prod.ext ?_ ?_
          · dsimp only
            rw [Nat.mul_add, Nat.pow_succ, Nat.mul_comm (128 ^ j) (y % 128), Nat.mul_assoc]
            omega
          · dsimp only; omega
    · replace hc := of_decide_eq_false hc
      have : j = 10 := by omega
      subst this
      rw [dec_ten] at hdd
      exact ⟨⟨rfl, hB7.can1 _ rfl (Nat.le_of_ble_eq_true rfl)⟩, fun w41 e41 => fail w7 w41 [] _ k7 hB7 hdd e41⟩)
end Go.Proofs.Ytocbjadhcfjfiaa
