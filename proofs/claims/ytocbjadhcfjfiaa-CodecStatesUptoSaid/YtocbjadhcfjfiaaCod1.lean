/- Numbers read, by the code and by the document; numbers written. No conditions. -/
import Derived.Test.YtocbjadhcfjfiaaCod0
namespace Go.Proofs.Ytocbjadhcfjfiaa
open Go.RowKit Go.Eng
set_option linter.unusedVariables false
def tripV (p : Int × Int × Bool) : Value := .tuple #[.int .i64 p.1, .int .i64 p.2.1, .bool p.2.2]
def getN (l : Bs) (at_ : Int) : Int × Int × Bool :=
  if 0 ≤ at_ ∧ at_ < l.length then match dec 0 (l.drop at_.toNat) with
    | some (u, n) => (zag u, at_ + n, true)
    | none => (0, 0, false)
  else (0, 0, false)
theorem dec_ten (l : Bs) : dec 10 l = none := by
  cases l with
  | nil => rfl
  | cons x l => rw [dec, if_pos (by omega)]
theorem drop_cons {L : Bs} {i : Nat} (h : i < L.length) : L.drop i = L[i] :: L.drop (i + 1) := List.drop_eq_getElem_cons h
theorem pow128 (i : Nat) : 1 ≤ 128 ^ i := Nat.pos_of_ne_zero (by intro h; have := Nat.pow_eq_zero.1 h; omega)
theorem pow_le9 {i : Nat} (h : i ≤ 8) : 128 ^ i * 128 ≤ 128 ^ 9 := by
  rw [← Nat.pow_succ]
  exact Nat.pow_le_pow_right (by omega) (by omega)
theorem p9 : (128 : Nat) ^ 9 = 9223372036854775808 := by decide
/-- What one byte brings. -/
theorem part_lt {i y acc : Nat} (hi : i ≤ 9) (ha : acc < 128 ^ i) (h9 : i = 9 → y ≤ 1) : acc + y % 128 * 128 ^ i < 18446744073709551616 := by
  rcases Nat.lt_or_ge i 9 with h | h
  · have h1 := pow_le9 (i := i) (by omega)
    rw [p9] at h1
    have h2 : y % 128 * 128 ^ i ≤ 127 * 128 ^ i := Nat.mul_le_mul_right _ (by omega)
    omega
  · have : i = 9 := by omega
    subst this
    have := h9 rfl
    rw [p9] at ha ⊢
    omega
set_option maxRecDepth 20000 in
set_option maxHeartbeats 1000000 in
theorem GetNumber_s {s : Sl} {l : Bs} (at_ : Int) (ha : in64 at_) {w : World} (h : RdB w s l) (hl : l.length ≤ 140737488355328) :
    C.codec_GetNumber s at_ w (fun r w' => r = tripV (getN l at_) ∧ w = w') noP := codec_GetNumber_of (by
  unfold W.codec_GetNumber
  have hsz := h.bsize
  refine cond_d (fun hc => ⟨by unfold getN; rw [if_neg (by omega)]; rfl, rfl⟩) (fun h1 => cond_d (fun hc => ⟨by unfold getN; rw [if_neg (by omega)]; rfl, rfl⟩) (fun h2 => ?_))
  obtain ⟨p, rfl⟩ : ∃ p : Nat, at_ = p := ⟨at_.toNat, by omega⟩
  obtain ⟨L, hL⟩ : ∃ L, l.drop p = L := ⟨_, rfl⟩
  have hgN : getN l p = match dec 0 L with | some (u, n) => (zag u, (p : Int) + n, true) | none => (0, 0, false) := by
    unfold getN; rw [if_pos (by omega), Int.toNat_natCast, hL]
  rw [hgN]
  have hLl : L.length = l.length - p := by rw [← hL, List.length_drop]
  refine ⟨fun acc i w' => ∃ a k : Nat, acc = a ∧ i = k ∧ k ≤ 10 ∧ a < 128 ^ k ∧ dec 0 L = (dec k (L.drop k)).map (fun q => (a + 128 ^ k * q.1, k + q.2)) ∧ w = w', fun _ i _ => 10 - i.toNat, ⟨_, rfl, _, rfl, 0, 0, rfl, rfl, by omega, by decide, by simp, rfl⟩, ?_⟩
  rintro e0 _ _ _ ⟨a, k, rfl, rfl, hk, hak, hd, rfl⟩
  refine cond_d (fun hc => ?_) (fun hc => ?_)
  · have e1 : IntKind.i64.wrap ((p : Int) + (k : Int)) = ((p + k : Nat) : Int) := by rw [IntKind.wrap_i64]; omega
    rw [e1]
    refine cond_d (fun hge => ?_) (fun hlt => ?_)
    · have : L.drop k = [] := List.drop_eq_nil_of_le (by omega)
      rw [this] at hd
      rw [hd]
      exact ⟨rfl, rfl⟩
    have hkL : k < L.length := by omega
    obtain ⟨A, hA, hcell⟩ := h.byte (i := p + k) (by omega)
    have hLk : L[k] = l[p + k]'(by omega) := by subst hL; simp
    rw [hA, Int.toNat_natCast]
    rw [drop_cons hkL, dec] at hd
    obtain ⟨y, hy⟩ : ∃ y : Nat, (L[k]).toNat = y := ⟨_, rfl⟩
    have hyl : y < 256 := hy ▸ (L[k]).toNat_lt
    rw [hy] at hd
    rw [← hLk, hy] at hcell
    have bad : (9 < k ∨ (k = 9 ∧ 1 < y) ∨ (0 < k ∧ y = 0)) → (.tuple #[.int .i64 0, .int .i64 0, .bool false] : Value) = tripV (match dec 0 L with | some (u, n) => (zag u, (p : Int) + n, true) | none => (0, 0, false)) ∧ w = w := fun hb => by
      rw [if_pos hb] at hd
      rw [hd]
      exact ⟨rfl, rfl⟩
    refine ⟨⟨by omega, by omega⟩, _, ⟨rfl, hcell⟩, fun w' => ¬ (9 < k ∨ (k = 9 ∧ 1 < y) ∨ (0 < k ∧ y = 0)) ∧ w = w', ?_, ?_⟩
    · have t0 : ¬ (9 < k ∨ (k = 9 ∧ 1 < y)) → (cond (decide ((k : Int) > 0)) ((cond ((y : Int) == 0) ((.tuple #[.int .i64 0, .int .i64 0, .bool false] : Value) = tripV (match dec 0 L with | some (u, n) => (zag u, (p : Int) + n, true) | none => (0, 0, false)) ∧ w = w) (¬ (9 < k ∨ (k = 9 ∧ 1 < y) ∨ (0 < k ∧ y = 0)) ∧ w = w))) (¬ (9 < k ∨ (k = 9 ∧ 1 < y) ∨ (0 < k ∧ y = 0)) ∧ w = w)) := fun hn => by
        refine cond_d (fun h0 => ?_) (fun h0 => ⟨by omega, rfl⟩)
        by_cases hy0 : y = 0
        · exact cond_t (beq_t (by omega)) (bad (by omega))
        · exact cond_f (beq_f (by omega)) ⟨by omega, rfl⟩
      by_cases h9 : k = 9
      · exact cond_t (beq_t (by omega)) (cond_d (fun hg => bad (by omega)) (fun hg => t0 (by omega)))
      · exact cond_f (beq_f (by omega)) (t0 (by omega))
    rintro e1 _ ⟨hgood, rfl⟩
    rw [if_neg hgood] at hd
    have hpl := part_lt (i := k) (y := y) (acc := a) (by omega) hak (by omega)
    have e7 : IntKind.i64.wrap (7 * (k : Int)) = ((7 * k : Nat) : Int) := by rw [IntKind.wrap_i64]; omega
    rw [andI8 y hyl, shl_at (by omega) (by omega), or_add hak hpl, e7]
    refine ⟨by omega, cond_i (fun hlt => ⟨by decide, ?_⟩) (fun hge => ?_)⟩
    · replace hlt := of_decide_eq_true hlt
      rw [zag_bits hpl]
      have hy2 : y % 128 = y := by omega
      rw [hy2] at hpl ⊢
      rw [if_pos (by omega)] at hd
      rw [hd]
      simp only [Option.map_some]
      have e2 : IntKind.i64.wrap (((p + k : Nat) : Int) + 1) = (p : Int) + ((k + 1 : Nat) : Int) := by rw [IntKind.wrap_i64]; omega
      rw [e2, Nat.mul_comm]
      exact ⟨rfl, by trivial⟩
    · replace hge := of_decide_eq_false hge
      rw [if_neg (by omega)] at hd
      have e3 : IntKind.i64.wrap ((k : Int) + 1) = ((k + 1 : Nat) : Int) := by rw [IntKind.wrap_i64]; omega
      rw [e3]
      refine ⟨_, rfl, _, rfl, ⟨a + y % 128 * 128 ^ k, k + 1, rfl, rfl, by omega, ?_, ?_, rfl⟩, by simp only [Int.toNat_natCast]; omega⟩
      · rw [Nat.pow_succ]
        have h2 : y % 128 * 128 ^ k ≤ 127 * 128 ^ k := Nat.mul_le_mul_right _ (by omega)
        omega
      · rw [hd, Option.map_map]
        congr 1
        funext q
        simp only [Function.comp]
        refine Prod.ext ?_ ?_
        · dsimp only
          rw [Nat.mul_add, Nat.pow_succ, Nat.mul_comm (128 ^ k) (y % 128), Nat.mul_assoc]
          omega
        · dsimp only; omega
  · have : k = 10 := by omega
    subst this
    rw [dec_ten] at hd
    rw [hd]
    exact ⟨rfl, rfl⟩)
/-- A reader: the slice, the place. -/
structure RdR (w : World) (r : Nat) (s : Sl) (l : Bs) (p : Nat) : Prop where
  b : Blk w r [.slice s.a s.len s.cap, .int .i64 p]
  d : RdB w s l
  n : r ∉ blkOf s
  le : p ≤ l.length
  sm : l.length ≤ 140737488355328
theorem RdR.keep0 {w w' : World} {r p : Nat} {s : Sl} {l : Bs} (h : RdR w r s l p) (k : Kp [] w w') : RdR w' r s l p := ⟨h.b.keep k (by simp), h.d.keep0 k, h.n, h.le, h.sm⟩
theorem Rds.keepL {w w' : World} {sz : Nat} {s : Sl} {xs : List Value} {l : List Nat} (h : Rds w sz s xs) (k : Kp l w w') (hn : ∀ y ∈ blkOf s, y ∉ l) : Rds w' sz s xs := h.keep k (fun a ha => hn _ (by simp [blkOf, ha]))
theorem RdR.keep {w w' : World} {r p : Nat} {s : Sl} {l : Bs} {B : List Nat} (h : RdR w r s l p) (k : Kp B w w') (hr : r ∉ B) (hn : ∀ y ∈ blkOf s, y ∉ B) : RdR w' r s l p := ⟨h.b.keep k hr, Rds.keepL h.d k hn, h.n, h.le, h.sm⟩
theorem getN_num {l : Bs} {p : Nat} (hp : p ≤ l.length) : getN l p = match num (l.drop p) with | some (v, r) => (v, ((l.length - r.length : Nat) : Int), true) | none => (0, 0, false) := by
  unfold getN num
  by_cases h : p < l.length
  · rw [if_pos (by omega), Int.toNat_natCast]
    cases hd : dec 0 (l.drop p) with
    | none => rfl
    | some q =>
      obtain ⟨u, n⟩ := q
      have h5 := (enc_dec _ _ _ _ hd).2.2.2.2.1
      rw [List.length_drop] at h5
      simp only [Option.map_some]
      have : l.length - (List.drop n (List.drop p l)).length = p + n := by simp only [List.length_drop]; omega
      rw [this]
      rfl
  · rw [if_neg (by omega), List.drop_eq_nil_of_le (by omega), dec]
    rfl
abbrev PK (b : Nat) : Option Addr := some ⟨b, 0, none⟩
abbrev noneE : List PanicEntry := [{ v := .iface 151 (.agg #[]), recovered := false }]
theorem num_drop {l r : Bs} {p : Nat} {v : Int} (h : num (l.drop p) = some (v, r)) (hp : p ≤ l.length) : l.length - r.length ≤ l.length ∧ p ≤ l.length - r.length ∧ l.drop (l.length - r.length) = r := by
  obtain ⟨_, e⟩ := num_inv h
  have hl := congrArg List.length e
  rw [List.length_drop, List.length_append] at hl
  refine ⟨Nat.sub_le _ _, by omega, ?_⟩
  have e2 : l.length - r.length = p + (putN v).length := by omega
  rw [e2, ← List.drop_drop, e, List.drop_left]
/-- What a reader does that reads by p. -/
def Par {α : Type} (p : Bs → Option (α × Bs)) (enc : α → Value) (call : World → (Value → World → Prop) → (List PanicEntry → World → Prop) → Prop) (r : Nat) : Prop :=
  ∀ (w : World) (s : Sl) (l : Bs) (k : Nat), RdR w r s l k → call w (fun v w' => ∃ x k', p (l.drop k) = some (x, l.drop k') ∧ v = enc x ∧ RdR w' r s l k' ∧ Kp [r] w w') (fun c w' => p (l.drop k) = none ∧ c = noneE ∧ Kp [r] w w')
theorem reader_number_p (r : Nat) : Par num (Value.int .i64) (fun w K KP => C.codec_reader_number (some ⟨r, 0, none⟩) w K KP) r := fun w s l k h => codec_reader_number_of (by
  unfold W.codec_reader_number
  intro w1 hD
  have h1 := h.keep0 hD.kp
  have hle := h.le
  have hsm := h.sm
  refine ⟨s, ⟨rfl, h1.b.at rfl⟩, _, ⟨rfl, h1.b.at rfl⟩, use (GetNumber_s k ⟨by omega, by omega⟩ h1.d hsm) ?_⟩
  rintro _ _ ⟨rfl, rfl⟩
  rw [getN_num hle]
  cases hn : num (l.drop k) with
  | none => exact ⟨_, rfl, cond_t rfl ⟨rfl, rfl, hD.kp.up _⟩⟩
  | some q =>
    obtain ⟨v, rest⟩ := q
    obtain ⟨d1, d2, d3⟩ := num_drop hn hle
    refine ⟨_, rfl, cond_f rfl ⟨⟨rfl, h1.b.can1 _ rfl (Nat.le_of_ble_eq_true rfl)⟩, fun w10 e10 => ?_⟩⟩
    obtain ⟨g1, g2, g3⟩ := h1.b.put1 (i := 1) rfl e10
    exact ⟨v, l.length - rest.length, by rw [d3], rfl, ⟨g1, Rds.keepL h1.d g2 (fun y hy => by simp; intro e; exact h.n (e ▸ hy)), h.n, d1, hsm⟩, (hD.kp.up _).then g2 (by simp)⟩)
end Go.Proofs.Ytocbjadhcfjfiaa
