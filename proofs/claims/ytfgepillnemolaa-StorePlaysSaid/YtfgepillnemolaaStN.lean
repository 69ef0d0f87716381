/- Numbers, for the store: their bytes, written and read. Printed by gen_stn.py. No conditions. -/
import Derived.Test.YtfgepillnemolaaMemF
import Derived.Test.YtfgepillnemolaaBy
import Derived.Test.YtfgepillnemolaaLs
import Derived.Test.YtfgepillnemolaaWal5
import Derived.Laws.IdiomCopy
namespace Go.Proofs.Ytfgepillnemolaa
open Go.RowKit Go.Eng
set_option linter.unusedVariables false

theorem or8 : ∀ x : BitVec 8, (x ||| 128#8).toNat = x.toNat % 128 + 128 := by decide +kernel
theorem and8 : ∀ x : BitVec 8, (x &&& 127#8).toNat = x.toNat % 128 := by decide +kernel
theorem wrap_u64 (x : Int) : IntKind.u64.wrap x = x % 18446744073709551616 := by simp [IntKind.wrap, IntKind.signed, IntKind.bits]
theorem wrap_u8 (x : Int) : IntKind.u8.wrap x = x % 256 := by simp [IntKind.wrap, IntKind.signed, IntKind.bits]
theorem orI8 (u : Nat) : orI .u8 (IntKind.u8.wrap (u : Int)) 128 = ((u % 128 + 128 : Nat) : Int) := by
  have h := or8 (BitVec.ofInt 8 (IntKind.u8.wrap (u : Int)))
  have h2 : (BitVec.ofInt 8 (IntKind.u8.wrap (u : Int))).toNat = u % 256 := by
    rw [BitVec.toNat_ofInt, wrap_u8]; omega
  unfold orI
  show IntKind.u8.wrap (((BitVec.ofInt 8 (IntKind.u8.wrap (u : Int)) ||| BitVec.ofInt 8 128).toNat : Nat) : Int) = _
  rw [show BitVec.ofInt 8 128 = 128#8 from rfl, h, h2, wrap_u8]
  omega
theorem andI8 (y : Nat) (hy : y < 256) : andI .u8 (y : Int) 127 = ((y % 128 : Nat) : Int) := by
  have h := and8 (BitVec.ofInt 8 (y : Int))
  have h2 : (BitVec.ofInt 8 (y : Int)).toNat = y := by
    rw [BitVec.toNat_ofInt]; omega
  unfold andI
  show IntKind.u8.wrap (((BitVec.ofInt 8 (y : Int) &&& BitVec.ofInt 8 127).toNat : Nat) : Int) = _
  rw [show BitVec.ofInt 8 127 = 127#8 from rfl, h, h2, wrap_u8]
  omega
theorem shr7 (u : Nat) : shrI .u64 (u : Int) 7 = ((u / 128 : Nat) : Int) := by
  show (u : Int).fdiv (2 ^ 7) = _
  rw [Int.fdiv_eq_ediv_of_nonneg _ (by decide)]
  omega
theorem shr1u (u : Nat) : shrI .u64 (u : Int) 1 = ((u / 2 : Nat) : Int) := by
  show (u : Int).fdiv (2 ^ 1) = _
  rw [Int.fdiv_eq_ediv_of_nonneg _ (by decide)]
  omega
def zig (v : Int) : Nat := if 0 ≤ v then (2 * v).toNat else (-(2 * v) - 1).toNat
def zag (u : Nat) : Int := if u % 2 = 0 then ((u / 2 : Nat) : Int) else -((u / 2 : Nat) : Int) - 1
theorem zag_zig (v : Int) : zag (zig v) = v := by
  unfold zag zig
  split <;> split <;> omega
theorem zig_zag (u : Nat) : zig (zag u) = u := by
  unfold zag zig
  split <;> split <;> omega
theorem zig_lt {v : Int} (h : in64 v) : zig v < 18446744073709551616 := by
  unfold zig
  split <;> omega
theorem zag_in {u : Nat} (h : u < 18446744073709551616) : in64 (zag u) := by
  unfold zag
  split <;> constructor <;> omega
theorem ofInt64 (x : Nat) (h : x < 18446744073709551616) : (BitVec.ofInt 64 (x : Int)).toNat = x := by
  rw [BitVec.toNat_ofInt]; omega
theorem xor_ones (x : BitVec 64) : (x ^^^ BitVec.allOnes 64).toNat = 18446744073709551615 - x.toNat := by
  rw [BitVec.xor_allOnes, BitVec.toNat_not]
theorem zig_bits {v : Int} (h : in64 v) : xorI .u64 (shlI .u64 (IntKind.u64.wrap v) 1) (IntKind.u64.wrap (shrI .i64 v 63)) = (zig v : Nat) := by
  have h1 : shrI .i64 v 63 = if 0 ≤ v then 0 else -1 := by
    show v.fdiv (2 ^ 63) = _
    rw [Int.fdiv_eq_ediv_of_nonneg _ (by decide)]
    split <;> omega
  have h2 : shlI .u64 (IntKind.u64.wrap v) 1 = (2 * v) % 18446744073709551616 := by
    show IntKind.u64.wrap (IntKind.u64.wrap v * 2 ^ 1) = _
    rw [wrap_u64, wrap_u64]; omega
  rw [h1, h2]
  unfold zig xorI
  show IntKind.u64.wrap ((((BitVec.ofInt 64 (2 * v % 18446744073709551616) ^^^ BitVec.ofInt 64 _).toNat : Nat)) : Int) = _
  split
  · obtain ⟨n, rfl⟩ : ∃ n : Nat, v = n := ⟨v.toNat, by omega⟩
    have e : (2 * (n : Int)) % 18446744073709551616 = ((2 * n : Nat) : Int) := by omega
    rw [e, show IntKind.u64.wrap 0 = 0 from rfl, show BitVec.ofInt 64 0 = 0#64 from rfl, BitVec.xor_zero, ofInt64 _ (by omega), wrap_u64]
    omega
  · have e : (2 * v) % 18446744073709551616 = ((18446744073709551616 + 2 * v).toNat : Int) := by omega
    rw [e, show IntKind.u64.wrap (-1) = 18446744073709551615 from rfl, show BitVec.ofInt 64 18446744073709551615 = BitVec.allOnes 64 from rfl, xor_ones, ofInt64 _ (by omega), wrap_u64]
    omega
theorem and1 (u : Nat) (h : u < 18446744073709551616) : andI .u64 (u : Int) 1 = ((u % 2 : Nat) : Int) := by
  unfold andI
  show IntKind.u64.wrap ((((BitVec.ofInt 64 (u : Int) &&& BitVec.ofInt 64 1).toNat : Nat)) : Int) = _
  rw [BitVec.toNat_and, ofInt64 _ h, show (BitVec.ofInt 64 1).toNat = 1 from rfl, Nat.and_one_is_mod, wrap_u64]
  omega
theorem zag_bits {u : Nat} (h : u < 18446744073709551616) : xorI .i64 (IntKind.i64.wrap (shrI .u64 (u : Int) 1)) (IntKind.i64.wrap (0 - IntKind.i64.wrap (andI .u64 (u : Int) 1))) = zag u := by
  rw [shr1u, and1 _ h]
  have h1 : IntKind.i64.wrap ((u / 2 : Nat) : Int) = ((u / 2 : Nat) : Int) := by rw [IntKind.wrap_i64]; omega
  rw [h1]
  unfold zag xorI
  show IntKind.i64.wrap ((((BitVec.ofInt 64 ((u / 2 : Nat) : Int) ^^^ BitVec.ofInt 64 _).toNat : Nat)) : Int) = _
  split
  · rename_i h0
    rw [h0, show IntKind.i64.wrap (0 - IntKind.i64.wrap ((0 : Nat) : Int)) = 0 from rfl, show BitVec.ofInt 64 0 = 0#64 from rfl, BitVec.xor_zero, ofInt64 _ (by omega), IntKind.wrap_i64]
    omega
  · rename_i h0
    rw [show u % 2 = 1 by omega, show IntKind.i64.wrap (0 - IntKind.i64.wrap ((1 : Nat) : Int)) = -1 from rfl, show BitVec.ofInt 64 (-1) = BitVec.allOnes 64 from rfl, xor_ones, ofInt64 _ (by omega), IntKind.wrap_i64]
    omega
theorem nor_add {i acc x : Nat} (ha : acc < 128 ^ i) (hx : acc + x * 128 ^ i < 18446744073709551616) : orI .u64 (acc : Int) ((x * 128 ^ i : Nat) : Int) = ((acc + x * 128 ^ i : Nat) : Int) := by
  unfold orI
  show IntKind.u64.wrap ((((BitVec.ofInt 64 (acc : Int) ||| BitVec.ofInt 64 ((x * 128 ^ i : Nat) : Int)).toNat : Nat)) : Int) = _
  rw [BitVec.toNat_or, ofInt64 _ (by omega), ofInt64 _ (by omega)]
  have e : (128 : Nat) ^ i = 2 ^ (7 * i) := by rw [Nat.pow_mul]
  rw [e] at ha hx ⊢
  have h := Nat.two_pow_add_eq_or_of_lt ha x
  rw [Nat.or_comm, Nat.mul_comm x, ← h, wrap_u64]
  rw [Nat.mul_comm x] at hx
  omega
theorem shl_at {x i : Nat} (hi : i ≤ 9) (h : x * 128 ^ i < 18446744073709551616) : shlI .u64 (IntKind.u64.wrap (x : Int)) (IntKind.i64.wrap (7 * (i : Int))) = ((x * 128 ^ i : Nat) : Int) := by
  have h1 : IntKind.i64.wrap (7 * (i : Int)) = ((7 * i : Nat) : Int) := by rw [IntKind.wrap_i64]; omega
  have hp : 1 ≤ 128 ^ i := Nat.pos_of_ne_zero (by intro h; have := Nat.pow_eq_zero.1 h; omega)
  have hx : x ≤ x * 128 ^ i := Nat.le_mul_of_pos_right _ hp
  rw [h1]
  show IntKind.u64.wrap (IntKind.u64.wrap (x : Int) * 2 ^ (min (((7 * i : Nat) : Int)).toNat 64)) = _
  rw [wrap_u64 x, show (x : Int) % 18446744073709551616 = x by omega, Int.toNat_natCast, Nat.min_eq_left (by omega)]
  have e : (x : Int) * 2 ^ (7 * i) = ((x * 128 ^ i : Nat) : Int) := by
    rw [show (128 : Nat) ^ i = 2 ^ (7 * i) by rw [Nat.pow_mul]]
    push_cast
    rfl
  rw [e, wrap_u64]
  omega

theorem u8n {x : Nat} (h : x < 256) : (UInt8.ofNat x).toNat = x := by rw [UInt8.toNat_ofNat']; omega
theorem u8_self (x : UInt8) : UInt8.ofNat x.toNat = x := by simp
def encF : Nat → Nat → Bs
  | 0, u => [UInt8.ofNat u]
  | f + 1, u => if u < 128 then [UInt8.ofNat u] else UInt8.ofNat (u % 128 + 128) :: encF f (u / 128)
def enc (u : Nat) : Bs := encF 9 u
def dec : Nat → Bs → Option (Nat × Nat)
  | _, [] => none
  | k, x :: l => if 9 < k ∨ (k = 9 ∧ 1 < x.toNat) ∨ (0 < k ∧ x.toNat = 0) then none else if x.toNat < 128 then some (x.toNat, 1) else (dec (k + 1) l).map fun p => (x.toNat % 128 + 128 * p.1, p.2 + 1)
theorem pow_step (f : Nat) : 2 * 128 ^ (f + 1) = 128 * (2 * 128 ^ f) := by rw [Nat.pow_succ]; omega
theorem dec_enc : ∀ (f k u : Nat) (r : Bs), k + f = 9 → u < 2 * 128 ^ f → (0 < k → 0 < u) → dec k (encF f u ++ r) = some (u, (encF f u).length)
  | 0, k, u, r, hk, hu, h0 => by
    simp at hu
    have h9 : k = 9 := by omega
    subst h9
    have := h0 (by omega)
    have hx : (UInt8.ofNat u).toNat = u := u8n (by omega)
    rw [encF, List.singleton_append, dec, hx, if_neg (by omega), if_pos (by omega)]
    rfl
  | f + 1, k, u, r, hk, hu, h0 => by
    rw [encF]
    split
    · rename_i h
      have hx : (UInt8.ofNat u).toNat = u := u8n (by omega)
      rw [List.singleton_append, dec, hx, if_neg (by omega), if_pos (by omega)]
      rfl
    · rename_i h
      have hx : (UInt8.ofNat (u % 128 + 128)).toNat = u % 128 + 128 := u8n (by omega)
      rw [pow_step] at hu
      have ih := dec_enc f (k + 1) (u / 128) r (by omega) (by omega) (fun _ => by omega)
      rw [List.cons_append, dec, hx, if_neg (by omega), if_neg (by omega), ih]
      simp only [Option.map_some, List.length_cons]
      congr 2
      omega
theorem enc_dec : ∀ (l : Bs) (k u n : Nat), dec k l = some (u, n) → k ≤ 9 ∧ u < 2 * 128 ^ (9 - k) ∧ (0 < k → 0 < u) ∧ l.take n = encF (9 - k) u ∧ n ≤ l.length ∧ 1 ≤ n
  | [], k, u, n, h => by rw [dec] at h; cases h
  | x :: l, k, u, n, h => by
    rw [dec] at h
    have hxl := x.toNat_lt
    split at h
    · cases h
    · rename_i hc
      have hk9 : k ≤ 9 := by omega
      split at h
      · rename_i hx
        injection h with h
        injection h with h1 h2
        subst h1 h2
        rcases Nat.lt_or_ge k 9 with hk | hk
        · obtain ⟨f, hf⟩ : ∃ f, 9 - k = f + 1 := ⟨8 - k, by omega⟩
          rw [hf, pow_step, encF, if_pos hx]
          have hp : 1 ≤ 128 ^ f := Nat.pos_of_ne_zero (by intro h; have := Nat.pow_eq_zero.1 h; omega)
          exact ⟨hk9, by omega, fun _ => by omega, by simp, by simp, by omega⟩
        · have : k = 9 := by omega
          subst this
          rw [Nat.sub_self, encF]
          exact ⟨hk9, by omega, fun _ => by omega, by simp, by simp, by omega⟩
      · rename_i hx
        rw [Option.map_eq_some_iff] at h
        obtain ⟨⟨u', n'⟩, h', he⟩ := h
        injection he with h1 h2
        subst h1 h2
        obtain ⟨i1, i2, i3, i4, i5, i6⟩ := enc_dec l (k + 1) u' n' h'
        have i3 := i3 (by omega)
        obtain ⟨f, hf⟩ : ∃ f, 9 - k = f + 1 := ⟨8 - k, by omega⟩
        have hf' : 9 - (k + 1) = f := by omega
        rw [hf'] at i2 i4
        rw [hf, pow_step, encF]
        refine ⟨hk9, by omega, fun _ => by omega, ?_, by simp; omega, by omega⟩
        dsimp only
        rw [if_neg (by omega), List.take_succ_cons, i4]
        have e1 : (x.toNat % 128 + 128 * u') / 128 = u' := by omega
        have e2 : (x.toNat % 128 + 128 * u') % 128 + 128 = x.toNat := by omega
        rw [e1, e2, u8_self]
theorem p64 : (2 : Nat) * 128 ^ 9 = 18446744073709551616 := by decide
/-- A number's bytes, at the front. -/
def num (l : Bs) : Option (Int × Bs) := (dec 0 l).map fun p => (zag p.1, l.drop p.2)
def putN (v : Int) : Bs := enc (zig v)
theorem num_put {v : Int} (hv : in64 v) (r : Bs) : num (putN v ++ r) = some (v, r) := by
  unfold num putN enc
  rw [dec_enc 9 0 (zig v) r rfl (by rw [p64]; exact zig_lt hv) (by omega)]
  simp [zag_zig]
theorem num_inv {l r : Bs} {v : Int} (h : num l = some (v, r)) : in64 v ∧ l = putN v ++ r := by
  unfold num at h
  rw [Option.map_eq_some_iff] at h
  obtain ⟨⟨u, n⟩, h', he⟩ := h
  injection he with h1 h2
  subst h1 h2
  obtain ⟨i1, i2, i3, i4, i5, i6⟩ := enc_dec l 0 u n h'
  rw [Nat.sub_zero, p64] at i2
  refine ⟨zag_in i2, ?_⟩
  unfold putN enc
  rw [zig_zag]
  rw [Nat.sub_zero] at i4
  rw [← i4, List.take_append_drop]
theorem encF_len : ∀ (f u : Nat), 1 ≤ (encF f u).length ∧ (encF f u).length ≤ f + 1
  | 0, u => by rw [encF]; simp
  | f + 1, u => by
    rw [encF]
    split
    · simp
    · have := encF_len f (u / 128)
      simp only [List.length_cons]
      omega
theorem putN_len (v : Int) : 1 ≤ (putN v).length ∧ (putN v).length ≤ 10 := encF_len 9 _
theorem app_take {α : Type} {a b : List α} {k : Nat} (h : k = a.length) : (a ++ b).take k = a := by subst h; simp
set_option maxHeartbeats 1000000 in
/-- number: a number's bytes behind some bytes. -/
theorem cnumber_s {B : Nat} {s : Sl} {l : Bs} (v : Int) (hv : in64 v) {w : World} (ho : OwnB w B s l) (hB : B ≤ w.heap.size) (hl : l.length ≤ 140737488353000) :
    C.codec_number s v w (fun r w' => ∃ s' : Sl, r = .slice s'.a s'.len s'.cap ∧ OwnB w' B s' (l ++ putN v) ∧ Kp (blkOf s) w w' ∧ ∀ y ∈ blkOf s', y ∈ blkOf s ∨ w.heap.size ≤ y) noP := codec_number_of (by
  unfold W.codec_number
  rw [zig_bits hv]
  refine ⟨by decide, by decide, fun s' x w' => ∃ (u f : Nat) (m : Bs), x = u ∧ f ≤ 9 ∧ m.length + f = 9 ∧ u < 2 * 128 ^ f ∧ putN v = m ++ encF f u ∧ OwnB w' B s' (l ++ m) ∧ Kp (blkOf s) w w' ∧ ∀ y ∈ blkOf s', y ∈ blkOf s ∨ w.heap.size ≤ y, fun _ x _ => x.toNat, ⟨s, rfl, _, rfl, zig v, 9, [], rfl, by omega, rfl, by rw [p64]; exact zig_lt hv, rfl, by simpa using ho, Kp.refl _ _, fun y hy => .inl hy⟩, ?_⟩
  rintro e0 s' _ w7 ⟨u, f, m, rfl, hf, hm, hu, hp, ho7, k7, hb7⟩
  have hsz := ho7.rds.bsize
  rw [List.length_append] at hsz
  have s7 := k7.size
  refine cond_d (fun hc b8 w9 hA => ?_) (fun hc b16 w17 hA => ?_)
  · obtain ⟨g, rfl⟩ : ∃ g, f = g + 1 := ⟨f - 1, by
      rcases Nat.eq_zero_or_pos f with e | e
      · subst e; simp at hu; omega
      · omega⟩
    rw [orI8] at hA
    have s9 := hA.eq
    have hx : RdB w9 ⟨some ⟨b8, 0, none⟩, 1, 1⟩ [UInt8.ofNat (u % 128 + 128)] := ⟨rfl, fun _ => ⟨_, rfl, hA.blk.has 0 _ (fun i w hi => by
      rw [Nat.zero_add]
      simp only [bv, vb, List.map_cons, List.map_nil, u8n (show u % 128 + 128 < 256 by omega)] at hi
      exact hi)⟩⟩
    obtain ⟨q, n, c, w13, hrun, hn, ho13, k13, hq⟩ := app_bytes (ty := 27) Try.underlying27 byte_inf (ho7.keep0 hA.kp) hx (by omega) (by simp; omega)
    refine ⟨q, n, c, w13, hrun, by decide, ⟨q, n, c⟩, rfl, _, rfl, ⟨u / 128, g, m ++ [UInt8.ofNat (u % 128 + 128)], shr7 u, by omega, by simp; omega, by rw [pow_step] at hu; omega, ?_, by simpa using ho13, ?_, ?_⟩, ?_⟩
    · rw [hp, encF, if_neg (by omega)]; simp
    · exact (k7.then0 hA.kp).then k13 (fun y hy => hb7 y hy)
    · intro y hy
      rcases hq with e | ⟨hf', _⟩
      · have e' : q = s'.a := e
        have : y ∈ blkOf s' := by unfold blkOf at hy ⊢; rw [e'] at hy; exact hy
        exact hb7 y this
      · have := hf' y hy; exact .inr (by omega)
    · rw [shr7]; simp only [Int.toNat_natCast]; omega
  · have hw : IntKind.u8.wrap (u : Int) = (u : Nat) := by rw [wrap_u8]; omega
    rw [hw] at hA
    have s17 := hA.eq
    have hx : RdB w17 ⟨some ⟨b16, 0, none⟩, 1, 1⟩ [UInt8.ofNat u] := ⟨rfl, fun _ => ⟨_, rfl, hA.blk.has 0 _ (fun i w hi => by
      rw [Nat.zero_add]
      simp only [bv, vb, List.map_cons, List.map_nil, u8n (show u < 256 by omega)] at hi
      exact hi)⟩⟩
    obtain ⟨q, n, c, w21, hrun, hn, ho21, k21, hq⟩ := app_bytes (ty := 27) Try.underlying27 byte_inf (ho7.keep0 hA.kp) hx (by omega) (by simp; omega)
    refine ⟨q, n, c, w21, hrun, ⟨q, n, c⟩, rfl, ?_, ?_, ?_⟩
    · have : encF f u = [UInt8.ofNat u] := by
        cases f with
        | zero => rfl
        | succ g => rw [encF, if_pos (by omega)]
      rw [hp, this]
      simpa using ho21
    · exact (k7.then0 hA.kp).then k21 (fun y hy => hb7 y hy)
    · intro y hy
      rcases hq with e | ⟨hf', _⟩
      · have e' : q = s'.a := e
        have : y ∈ blkOf s' := by unfold blkOf at hy ⊢; rw [e'] at hy; exact hy
        exact hb7 y this
      · have := hf' y hy; exact .inr (by omega))

def tripV (p : Int × Int × Bool) : Value := .tuple #[.int .i64 p.1, .int .i64 p.2.1, .bool p.2.2]
def getN (l : Bs) (at_ : Int) : Int × Int × Bool :=
  if 0 ≤ at_ ∧ at_ < l.length then match dec 0 (l.drop at_.toNat) with
    | some (u, n) => (zag u, at_ + n, true)
    | none => (0, 0, false)
  else (0, 0, false)
theorem dec_ten (l : Bs) : dec 10 l = none := by
  cases l with
  | nil => rfl
  | cons x l => rw [dec, if_pos (by omega)]
theorem drop_cons {L : Bs} {i : Nat} (h : i < L.length) : L.drop i = L[i] :: L.drop (i + 1) := List.drop_eq_getElem_cons h
theorem pow128 (i : Nat) : 1 ≤ 128 ^ i := Nat.pos_of_ne_zero (by intro h; have := Nat.pow_eq_zero.1 h; omega)
theorem pow_le9 {i : Nat} (h : i ≤ 8) : 128 ^ i * 128 ≤ 128 ^ 9 := by
  rw [← Nat.pow_succ]
  exact Nat.pow_le_pow_right (by omega) (by omega)
theorem p9 : (128 : Nat) ^ 9 = 9223372036854775808 := by decide
/-- What one byte brings. -/
theorem part_lt {i y acc : Nat} (hi : i ≤ 9) (ha : acc < 128 ^ i) (h9 : i = 9 → y ≤ 1) : acc + y % 128 * 128 ^ i < 18446744073709551616 := by
  rcases Nat.lt_or_ge i 9 with h | h
  · have h1 := pow_le9 (i := i) (by omega)
    rw [p9] at h1
    have h2 : y % 128 * 128 ^ i ≤ 127 * 128 ^ i := Nat.mul_le_mul_right _ (by omega)
    omega
  · have : i = 9 := by omega
    subst this
    have := h9 rfl
    rw [p9] at ha ⊢
    omega
set_option maxRecDepth 20000 in
set_option maxHeartbeats 1000000 in
theorem GetNumber_s {s : Sl} {l : Bs} (at_ : Int) (ha : in64 at_) {w : World} (h : RdB w s l) (hl : l.length ≤ 140737488355328) :
    C.codec_GetNumber s at_ w (fun r w' => r = tripV (getN l at_) ∧ w = w') noP := codec_GetNumber_of (by
  unfold W.codec_GetNumber
  have hsz := h.bsize
  refine cond_d (fun hc => ⟨by unfold getN; rw [if_neg (by omega)]; rfl, rfl⟩) (fun h1 => cond_d (fun hc => ⟨by unfold getN; rw [if_neg (by omega)]; rfl, rfl⟩) (fun h2 => ?_))
  obtain ⟨p, rfl⟩ : ∃ p : Nat, at_ = p := ⟨at_.toNat, by omega⟩
  obtain ⟨L, hL⟩ : ∃ L, l.drop p = L := ⟨_, rfl⟩
  have hgN : getN l p = match dec 0 L with | some (u, n) => (zag u, (p : Int) + n, true) | none => (0, 0, false) := by
    unfold getN; rw [if_pos (by omega), Int.toNat_natCast, hL]
  rw [hgN]
  have hLl : L.length = l.length - p := by rw [← hL, List.length_drop]
  refine ⟨fun acc i w' => ∃ a k : Nat, acc = a ∧ i = k ∧ k ≤ 10 ∧ a < 128 ^ k ∧ dec 0 L = (dec k (L.drop k)).map (fun q => (a + 128 ^ k * q.1, k + q.2)) ∧ w = w', fun _ i _ => 10 - i.toNat, ⟨_, rfl, _, rfl, 0, 0, rfl, rfl, by omega, by decide, by simp, rfl⟩, ?_⟩
  rintro e0 _ _ _ ⟨a, k, rfl, rfl, hk, hak, hd, rfl⟩
  refine cond_d (fun hc => ?_) (fun hc => ?_)
  · have e1 : IntKind.i64.wrap ((p : Int) + (k : Int)) = ((p + k : Nat) : Int) := by rw [IntKind.wrap_i64]; omega
    rw [e1]
    refine cond_d (fun hge => ?_) (fun hlt => ?_)
    · have : L.drop k = [] := List.drop_eq_nil_of_le (by omega)
      rw [this] at hd
      rw [hd]
      exact ⟨rfl, rfl⟩
    have hkL : k < L.length := by omega
    obtain ⟨A, hA, hcell⟩ := h.byte (i := p + k) (by omega)
    have hLk : L[k] = l[p + k]'(by omega) := by subst hL; simp
    rw [hA, Int.toNat_natCast]
    rw [drop_cons hkL, dec] at hd
    obtain ⟨y, hy⟩ : ∃ y : Nat, (L[k]).toNat = y := ⟨_, rfl⟩
    have hyl : y < 256 := hy ▸ (L[k]).toNat_lt
    rw [hy] at hd
    rw [← hLk, hy] at hcell
    have bad : (9 < k ∨ (k = 9 ∧ 1 < y) ∨ (0 < k ∧ y = 0)) → (.tuple #[.int .i64 0, .int .i64 0, .bool false] : Value) = tripV (match dec 0 L with | some (u, n) => (zag u, (p : Int) + n, true) | none => (0, 0, false)) ∧ w = w := fun hb => by
      rw [if_pos hb] at hd
      rw [hd]
      exact ⟨rfl, rfl⟩
    refine ⟨⟨by omega, by omega⟩, _, ⟨rfl, hcell⟩, fun w' => ¬ (9 < k ∨ (k = 9 ∧ 1 < y) ∨ (0 < k ∧ y = 0)) ∧ w = w', ?_, ?_⟩
    · have t0 : ¬ (9 < k ∨ (k = 9 ∧ 1 < y)) → (cond (decide ((k : Int) > 0)) ((cond ((y : Int) == 0) ((.tuple #[.int .i64 0, .int .i64 0, .bool false] : Value) = tripV (match dec 0 L with | some (u, n) => (zag u, (p : Int) + n, true) | none => (0, 0, false)) ∧ w = w) (¬ (9 < k ∨ (k = 9 ∧ 1 < y) ∨ (0 < k ∧ y = 0)) ∧ w = w))) (¬ (9 < k ∨ (k = 9 ∧ 1 < y) ∨ (0 < k ∧ y = 0)) ∧ w = w)) := fun hn => by
        refine cond_d (fun h0 => ?_) (fun h0 => ⟨by omega, rfl⟩)
        by_cases hy0 : y = 0
        · exact cond_t (beq_t (by omega)) (bad (by omega))
        · exact cond_f (beq_f (by omega)) ⟨by omega, rfl⟩
      by_cases h9 : k = 9
      · exact cond_t (beq_t (by omega)) (cond_d (fun hg => bad (by omega)) (fun hg => t0 (by omega)))
      · exact cond_f (beq_f (by omega)) (t0 (by omega))
    rintro e1 _ ⟨hgood, rfl⟩
    rw [if_neg hgood] at hd
    have hpl := part_lt (i := k) (y := y) (acc := a) (by omega) hak (by omega)
    have e7 : IntKind.i64.wrap (7 * (k : Int)) = ((7 * k : Nat) : Int) := by rw [IntKind.wrap_i64]; omega
    rw [andI8 y hyl, shl_at (by omega) (by omega), nor_add hak hpl, e7]
    refine ⟨by omega, cond_i (fun hlt => ⟨by decide, ?_⟩) (fun hge => ?_)⟩
    · replace hlt := of_decide_eq_true hlt
      rw [zag_bits hpl]
      have hy2 : y % 128 = y := by omega
      rw [hy2] at hpl ⊢
      rw [if_pos (by omega)] at hd
      rw [hd]
      simp only [Option.map_some]
      have e2 : IntKind.i64.wrap (((p + k : Nat) : Int) + 1) = (p : Int) + ((k + 1 : Nat) : Int) := by rw [IntKind.wrap_i64]; omega
      rw [e2, Nat.mul_comm]
      exact ⟨rfl, by trivial⟩
    · replace hge := of_decide_eq_false hge
      rw [if_neg (by omega)] at hd
      have e3 : IntKind.i64.wrap ((k : Int) + 1) = ((k + 1 : Nat) : Int) := by rw [IntKind.wrap_i64]; omega
      rw [e3]
      refine ⟨_, rfl, _, rfl, ⟨a + y % 128 * 128 ^ k, k + 1, rfl, rfl, by omega, ?_, ?_, rfl⟩, by simp only [Int.toNat_natCast]; omega⟩
      · rw [Nat.pow_succ]
        have h2 : y % 128 * 128 ^ k ≤ 127 * 128 ^ k := Nat.mul_le_mul_right _ (by omega)
        omega
      · rw [hd, Option.map_map]
        congr 1
        funext q
        simp only [Function.comp]
        refine Prod.ext ?_ ?_
        · dsimp only
          rw [Nat.mul_add, Nat.pow_succ, Nat.mul_comm (128 ^ k) (y % 128), Nat.mul_assoc]
          omega
        · dsimp only; omega
  · have : k = 10 := by omega
    subst this
    rw [dec_ten] at hd
    rw [hd]
    exact ⟨rfl, rfl⟩)
/-- A reader: the slice, the place. -/
structure RdR (w : World) (r : Nat) (s : Sl) (l : Bs) (p : Nat) : Prop where
  b : Blk w r [.slice s.a s.len s.cap, .int .i64 p]
  d : RdB w s l
  n : r ∉ blkOf s
  le : p ≤ l.length
  sm : l.length ≤ 140737488355328
theorem RdR.keep0 {w w' : World} {r p : Nat} {s : Sl} {l : Bs} (h : RdR w r s l p) (k : Kp [] w w') : RdR w' r s l p := ⟨h.b.keep k (by simp), h.d.keep0 k, h.n, h.le, h.sm⟩
theorem Rds.keepL {w w' : World} {sz : Nat} {s : Sl} {xs : List Value} {l : List Nat} (h : Rds w sz s xs) (k : Kp l w w') (hn : ∀ y ∈ blkOf s, y ∉ l) : Rds w' sz s xs := h.keep k (fun a ha => hn _ (by simp [blkOf, ha]))
theorem RdR.keep {w w' : World} {r p : Nat} {s : Sl} {l : Bs} {B : List Nat} (h : RdR w r s l p) (k : Kp B w w') (hr : r ∉ B) (hn : ∀ y ∈ blkOf s, y ∉ B) : RdR w' r s l p := ⟨h.b.keep k hr, Rds.keepL h.d k hn, h.n, h.le, h.sm⟩
theorem getN_num {l : Bs} {p : Nat} (hp : p ≤ l.length) : getN l p = match num (l.drop p) with | some (v, r) => (v, ((l.length - r.length : Nat) : Int), true) | none => (0, 0, false) := by
  unfold getN num
  by_cases h : p < l.length
  · rw [if_pos (by omega), Int.toNat_natCast]
    cases hd : dec 0 (l.drop p) with
    | none => rfl
    | some q =>
      obtain ⟨u, n⟩ := q
      have h5 := (enc_dec _ _ _ _ hd).2.2.2.2.1
      rw [List.length_drop] at h5
      simp only [Option.map_some]
      have : l.length - (List.drop n (List.drop p l)).length = p + n := by simp only [List.length_drop]; omega
      rw [this]
      rfl
  · rw [if_neg (by omega), List.drop_eq_nil_of_le (by omega), dec]
    rfl
abbrev PK (b : Nat) : Option Addr := some ⟨b, 0, none⟩
theorem num_drop {l r : Bs} {p : Nat} {v : Int} (h : num (l.drop p) = some (v, r)) (hp : p ≤ l.length) : l.length - r.length ≤ l.length ∧ p ≤ l.length - r.length ∧ l.drop (l.length - r.length) = r := by
  obtain ⟨_, e⟩ := num_inv h
  have hl := congrArg List.length e
  rw [List.length_drop, List.length_append] at hl
  refine ⟨Nat.sub_le _ _, by omega, ?_⟩
  have e2 : l.length - r.length = p + (putN v).length := by omega
  rw [e2, ← List.drop_drop, e, List.drop_left]

theorem use2 {P : Program} {f : Nat} {args : Array Value} {w : World} {K K' : Value → World → Prop} {KP KP' : List PanicEntry → World → Prop} (h : Calls P f args w (Ret K KP)) (k : ∀ v w', K v w' → K' v w') (kp : ∀ c w', KP c w' → KP' c w') : Calls P f args w (Ret K' KP') :=
  Calls.mono h (fun e w' he => by cases e <;> first | exact k _ _ he | exact kp _ _ he | exact he.elim)
/-- What appends the bytes x to the bytes of s. -/
def Apd (call : World → (Value → World → Prop) → (List PanicEntry → World → Prop) → Prop) (s : Sl) (x : Bs) : Prop :=
  ∀ (w : World) (B : Nat) (l : Bs), OwnB w B s l → B ≤ w.heap.size → l.length + x.length ≤ 1000000000 → call w (fun r w' => ∃ s' : Sl, r = slv s' ∧ OwnB w' B s' (l ++ x) ∧ Kp (blkOf s) w w' ∧ ∀ y ∈ blkOf s', y ∈ blkOf s ∨ w.heap.size ≤ y) noP
theorem number_a (s : Sl) (v : Int) (hv : in64 v) : Apd (fun w K KP => C.codec_number s v w K KP) s (putN v) := fun w B l ho hB hl => cnumber_s v hv ho hB (by omega)
set_option maxHeartbeats 1000000 in
theorem rNumber_s (v : Int) (hv : in64 v) (w : World) : C.skepref05_Number v w (fun r w' => ∃ s : Sl, r = slv s ∧ OwnB w' w.heap.size s (putN v) ∧ Kp [] w w') noP := skepref05_Number_of (by
  unfold W.skepref05_Number
  refine ⟨by decide, fun x w' => x = ((zig v : Nat) : Int) ∧ w = w', ?_, ?_⟩
  · have hz := zig_lt hv
    refine cond_d (fun hn => ⟨by decide, _, rfl, ?_, rfl⟩) (fun hp => ⟨_, rfl, ?_, rfl⟩)
    · show IntKind.u64.wrap (IntKind.u64.wrap (IntKind.u64.wrap (IntKind.i64.wrap (0 - IntKind.i64.wrap (v + 1))) * 2 ^ 1) + 1) = _
      rw [IntKind.wrap_i64, IntKind.wrap_i64, wrap_u64, wrap_u64, wrap_u64]
      unfold zig
      rw [if_neg (by omega)]
      omega
    · show IntKind.u64.wrap (IntKind.u64.wrap v * 2 ^ 1) = _
      rw [wrap_u64, wrap_u64]
      unfold zig
      rw [if_pos (by omega)]
      omega
  rintro e0 _ _ ⟨rfl, rfl⟩
  refine ⟨fun x s w' => ∃ (u f : Nat) (m : Bs), x = u ∧ f ≤ 9 ∧ m.length + f = 9 ∧ u < 2 * 128 ^ f ∧ putN v = m ++ encF f u ∧ OwnB w' w.heap.size s m ∧ Kp [] w w', fun x _ _ => x.toNat, ⟨_, rfl, ⟨none, 0, 0⟩, rfl, zig v, 9, [], rfl, by omega, rfl, by rw [p64]; exact zig_lt hv, rfl, Go.Eng.Own.nil _ _ _, Kp.refl _ _⟩, ?_⟩
  rintro e1 _ s w12 ⟨u, f, m, rfl, hf, hm, hu, hp, ho, k12⟩
  have hsz := ho.rds.bsize
  have s12 := k12.size
  have hlo := ho.lo
  refine cond_d (fun hc => ⟨by decide, fun b13 w14 hA => ?_⟩) (fun hc b21 w22 hA => ?_)
  · obtain ⟨g, rfl⟩ : ∃ g, f = g + 1 := ⟨f - 1, by
      rcases Nat.eq_zero_or_pos f with e | e
      · subst e; simp at hu; omega
      · omega⟩
    have e8 : IntKind.u8.wrap (IntKind.u8.wrap (Int.tmod (u : Int) 128) + 128) = ((u % 128 + 128 : Nat) : Int) := by
      rw [wrap_u8, wrap_u8, Int.tmod_eq_emod_of_nonneg (by omega)]; omega
    rw [e8] at hA
    have hx : RdB w14 ⟨some ⟨b13, 0, none⟩, 1, 1⟩ [UInt8.ofNat (u % 128 + 128)] := ⟨rfl, fun _ => ⟨_, rfl, hA.blk.has 0 _ (fun i w hi => by
      rw [Nat.zero_add]
      simp only [bv, vb, List.map_cons, List.map_nil, u8n (show u % 128 + 128 < 256 by omega)] at hi
      exact hi)⟩⟩
    have s14 := hA.eq
    obtain ⟨q, n, c, w18, hrun, hn, ho18, k18, hq⟩ := app_bytes (ty := 27) Try.underlying27 byte_inf (ho.keep0 hA.kp) hx (by omega) (by simp; omega)
    have ed : IntKind.u64.wrap (Int.tdiv (u : Int) 128) = ((u / 128 : Nat) : Int) := by
      rw [wrap_u64, Int.tdiv_eq_ediv_of_nonneg (by omega)]
      rw [pow_step] at hu
      have h9 : 128 ^ g ≤ 128 ^ 9 := Nat.pow_le_pow_right (by omega) (by omega)
      rw [p9] at h9
      omega
    refine ⟨q, n, c, w18, hrun, by decide, _, rfl, ⟨q, n, c⟩, rfl, ⟨u / 128, g, m ++ [UInt8.ofNat (u % 128 + 128)], ed, by omega, by simp; omega, by rw [pow_step] at hu; omega, ?_, ho18, (k12.then0 hA.kp).then k18 (fun y hy => .inr (hlo y hy).1)⟩, ?_⟩
    · rw [hp, encF, if_neg (by omega)]; simp
    · rw [ed]; simp only [Int.toNat_natCast]; omega
  · have hw : IntKind.u8.wrap (u : Int) = (u : Nat) := by rw [wrap_u8]; omega
    rw [hw] at hA
    have hx : RdB w22 ⟨some ⟨b21, 0, none⟩, 1, 1⟩ [UInt8.ofNat u] := ⟨rfl, fun _ => ⟨_, rfl, hA.blk.has 0 _ (fun i w hi => by
      rw [Nat.zero_add]
      simp only [bv, vb, List.map_cons, List.map_nil, u8n (show u < 256 by omega)] at hi
      exact hi)⟩⟩
    have s22 := hA.eq
    obtain ⟨q, n, c, w26, hrun, hn, ho26, k26, hq⟩ := app_bytes (ty := 27) Try.underlying27 byte_inf (ho.keep0 hA.kp) hx (by omega) (by simp; omega)
    refine ⟨q, n, c, w26, hrun, ⟨q, n, c⟩, rfl, ?_, (k12.then0 hA.kp).then k26 (fun y hy => .inr (hlo y hy).1)⟩
    have : encF f u = [UInt8.ofNat u] := by
      cases f with
      | zero => rfl
      | succ g => rw [encF, if_pos (by omega)]
    rw [hp, this]
    exact ho26)
/-- The document's reader: none: it went bad. -/
structure RsR (w : World) (r : Nat) (s : Sl) (l : Bs) (st : Option Nat) : Prop where
  b : ∃ (at_ : Int) (bad : Bool), Blk w r [slv s, .int .i64 at_, .bool bad] ∧ match st with | some p => at_ = p ∧ bad = false ∧ p ≤ l.length | none => bad = true
  d : RdB w s l
  n : 0 < s.len → r ∉ blkOf s
  sm : l.length ≤ 140737488355328
theorem Rds.keepZ {w w' : World} {sz : Nat} {s : Sl} {xs : List Value} {l : List Nat} (h : Rds w sz s xs) (k : Kp l w w') (hn : 0 < s.len → ∀ y ∈ blkOf s, y ∉ l) : Rds w' sz s xs := by
  rcases Nat.eq_zero_or_pos s.len with e | e
  · exact ⟨h.1, fun h0 => by omega⟩
  · exact Rds.keepL h k (hn e)
theorem RsR.keep0 {w w' : World} {r : Nat} {s : Sl} {l : Bs} {st : Option Nat} (h : RsR w r s l st) (k : Kp [] w w') : RsR w' r s l st := by
  obtain ⟨⟨a, b, h1, h2⟩, h3, h4, h5⟩ := h
  exact ⟨⟨a, b, h1.keep k (by simp), h2⟩, h3.keep0 k, h4, h5⟩
theorem RsR.keep {w w' : World} {r : Nat} {s : Sl} {l : Bs} {st : Option Nat} {B : List Nat} (h : RsR w r s l st) (k : Kp B w w') (hr : r ∉ B) (hn : 0 < s.len → ∀ y ∈ blkOf s, y ∉ B) : RsR w' r s l st := by
  obtain ⟨⟨a, b, h1, h2⟩, h3, h4, h5⟩ := h
  exact ⟨⟨a, b, h1.keep k hr, h2⟩, Rds.keepZ h3 k hn, h4, h5⟩
/-- What reading by p comes to. -/
def Res {α : Type} (p : Bs → Option (α × Bs)) (l : Bs) (st : Option Nat) (x : α) (st' : Option Nat) : Prop :=
  (∃ k k', st = some k ∧ st' = some k' ∧ p (l.drop k) = some (x, l.drop k')) ∨ (st' = none ∧ ∀ k, st = some k → p (l.drop k) = none)
def ParR {α : Type} (p : Bs → Option (α × Bs)) (enc : α → Value) (call : World → (Value → World → Prop) → (List PanicEntry → World → Prop) → Prop) (r : Nat) : Prop :=
  ∀ (w : World) (s : Sl) (l : Bs) (st : Option Nat), RsR w r s l st → call w (fun v w' => ∃ x st', v = enc x ∧ Res p l st x st' ∧ RsR w' r s l st' ∧ Kp [r] w w') noP
theorem num_none {l : Bs} (h : dec 0 l = none) : num l = none := by unfold num; rw [h]; rfl
theorem res_zag (U : Nat) (h : U < 18446744073709551616) : (if Int.tmod (U : Int) 2 = 1 then IntKind.i64.wrap (IntKind.i64.wrap (0 - IntKind.i64.wrap (IntKind.u64.wrap (Int.tdiv (U : Int) 2))) - 1) else IntKind.i64.wrap (IntKind.u64.wrap (Int.tdiv (U : Int) 2))) = zag U := by
  rw [Int.tmod_eq_emod_of_nonneg (by omega), Int.tdiv_eq_ediv_of_nonneg (by omega)]
  unfold zag
  rw [wrap_u64, IntKind.wrap_i64, IntKind.wrap_i64, IntKind.wrap_i64]
  split <;> split <;> omega
set_option maxRecDepth 20000 in
set_option maxHeartbeats 2000000 in
theorem R_Number_p (r : Nat) : ParR num (Value.int .i64) (fun w K KP => C.skepref05_R_Number (some ⟨r, 0, none⟩) w K KP) r := fun w s l st hR => skepref05_R_Number_of (by
  unfold W.skepref05_R_Number
  obtain ⟨⟨at0, bad0, hB, hst⟩, hd, hn, hsm⟩ := hR
  cases st with
  | none =>
    subst hst
    refine ⟨fun u i w' => i = 0 ∧ Kp [] w w', fun _ _ _ => 0, ⟨_, rfl, _, rfl, rfl, Kp.refl _ _⟩, ?_⟩
    rintro e0 u _ w7 ⟨rfl, k7⟩
    refine cond_t rfl (fun w8 hD => ?_)
    have hB8 := (hB.keep k7 (by simp)).keep hD.kp (by simp)
    refine ⟨true, ⟨rfl, hB8.at rfl⟩, cond_t rfl ⟨⟨rfl, hB8.can1 _ rfl (Nat.le_of_ble_eq_true rfl)⟩, fun w12 e12 => ?_⟩⟩
    obtain ⟨g1, g2, g3⟩ := hB8.put1 (i := 2) rfl e12
    have kk := ((k7.then0 hD.kp).up [r]).then g2 (by simp)
    exact ⟨0, none, rfl, .inr ⟨rfl, fun k h => by cases h⟩, ⟨⟨at0, true, g1, rfl⟩, Rds.keepZ hd kk (fun h0 y hy => by simp; intro e; exact hn h0 (e ▸ hy)), hn, hsm⟩, kk⟩
  | some p =>
    obtain ⟨rfl, rfl, hp⟩ := hst
    obtain ⟨L, hL⟩ : ∃ L, l.drop p = L := ⟨_, rfl⟩
    have hLl : L.length = l.length - p := by rw [← hL, List.length_drop]
    have hsz := hd.bsize
    have nn : 0 < s.len → ∀ y ∈ blkOf s, y ∉ [r] := fun h0 y hy => by simp; intro e; exact hn h0 (e ▸ hy)
    have fail : ∀ (W W' : World) (cs : List Value) (x : Int), Kp [r] w W → Blk W r [slv s, .int .i64 x, .bool false] → dec 0 L = none → W' = putAt W ⟨r, 2, none⟩ (.bool true) → ∃ (y : Int) (st' : Option Nat), (.int .i64 0 : Value) = .int .i64 y ∧ Res num l (some p) y st' ∧ RsR W' r s l st' ∧ Kp [r] w W' := fun W W' cs x kW hW hdn e => by
      obtain ⟨g1, g2, g3⟩ := hW.put1 (i := 2) rfl e
      have kk := kW.then g2 (by simp)
      exact ⟨0, none, rfl, .inr ⟨rfl, fun k h => by injection h with h; subst h; rw [hL]; exact num_none hdn⟩, ⟨⟨x, true, g1, rfl⟩, Rds.keepZ hd kk nn, hn, hsm⟩, kk⟩
    refine ⟨fun u i w' => ∃ a j : Nat, u = a ∧ i = j ∧ j ≤ 10 ∧ a < 128 ^ j ∧ dec 0 L = (dec j (L.drop j)).map (fun q => (a + 128 ^ j * q.1, j + q.2)) ∧ j ≤ L.length ∧ Blk w' r [slv s, .int .i64 (p + j : Nat), .bool false] ∧ Kp [r] w w', fun _ i _ => 10 - i.toNat, ⟨_, rfl, _, rfl, 0, 0, rfl, rfl, by omega, by decide, by simp, by omega, hB, Kp.refl _ _⟩, ?_⟩
    rintro e0 _ _ w7 ⟨a, j, rfl, rfl, hj, haj, hdd, hjL, hB7, k7⟩
    refine cond_i (fun hc w8 hD => ?_) (fun hc => ?_)
    · replace hc := of_decide_eq_true hc
      have hB8 := hB7.keep hD.kp (by simp)
      have k8 := k7.then0 hD.kp
      refine ⟨false, ⟨rfl, hB8.at rfl⟩, cond_f rfl ⟨_, ⟨rfl, hB8.at rfl⟩, s, ⟨rfl, hB8.at rfl⟩, cond_i (fun hge => ?_) (fun hlt w19 hD19 => ?_)⟩⟩
      · replace hge := of_decide_eq_true hge
        have : L.drop j = [] := List.drop_eq_nil_of_le (by omega)
        rw [this] at hdd
        exact ⟨⟨rfl, hB8.can1 _ rfl (Nat.le_of_ble_eq_true rfl)⟩, fun w18 e18 => fail w8 w18 [] _ k8 hB8 hdd e18⟩
      replace hlt := of_decide_eq_false hlt
      have hjL2 : j < L.length := by omega
      have hB19 := hB8.keep hD19.kp (by simp)
      have k19 := k8.then0 hD19.kp
      obtain ⟨A, hA, hcell⟩ := (Rds.keepZ hd k19 nn).byte (i := p + j) (by omega)
      have hLk : L[j] = l[p + j]'(by omega) := by subst hL; simp
      rw [drop_cons hjL2, dec] at hdd
      obtain ⟨y, hy⟩ : ∃ y : Nat, (L[j]).toNat = y := ⟨_, rfl⟩
      have hyl : y < 256 := hy ▸ (L[j]).toNat_lt
      rw [hy] at hdd
      rw [← hLk, hy] at hcell
      refine ⟨s, ⟨rfl, hB19.at rfl⟩, _, ⟨rfl, hB19.at rfl⟩, ?_⟩
      rw [hA, Int.toNat_natCast]
      have e1 : IntKind.i64.wrap (((p + j : Nat) : Int) + 1) = ((p + (j + 1) : Nat) : Int) := by rw [IntKind.wrap_i64]; omega
      refine ⟨⟨by omega, by omega⟩, _, ⟨rfl, hcell⟩, _, ⟨rfl, hB19.at rfl⟩, ?_⟩
      rw [e1]
      refine ⟨⟨rfl, hB19.can1 _ rfl (Nat.le_of_ble_eq_true rfl)⟩, fun w29 e29 => ?_⟩
      obtain ⟨g1, g2, g3⟩ := hB19.put1 (i := 1) rfl e29
      replace g1 : Blk w29 r [slv s, .int .i64 ((p + (j + 1) : Nat) : Int), .bool false] := g1
      have k29 := k19.then g2 (by simp)
      clear e29
      refine ⟨fun w' => ¬ (j = 9 ∧ 1 < y) ∧ w29 = w', ?_, ?_⟩
      · by_cases h9 : j = 9
        · refine cond_t (beq_t (by omega)) (cond_i (fun hg => ?_) (fun hg => ⟨by have := of_decide_eq_false hg; omega, rfl⟩))
          replace hg := of_decide_eq_true hg
          rw [if_pos (by omega)] at hdd
          exact ⟨⟨rfl, g1.can1 _ rfl (Nat.le_of_ble_eq_true rfl)⟩, fun w32 e32 => fail w29 w32 [] _ k29 g1 hdd e32⟩
        · exact cond_f (beq_f (by omega)) ⟨by omega, rfl⟩
      rintro e1 _ ⟨hgood, rfl⟩
      have hpl := part_lt (i := j) (y := y) (acc := a) (by omega) haj (by omega)
      have e7 : IntKind.i64.wrap (7 * (j : Int)) = ((7 * j : Nat) : Int) := by rw [IntKind.wrap_i64]; omega
      have eI : IntKind.u64.wrap (IntKind.i64.wrap (7 * (j : Int))) = IntKind.i64.wrap (7 * (j : Int)) := by rw [e7, wrap_u64]; omega
      have em : Int.tmod (y : Int) 128 = ((y % 128 : Nat) : Int) := by rw [Int.tmod_eq_emod_of_nonneg (by omega)]; omega
      rw [eI, em, shl_at (by omega) (by omega)]
      have es : IntKind.u64.wrap ((a : Int) + ((y % 128 * 128 ^ j : Nat) : Int)) = ((a + y % 128 * 128 ^ j : Nat) : Int) := by
        generalize y % 128 * 128 ^ j = z at hpl ⊢
        rw [wrap_u64]; omega
      rw [es, e7]
      refine ⟨by decide, by omega, cond_i (fun hlt => ?_) (fun hge => ?_)⟩
      · replace hlt := of_decide_eq_true hlt
        refine ⟨fun w' => ¬ (0 < j ∧ y = 0) ∧ w29 = w', ?_, ?_⟩
        · by_cases hy0 : y = 0
          · refine cond_t (beq_t (by omega)) (cond_i (fun hg => ?_) (fun hg => ⟨by have := of_decide_eq_false hg; omega, rfl⟩))
            replace hg := of_decide_eq_true hg
            rw [if_pos (by omega)] at hdd
            exact ⟨⟨rfl, g1.can1 _ rfl (Nat.le_of_ble_eq_true rfl)⟩, fun w36 e36 => fail w29 w36 [] _ k29 g1 hdd e36⟩
          · exact cond_f (beq_f (by omega)) ⟨by omega, rfl⟩
        rintro e2 _ ⟨hgood2, rfl⟩
        have hy2 : y % 128 = y := by omega
        rw [hy2] at hpl ⊢
        rw [if_neg (by omega), if_pos (by omega)] at hdd
        have hz := res_zag _ hpl
        have hres : Res num l (some p) (zag (a + y * 128 ^ j)) (some (p + (j + 1))) := .inl ⟨p, p + (j + 1), rfl, rfl, by
          rw [hL]
          unfold num
          rw [hdd]
          simp only [Option.map_some]
          rw [Nat.mul_comm (128 ^ j), ← hL, List.drop_drop]⟩
        have hRs : RsR w29 r s l (some (p + (j + 1))) := ⟨⟨_, false, g1, rfl, rfl, by omega⟩, Rds.keepZ hd k29 nn, hn, hsm⟩
        refine ⟨by decide, ?_⟩
        by_cases ht : Int.tmod ((a + y * 128 ^ j : Nat) : Int) 2 = 1
        · rw [if_pos ht] at hz
          refine cond_t (beq_t ht) ⟨by decide, ?_⟩
          rw [hz]
          exact ⟨_, _, rfl, hres, hRs, k29⟩
        · rw [if_neg ht] at hz
          refine cond_f (beq_f ht) ⟨by decide, ?_⟩
          rw [hz]
          exact ⟨_, _, rfl, hres, hRs, k29⟩
      · replace hge := of_decide_eq_false hge
        rw [if_neg (by omega), if_neg (by omega)] at hdd
        have e3 : IntKind.i64.wrap ((j : Int) + 1) = ((j + 1 : Nat) : Int) := by rw [IntKind.wrap_i64]; omega
        rw [e3]
        refine ⟨_, rfl, _, rfl, ⟨a + y % 128 * 128 ^ j, j + 1, rfl, rfl, by omega, ?_, ?_, by omega, g1, k29⟩, by simp only [Int.toNat_natCast]; omega⟩
        · rw [Nat.pow_succ]
          have h2 : y % 128 * 128 ^ j ≤ 127 * 128 ^ j := Nat.mul_le_mul_right _ (by omega)
          omega
        · rw [hdd, Option.map_map]
          congr 1
          funext q
          simp only [Function.comp]
          refine Prod.ext ?_ ?_
          · dsimp only
            rw [Nat.mul_add, Nat.pow_succ, Nat.mul_comm (128 ^ j) (y % 128), Nat.mul_assoc]
            omega
          · dsimp only; omega
    · replace hc := of_decide_eq_false hc
      have : j = 10 := by omega
      subst this
      rw [dec_ten] at hdd
      exact ⟨⟨rfl, hB7.can1 _ rfl (Nat.le_of_ble_eq_true rfl)⟩, fun w41 e41 => fail w7 w41 [] _ k7 hB7 hdd e41⟩)

theorem goInt_i (n : Nat) : goInt n = .int .i64 n := rfl
theorem setCells_blk : ∀ (vs : List Value) (o : Nat) (cs : List Value) {w : World} {b : Nat}, Blk w b cs → o + vs.length ≤ cs.length → (∀ v ∈ vs, leafB v = true) → Blk (w.setCells b o vs) b (cs.take o ++ vs ++ cs.drop (o + vs.length)) ∧ Kp [b] w (w.setCells b o vs)
  | [], o, cs, w, b, h, _, _ => by simpa [World.setCells] using ⟨h, Kp.refl _ _⟩
  | v :: vs, o, cs, w, b, h, hl, hv => by
    simp only [List.length_cons] at hl
    have e : w.setCell ⟨b, o, none⟩ v = putAt w ⟨b, o, none⟩ v := by
      have := hv v (by simp)
      cases v <;> first | rfl | cases this
    obtain ⟨g1, g2, g3⟩ := h.put1 (i := o) (hv v (by simp)) e
    obtain ⟨k1, k2⟩ := setCells_blk vs (o + 1) _ g1 (by simp; omega) (fun x hx => hv x (by simp [hx]))
    refine ⟨?_, g2.then k2 (by simp)⟩
    have e2 : (cs.set o v).take (o + 1) ++ vs ++ (cs.set o v).drop (o + 1 + vs.length) = cs.take o ++ v :: vs ++ cs.drop (o + (vs.length + 1)) := by
      apply List.ext_getElem?
      intro i
      simp only [List.getElem?_append, List.length_append, List.length_take, List.length_set, List.length_cons, List.getElem?_take, List.getElem?_drop, List.getElem?_set]
      rw [show min (o + 1) cs.length = o + 1 by omega, show min o cs.length = o by omega]
      rcases Nat.lt_trichotomy i o with hi | hi | hi
      · rw [if_pos (by omega), if_pos (by omega), if_pos (by omega), if_neg (by omega), if_pos (by omega), if_pos (by omega), if_pos (by omega)]
      · subst hi
        rw [if_pos (by omega), if_pos (by omega), if_pos (by omega), if_pos rfl, if_pos (by omega), if_pos (by omega), if_neg (by omega), Nat.sub_self]
        rfl
      · by_cases h2 : i < o + 1 + vs.length
        · rw [if_pos (by omega), if_neg (by omega), if_pos (by omega), if_neg (by omega), show i - o = (i - (o + 1)) + 1 by omega, List.getElem?_cons_succ]
        · rw [if_neg (by omega), if_neg (by omega), if_neg (by omega)]
          congr 1
          omega
    rw [List.length_cons, ← e2]
    exact k1
theorem PutNumber_s {s : Sl} {l : Bs} (v : Int) (hv : in64 v) {w : World} (hd : RdB w s l) (hl : l.length ≤ 140737488352000) : C.codec_PutNumber s v w (fun r w' => ∃ s' : Sl, r = slv s' ∧ OwnB w' w.heap.size s' (l ++ putN v) ∧ Kp [] w w') noP := codec_PutNumber_of (by
  unfold W.codec_PutNumber
  have hsz := hd.bsize
  have e1 : IntKind.i64.wrap ((s.len : Int) + 10) = ((s.len + 10 : Nat) : Int) := by rw [IntKind.wrap_i64]; omega
  rw [e1, Int.toNat_natCast, Int.toNat_natCast, Nat.mul_one]
  refine ⟨⟨by omega, by omega, by omega, by omega⟩, fun b1 w2 hA => ?_⟩
  have s2 := hA.eq
  have hcl : (madeCells #[.int .u8 0] (s.len + 10)).toList.length = s.len + 10 := made_len _ _
  have hd2 := hd.keep0 hA.kp
  have key : ∃ w4 : World, (Builtin.copy_ #[27, 27] 3 #[.slice (some ⟨b1, 0, none⟩) s.len (s.len + 10), .slice s.a s.len s.cap]).run Try.prog w2 = .ok (.int .i64 s.len) w4 ∧ OwnB w4 w.heap.size ⟨some ⟨b1, 0, none⟩, s.len, s.len + 10⟩ l ∧ Kp [b1] w2 w4 := by
    rcases Nat.eq_zero_or_pos s.len with h0 | h0
    · have hl0 : l = [] := List.length_eq_zero_iff.1 (by omega)
      refine ⟨w2, ?_, ?_, Kp.refl _ _⟩
      · have := run_copy_none (P := Try.prog) w2 27 27 3 5 (some ⟨b1, 0, none⟩) s.a s.len (s.len + 10) s.len s.cap Try.underlying27 (by kernel_rfl) (by rw [h0]; rfl)
        rw [this, h0]
        rfl
      · subst hl0
        have := Go.Eng.Own.fresh (n := 0) (c := s.len + 10) (sz := 1) hA (Nat.le_refl _) (by omega) (by rw [hcl]; omega)
        rw [h0] at this ⊢
        exact (by simpa using this : Go.Eng.Own w2 w.heap.size 1 ⟨some ⟨b1, 0, none⟩, 0, 0 + 10⟩ [])
    · obtain ⟨a, ha, hh⟩ := hd2.has h0
      have hrun := run_copy_cells (P := Try.prog) w2 27 27 3 5 b1 0 s.len (s.len + 10) a s.len s.cap (bv l) Try.underlying27 (by kernel_rfl) (by rw [bv_len, hsz]; exact (Nat.min_self _).symm) (fun j v hj => hh j v hj)
        (fun j hj => by rw [Nat.zero_add, hA.blk.cell, List.getElem?_eq_getElem (by rw [hcl]; rw [bv_len] at hj; omega)]; rfl)
        (fun j hj => by rw [Nat.zero_add]; exact hA.blk.fr j (by rw [hcl]; rw [bv_len] at hj; omega))
        (fun v hv => by simp only [bv, List.mem_map] at hv; obtain ⟨c, _, rfl⟩ := hv; rfl)
      obtain ⟨g1, g2⟩ := setCells_blk (bv l) 0 _ hA.blk (by rw [hcl, bv_len]; omega) (bv_leaf l)
      refine ⟨_, ?_, ?_, g2⟩
      · rw [ha, hrun, goInt_i, bv_len, hsz]
      · rw [List.take_zero, List.nil_append] at g1
        exact ⟨by rw [bv_len]; dsimp only; omega, by dsimp only; omega, .inr ⟨b1, _, rfl, by omega, g1, by rw [List.length_append, List.length_drop, hcl, bv_len]; dsimp only; omega⟩⟩
  obtain ⟨w4, hrun, ho, k4⟩ := key
  refine ⟨_, w4, hrun, use (cnumber_s v hv ho (by have := k4.size; omega) (by omega)) ?_⟩
  rintro _ w5 ⟨s', rfl, ho5, k5, hb⟩
  exact ⟨s', rfl, s', rfl, ho5, (hA.kp.then k4 (by simp; omega)).then k5 (by simp [blkOf]; omega)⟩)
end Go.Proofs.Ytfgepillnemolaa
