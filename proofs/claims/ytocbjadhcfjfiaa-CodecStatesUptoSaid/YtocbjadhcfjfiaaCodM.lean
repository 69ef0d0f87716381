/- A number's bytes: the plain law. No conditions. -/
import Derived.Test.YtocbjadhcfjfiaaMemF
import Derived.Test.YtocbjadhcfjfiaaV0
namespace Go.Proofs.Ytocbjadhcfjfiaa
open Go.RowKit Go.Eng
set_option linter.unusedVariables false
theorem or8 : ∀ x : BitVec 8, (x ||| 128#8).toNat = x.toNat % 128 + 128 := by decide +kernel
theorem and8 : ∀ x : BitVec 8, (x &&& 127#8).toNat = x.toNat % 128 := by decide +kernel
theorem wrap_u64 (x : Int) : IntKind.u64.wrap x = x % 18446744073709551616 := by simp [IntKind.wrap, IntKind.signed, IntKind.bits]
theorem wrap_u8 (x : Int) : IntKind.u8.wrap x = x % 256 := by simp [IntKind.wrap, IntKind.signed, IntKind.bits]
theorem orI8 (u : Nat) : orI .u8 (IntKind.u8.wrap (u : Int)) 128 = ((u % 128 + 128 : Nat) : Int) := by
  have h := or8 (BitVec.ofInt 8 (IntKind.u8.wrap (u : Int)))
  have h2 : (BitVec.ofInt 8 (IntKind.u8.wrap (u : Int))).toNat = u % 256 := by
    rw [BitVec.toNat_ofInt, wrap_u8]; omega
  unfold orI
  show IntKind.u8.wrap (((BitVec.ofInt 8 (IntKind.u8.wrap (u : Int)) ||| BitVec.ofInt 8 128).toNat : Nat) : Int) = _
  rw [show BitVec.ofInt 8 128 = 128#8 from rfl, h, h2, wrap_u8]
  omega
theorem andI8 (y : Nat) (hy : y < 256) : andI .u8 (y : Int) 127 = ((y % 128 : Nat) : Int) := by
  have h := and8 (BitVec.ofInt 8 (y : Int))
  have h2 : (BitVec.ofInt 8 (y : Int)).toNat = y := by
    rw [BitVec.toNat_ofInt]; omega
  unfold andI
  show IntKind.u8.wrap (((BitVec.ofInt 8 (y : Int) &&& BitVec.ofInt 8 127).toNat : Nat) : Int) = _
  rw [show BitVec.ofInt 8 127 = 127#8 from rfl, h, h2, wrap_u8]
  omega
theorem shr7 (u : Nat) : shrI .u64 (u : Int) 7 = ((u / 128 : Nat) : Int) := by
  show (u : Int).fdiv (2 ^ 7) = _
  rw [Int.fdiv_eq_ediv_of_nonneg _ (by decide)]
  omega
theorem shr1u (u : Nat) : shrI .u64 (u : Int) 1 = ((u / 2 : Nat) : Int) := by
  show (u : Int).fdiv (2 ^ 1) = _
  rw [Int.fdiv_eq_ediv_of_nonneg _ (by decide)]
  omega
def zig (v : Int) : Nat := if 0 ≤ v then (2 * v).toNat else (-(2 * v) - 1).toNat
def zag (u : Nat) : Int := if u % 2 = 0 then ((u / 2 : Nat) : Int) else -((u / 2 : Nat) : Int) - 1
theorem zag_zig (v : Int) : zag (zig v) = v := by
  unfold zag zig
  split <;> split <;> omega
theorem zig_zag (u : Nat) : zig (zag u) = u := by
  unfold zag zig
  split <;> split <;> omega
theorem zig_lt {v : Int} (h : in64 v) : zig v < 18446744073709551616 := by
  unfold zig
  split <;> omega
theorem zag_in {u : Nat} (h : u < 18446744073709551616) : in64 (zag u) := by
  unfold zag
  split <;> constructor <;> omega
theorem ofInt64 (x : Nat) (h : x < 18446744073709551616) : (BitVec.ofInt 64 (x : Int)).toNat = x := by
  rw [BitVec.toNat_ofInt]; omega
theorem xor_ones (x : BitVec 64) : (x ^^^ BitVec.allOnes 64).toNat = 18446744073709551615 - x.toNat := by
  rw [BitVec.xor_allOnes, BitVec.toNat_not]
theorem zig_bits {v : Int} (h : in64 v) : xorI .u64 (shlI .u64 (IntKind.u64.wrap v) 1) (IntKind.u64.wrap (shrI .i64 v 63)) = (zig v : Nat) := by
  have h1 : shrI .i64 v 63 = if 0 ≤ v then 0 else -1 := by
    show v.fdiv (2 ^ 63) = _
    rw [Int.fdiv_eq_ediv_of_nonneg _ (by decide)]
    split <;> omega
  have h2 : shlI .u64 (IntKind.u64.wrap v) 1 = (2 * v) % 18446744073709551616 := by
    show IntKind.u64.wrap (IntKind.u64.wrap v * 2 ^ 1) = _
    rw [wrap_u64, wrap_u64]; omega
  rw [h1, h2]
  unfold zig xorI
  show IntKind.u64.wrap ((((BitVec.ofInt 64 (2 * v % 18446744073709551616) ^^^ BitVec.ofInt 64 _).toNat : Nat)) : Int) = _
  split
  · obtain ⟨n, rfl⟩ : ∃ n : Nat, v = n := ⟨v.toNat, by omega⟩
    have e : (2 * (n : Int)) % 18446744073709551616 = ((2 * n : Nat) : Int) := by omega
    rw [e, show IntKind.u64.wrap 0 = 0 from rfl, show BitVec.ofInt 64 0 = 0#64 from rfl, BitVec.xor_zero, ofInt64 _ (by omega), wrap_u64]
    omega
  · have e : (2 * v) % 18446744073709551616 = ((18446744073709551616 + 2 * v).toNat : Int) := by omega
    rw [e, show IntKind.u64.wrap (-1) = 18446744073709551615 from rfl, show BitVec.ofInt 64 18446744073709551615 = BitVec.allOnes 64 from rfl, xor_ones, ofInt64 _ (by omega), wrap_u64]
    omega
theorem and1 (u : Nat) (h : u < 18446744073709551616) : andI .u64 (u : Int) 1 = ((u % 2 : Nat) : Int) := by
  unfold andI
  show IntKind.u64.wrap ((((BitVec.ofInt 64 (u : Int) &&& BitVec.ofInt 64 1).toNat : Nat)) : Int) = _
  rw [BitVec.toNat_and, ofInt64 _ h, show (BitVec.ofInt 64 1).toNat = 1 from rfl, Nat.and_one_is_mod, wrap_u64]
  omega
theorem zag_bits {u : Nat} (h : u < 18446744073709551616) : xorI .i64 (IntKind.i64.wrap (shrI .u64 (u : Int) 1)) (IntKind.i64.wrap (0 - IntKind.i64.wrap (andI .u64 (u : Int) 1))) = zag u := by
  rw [shr1u, and1 _ h]
  have h1 : IntKind.i64.wrap ((u / 2 : Nat) : Int) = ((u / 2 : Nat) : Int) := by rw [IntKind.wrap_i64]; omega
  rw [h1]
  unfold zag xorI
  show IntKind.i64.wrap ((((BitVec.ofInt 64 ((u / 2 : Nat) : Int) ^^^ BitVec.ofInt 64 _).toNat : Nat)) : Int) = _
  split
  · rename_i h0
    rw [h0, show IntKind.i64.wrap (0 - IntKind.i64.wrap ((0 : Nat) : Int)) = 0 from rfl, show BitVec.ofInt 64 0 = 0#64 from rfl, BitVec.xor_zero, ofInt64 _ (by omega), IntKind.wrap_i64]
    omega
  · rename_i h0
    rw [show u % 2 = 1 by omega, show IntKind.i64.wrap (0 - IntKind.i64.wrap ((1 : Nat) : Int)) = -1 from rfl, show BitVec.ofInt 64 (-1) = BitVec.allOnes 64 from rfl, xor_ones, ofInt64 _ (by omega), IntKind.wrap_i64]
    omega
theorem or_add {i acc x : Nat} (ha : acc < 128 ^ i) (hx : acc + x * 128 ^ i < 18446744073709551616) : orI .u64 (acc : Int) ((x * 128 ^ i : Nat) : Int) = ((acc + x * 128 ^ i : Nat) : Int) := by
  unfold orI
  show IntKind.u64.wrap ((((BitVec.ofInt 64 (acc : Int) ||| BitVec.ofInt 64 ((x * 128 ^ i : Nat) : Int)).toNat : Nat)) : Int) = _
  rw [BitVec.toNat_or, ofInt64 _ (by omega), ofInt64 _ (by omega)]
  have e : (128 : Nat) ^ i = 2 ^ (7 * i) := by rw [Nat.pow_mul]
  rw [e] at ha hx ⊢
  have h := Nat.two_pow_add_eq_or_of_lt ha x
  rw [Nat.or_comm, Nat.mul_comm x, ← h, wrap_u64]
  rw [Nat.mul_comm x] at hx
  omega
theorem shl_at {x i : Nat} (hi : i ≤ 9) (h : x * 128 ^ i < 18446744073709551616) : shlI .u64 (IntKind.u64.wrap (x : Int)) (IntKind.i64.wrap (7 * (i : Int))) = ((x * 128 ^ i : Nat) : Int) := by
  have h1 : IntKind.i64.wrap (7 * (i : Int)) = ((7 * i : Nat) : Int) := by rw [IntKind.wrap_i64]; omega
  have hp : 1 ≤ 128 ^ i := Nat.pos_of_ne_zero (by intro h; have := Nat.pow_eq_zero.1 h; omega)
  have hx : x ≤ x * 128 ^ i := Nat.le_mul_of_pos_right _ hp
  rw [h1]
  show IntKind.u64.wrap (IntKind.u64.wrap (x : Int) * 2 ^ (min (((7 * i : Nat) : Int)).toNat 64)) = _
  rw [wrap_u64 x, show (x : Int) % 18446744073709551616 = x by omega, Int.toNat_natCast, Nat.min_eq_left (by omega)]
  have e : (x : Int) * 2 ^ (7 * i) = ((x * 128 ^ i : Nat) : Int) := by
    rw [show (128 : Nat) ^ i = 2 ^ (7 * i) by rw [Nat.pow_mul]]
    push_cast
    rfl
  rw [e, wrap_u64]
  omega
end Go.Proofs.Ytocbjadhcfjfiaa
