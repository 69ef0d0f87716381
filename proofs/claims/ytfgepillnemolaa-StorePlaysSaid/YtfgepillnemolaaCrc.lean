/- The contracts of package crc and of its reference. -/
import Derived.Test.YtfgepillnemolaaCom
namespace Go.Proofs.Ytfgepillnemolaa.C
open Go.RowKit
set_option linter.unusedVariables false

abbrev Reg := BitVec 32
def bit (r : Reg) : Reg := if r.toNat % 2 = 1 then (r >>> 1) ^^^ 3988292384#32 else r >>> 1
def bitN : Nat → Reg → Reg
  | 0, r => r
  | n + 1, r => bit (bitN n r)
def byte (r : Reg) (x : Int) : Reg := bitN 8 (r ^^^ BitVec.ofInt 32 x)
def run (r : Reg) (l : List Int) : Reg := l.foldl byte r
def more (s : Int) (l : List Int) : Int := (~~~ (run (~~~ BitVec.ofInt 32 s) l)).toNat
theorem run_snoc (r : Reg) (l : List Int) (x : Int) : run r (l ++ [x]) = byte (run r l) x := by simp [run]

theorem ofInt_toNat (r : Reg) : BitVec.ofInt 32 (r.toNat : Int) = r := by simp
theorem bits_xor (x y : Int) : bits .xor .u32 x y = ((BitVec.ofInt 32 x ^^^ BitVec.ofInt 32 y).toNat : Int) := by
  have h := (BitVec.ofInt 32 x ^^^ BitVec.ofInt 32 y).isLt
  show IntKind.u32.wrap ((BitVec.ofInt 32 x ^^^ BitVec.ofInt 32 y).toNat : Int) = _
  rw [IntKind.wrap_u32]; omega
theorem bits_and1 (r : Reg) : bits .and .u32 (r.toNat : Int) 1 = (r.toNat : Int) % 2 := by
  show IntKind.u32.wrap ((BitVec.ofInt 32 (r.toNat : Int) &&& BitVec.ofInt 32 1).toNat : Int) = _
  rw [ofInt_toNat, BitVec.toNat_and]
  have : (BitVec.ofInt 32 1).toNat = 2 ^ 1 - 1 := by decide
  rw [this, Nat.and_two_pow_sub_one_eq_mod, IntKind.wrap_u32]; omega
theorem shr1 (r : Reg) : (r.toNat : Int) / (2 : Int) = ((r >>> 1).toNat : Int) := by
  rw [BitVec.toNat_ushiftRight, Nat.shiftRight_eq_div_pow]; omega
theorem more_calls (s : Int) (A : Option Addr) (c : Nat) (l : List Int) (w : World) (hr : Rd .u8 w A l) :
    Calls Try.prog 62 #[.int .u32 s, .slice A l.length c] w fun e w' => e = .returned (.int .u32 (more s l)) ∧ w = w' := by
  have hlen := hr.len
  obtain ⟨r0, hr0⟩ : ∃ r0 : Reg, bits .xor .u32 IntKind.u32.max s = (r0.toNat : Int) ∧ r0 = ~~~ BitVec.ofInt 32 s := ⟨_, by rw [bits_xor], by
    have : BitVec.ofInt 32 IntKind.u32.max = BitVec.allOnes 32 := by decide
    rw [this, BitVec.allOnes_xor]⟩
  obtain ⟨e0, e1⟩ := hr0
  have E1 := Lib.hid e1; clear e1
  go_enter Try.func62, Try.ntmps62
  go_wp2
  clear e0
  go_loop [5, 13] (fun r i => ∃ k : Nat, k ≤ l.length ∧ i = .int .i64 k ∧ r = .int .u32 ((run r0 (l.take k)).toNat : Int)) (fun _ i => l.length - (intOf i).toNat)
  case atStart => exact ⟨0, Nat.zero_le _, rfl, by simp [run]⟩
  case round =>
    obtain ⟨k, hk, rfl, rfl⟩ := hrel
    by_cases hlt : k < l.length
    · obtain ⟨ad, rfl, hc⟩ := hr.get k hlt
      have hx := hr.u8 k hlt
      have hrun : run r0 (l.take (k + 1)) = byte (run r0 (l.take k)) (rd l k) := by rw [rd_take_succ l k hlt, run_snoc]
      have HR := Lib.hid hrun; clear hrun
      obtain ⟨q, hq⟩ : ∃ q : Reg, bits .xor .u32 ((run r0 (l.take k)).toNat : Int) (rd l k) = (q.toNat : Int) ∧ byte (run r0 (l.take k)) (rd l k) = bitN 8 q := ⟨_, by rw [bits_xor, ofInt_toNat], rfl⟩
      obtain ⟨q1, q2⟩ := hq
      have HQ := Lib.hid q2; clear q2
      go_wp2
      clear q1
      go_loop [5, 21] (fun r i => ∃ j : Nat, j ≤ 8 ∧ i = .int .i64 j ∧ r = .int .u32 ((bitN j q).toNat : Int)) (fun _ i => 8 - (intOf i).toNat)
      case atStart => exact ⟨0, Nat.zero_le _, rfl, rfl⟩
      case round =>
        obtain ⟨j, hj, rfl, rfl⟩ := hrel
        by_cases hj8 : j < 8
        · have a1 := bits_and1 (bitN j q)
          have a2 := shr1 (bitN j q)
          by_cases hb : (bitN j q).toNat % 2 = 1
          · have a3 : (bits .and .u32 ((bitN j q).toNat : Int) 1 == 1) = true := by rw [a1]; simp; omega
            have a4 : bits .xor .u32 (((bitN j q).toNat : Int) / 2) 3988292384 = ((bitN (j + 1) q).toNat : Int) := by
              rw [a2, bits_xor, ofInt_toNat, bitN, bit, if_pos hb]; rfl
            have A4 := Lib.hid a4
            clear a1 a2 a4
            go_wp2
            go_round
            case rel => exact ⟨j + 1, by omega, by go_num, by rw [A4.out]⟩
            case measure => simp [intOf]; omega
          · have a3 : (bits .and .u32 ((bitN j q).toNat : Int) 1 == 1) = false := by rw [a1]; simp; omega
            have a4 : ((bitN j q).toNat : Int) / 2 = ((bitN (j + 1) q).toNat : Int) := by
              rw [a2, bitN, bit, if_neg hb]
            have A4 := Lib.hid a4
            clear a1 a2 a4
            go_wp2
            go_round
            case rel => exact ⟨j + 1, by omega, by go_num, by rw [A4.out]⟩
            case measure => simp [intOf]; omega
        · obtain rfl : j = 8 := by omega
          go_wp2
          go_round
          case rel => exact ⟨k + 1, by omega, by go_num, by rw [HR.out, HQ.out]⟩
          case measure => simp [intOf]; omega
    · have hke : k = l.length := by omega
      have hf : bits .xor .u32 IntKind.u32.max ((run r0 l).toNat : Int) = more s l := by
        rw [bits_xor, ofInt_toNat, more, ← E1.out]
        have : BitVec.ofInt 32 IntKind.u32.max = BitVec.allOnes 32 := by decide
        rw [this, BitVec.allOnes_xor]
      have HF := Lib.hid hf; clear hf
      go_wp2
      go_ret
      exact ⟨ret_int HF.out, rfl⟩

theorem of_calls (A : Option Addr) (c : Nat) (l : List Int) (w : World) (hr : Rd .u8 w A l) :
    Calls Try.prog 63 #[.slice A l.length c] w fun e w' => e = .returned (.int .u32 (more 0 l)) ∧ w = w' := by
  go_enter Try.func63, Try.ntmps63
  go_wp2_with (go_at_call 62; ((with_reducible refine (more_calls _ _ _ _ _ hr).mono ?_); rintro e w' ⟨rfl, rfl⟩))
  go_ret
  exact ⟨rfl, rfl⟩

/-! ### The reference -/
theorem ofInt_nat {y : Int} (h0 : 0 ≤ y) (h1 : y ≤ 4294967295) : ((BitVec.ofInt 32 y).toNat : Int) = y := by
  rw [BitVec.toNat_ofInt]; omega
theorem ofInt_half {y : Int} (h0 : 0 ≤ y) (h1 : y ≤ 255) : BitVec.ofInt 32 y >>> 1 = BitVec.ofInt 32 (y / 2) := by
  apply BitVec.eq_of_toNat_eq
  have h2 := ofInt_nat (y := y) h0 (by omega)
  have h3 := ofInt_nat (y := y / 2) (by omega) (by omega)
  have h4 := shr1 (BitVec.ofInt 32 y)
  omega
theorem bit_xor (q : Reg) (y : Int) (h0 : 0 ≤ y) (h1 : y ≤ 255) :
    bit (q ^^^ BitVec.ofInt 32 y) = (if ((q.toNat : Int) % 2 != y % 2) = true then (q >>> 1) ^^^ 3988292384#32 else q >>> 1) ^^^ BitVec.ofInt 32 (y / 2) := by
  have h2 := ofInt_nat (y := y) h0 (by omega)
  have h3 : (q ^^^ BitVec.ofInt 32 y).toNat % 2 = (q.toNat + (BitVec.ofInt 32 y).toNat) % 2 := by
    have := @Nat.xor_mod_two_eq_one q.toNat (BitVec.ofInt 32 y).toNat
    rw [BitVec.toNat_xor]; omega
  have h4 : (q ^^^ BitVec.ofInt 32 y).toNat % 2 = 1 ↔ (q.toNat : Int) % 2 ≠ y % 2 := by omega
  have h5 : (q ^^^ BitVec.ofInt 32 y) >>> 1 = q >>> 1 ^^^ BitVec.ofInt 32 (y / 2) := by rw [BitVec.ushiftRight_xor_distrib, ofInt_half h0 h1]
  unfold bit
  rw [h5]
  by_cases h : (q.toNat : Int) % 2 = y % 2
  · rw [if_neg (fun c => (h4.1 c) h), if_neg (by simp [h])]
  · rw [if_pos (h4.2 h), if_pos (by simpa using h)]; ac_rfl
theorem byte_pow (x : Int) (j : Nat) (h0 : 0 ≤ x) (h1 : x ≤ 255) : 0 ≤ x / 2 ^ j ∧ x / 2 ^ j ≤ 255 := by
  refine ⟨Int.ediv_nonneg h0 (Int.le_of_lt (Int.pow_pos (by omega))), Int.le_trans (Int.ediv_le_self _ h0) h1⟩
theorem byte_half (x : Int) (j : Nat) : x / 2 ^ j / 2 = x / 2 ^ (j + 1) := by
  rw [Int.ediv_ediv_of_nonneg (Int.le_of_lt (Int.pow_pos (by omega))), Int.pow_succ]
theorem byte_8 (x : Int) (h0 : 0 ≤ x) (h1 : x ≤ 255) : x / 2 ^ 8 = 0 := by omega
theorem step_calls (r : Reg) (x : Int) (w : World) (hx : 0 ≤ x ∧ x ≤ 255) :
    Calls Try.prog 75 #[.int .u32 (r.toNat : Int), .int .u8 x] w fun e w' => e = .returned (.int .u32 ((byte r x).toNat : Int)) ∧ w = w' := by
  go_enter Try.func75, Try.ntmps75
  go_wp2
  go_loop [0, 5] (fun v i => ∃ (j : Nat) (q : Reg), j ≤ 8 ∧ i = .int .i64 j ∧ v = .int .u32 (q.toNat : Int) ∧ Hid (bitN j (r ^^^ BitVec.ofInt 32 x) = q ^^^ BitVec.ofInt 32 (x / 2 ^ j))) (fun _ i => 8 - (intOf i).toNat)
  case atStart => exact ⟨0, _, Nat.zero_le _, rfl, rfl, by simp [Hid, bitN]⟩
  case round =>
    obtain ⟨j, q, hj, rfl, rfl, HB⟩ := hrel
    by_cases hj8 : j < 8
    · obtain ⟨p0, p1⟩ := byte_pow x j hx.1 hx.2
      have ht : (x / 2 ^ j).tmod 2 % 4294967296 = x / 2 ^ j % 2 := by rw [Int.tmod_eq_emod_of_nonneg p0]; omega
      have hb := bit_xor q (x / 2 ^ j) p0 p1
      rw [byte_half, ← HB.out] at hb
      have hs := shr1 q
      by_cases h : ((q.toNat : Int) % 2 != x / 2 ^ j % 2) = true
      · have h' : ((q.toNat : Int) % 2 != (x / 2 ^ j).tmod 2 % 4294967296) = true := by rw [ht]; exact h
        have hq : bits .xor .u32 ((q.toNat : Int) / 2) 3988292384 = (((q >>> 1) ^^^ 3988292384#32).toNat : Int) := by rw [hs, bits_xor, ofInt_toNat]; rfl
        rw [if_pos h] at hb
        have HQ := Lib.hid hq
        have HN : Hid (bitN (j + 1) (r ^^^ BitVec.ofInt 32 x) = ((q >>> 1) ^^^ 3988292384#32) ^^^ BitVec.ofInt 32 (x / 2 ^ (j + 1))) := hb
        clear hq hb hs ht h HB p0 p1
        go_wp2
        go_round
        case rel => exact ⟨j + 1, _, by omega, by go_num, by rw [HQ.out], HN⟩
        case measure => simp [intOf]; omega
      · have h' : ((q.toNat : Int) % 2 != (x / 2 ^ j).tmod 2 % 4294967296) = false := by rw [ht]; simpa using h
        rw [if_neg h] at hb
        have HQ := Lib.hid hs
        have HN : Hid (bitN (j + 1) (r ^^^ BitVec.ofInt 32 x) = (q >>> 1) ^^^ BitVec.ofInt 32 (x / 2 ^ (j + 1))) := hb
        clear hb hs ht h HB p0 p1
        go_wp2
        go_round
        case rel => exact ⟨j + 1, _, by omega, by go_num, by rw [HQ.out], HN⟩
        case measure => simp [intOf]; omega
    · obtain rfl : j = 8 := by omega
      have hq : q = byte r x := by
        have h := HB.out
        rw [byte_8 x hx.1 hx.2] at h
        unfold byte
        rw [h]; simp
      have HQ := Lib.hid hq
      clear hq HB
      go_wp2
      go_ret
      exact ⟨by rw [← HQ.out]; rfl, rfl⟩
theorem rmore_calls (s : Int) (A : Option Addr) (c : Nat) (l : List Int) (w : World) (hr : Rd .u8 w A l) :
    Calls Try.prog 66 #[.int .u32 s, .slice A l.length c] w fun e w' => e = .returned (.int .u32 (more s l)) ∧ w = w' := by
  have hlen := hr.len
  have hones : BitVec.ofInt 32 4294967295 = BitVec.allOnes 32 := by decide
  obtain ⟨r0, e0, e1⟩ : ∃ r0 : Reg, bits .xor .u32 s 4294967295 = (r0.toNat : Int) ∧ r0 = ~~~ BitVec.ofInt 32 s := ⟨_, by rw [bits_xor], by
    rw [hones, BitVec.xor_allOnes]⟩
  have E1 := Lib.hid e1; clear e1
  have hf : bits .xor .u32 ((run r0 l).toNat : Int) 4294967295 = more s l := by
    rw [bits_xor, ofInt_toNat, more, ← E1.out, hones, BitVec.xor_allOnes]
  have HF := Lib.hid hf
  clear hf hones
  go_enter Try.func66, Try.ntmps66
  go_wp2
  clear e0
  go_loop [5, 6] (fun r i => ∃ k : Nat, k ≤ l.length ∧ i = .int .i64 k ∧ r = .int .u32 ((run r0 (l.take k)).toNat : Int)) (fun _ i => l.length - (intOf i).toNat)
  case atStart => exact ⟨0, Nat.zero_le _, rfl, by simp [run]⟩
  case round =>
    obtain ⟨k, hk, rfl, rfl⟩ := hrel
    by_cases hlt : k < l.length
    · obtain ⟨ad, rfl, hc⟩ := hr.get k hlt
      have hx := hr.u8 k hlt
      have hrun : run r0 (l.take (k + 1)) = byte (run r0 (l.take k)) (rd l k) := by rw [rd_take_succ l k hlt, run_snoc]
      have HR := Lib.hid hrun; clear hrun
      go_wp2_with (go_at_call 75; ((with_reducible refine (step_calls _ _ _ hx).mono ?_); rintro e w' ⟨rfl, rfl⟩))
      go_round
      case rel => exact ⟨k + 1, by omega, by go_num, by rw [HR.out]⟩
      case measure => simp [intOf]; omega
    · have hke : k = l.length := by omega
      go_wp2
      go_ret
      exact ⟨ret_int HF.out, rfl⟩
theorem rof_calls (A : Option Addr) (c : Nat) (l : List Int) (w : World) (hr : Rd .u8 w A l) :
    Calls Try.prog 45 #[.slice A l.length c] w fun e w' => e = .returned (.int .u32 (more 0 l)) ∧ w = w' := by
  go_enter Try.func45, Try.ntmps45
  go_wp2_with (go_at_call 66; ((with_reducible refine (rmore_calls _ _ _ _ _ hr).mono ?_); rintro e w' ⟨rfl, rfl⟩))
  go_ret
  exact ⟨rfl, rfl⟩
end Go.Proofs.Ytfgepillnemolaa.C
