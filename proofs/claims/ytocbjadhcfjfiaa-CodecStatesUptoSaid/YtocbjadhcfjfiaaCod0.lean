/- A number's bytes: what is written, what is read; the plain law. No conditions. -/
import Derived.Test.YtocbjadhcfjfiaaCodM
import Derived.Test.YtocbjadhcfjfiaaBy
namespace Go.Proofs.Ytocbjadhcfjfiaa
open Go.RowKit Go.Eng
set_option linter.unusedVariables false
theorem u8n {x : Nat} (h : x < 256) : (UInt8.ofNat x).toNat = x := by rw [UInt8.toNat_ofNat']; omega
theorem u8_self (x : UInt8) : UInt8.ofNat x.toNat = x := by simp
def encF : Nat → Nat → Bs
  | 0, u => [UInt8.ofNat u]
  | f + 1, u => if u < 128 then [UInt8.ofNat u] else UInt8.ofNat (u % 128 + 128) :: encF f (u / 128)
def enc (u : Nat) : Bs := encF 9 u
def dec : Nat → Bs → Option (Nat × Nat)
  | _, [] => none
  | k, x :: l => if 9 < k ∨ (k = 9 ∧ 1 < x.toNat) ∨ (0 < k ∧ x.toNat = 0) then none else if x.toNat < 128 then some (x.toNat, 1) else (dec (k + 1) l).map fun p => (x.toNat % 128 + 128 * p.1, p.2 + 1)
theorem pow_step (f : Nat) : 2 * 128 ^ (f + 1) = 128 * (2 * 128 ^ f) := by rw [Nat.pow_succ]; omega
theorem dec_enc : ∀ (f k u : Nat) (r : Bs), k + f = 9 → u < 2 * 128 ^ f → (0 < k → 0 < u) → dec k (encF f u ++ r) = some (u, (encF f u).length)
  | 0, k, u, r, hk, hu, h0 => by
    simp at hu
    have h9 : k = 9 := by omega
    subst h9
    have := h0 (by omega)
    have hx : (UInt8.ofNat u).toNat = u := u8n (by omega)
    rw [encF, List.singleton_append, dec, hx, if_neg (by omega), if_pos (by omega)]
    rfl
  | f + 1, k, u, r, hk, hu, h0 => by
    rw [encF]
    split
    · rename_i h
      have hx : (UInt8.ofNat u).toNat = u := u8n (by omega)
      rw [List.singleton_append, dec, hx, if_neg (by omega), if_pos (by omega)]
      rfl
    · rename_i h
      have hx : (UInt8.ofNat (u % 128 + 128)).toNat = u % 128 + 128 := u8n (by omega)
      rw [pow_step] at hu
      have ih := dec_enc f (k + 1) (u / 128) r (by omega) (by omega) (fun _ => by omega)
      rw [List.cons_append, dec, hx, if_neg (by omega), if_neg (by omega), ih]
      simp only [Option.map_some, List.length_cons]
      congr 2
      omega
theorem enc_dec : ∀ (l : Bs) (k u n : Nat), dec k l = some (u, n) → k ≤ 9 ∧ u < 2 * 128 ^ (9 - k) ∧ (0 < k → 0 < u) ∧ l.take n = encF (9 - k) u ∧ n ≤ l.length ∧ 1 ≤ n
  | [], k, u, n, h => by rw [dec] at h; cases h
  | x :: l, k, u, n, h => by
    rw [dec] at h
    have hxl := x.toNat_lt
    split at h
    · cases h
    · rename_i hc
      have hk9 : k ≤ 9 := by omega
      split at h
      · rename_i hx
        injection h with h
        injection h with h1 h2
        subst h1 h2
        rcases Nat.lt_or_ge k 9 with hk | hk
        · obtain ⟨f, hf⟩ : ∃ f, 9 - k = f + 1 := ⟨8 - k, by omega⟩
          rw [hf, pow_step, encF, if_pos hx]
          have hp : 1 ≤ 128 ^ f := Nat.pos_of_ne_zero (by intro h; have := Nat.pow_eq_zero.1 h; omega)
          exact ⟨hk9, by omega, fun _ => by omega, by simp, by simp, by omega⟩
        · have : k = 9 := by omega
          subst this
          rw [Nat.sub_self, encF]
          exact ⟨hk9, by omega, fun _ => by omega, by simp, by simp, by omega⟩
      · rename_i hx
        rw [Option.map_eq_some_iff] at h
        obtain ⟨⟨u', n'⟩, h', he⟩ := h
        injection he with h1 h2
        subst h1 h2
        obtain ⟨i1, i2, i3, i4, i5, i6⟩ := enc_dec l (k + 1) u' n' h'
        have i3 := i3 (by omega)
        obtain ⟨f, hf⟩ : ∃ f, 9 - k = f + 1 := ⟨8 - k, by omega⟩
        have hf' : 9 - (k + 1) = f := by omega
        rw [hf'] at i2 i4
        rw [hf, pow_step, encF]
        refine ⟨hk9, by omega, fun _ => by omega, ?_, by simp; omega, by omega⟩
        dsimp only
        rw [if_neg (by omega), List.take_succ_cons, i4]
        have e1 : (x.toNat % 128 + 128 * u') / 128 = u' := by omega
        have e2 : (x.toNat % 128 + 128 * u') % 128 + 128 = x.toNat := by omega
        rw [e1, e2, u8_self]
theorem p64 : (2 : Nat) * 128 ^ 9 = 18446744073709551616 := by decide
/-- A number's bytes, at the front. -/
def num (l : Bs) : Option (Int × Bs) := (dec 0 l).map fun p => (zag p.1, l.drop p.2)
def putN (v : Int) : Bs := enc (zig v)
theorem num_put {v : Int} (hv : in64 v) (r : Bs) : num (putN v ++ r) = some (v, r) := by
  unfold num putN enc
  rw [dec_enc 9 0 (zig v) r rfl (by rw [p64]; exact zig_lt hv) (by omega)]
  simp [zag_zig]
theorem num_inv {l r : Bs} {v : Int} (h : num l = some (v, r)) : in64 v ∧ l = putN v ++ r := by
  unfold num at h
  rw [Option.map_eq_some_iff] at h
  obtain ⟨⟨u, n⟩, h', he⟩ := h
  injection he with h1 h2
  subst h1 h2
  obtain ⟨i1, i2, i3, i4, i5, i6⟩ := enc_dec l 0 u n h'
  rw [Nat.sub_zero, p64] at i2
  refine ⟨zag_in i2, ?_⟩
  unfold putN enc
  rw [zig_zag]
  rw [Nat.sub_zero] at i4
  rw [← i4, List.take_append_drop]
theorem encF_len : ∀ (f u : Nat), 1 ≤ (encF f u).length ∧ (encF f u).length ≤ f + 1
  | 0, u => by rw [encF]; simp
  | f + 1, u => by
    rw [encF]
    split
    · simp
    · have := encF_len f (u / 128)
      simp only [List.length_cons]
      omega
theorem putN_len (v : Int) : 1 ≤ (putN v).length ∧ (putN v).length ≤ 10 := encF_len 9 _
theorem app_take {α : Type} {a b : List α} {k : Nat} (h : k = a.length) : (a ++ b).take k = a := by subst h; simp
set_option maxHeartbeats 1000000 in
/-- number: a number's bytes behind some bytes. -/
theorem number_s {B : Nat} {s : Sl} {l : Bs} (v : Int) (hv : in64 v) {w : World} (ho : OwnB w B s l) (hB : B ≤ w.heap.size) (hl : l.length ≤ 140737488353000) :
    C.codec_number s v w (fun r w' => ∃ s' : Sl, r = .slice s'.a s'.len s'.cap ∧ OwnB w' B s' (l ++ putN v) ∧ Kp (blkOf s) w w' ∧ ∀ y ∈ blkOf s', y ∈ blkOf s ∨ w.heap.size ≤ y) noP := codec_number_of (by
  unfold W.codec_number
  rw [zig_bits hv]
  refine ⟨by decide, by decide, fun s' x w' => ∃ (u f : Nat) (m : Bs), x = u ∧ f ≤ 9 ∧ m.length + f = 9 ∧ u < 2 * 128 ^ f ∧ putN v = m ++ encF f u ∧ OwnB w' B s' (l ++ m) ∧ Kp (blkOf s) w w' ∧ ∀ y ∈ blkOf s', y ∈ blkOf s ∨ w.heap.size ≤ y, fun _ x _ => x.toNat, ⟨s, rfl, _, rfl, zig v, 9, [], rfl, by omega, rfl, by rw [p64]; exact zig_lt hv, rfl, by simpa using ho, Kp.refl _ _, fun y hy => .inl hy⟩, ?_⟩
  rintro e0 s' _ w7 ⟨u, f, m, rfl, hf, hm, hu, hp, ho7, k7, hb7⟩
  have hsz := ho7.rds.bsize
  rw [List.length_append] at hsz
  have s7 := k7.size
  refine cond_d (fun hc b8 w9 hA => ?_) (fun hc b16 w17 hA => ?_)
  · obtain ⟨g, rfl⟩ : ∃ g, f = g + 1 := ⟨f - 1, by
      rcases Nat.eq_zero_or_pos f with e | e
      · subst e; simp at hu; omega
      · omega⟩
    rw [orI8] at hA
    have s9 := hA.eq
    have hx : RdB w9 ⟨some ⟨b8, 0, none⟩, 1, 1⟩ [UInt8.ofNat (u % 128 + 128)] := ⟨rfl, fun _ => ⟨_, rfl, hA.blk.has 0 _ (fun i w hi => by
      rw [Nat.zero_add]
      simp only [bv, vb, List.map_cons, List.map_nil, u8n (show u % 128 + 128 < 256 by omega)] at hi
      exact hi)⟩⟩
    obtain ⟨q, n, c, w13, hrun, hn, ho13, k13, hq⟩ := app_bytes (ty := 22) Try.underlying22 byte_inf (ho7.keep0 hA.kp) hx (by omega) (by simp; omega)
    refine ⟨q, n, c, w13, hrun, by decide, ⟨q, n, c⟩, rfl, _, rfl, ⟨u / 128, g, m ++ [UInt8.ofNat (u % 128 + 128)], shr7 u, by omega, by simp; omega, by rw [pow_step] at hu; omega, ?_, by simpa using ho13, ?_, ?_⟩, ?_⟩
    · rw [hp, encF, if_neg (by omega)]; simp
    · exact (k7.then0 hA.kp).then k13 (fun y hy => hb7 y hy)
    · intro y hy
      rcases hq with e | ⟨hf', _⟩
      · have e' : q = s'.a := e
        have : y ∈ blkOf s' := by unfold blkOf at hy ⊢; rw [e'] at hy; exact hy
        exact hb7 y this
      · have := hf' y hy; exact .inr (by omega)
    · rw [shr7]; simp only [Int.toNat_natCast]; omega
  · have hw : IntKind.u8.wrap (u : Int) = (u : Nat) := by rw [wrap_u8]; omega
    rw [hw] at hA
    have s17 := hA.eq
    have hx : RdB w17 ⟨some ⟨b16, 0, none⟩, 1, 1⟩ [UInt8.ofNat u] := ⟨rfl, fun _ => ⟨_, rfl, hA.blk.has 0 _ (fun i w hi => by
      rw [Nat.zero_add]
      simp only [bv, vb, List.map_cons, List.map_nil, u8n (show u < 256 by omega)] at hi
      exact hi)⟩⟩
    obtain ⟨q, n, c, w21, hrun, hn, ho21, k21, hq⟩ := app_bytes (ty := 22) Try.underlying22 byte_inf (ho7.keep0 hA.kp) hx (by omega) (by simp; omega)
    refine ⟨q, n, c, w21, hrun, ⟨q, n, c⟩, rfl, ?_, ?_, ?_⟩
    · have : encF f u = [UInt8.ofNat u] := by
        cases f with
        | zero => rfl
        | succ g => rw [encF, if_pos (by omega)]
      rw [hp, this]
      simpa using ho21
    · exact (k7.then0 hA.kp).then k21 (fun y hy => hb7 y hy)
    · intro y hy
      rcases hq with e | ⟨hf', _⟩
      · have e' : q = s'.a := e
        have : y ∈ blkOf s' := by unfold blkOf at hy ⊢; rw [e'] at hy; exact hy
        exact hb7 y this
      · have := hf' y hy; exact .inr (by omega))
end Go.Proofs.Ytocbjadhcfjfiaa
