/- Plain laws of the sum: linear, and bursts of up to 32 bits are told. -/
import Derived.Test.YthbablipimdaoaaCrc
namespace Go.Proofs.Ythbablipimdaoaa.C
open Go.RowKit

theorem low_xor (x y : Reg) : (x ^^^ y).toNat % 2 = (x.toNat + y.toNat) % 2 := by
  have := @Nat.xor_mod_two_eq_one x.toNat y.toNat
  rw [BitVec.toNat_xor]; omega
theorem bit_lin (x y : Reg) : bit (x ^^^ y) = bit x ^^^ bit y := by
  have h := low_xor x y
  unfold bit
  rw [BitVec.ushiftRight_xor_distrib]
  by_cases hx : x.toNat % 2 = 1 <;> by_cases hy : y.toNat % 2 = 1
  · rw [if_pos hx, if_pos hy, if_neg (by omega)]
    have : ∀ a b p : Reg, a ^^^ p ^^^ (b ^^^ p) = a ^^^ b := by
      intro a b p
      rw [show a ^^^ p ^^^ (b ^^^ p) = a ^^^ b ^^^ (p ^^^ p) by ac_rfl, BitVec.xor_self, BitVec.xor_zero]
    rw [this]
  · rw [if_pos hx, if_neg hy, if_pos (by omega)]; ac_rfl
  · rw [if_neg hx, if_pos hy, if_pos (by omega)]; ac_rfl
  · rw [if_neg hx, if_neg hy, if_neg (by omega)]
theorem bitN_lin (n : Nat) (x y : Reg) : bitN n (x ^^^ y) = bitN n x ^^^ bitN n y := by
  induction n with
  | zero => rfl
  | succ n ih => rw [bitN, bitN, bitN, ih, bit_lin]
theorem bit_zero : bit 0#32 = 0#32 := by decide
theorem bitN_zero (n : Nat) : bitN n 0#32 = 0#32 := by
  induction n with
  | zero => rfl
  | succ n ih => rw [bitN, ih, bit_zero]
theorem shr_lt (x : Reg) : (x >>> 1).toNat < 2147483648 := by
  have h := shr1 x
  have := x.isLt
  omega
theorem bit_eq_zero {x : Reg} (h : bit x = 0#32) : x = 0#32 := by
  unfold bit at h
  have h1 := shr1 x
  split at h
  · have h2 : x >>> 1 = 3988292384#32 := by
      have := congrArg (· ^^^ 3988292384#32) h
      simpa [BitVec.xor_assoc] using this
    have h3 := shr_lt x
    rw [h2] at h3
    exact absurd h3 (by decide)
  · rename_i hl
    apply BitVec.eq_of_toNat_eq
    rw [h] at h1
    simp at h1 ⊢
    omega
theorem bitN_eq_zero {n : Nat} {x : Reg} (h : bitN n x = 0#32) : x = 0#32 := by
  induction n with
  | zero => exact h
  | succ n ih => exact ih (bit_eq_zero h)
theorem xor_eq_zero {x y : Reg} (h : x ^^^ y = 0#32) : x = y := by
  have := congrArg (· ^^^ y) h
  simpa [BitVec.xor_assoc] using this
theorem bitN_inj {n : Nat} {x y : Reg} (h : bitN n x = bitN n y) : x = y := by
  refine xor_eq_zero (bitN_eq_zero (n := n) ?_)
  rw [bitN_lin, h, BitVec.xor_self]

/-! ### Bit by bit -/
def b1 (b : Bool) : Reg := if b then 1#32 else 0#32
def feed (r : Reg) (d : List Bool) : Reg := d.foldl (fun r b => bit (r ^^^ b1 b)) r
def toN : List Bool → Nat
  | [] => 0
  | b :: d => b.toNat + 2 * toN d
theorem toN_lt : ∀ d : List Bool, toN d < 2 ^ d.length
  | [] => by simp [toN]
  | b :: d => by
    have := toN_lt d
    have : b.toNat ≤ 1 := Bool.toNat_le b
    simp only [toN, List.length_cons, Nat.pow_succ]
    omega
theorem toN_inj : ∀ (d e : List Bool), d.length = e.length → toN d = toN e → d = e
  | [], [], _, _ => rfl
  | [], _ :: _, h, _ => by simp at h
  | _ :: _, [], h, _ => by simp at h
  | b :: d, c :: e, h, hn => by
    have h1 : b.toNat ≤ 1 := Bool.toNat_le b
    have h2 : c.toNat ≤ 1 := Bool.toNat_le c
    simp only [toN] at hn
    simp only [List.length_cons, Nat.add_right_cancel_iff] at h
    have h3 : b.toNat = c.toNat := by omega
    rw [toN_inj d e h (by omega)]
    cases b <;> cases c <;> simp_all
def reg (d : List Bool) : Reg := BitVec.ofNat 32 (toN d)
theorem one_xor (n : Nat) : 1 + 2 * n = 1 ^^^ (2 * n) := by
  apply Nat.eq_of_testBit_eq
  intro i
  rw [Nat.testBit_xor]
  cases i with
  | zero => simp [Nat.testBit_zero]
  | succ i => simp [Nat.testBit_succ]; congr 1; omega
theorem reg_cons (b : Bool) (d : List Bool) : reg (b :: d) = b1 b ^^^ BitVec.ofNat 32 (2 * toN d) := by
  show BitVec.ofNat 32 (b.toNat + 2 * toN d) = _
  cases b
  · show BitVec.ofNat 32 (0 + 2 * toN d) = 0#32 ^^^ _
    rw [Nat.zero_add, BitVec.zero_xor]
  · show BitVec.ofNat 32 (1 + 2 * toN d) = 1#32 ^^^ _
    rw [one_xor]
    apply BitVec.eq_of_toNat_eq
    rw [BitVec.toNat_xor, BitVec.toNat_ofNat, BitVec.toNat_ofNat, BitVec.toNat_ofNat, Nat.xor_mod_two_pow]
theorem bit_double (n : Nat) (h : n < 2147483648) : bit (BitVec.ofNat 32 (2 * n)) = BitVec.ofNat 32 n := by
  have h1 : (BitVec.ofNat 32 (2 * n)).toNat = 2 * n := by rw [BitVec.toNat_ofNat]; omega
  unfold bit
  rw [if_neg (by omega)]
  apply BitVec.eq_of_toNat_eq
  rw [BitVec.toNat_ushiftRight, h1, Nat.shiftRight_eq_div_pow, BitVec.toNat_ofNat]
  omega
theorem feed_eq : ∀ (d : List Bool) (r : Reg), d.length ≤ 32 → feed r d = bitN d.length (r ^^^ reg d)
  | [], r, _ => by simp [feed, bitN, reg, toN]
  | b :: d, r, h => by
    have ih := feed_eq d (bit (r ^^^ b1 b)) (by simp at h; omega)
    have hlt := toN_lt d
    have h31 : toN d < 2147483648 := by
      simp only [List.length_cons] at h
      have : 2 ^ d.length ≤ 2 ^ 31 := Nat.pow_le_pow_right (by omega) (by omega)
      omega
    have hs : ∀ (n : Nat) (x : Reg), bitN n (bit x) = bitN (n + 1) x := by
      intro n x
      induction n with
      | zero => rfl
      | succ n ihn => rw [bitN, ihn]; rfl
    show feed (bit (r ^^^ b1 b)) d = bitN (d.length + 1) (r ^^^ reg (b :: d))
    rw [ih, ← hs, reg_cons, ← BitVec.xor_assoc, bit_lin (r ^^^ b1 b), bit_double _ h31]
    rfl
theorem feed_inj_r (d : List Bool) {r s : Reg} (h : feed r d = feed s d) : r = s := by
  induction d generalizing r s with
  | nil => exact h
  | cons b d ih =>
    have h1 := ih (r := bit (r ^^^ b1 b)) (s := bit (s ^^^ b1 b)) h
    have h2 := bitN_inj (n := 1) (x := r ^^^ b1 b) (y := s ^^^ b1 b) h1
    have := congrArg (· ^^^ b1 b) h2
    simpa [BitVec.xor_assoc] using this
theorem feed_inj_d {d e : List Bool} (r : Reg) (hl : d.length = e.length) (h32 : d.length ≤ 32) (h : feed r d = feed r e) : d = e := by
  rw [feed_eq d r h32, feed_eq e r (by omega), hl] at h
  have h1 := bitN_inj h
  have h2 : reg d = reg e := by
    have := congrArg (r ^^^ ·) h1
    simpa [← BitVec.xor_assoc] using this
  refine toN_inj d e hl ?_
  have h3 := congrArg BitVec.toNat h2
  simp only [reg, BitVec.toNat_ofNat] at h3
  have b1 := toN_lt d
  have b2 := toN_lt e
  have p : 2 ^ d.length ≤ 2 ^ 32 := Nat.pow_le_pow_right (by omega) h32
  rw [← hl] at b2
  rw [Nat.mod_eq_of_lt (by omega), Nat.mod_eq_of_lt (by omega)] at h3
  exact h3
theorem feed_append (r : Reg) (a b : List Bool) : feed r (a ++ b) = feed (feed r a) b := by simp [feed]
/-- Two streams of one length that differ within 32 bits in a row alone: the registers tell. -/
theorem feed_window (r : Reg) (s t : List Bool) (k : Nat) (hl : s.length = t.length) (h0 : s.take k = t.take k) (h1 : s.drop (k + 32) = t.drop (k + 32)) (h : feed r s = feed r t) : s = t := by
  have es : s = s.take k ++ ((s.drop k).take 32 ++ s.drop (k + 32)) := by
    rw [← List.drop_drop, List.take_append_drop, List.take_append_drop]
  have et : t = t.take k ++ ((t.drop k).take 32 ++ t.drop (k + 32)) := by
    rw [← List.drop_drop, List.take_append_drop, List.take_append_drop]
  rw [es, et, feed_append, feed_append, feed_append, feed_append, h0, h1] at h
  have h2 := feed_inj_r _ h
  have h3 := feed_inj_d _ (by simp [hl]) (by simp; omega) h2
  rw [es, et, h0, h1, h3]

/-! ### The bits of bytes -/
def bits8 (x : Int) : List Bool := (List.range 8).map fun i => decide (x / 2 ^ i % 2 = 1)
theorem toN_all : ∀ n : Fin 256, toN (bits8 (n.val : Int)) = n.val := by decide +kernel
theorem toN_bits8 (x : Int) (h0 : 0 ≤ x) (h1 : x ≤ 255) : toN (bits8 x) = x.toNat := by
  have := toN_all ⟨x.toNat, by omega⟩
  simp only at this
  rwa [show ((x.toNat : Nat) : Int) = x by omega] at this
theorem byte_feed (r : Reg) (x : Int) (h0 : 0 ≤ x) (h1 : x ≤ 255) : byte r x = feed r (bits8 x) := by
  rw [feed_eq _ _ (by simp [bits8])]
  have : reg (bits8 x) = BitVec.ofInt 32 x := by
    unfold reg
    rw [toN_bits8 x h0 h1]
    apply BitVec.eq_of_toNat_eq
    have := ofInt_nat (y := x) h0 (by omega)
    rw [BitVec.toNat_ofNat]; omega
  rw [this]
  simp [bits8, byte]
def stream (l : List Int) : List Bool := l.flatMap bits8
theorem run_feed (r : Reg) (l : List Int) (h : ∀ x ∈ l, 0 ≤ x ∧ x ≤ 255) : run r l = feed r (stream l) := by
  induction l generalizing r with
  | nil => rfl
  | cons x l ih =>
    have hx := h x (by simp)
    show run (byte r x) l = feed r (bits8 x ++ stream l)
    rw [feed_append, ← byte_feed r x hx.1 hx.2, ih _ (fun y hy => h y (by simp [hy]))]
theorem stream_length (l : List Int) : (stream l).length = 8 * l.length := by
  induction l with
  | nil => rfl
  | cons x l ih => show (bits8 x ++ stream l).length = _; rw [List.length_append, ih]; simp [bits8]; omega
/-- The j-th bit of bytes. -/
def bitAt (l : List Int) (j : Nat) : Bool := decide (rd l (j / 8) / 2 ^ (j % 8) % 2 = 1)
theorem stream_get (l : List Int) (j : Nat) (h : j < 8 * l.length) : (stream l)[j]? = some (bitAt l j) := by
  induction l generalizing j with
  | nil => simp at h
  | cons x l ih =>
    show (bits8 x ++ stream l)[j]? = _
    have h8 : (bits8 x).length = 8 := by simp [bits8]
    by_cases hj : j < 8
    · rw [List.getElem?_append_left (by omega)]
      have : j / 8 = 0 := by omega
      have h2 : j % 8 = j := by omega
      simp [bits8, bitAt, this, h2, rd, hj]
    · rw [List.getElem?_append_right (by omega), h8, ih (j - 8) (by simp at h; omega)]
      have h1 : j / 8 = (j - 8) / 8 + 1 := by omega
      have h2 : j % 8 = (j - 8) % 8 := by omega
      simp [bitAt, h1, h2, rd]
theorem stream_inj {a b : List Int} (ha : ∀ x ∈ a, 0 ≤ x ∧ x ≤ 255) (hb : ∀ x ∈ b, 0 ≤ x ∧ x ≤ 255) (hl : a.length = b.length) (h : stream a = stream b) : a = b := by
  induction a generalizing b with
  | nil => cases b with
    | nil => rfl
    | cons y b => simp at hl
  | cons x a ih => cases b with
    | nil => simp at hl
    | cons y b =>
      have h' : bits8 x ++ stream a = bits8 y ++ stream b := h
      obtain ⟨h1, h2⟩ := List.append_inj h' (by simp [bits8])
      have hx := ha x (by simp)
      have hy := hb y (by simp)
      have := toN_bits8 x hx.1 hx.2
      have h3 := toN_bits8 y hy.1 hy.2
      rw [h1] at this
      rw [ih (fun z hz => ha z (by simp [hz])) (fun z hz => hb z (by simp [hz])) (by simpa using hl) h2]
      have : x = y := by omega
      rw [this]
theorem flip_all : ∀ x : Fin 256, ∀ s : Fin 8, (0 ≤ bits .xor .u8 (x.val : Int) (2 ^ s.val % 256) ∧ bits .xor .u8 (x.val : Int) (2 ^ s.val % 256) ≤ 255) ∧ ∀ t : Fin 8, t ≠ s → bits .xor .u8 (x.val : Int) (2 ^ s.val % 256) / 2 ^ t.val % 2 = (x.val : Int) / 2 ^ t.val % 2 := by decide +kernel
theorem flip_byte {x : Int} (h0 : 0 ≤ x) (h1 : x ≤ 255) {s : Nat} (hs : s < 8) : (0 ≤ bits .xor .u8 x (2 ^ s % 256) ∧ bits .xor .u8 x (2 ^ s % 256) ≤ 255) ∧ ∀ t, t < 8 → t ≠ s → bits .xor .u8 x (2 ^ s % 256) / 2 ^ t % 2 = x / 2 ^ t % 2 := by
  have := flip_all ⟨x.toNat, by omega⟩ ⟨s, hs⟩
  simp only [show ((x.toNat : Nat) : Int) = x by omega] at this
  exact ⟨this.1, fun t ht hne => this.2 ⟨t, ht⟩ (fun e => hne (by injection e))⟩
theorem bitAt_flip {l : List Int} {q s : Nat} (hl : ∀ x ∈ l, 0 ≤ x ∧ x ≤ 255) (hq : q < l.length) (hs : s < 8) (j : Nat) (hj : j ≠ 8 * q + s) :
    bitAt (l.set q (bits .xor .u8 (rd l q) (2 ^ s % 256))) j = bitAt l j := by
  have hx := hl _ (rd_mem hq)
  unfold bitAt
  by_cases h : j / 8 = q
  · have h1 : rd (l.set q (bits .xor .u8 (rd l q) (2 ^ s % 256))) (j / 8) = bits .xor .u8 (rd l q) (2 ^ s % 256) := by
      rw [h]; simp [rd, List.getD_eq_getElem?_getD, hq]
    rw [h1, (flip_byte hx.1 hx.2 hs).2 (j % 8) (by omega) (by omega), h]
  · have h1 : rd (l.set q (bits .xor .u8 (rd l q) (2 ^ s % 256))) (j / 8) = rd l (j / 8) := by
      simp [rd, List.getD_eq_getElem?_getD, List.getElem?_set_ne (fun e => h e.symm)]
    rw [h1]
/-- A burst of up to 32 bits is told. -/
theorem burst (a b : List Int) (k : Nat) (ha : ∀ x ∈ a, 0 ≤ x ∧ x ≤ 255) (hb : ∀ x ∈ b, 0 ≤ x ∧ x ≤ 255) (hl : a.length = b.length)
    (hk : ∀ j, j < 8 * a.length → (j < k ∨ k + 32 ≤ j) → bitAt a j = bitAt b j) (h : more 0 a = more 0 b) : a = b := by
  refine stream_inj ha hb hl ?_
  have hs : (stream a).length = (stream b).length := by rw [stream_length, stream_length, hl]
  have hg : ∀ j, (j < k ∨ k + 32 ≤ j) → (stream a)[j]? = (stream b)[j]? := by
    intro j hj
    by_cases hlt : j < 8 * a.length
    · rw [stream_get a j hlt, stream_get b j (by omega), hk j hlt hj]
    · rw [List.getElem?_eq_none (by rw [stream_length]; omega), List.getElem?_eq_none (by rw [stream_length]; omega)]
  refine feed_window (~~~ BitVec.ofInt 32 0) (stream a) (stream b) k hs (List.ext_getElem? fun j => ?_) (List.ext_getElem? fun j => ?_) ?_
  · rw [List.getElem?_take, List.getElem?_take]
    split
    · rename_i hj; exact hg j (.inl hj)
    · rfl
  · rw [List.getElem?_drop, List.getElem?_drop]
    exact hg _ (.inr (by omega))
  · rw [← run_feed _ _ ha, ← run_feed _ _ hb]
    unfold more at h
    have h1 : ~~~run (~~~BitVec.ofInt 32 0) a = ~~~run (~~~BitVec.ofInt 32 0) b := BitVec.eq_of_toNat_eq (by omega)
    have := congrArg (~~~ ·) h1
    simpa [BitVec.not_not] using this
/-! ### Three strings -/
def bx (x y : Int) : Int := ((x.toNat ^^^ y.toNat : Nat) : Int)
theorem bits_bx {x y : Int} (hx : 0 ≤ x ∧ x ≤ 255) (hy : 0 ≤ y ∧ y ≤ 255) : bits .xor .u8 x y = bx x y := by
  have h1 : (BitVec.ofInt 8 x).toNat = x.toNat := by rw [BitVec.toNat_ofInt]; omega
  have h2 : (BitVec.ofInt 8 y).toNat = y.toNat := by rw [BitVec.toNat_ofInt]; omega
  have h3 : x.toNat ^^^ y.toNat < 2 ^ 8 := Nat.xor_lt_two_pow (by omega) (by omega)
  show IntKind.u8.wrap ((BitVec.ofInt 8 x ^^^ BitVec.ofInt 8 y).toNat : Int) = _
  rw [BitVec.toNat_xor, h1, h2, IntKind.wrap_u8]
  unfold bx; omega
theorem bx_range {x y : Int} (hx : 0 ≤ x ∧ x ≤ 255) (hy : 0 ≤ y ∧ y ≤ 255) : 0 ≤ bx x y ∧ bx x y ≤ 255 := by
  have : x.toNat ^^^ y.toNat < 2 ^ 8 := Nat.xor_lt_two_pow (by omega) (by omega)
  unfold bx; omega
theorem ofInt_bx {x y : Int} (hx : 0 ≤ x ∧ x ≤ 255) (hy : 0 ≤ y ∧ y ≤ 255) : BitVec.ofInt 32 (bx x y) = BitVec.ofInt 32 x ^^^ BitVec.ofInt 32 y := by
  apply BitVec.eq_of_toNat_eq
  have h1 := ofInt_nat (y := x) hx.1 (by omega)
  have h2 := ofInt_nat (y := y) hy.1 (by omega)
  have h3 := bx_range hx hy
  have h4 := ofInt_nat (y := bx x y) h3.1 (by omega)
  rw [BitVec.toNat_xor]
  have e1 : (BitVec.ofInt 32 x).toNat = x.toNat := by omega
  have e2 : (BitVec.ofInt 32 y).toNat = y.toNat := by omega
  rw [e1, e2]
  have : (bx x y).toNat = x.toNat ^^^ y.toNat := by unfold bx; omega
  omega
def three (a b c : List Int) : List Int := (a.zip (b.zip c)).map fun t => bx (bx t.1 t.2.1) t.2.2
theorem run_three (r s t : Reg) (a b c : List Int) (ha : ∀ x ∈ a, 0 ≤ x ∧ x ≤ 255) (hb : ∀ x ∈ b, 0 ≤ x ∧ x ≤ 255) (hc : ∀ x ∈ c, 0 ≤ x ∧ x ≤ 255) (h1 : a.length = b.length) (h2 : b.length = c.length) :
    run (r ^^^ s ^^^ t) (three a b c) = run r a ^^^ run s b ^^^ run t c := by
  induction a generalizing b c r s t with
  | nil =>
    obtain rfl : b = [] := List.eq_nil_of_length_eq_zero (by simpa using h1.symm)
    obtain rfl : c = [] := List.eq_nil_of_length_eq_zero (by simpa using h2.symm)
    rfl
  | cons x a ih =>
    match b, c, h1, h2 with
    | y :: b, z :: c, h1, h2 =>
      have hx := ha x (by simp)
      have hy := hb y (by simp)
      have hz := hc z (by simp)
      show run (byte (r ^^^ s ^^^ t) (bx (bx x y) z)) (three a b c) = run (byte r x) a ^^^ run (byte s y) b ^^^ run (byte t z) c
      have e : byte (r ^^^ s ^^^ t) (bx (bx x y) z) = byte r x ^^^ byte s y ^^^ byte t z := by
        unfold byte
        rw [← bitN_lin, ← bitN_lin, ofInt_bx (bx_range hx hy) hz, ofInt_bx hx hy]
        congr 1
        ac_rfl
      rw [e, ih _ _ _ b c (fun u hu => ha u (by simp [hu])) (fun u hu => hb u (by simp [hu])) (fun u hu => hc u (by simp [hu])) (by simpa using h1) (by simpa using h2)]
theorem more_three (a b c : List Int) (ha : ∀ x ∈ a, 0 ≤ x ∧ x ≤ 255) (hb : ∀ x ∈ b, 0 ≤ x ∧ x ≤ 255) (hc : ∀ x ∈ c, 0 ≤ x ∧ x ≤ 255) (h1 : a.length = b.length) (h2 : b.length = c.length) :
    bits .xor .u32 (bits .xor .u32 (more 0 a) (more 0 b)) (more 0 c) = more 0 (three a b c) := by
  have h := run_three (~~~ BitVec.ofInt 32 0) (~~~ BitVec.ofInt 32 0) (~~~ BitVec.ofInt 32 0) a b c ha hb hc h1 h2
  rw [BitVec.xor_self, BitVec.zero_xor] at h
  rw [bits_xor, bits_xor]
  unfold more
  rw [ofInt_toNat, ofInt_toNat, ofInt_toNat, ofInt_toNat, h]
  congr 2
  have n3 : ∀ x y z : Reg, ~~~x ^^^ ~~~y ^^^ ~~~z = ~~~(x ^^^ y ^^^ z) := by
    intro x y z
    rw [← BitVec.allOnes_xor (x := x), ← BitVec.allOnes_xor (x := y), ← BitVec.allOnes_xor (x := z), ← BitVec.allOnes_xor (x := x ^^^ y ^^^ z)]
    rw [show BitVec.allOnes 32 ^^^ x ^^^ (BitVec.allOnes 32 ^^^ y) ^^^ (BitVec.allOnes 32 ^^^ z) = (BitVec.allOnes 32 ^^^ BitVec.allOnes 32) ^^^ (BitVec.allOnes 32 ^^^ (x ^^^ y ^^^ z)) by ac_rfl, BitVec.xor_self, BitVec.zero_xor]
  exact n3 _ _ _
theorem three_length (a b c : List Int) (h1 : a.length = b.length) (h2 : b.length = c.length) : (three a b c).length = a.length := by simp [three]; omega
theorem three_take (a b c : List Int) (k : Nat) (hk : k < a.length) (h1 : a.length = b.length) (h2 : b.length = c.length) :
    (three a b c).take (k + 1) = (three a b c).take k ++ [bx (bx (rd a k) (rd b k)) (rd c k)] := by
  have hl := three_length a b c h1 h2
  rw [List.take_succ_eq_append_getElem (by omega)]
  simp [three, rd, List.getD_eq_getElem?_getD, List.getElem?_eq_getElem hk, List.getElem?_eq_getElem (show k < b.length by omega), List.getElem?_eq_getElem (show k < c.length by omega)]
end Go.Proofs.Ythbablipimdaoaa.C
