/- The log's small contracts: numbers, sums, one record. No conditions. -/
import Derived.Test.YtfgepillnemolaaWalM
import Derived.Test.YtfgepillnemolaaBy
import Derived.Test.YtfgepillnemolaaV1
namespace Go.Proofs.Ytfgepillnemolaa
open Go.RowKit Go.Eng
set_option linter.unusedVariables false
theorem rd_of_rdb {w : World} {s : Sl} {l : Bs} (h : RdB w s l) (hl : l.length ≤ 140737488351232) : Rd .u8 w s.a (bi l) := by
  refine ⟨by rw [bi_len]; exact hl, fun h0 => ?_, fun x hx => ?_⟩
  · rw [bi_len] at h0
    obtain ⟨a, ha, hc⟩ := h.byteA h0
    refine ⟨a, ha, fun j hj => ?_⟩
    rw [bi_len] at hj
    rw [hc j hj]
    congr 2
    simp [Go.Proofs.Ytfgepillnemolaa.rd, bi, List.getD_eq_getElem?_getD, hj]
  · obtain ⟨h1, h2⟩ := bi_in l x hx
    exact wf_of_u8 h1 h2
theorem cMore_s (s : Int) (p : Sl) {l : Bs} {w : World} (hp : RdB w p l) (hl : l.length ≤ 140737488351232) : C.crc_More s p w (fun v w' => v = .int .u32 (C.more s (bi l)) ∧ w = w') noP := by
  have h := C.more_calls s p.a p.cap (bi l) w (rd_of_rdb hp hl)
  rw [bi_len, hp.bsize] at h
  refine h.mono ?_
  rintro e w' ⟨rfl, rfl⟩
  exact ⟨rfl, rfl⟩
theorem cOf_s (p : Sl) {l : Bs} {w : World} (hp : RdB w p l) (hl : l.length ≤ 140737488351232) : C.crc_Of p w (fun v w' => v = .int .u32 (C.more 0 (bi l)) ∧ w = w') noP := crc_Of_of (by
  unfold W.crc_Of
  refine use (cMore_s 0 p hp hl) ?_
  rintro _ _ ⟨rfl, rfl⟩
  exact ⟨_, rfl, rfl, rfl⟩)
theorem rOf_s (p : Sl) {l : Bs} {w : World} (hp : RdB w p l) (hl : l.length ≤ 140737488351232) : C.skepref02_Of p w (fun v w' => v = .int .u32 (sumB l) ∧ w = w') noP := by
  have h := C.rof_calls p.a p.cap (bi l) w (rd_of_rdb hp hl)
  rw [bi_len, hp.bsize] at h
  refine h.mono ?_
  rintro e w' ⟨rfl, rfl⟩
  exact ⟨by rw [sumB_val], rfl⟩
theorem or_add (a b : Nat) (k : Nat) (ha : a < 2 ^ k) (hb : a + b * 2 ^ k < 4294967296) : orI .u32 (a : Int) ((b * 2 ^ k : Nat) : Int) = ((a + b * 2 ^ k : Nat) : Int) := by
  unfold orI
  have h1 : (BitVec.ofInt 32 (a : Int)).toNat = a := by rw [BitVec.toNat_ofInt]; omega
  have h2 : (BitVec.ofInt 32 ((b * 2 ^ k : Nat) : Int)).toNat = b * 2 ^ k := by rw [BitVec.toNat_ofInt]; omega
  show IntKind.u32.wrap ((BitVec.ofInt 32 (a : Int) ||| BitVec.ofInt 32 ((b * 2 ^ k : Nat) : Int)).toNat : Int) = _
  rw [BitVec.toNat_or, h1, h2, Nat.or_comm, Nat.mul_comm b, ← Nat.two_pow_add_eq_or_of_lt ha, IntKind.wrap_u32, Nat.mul_comm]
  omega
theorem shl_u32 (x : Nat) (k : Nat) (hk : k ≤ 32) (h : x * 2 ^ k < 4294967296) : shlI .u32 (x : Int) (k : Int) = ((x * 2 ^ k : Nat) : Int) := by
  unfold shlI
  have hb : IntKind.u32.bits = 32 := rfl
  rw [hb, Int.toNat_natCast, Nat.min_eq_left hk, IntKind.wrap_u32]
  have : (x : Int) * 2 ^ k = ((x * 2 ^ k : Nat) : Int) := by push_cast; rfl
  rw [this]
  omega
theorem told_or (a b c d : UInt8) : orI .u32 (orI .u32 (orI .u32 (IntKind.u32.wrap (a.toNat : Int)) (shlI .u32 (IntKind.u32.wrap (b.toNat : Int)) 8)) (shlI .u32 (IntKind.u32.wrap (c.toNat : Int)) 16)) (shlI .u32 (IntKind.u32.wrap (d.toNat : Int)) 24) = ((a.toNat + 256 * b.toNat + 65536 * c.toNat + 16777216 * d.toNat : Nat) : Int) := by
  have ha := a.toNat_lt; have hb := b.toNat_lt; have hc := c.toNat_lt; have hd := d.toNat_lt
  have wr : ∀ x : UInt8, IntKind.u32.wrap (x.toNat : Int) = x.toNat := fun x => by have := x.toNat_lt; rw [IntKind.wrap_u32]; omega
  rw [wr, wr, wr, wr]
  have s1 := shl_u32 b.toNat 8 (by omega) (by omega)
  have s2 := shl_u32 c.toNat 16 (by omega) (by omega)
  have s3 := shl_u32 d.toNat 24 (by omega) (by omega)
  have o1 := or_add a.toNat b.toNat 8 (by omega) (by omega)
  have o2 := or_add (a.toNat + b.toNat * 2 ^ 8) c.toNat 16 (by omega) (by omega)
  have o3 := or_add (a.toNat + b.toNat * 2 ^ 8 + c.toNat * 2 ^ 16) d.toNat 24 (by omega) (by omega)
  rw [show (8 : Int) = ((8 : Nat) : Int) from rfl, show (16 : Int) = ((16 : Nat) : Int) from rfl, show (24 : Int) = ((24 : Nat) : Int) from rfl, s1, s2, s3, o1, o2, o3]
  congr 1
  omega
theorem told_sum (a b c d : UInt8) : IntKind.u32.wrap (IntKind.u32.wrap (IntKind.u32.wrap (IntKind.u32.wrap (a.toNat : Int) + shlI .u32 (IntKind.u32.wrap (b.toNat : Int)) 8) + shlI .u32 (IntKind.u32.wrap (c.toNat : Int)) 16) + shlI .u32 (IntKind.u32.wrap (d.toNat : Int)) 24) = ((a.toNat + 256 * b.toNat + 65536 * c.toNat + 16777216 * d.toNat : Nat) : Int) := by
  have ha := a.toNat_lt; have hb := b.toNat_lt; have hc := c.toNat_lt; have hd := d.toNat_lt
  have wr : ∀ x : UInt8, IntKind.u32.wrap (x.toNat : Int) = x.toNat := fun x => by have := x.toNat_lt; rw [IntKind.wrap_u32]; omega
  rw [wr, wr, wr, wr]
  have s1 := shl_u32 b.toNat 8 (by omega) (by omega)
  have s2 := shl_u32 c.toNat 16 (by omega) (by omega)
  have s3 := shl_u32 d.toNat 24 (by omega) (by omega)
  rw [show (8 : Int) = ((8 : Nat) : Int) from rfl, show (16 : Int) = ((16 : Nat) : Int) from rfl, show (24 : Int) = ((24 : Nat) : Int) from rfl, s1, s2, s3]
  simp only [IntKind.wrap_u32]
  omega
theorem told_val {l : Bs} (h4 : 4 ≤ l.length) : toldB l = l[0].toNat + 256 * l[1].toNat + 65536 * l[2].toNat + 16777216 * l[3].toNat := by
  match l, h4 with
  | a :: b :: c :: d :: r, _ => rfl
theorem told_s (p : Sl) {l : Bs} {w : World} (hp : RdB w p l) (h4 : 4 ≤ l.length) : C.wal_told p w (fun v w' => v = .int .u32 (toldB l) ∧ Kp [] w w') noP := wal_told_of (by
  unfold W.wal_told
  intro w1 hD
  have hpl := hp.bsize
  obtain ⟨a, ha, hc⟩ := (hp.keep0 hD.kp).byteA (by omega)
  have c0 := hc 0 (by omega)
  rw [add_zero'] at c0
  rw [ha]
  refine ⟨⟨by omega, by omega⟩, _, ⟨rfl, c0⟩, ⟨by omega, by omega⟩, _, ⟨rfl, hc 1 (by omega)⟩, by omega, ⟨by omega, by omega⟩, _, ⟨rfl, hc 2 (by omega)⟩, by omega, ⟨by omega, by omega⟩, _, ⟨rfl, hc 3 (by omega)⟩, by omega, ?_, hD.kp⟩
  rw [told_or, told_val h4])
theorem rfour_s (p : Sl) {l : Bs} {w : World} (hp : RdB w p l) (h4 : 4 ≤ l.length) : C.skepref04_four p w (fun v w' => v = .int .u32 (toldB l) ∧ Kp [] w w') noP := skepref04_four_of (by
  unfold W.skepref04_four
  intro w1 hD
  have hpl := hp.bsize
  obtain ⟨a, ha, hc⟩ := (hp.keep0 hD.kp).byteA (by omega)
  have c0 := hc 0 (by omega)
  rw [add_zero'] at c0
  rw [ha]
  refine ⟨⟨by omega, by omega⟩, _, ⟨rfl, c0⟩, ⟨by omega, by omega⟩, _, ⟨rfl, hc 1 (by omega)⟩, by omega, ⟨by omega, by omega⟩, _, ⟨rfl, hc 2 (by omega)⟩, by omega, ⟨by omega, by omega⟩, _, ⟨rfl, hc 3 (by omega)⟩, by omega, ?_, hD.kp⟩
  rw [told_sum, told_val h4])
theorem four_cells (n : Nat) (h : n < 4294967296) : [Value.int .u8 (IntKind.u8.wrap (n : Int)), .int .u8 (IntKind.u8.wrap (shrI .u32 (n : Int) 8)), .int .u8 (IntKind.u8.wrap (shrI .u32 (n : Int) 16)), .int .u8 (IntKind.u8.wrap (shrI .u32 (n : Int) 24))] = bv (fourB n) := by
  have e : ∀ m : Nat, IntKind.u8.wrap (m : Int) = ((UInt8.ofNat m).toNat : Int) := fun m => by rw [IntKind.wrap_u8, UInt8.toNat_ofNat']; omega
  have sh : ∀ k : Nat, k ≤ 32 → shrI .u32 (n : Int) (k : Int) = ((n / 2 ^ k : Nat) : Int) := fun k hk => by
    unfold shrI
    rw [Int.toNat_natCast, Nat.min_eq_left (by exact hk), Int.fdiv_eq_ediv_of_nonneg _ (by exact Int.le_of_lt (Int.pow_pos (by omega)))]
    push_cast
    rfl
  have s1 := sh 8 (by omega)
  have s2 := sh 16 (by omega)
  have s3 := sh 24 (by omega)
  rw [show (8 : Int) = ((8 : Nat) : Int) from rfl, show (16 : Int) = ((16 : Nat) : Int) from rfl, show (24 : Int) = ((24 : Nat) : Int) from rfl, s1, s2, s3, e, e, e, e]
  rfl
theorem number_s (n : Nat) (h : n < 4294967296) (w : World) : C.wal_number n w (fun v w' => ∃ q : Sl, v = .slice q.a q.len q.cap ∧ OwnB w' w.heap.size q (fourB n) ∧ Kp [] w w') noP := wal_number_of (by
  unfold W.wal_number
  rw [four_cells n h]
  refine ⟨by omega, by omega, by omega, fun b1 w2 hA => ⟨⟨some ⟨b1, 0, none⟩, 4, 4⟩, rfl, ?_, hA.kp⟩⟩
  exact Go.Eng.Own.fresh (n := 4) (c := 4) hA (Nat.le_refl _) (Nat.le_refl _) rfl)
theorem rFour_s (n : Nat) (h : n < 4294967296) (w : World) : C.skepref04_Four n w (fun v w' => ∃ q : Sl, v = .slice q.a q.len q.cap ∧ OwnB w' w.heap.size q (fourB n) ∧ Kp [] w w') noP := skepref04_Four_of (by
  unfold W.skepref04_Four
  rw [four_cells n h]
  refine ⟨by omega, by omega, by omega, fun b1 w2 hA => ⟨⟨some ⟨b1, 0, none⟩, 4, 4⟩, rfl, ?_, hA.kp⟩⟩
  exact Go.Eng.Own.fresh (n := 4) (c := 4) hA (Nat.le_refl _) (Nat.le_refl _) rfl)
set_option maxHeartbeats 1000000 in
theorem record_s (p : Sl) {b : Bs} (n : Nat) {w : World} (hp : RdB w p b) (hc : p.len ≤ p.cap) (hn : n ≤ b.length) (hl : b.length ≤ 100000000000) :
    C.wal_record p n w (fun v w' => ∃ q : Sl, v = .slice q.a q.len q.cap ∧ Kp [] w w' ∧ (recAt (b.drop n) = none → q.a = none) ∧ (∀ s, recAt (b.drop n) = some s → q.a.isNone = false ∧ RdB w' q s ∧ q.len ≤ q.cap) ∧ ∀ x ∈ blkOf q, x ∈ blkOf p) noP := wal_record_of (by
  unfold W.wal_record
  have hpl := hp.bsize
  have w1 : IntKind.i64.wrap ((p.len : Int) - (n : Int)) = ((p.len - n : Nat) : Int) := by rw [IntKind.wrap_i64]; omega
  have w2 : IntKind.i64.wrap ((n : Int) + 8) = ((n + 8 : Nat) : Int) := by rw [IntKind.wrap_i64]; omega
  have w3 : IntKind.i64.wrap ((n : Int) + 4) = ((n + 4 : Nat) : Int) := by rw [IntKind.wrap_i64]; omega
  rw [w1, w2, w3]
  have hdl : (b.drop n).length = p.len - n := by rw [List.length_drop]; omega
  have no : ∀ w', Kp [] w w' → recAt (b.drop n) = none → ∃ q : Sl, (Value.slice none 0 0) = .slice q.a q.len q.cap ∧ Kp [] w w' ∧ (recAt (b.drop n) = none → q.a = none) ∧ (∀ s, recAt (b.drop n) = some s → q.a.isNone = false ∧ RdB w' q s ∧ q.len ≤ q.cap) ∧ ∀ x ∈ blkOf q, x ∈ blkOf p := fun w' k h =>
    ⟨⟨none, 0, 0⟩, rfl, k, fun _ => rfl, (fun s hs => by rw [h] at hs; cases hs), by simp [blkOf]⟩
  refine cond_d (fun h1 => no w (Kp.refl _ _) (recAt_short (by omega))) (fun h1 => ⟨⟨by omega, by omega⟩, ?_⟩)
  simp only [Int.toNat_natCast]
  refine use (told_s _ (hp.bdrop hc (n := n) (by omega) (p.len - n) _ rfl) (by omega)) ?_
  rintro _ w4 ⟨rfl, k4⟩
  obtain ⟨t, ht⟩ : ∃ t, toldB (b.drop n) = t := ⟨_, rfl⟩
  rw [ht]
  refine ⟨_, rfl, ?_⟩
  have ht32 := (four_told (l := b.drop n) (by omega)).2
  rw [ht] at ht32
  have w5 : IntKind.i64.wrap (t : Int) = t := by rw [IntKind.wrap_i64]; omega
  have w6 : IntKind.i64.wrap (((p.len - n : Nat) : Int) - 8) = ((p.len - n - 8 : Nat) : Int) := by rw [IntKind.wrap_i64]; omega
  rw [w5, w6]
  have bad : t < 1 ∨ 65536 < t ∨ p.len - n - 8 < t → recAt (b.drop n) = none := fun h => by
    unfold recAt
    rw [if_neg (by omega), ht, if_pos (by omega)]
  refine cond_d (fun h2 => no w4 k4 (bad (by omega))) (fun h2 => cond_d (fun h3 => no w4 k4 (bad (by omega))) (fun h3 => cond_d (fun h4 => no w4 k4 (bad (by omega))) (fun h4 => ?_)))
  clear bad
  have w7 : IntKind.i64.wrap (((n + 8 : Nat) : Int) + (t : Int)) = ((n + 8 + t : Nat) : Int) := by rw [IntKind.wrap_i64]; omega
  rw [w7]
  simp only [Int.toNat_natCast]
  refine ⟨⟨by omega, by omega⟩, ⟨by omega, by omega⟩, fun w8 hD => ⟨⟨by omega, by omega⟩, ⟨by omega, by omega⟩, ⟨by omega, by omega⟩, ?_⟩⟩
  have k8 := k4.then0 hD.kp
  have hp8 := hp.keep0 k8
  have r4 : RdB w8 ⟨if p.cap = n then p.a else p.a.map (fun x => Addr.add x (n * 1)), n + 4 - n, p.cap - n⟩ ((b.drop n).take 4) := by
    have := (hp8.bdrop hc (n := n) (by omega) (p.len - n) 0 rfl).bcut (n := 4) (by dsimp only; omega) (p.cap - n)
    rwa [show n + 4 - n = 4 by omega]
  have r8 : RdB w8 ⟨if p.cap = n + 8 then p.a else p.a.map (fun x => Addr.add x ((n + 8) * 1)), n + 8 + t - (n + 8), p.cap - (n + 8)⟩ (((b.drop n).drop 8).take t) := by
    have := (hp8.bdrop hc (n := n + 8) (by omega) (p.len - (n + 8)) 0 rfl).bcut (n := t) (by dsimp only; omega) (p.cap - (n + 8))
    rwa [show n + 8 + t - (n + 8) = t by omega, List.drop_drop]
  refine use (cOf_s _ r4 (by simp; omega)) ?_
  rintro _ _ ⟨rfl, rfl⟩
  refine ⟨_, rfl, ?_⟩
  refine use (cMore_s _ _ r8 (by simp; omega)) ?_
  rintro _ _ ⟨rfl, rfl⟩
  refine ⟨_, rfl, ?_⟩
  refine use (told_s _ (hp8.bdrop hc (n := n + 4) (by omega) (p.len - (n + 4)) _ rfl) (by rw [List.length_drop]; omega)) ?_
  rintro _ w9 ⟨rfl, k9⟩
  refine ⟨_, rfl, ?_⟩
  rw [more_more, ← bi_app, ← sumB_val]
  have k89 := k8.then0 k9
  have hdd : b.drop (n + 4) = (b.drop n).drop 4 := by rw [List.drop_drop]
  rw [hdd]
  refine cond_n (fun h5 => no w9 k89 ?_) (fun h5 => ?_)
  · unfold recAt
    rw [if_neg (by omega), ht, if_neg (by omega), if_neg (by omega)]
  · have hr : recAt (b.drop n) = some (((b.drop n).drop 8).take t) := by
      unfold recAt
      rw [if_neg (by omega), ht, if_neg (by omega), if_pos (by omega)]
    refine ⟨⟨_, _, _⟩, rfl, k89, fun h => (by rw [hr] at h; cases h), fun s hs => ?_, blk_drop p _ _ _ _⟩
    rw [hr] at hs
    injection hs with hs
    subst hs
    obtain ⟨a, ha, _⟩ := hp.has (by omega)
    refine ⟨?_, r8.keep0 k9, by dsimp only; omega⟩
    show Option.isNone (if p.cap = n + 8 then p.a else p.a.map (fun x => Addr.add x ((n + 8) * 1))) = false
    rw [ha]
    split <;> rfl)
end Go.Proofs.Ytfgepillnemolaa
