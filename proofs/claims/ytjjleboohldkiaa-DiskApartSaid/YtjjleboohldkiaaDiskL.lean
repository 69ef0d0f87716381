/- The laws of the disk: awake, DiskSure, DiskFull. No conditions. -/
import Derived.Test.YtjjleboohldkiaaDiskD
import Derived.Test.YtjjleboohldkiaaOpenG
namespace Go.Proofs.Ytjjleboohldkiaa
open Go.RowKit Go.Eng
set_option linter.unusedVariables false
theorem u00 (i : Nat) (h : i < 2) : unitsL (m00 i).pend ≤ 1000000000 := Nat.zero_le _
/-- []byte("..") given to Append. -/
theorem marked_rdb {w w1 : World} {b n c : Nat} {l : Bs} {cs : List Value} (h : Blk w b cs) (hm : Marked w ⟨b, 0, none⟩ w1) (e : cs = bv l) (hn : l.length = n) : RdB w1 ⟨some ⟨b, 0, none⟩, n, c⟩ l := Blk.rdb (hm.blk h) e n c hn
theorem alloc_marked {w w1 w2 : World} {b : Nat} {t : TypeId} {cs : List Value} (h : Alloc w b t cs w1) (hm : Marked w1 ⟨b, 0, none⟩ w2) : Kp [] w w2 := by
  have := h.eq
  exact h.kp.then hm.kp.1 (by simp; omega)
theorem awake_s (w : World) : C.skeplaw03_awake w (fun v w' => v = .bool true ∧ Kp [] w w') noP := skeplaw03_awake_of (by
  unfold W.skeplaw03_awake
  refine use (New_d w w (Kp.refl _ _)) ?_
  rintro _ w1 ⟨d, rfl, hD⟩
  refine ⟨PD d, rfl, cond_f rfl ?_⟩
  intro b4 w5 hA w6 hM
  have hb : RdB w6 ⟨some ⟨b4, 0, none⟩, 3, 3⟩ [97, 98, 99] := marked_rdb hA.blk hM rfl rfl
  replace hD := hD.keep (alloc_marked hA hM)
  refine use (Append_d 0 hD hb u00) ?_
  rintro _ w7 ⟨rfl, hD1⟩
  refine ⟨_, rfl, cond_f (by decide +kernel) ?_⟩
  refine use (Sync_d 0 hD1) ?_
  rintro _ w10 ⟨rfl, hD2⟩
  refine ⟨_, rfl, cond_f (by decide +kernel) ?_⟩
  intro b13 w14 hA w15 hM
  have hb : RdB w15 ⟨some ⟨b13, 0, none⟩, 2, 2⟩ [100, 101] := marked_rdb hA.blk hM rfl rfl
  replace hD2 := hD2.keep (alloc_marked hA hM)
  refine use (Append_d 0 hD2 hb (fun i hi => Nat.le_trans (syncMf_at _ 0 i) (Nat.le_trans (appMf_at _ 0 _ i) (by simp [m00, unitsL])))) ?_
  rintro _ w16 ⟨rfl, hD3⟩
  refine ⟨_, rfl, cond_f (by decide +kernel) ?_⟩
  refine use (Cut_d 0 1 hD3 (fun i hi => Nat.le_trans (appMf_at _ 0 _ i) (Nat.le_trans (Nat.add_le_add_right (Nat.le_trans (syncMf_at _ 0 i) (appMf_at _ 0 _ i)) _) (by simp [m00, unitsL])))) ?_
  rintro _ w19 ⟨rfl, hD4⟩
  refine ⟨_, rfl, cond_f (by decide +kernel) ?_⟩
  have hu4 : ∀ i, i < 2 → unitsL (cutMf (appMf (syncMf (appMf m00 0 [97, 98, 99]) 0) 0 [100, 101]) 0 1 i).pend ≤ 1000000000 := fun i hi =>
    Nat.le_trans (cutMf_at _ 0 1 i) (Nat.le_trans (Nat.add_le_add_right (Nat.le_trans (appMf_at _ 0 _ i) (Nat.add_le_add_right (Nat.le_trans (syncMf_at _ 0 i) (appMf_at _ 0 _ i)) _)) _) (by simp [m00, unitsL]))
  refine use (Crash_d 1 0 ⟨by decide, by decide⟩ ⟨by decide, by decide⟩ hD4 hu4) ?_
  rintro _ w22 ⟨x, rfl, hX⟩
  replace hD4 := hD4.keep hX.kp
  refine ⟨_, rfl, ?_⟩
  refine use (Crash_d 9 0 ⟨by decide, by decide⟩ ⟨by decide, by decide⟩ hD4 hu4) ?_
  rintro _ w25 ⟨y, rfl, hY⟩
  replace hD4 := hD4.keep hY.kp
  replace hX := hX.keep hY.kp
  refine ⟨_, rfl, ?_⟩
  refine use (Pending_d 0 hD4 hu4) ?_
  rintro _ w28 ⟨rfl, k28⟩
  refine ⟨_, rfl, cond_t (by decide +kernel) (cond_t rfl (cond_t rfl ?_))⟩
  refine use (Read_d 0 (hX.keep k28)) ?_
  rintro _ w31 ⟨q, rfl, ho, k31⟩
  refine ⟨q, rfl, str _, ho.rds.str, cond_t (by decide +kernel) ?_⟩
  refine use (Read_d 0 ((hY.keep k28).keep k31)) ?_
  rintro _ w35 ⟨q, rfl, ho, k35⟩
  refine ⟨q, rfl, str _, ho.rds.str, ?_, ?_⟩
  · exact congrArg Value.bool (by decide +kernel)
  · exact (((hD4.kp.then0 k28).then0 k31).then0 k35))
theorem mm (p : Int) (n : Nat) : (if (if (n : Int) < p then (n : Int) else p) > 0 then (if (n : Int) < p then (n : Int) else p) else 0) = ((min p.toNat n : Nat) : Int) := by
  split <;> split <;> omega
theorem crash_one (x b : Bs) (n : Nat) : crashB x (if b = [] then [] else [.app b]) n = x ++ b.take n := by
  split
  · rename_i e; subst e; simp [crashB]
  · rw [crashB]
    split
    · rfl
    · rw [List.take_of_length_le (by omega)]; rfl
set_option maxHeartbeats 1000000 in
theorem DiskSure_s (s t : Sl) (a p : Int) {l k : Bs} (w : World) (hs : RdB w s l) (ht : RdB w t k) (hc : t.len ≤ t.cap) (ha : in64 a) (hp : in64 p) :
    C.skeplaw03_DiskSure s t a p w (fun v w' => v = .bool true ∧ Kp [] w w') noP := skeplaw03_DiskSure_of (by
  unfold W.skeplaw03_DiskSure
  have hsl := hs.bsize
  have htl := ht.bsize
  refine use (awake_s w) ?_
  rintro _ w1 ⟨rfl, k1⟩
  refine ⟨_, rfl, cond_f rfl ?_⟩
  have aw : C.skeplaw03_awake w1 (fun r w' => ∃ p : Bool, r = .bool p ∧ ((.bool p : Value) = .bool true ∧ Kp [] w w')) noP := by
    refine use (awake_s w1) ?_
    rintro _ w7 ⟨rfl, k7⟩
    exact ⟨_, rfl, rfl, k1.then0 k7⟩
  refine cond_d (fun _ => aw) (fun h1 => cond_d (fun _ => aw) (fun h2 => ?_))
  clear aw
  refine use (New_d w w1 k1) ?_
  rintro _ w2 ⟨d, rfl, hD⟩
  refine ⟨PD d, rfl, ?_⟩
  refine use (CopyBytes_s s (hs.keep0 hD.kp) (by omega)) ?_
  rintro _ w3 ⟨q, rfl, hq, k3⟩
  refine ⟨q, rfl, ?_⟩
  refine use (Append_d ((1 : Nat) : Int) (hD.keep k3) hq.rds u00) ?_
  rintro _ w4 ⟨rfl, hD1⟩
  rw [appEf_i _ (by omega), appE_fits (by simp [m00]; omega)]
  rw [appMf_i _ (by omega), appF_fits (by simp [m00]; omega)] at hD1
  refine ⟨_, rfl, cond_f rfl ?_⟩
  refine use (Sync_d ((1 : Nat) : Int) hD1) ?_
  rintro _ w5 ⟨rfl, hD2⟩
  rw [syncEf_i (by omega)]
  rw [syncMf_i _ (by omega)] at hD2
  refine ⟨_, rfl, cond_f rfl ?_⟩
  generalize hm2 : fup _ 1 (syncF _) = m2 at hD2
  have e0 : m2 0 = ⟨[], [], []⟩ := by rw [← hm2]; rfl
  have e1 : m2 1 = ⟨l, l, []⟩ := by rw [← hm2]; simp [fup_same, syncF, m00]
  clear hm2
  refine use (CopyBytes_s t (ht.keep0 hD2.kp) (by omega)) ?_
  rintro _ w6 ⟨q2, rfl, hq2, k6⟩
  refine ⟨q2, rfl, ?_⟩
  refine use (Append_d ((1 : Nat) : Int) (hD2.keep k6) hq2.rds (fun i hi => ?_)) ?_
  · have : i = 0 ∨ i = 1 := by omega
    rcases this with rfl | rfl
    · rw [e0]; exact Nat.zero_le _
    · rw [e1]; exact Nat.zero_le _
  rintro _ w7 ⟨rfl, hD3⟩
  rw [appEf_i _ (by omega), appE_fits (by rw [e1]; dsimp only; omega)]
  rw [appMf_i _ (by omega), appF_fits (by rw [e1]; dsimp only; omega), e1] at hD3
  dsimp only [List.nil_append] at hD3
  refine ⟨_, rfl, cond_f rfl ?_⟩
  obtain ⟨m3, hm3⟩ : ∃ m3, m3 = fup m2 1 ⟨l, l ++ k, if k = [] then [] else [Pd.app k]⟩ := ⟨_, rfl⟩
  rw [← hm3] at hD3
  have f0 : m3 0 = ⟨[], [], []⟩ := by rw [hm3, fup_ne _ _ (by omega)]; exact e0
  have f1 : m3 1 = ⟨l, l ++ k, if k = [] then [] else [Pd.app k]⟩ := by rw [hm3, fup_same]
  clear hm3
  have hu3 : ∀ i, i < 2 → unitsL (m3 i).pend ≤ 1000000000 := fun i hi => by
    have : i = 0 ∨ i = 1 := by omega
    rcases this with rfl | rfl
    · rw [f0]; exact Nat.zero_le _
    · rw [f1]; dsimp only; rw [units_one]; omega
  refine use (Crash_d a p ha hp hD3 hu3) ?_
  rintro _ w8 ⟨x, rfl, hX⟩
  replace hD3 := hD3.keep hX.kp
  refine ⟨PD x, rfl, fun w9 hDr => cond_t rfl ?_⟩
  replace hD3 := hD3.keep hDr.kp
  replace hX := hX.keep hDr.kp
  rw [← htl, mm]
  obtain ⟨N, hN⟩ : ∃ N, min p.toNat k.length = N := ⟨_, rfl⟩
  rw [hN]
  simp only [htl, ite_same, Nat.sub_zero, Int.toNat_natCast]
  have hsr := (hs.keep0 hD3.kp).str
  have hcr := ((ht.keep0 hD3.kp).bcut (n := N) (by omega) t.cap).str
  have htr := (ht.keep0 hD3.kp).str
  refine ⟨str l, hsr, ⟨by omega, by omega⟩, str (k.take N), hcr, by rw [str_size, str_size, List.length_take]; omega, ?_⟩
  refine use (Read_d ((1 : Nat) : Int) hX) ?_
  rintro _ w10 ⟨r, rfl, hr, k10⟩
  rw [readF_i _ (by omega)] at hr
  replace hD3 := hD3.keep k10
  replace hX := hX.keep k10
  have hxv : (crashM m3 a p 1).now = l ++ k.take N := by
    show crashB (m3 1).sure (m3 1).pend (if (1 : Nat) = 0 then a else p).toNat = _
    rw [f1]
    dsimp only
    rw [crash_one, if_neg (by omega), ← hN]
    congr 1
    rcases Nat.le_total p.toNat k.length with h | h
    · rw [Nat.min_eq_left h]
    · rw [Nat.min_eq_right h, List.take_of_length_le h, List.take_of_length_le (Nat.le_refl _)]
  rw [hxv] at hr
  refine ⟨r, rfl, ((ht.keep0 hD3.kp).bcut (n := N) (by omega) t.cap).str.2, ((hs.keep0 hD3.kp).str).2, str _, hr.rds.str, cond_t (by rw [str_add, strEq_str]; simp) ?_⟩
  refine use (Pending_d ((1 : Nat) : Int) hX (fun i hi => Nat.zero_le _)) ?_
  rintro _ w11 ⟨rfl, k11⟩
  replace hD3 := hD3.keep k11
  replace hX := hX.keep k11
  refine ⟨_, rfl, cond_t (by rw [pendN_i _ (by omega)]; rfl) ?_⟩
  refine use (Read_d ((0 : Nat) : Int) hX) ?_
  rintro _ w12 ⟨r2, rfl, hr2, k12⟩
  rw [readF_i _ (by omega)] at hr2
  have hxv0 : (crashM m3 a p 0).now = [] := by
    show crashB (m3 0).sure (m3 0).pend _ = _
    rw [f0]
    rfl
  rw [hxv0] at hr2
  have h20 := hr2.rds.bsize
  replace hD3 := hD3.keep k12
  refine ⟨r2, rfl, cond_t (by simp at h20 ⊢; omega) ?_⟩
  refine ⟨str l, (hs.keep0 hD3.kp).str, str k, (ht.keep0 hD3.kp).str, by rw [str_size, str_size]; omega, ?_⟩
  refine use (Read_d ((1 : Nat) : Int) hD3) ?_
  rintro _ w13 ⟨r3, rfl, hr3, k13⟩
  replace hD3 := hD3.keep k13
  rw [readF_i _ (by omega), f1] at hr3
  refine ⟨r3, rfl, (ht.keep0 hD3.kp).str.2, (hs.keep0 hD3.kp).str.2, str _, hr3.rds.str, cond_t (by rw [str_add, strEq_str]; simp) ?_⟩
  refine use (Pending_d ((1 : Nat) : Int) hD3 hu3) ?_
  rintro _ w14 ⟨rfl, k14⟩
  refine ⟨_, rfl, ?_, hD3.kp.then0 k14⟩
  rw [pendN_i _ (by omega), f1, units_one]
  simp [htl])
theorem DiskSure_walk (a : Option Addr) (c : Nat) (l : List Int) (a2 : Option Addr) (c2 : Nat) (l2 : List Int) (x y : Int) (w : World) (h : Rd .u8 w a l) (hc : l.length ≤ c) (h2 : Rd .u8 w a2 l2) (hc2 : l2.length ≤ c2) (hx : (Lit.int .i64 x).wf = true) (hy : (Lit.int .i64 y).wf = true) :
    Calls Try.prog 3 #[.slice a l.length c, .slice a2 l2.length c2, .int .i64 x, .int .i64 y] w fun e w' => e = .returned (.bool true) ∧ Below w.heap.size w w' :=
  ret_true (DiskSure_s ⟨a, l.length, c⟩ ⟨a2, l2.length, c2⟩ x y w (rdb_of_rd h c) (rdb_of_rd h2 c2) hc2 (wf64 hx) (wf64 hy))
theorem made_bytes (n : Nat) : (madeCells #[.int .u8 0] (n * 1)).toList = bv (List.replicate n 0) := by
  apply List.ext_getElem
  · simp [madeCells, bv]
  · intro i h1 h2
    simp [madeCells, bv, vb, Nat.mod_one]
set_option maxHeartbeats 1000000 in
theorem DiskFull_s (w : World) : C.skeplaw03_DiskFull w (fun v w' => v = .bool true ∧ Kp [] w w') noP := skeplaw03_DiskFull_of (by
  unfold W.skeplaw03_DiskFull
  refine use (awake_s w) ?_
  rintro _ w1 ⟨rfl, k1⟩
  refine ⟨_, rfl, cond_f rfl ?_⟩
  refine use (New_d w w1 k1) ?_
  rintro _ w2 ⟨d, rfl, hD⟩
  refine ⟨PD d, rfl, ⟨by omega, by omega, by omega, by omega⟩, fun b7 w8 hA => ?_⟩
  rw [made_bytes] at hA
  have hl := List.length_replicate (n := 16777216) (a := (0 : UInt8))
  obtain ⟨l, hle⟩ : ∃ l, l = List.replicate 16777216 (0 : UInt8) := ⟨_, rfl⟩
  rw [← hle] at hA hl
  clear hle
  refine use (Append_d ((0 : Nat) : Int) (hD.keep hA.kp) (Blk.rdb hA.blk rfl 16777216 16777216 hl) u00) ?_
  rintro _ w9 ⟨rfl, hD1⟩
  rw [appEf_i _ (by omega), appE_fits (by simp [m00]; omega)]
  rw [appMf_i _ (by omega), appF_fits (by simp [m00]; omega)] at hD1
  obtain ⟨m1, hm1⟩ : ∃ m1, m1 = fup m00 0 ⟨(m00 0).sure, (m00 0).now ++ l, (m00 0).pend ++ (if l = [] then [] else [Pd.app l])⟩ := ⟨_, rfl⟩
  rw [← hm1] at hD1
  have a0 : (m1 0).now.length = 16777216 := by rw [hm1, fup_same]; exact hl
  have u1 : ∀ i, i < 2 → unitsL (m1 i).pend ≤ 1000000000 - 1000 := fun i hi => by
    rw [hm1]
    have : i = 0 ∨ i = 1 := by omega
    rcases this with rfl | rfl
    · rw [fup_same]; dsimp only; rw [unitsL_app, units_one]; simp [m00, unitsL]; omega
    · exact Nat.zero_le _
  have b0 : (m1 1).now.length = 0 := by rw [hm1]; rfl
  clear hm1
  have one : ∀ {wa wb : World} {b : Nat}, Alloc wa b 5 [.int .u8 1] wb → RdB wb ⟨some ⟨b, 0, none⟩, 1, 1⟩ [1] := fun hA => Blk.rdb hA.blk rfl 1 1 rfl
  refine ⟨_, rfl, cond_f rfl fun b12 w13 hA => ?_⟩
  refine use (Append_d ((0 : Nat) : Int) (hD1.keep hA.kp) (one hA) (fun i hi => by have := u1 i hi; omega)) ?_
  rintro _ w14 ⟨rfl, hD2⟩
  rw [appEf_i _ (by omega), appE_full (by rw [a0]; decide)]
  rw [appMf_i _ (by omega), appF_full (by rw [a0]; decide), fup_self] at hD2
  refine ⟨_, rfl, cond_f rfl ?_⟩
  refine use (Append_d (p := ⟨none, 0, 0⟩) (b := []) ((0 : Nat) : Int) hD2 ((Go.Eng.Own.nil _ 0 1).rds) (fun i hi => by have := u1 i hi; omega)) ?_
  rintro _ w17 ⟨rfl, hD3⟩
  rw [appEf_i _ (by omega), appE_fits (by rw [a0]; decide)]
  rw [appMf_i _ (by omega), appF_fits (by rw [a0]; decide)] at hD3
  simp only [↓reduceIte, List.append_nil] at hD3
  rw [fup_self] at hD3
  refine ⟨_, rfl, cond_f rfl fun b12 w13 hA => ?_⟩
  refine use (Append_d ((1 : Nat) : Int) (hD3.keep hA.kp) (one hA) (fun i hi => by have := u1 i hi; omega)) ?_
  rintro _ w22 ⟨rfl, hD4⟩
  rw [appEf_i _ (by omega), appE_fits (by rw [b0]; decide)]
  have u4 := fun i (hi : i < 2) => Nat.le_trans (appMf_at m1 ((1 : Nat) : Int) [1] i) (Nat.add_le_add_right (u1 i hi) _)
  have a4 : (appMf m1 ((1 : Nat) : Int) [1] 0).now.length = 16777216 := by
    rw [appMf_i m1 (i := 1) (by omega), fup_ne _ _ (by omega), a0]
  refine ⟨_, rfl, cond_f rfl ?_⟩
  obtain ⟨m4, hm4⟩ : ∃ m4, m4 = appMf m1 ((1 : Nat) : Int) [1] := ⟨_, rfl⟩
  rw [← hm4] at hD4 u4 a4
  refine use (Size_d ((0 : Nat) : Int) hD4) ?_
  rintro _ _ ⟨rfl, rfl⟩
  rw [readF_i _ (by omega), a4]
  refine ⟨_, rfl, cond_t rfl ?_⟩
  refine use (Cut_d ((0 : Nat) : Int) 16777215 hD4 (fun i hi => by have := u4 i hi; simp at this; omega)) ?_
  rintro _ w28 ⟨rfl, hD5⟩
  have hc : cutE (m4 0) 16777215 = 0 := by unfold cutE; rw [if_neg (by omega)]
  have hf : cutF (m4 0) 16777215 = ⟨(m4 0).sure, (m4 0).now.take 16777215, (m4 0).pend ++ [.cut 16777215]⟩ := by unfold cutF; rw [if_neg (by omega)]; rfl
  have u5 := fun i (hi : i < 2) => Nat.le_trans (cutMf_at m4 ((0 : Nat) : Int) 16777215 i) (Nat.add_le_add_right (u4 i hi) _)
  rw [cutEf_i _ (by omega), hc]
  have a5 : (cutMf m4 ((0 : Nat) : Int) 16777215 0).now.length = 16777215 := by
    rw [cutMf_i m4 (i := 0) (by omega), fup_same, hf]; dsimp only; rw [List.length_take, a4]; rfl
  obtain ⟨m5, hm5⟩ : ∃ m5, m5 = cutMf m4 ((0 : Nat) : Int) 16777215 := ⟨_, rfl⟩
  rw [← hm5] at hD5 u5 a5
  refine ⟨_, rfl, cond_t rfl fun b31 w32 hA => ?_⟩
  refine use (Append_d ((0 : Nat) : Int) (hD5.keep hA.kp) (one hA) (fun i hi => by have := u5 i hi; simp at this; omega)) ?_
  rintro _ w33 ⟨rfl, hD6⟩
  have u6 := fun i (hi : i < 2) => Nat.le_trans (appMf_at m5 ((0 : Nat) : Int) [1] i) (Nat.add_le_add_right (u5 i hi) _)
  rw [appEf_i _ (by omega), appE_fits (by rw [a5]; decide)]
  have a6 : (appMf m5 ((0 : Nat) : Int) [1] 0).now.length = 16777216 := by
    rw [appMf_i m5 (i := 0) (by omega), fup_same, appF_fits (by rw [a5]; decide)]; dsimp only; rw [List.length_append, a5]; rfl
  refine ⟨_, rfl, cond_t rfl fun b36 w37 hA => ?_⟩
  refine use (Append_d ((0 : Nat) : Int) (hD6.keep hA.kp) (one hA) (fun i hi => by have := u6 i hi; simp only [List.length_cons, List.length_nil] at this; omega)) ?_
  rintro _ w38 ⟨rfl, hD7⟩
  rw [appEf_i _ (by omega), appE_full (by rw [a6]; decide)]
  exact ⟨_, rfl, rfl, hD7.kp⟩)
theorem DiskFull_walk (w : World) : Calls Try.prog 6 #[] w fun e w' => e = .returned (.bool true) ∧ Below w.heap.size w w' := ret_true (DiskFull_s w)
end Go.Proofs.Ytjjleboohldkiaa
