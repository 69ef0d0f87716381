/- The laws of the log: awake, WalWrites, WalBytes. No conditions. -/
import Derived.Test.YthbablipimdaoaaWal3
import Derived.Test.YthbablipimdaoaaWal5
namespace Go.Proofs.Ythbablipimdaoaa
open Go.RowKit Go.Eng
set_option linter.unusedVariables false
theorem tag_tagL (L : List Bs) : tag L = tagL L := rfl
theorem u00 : uK m00 := fun i _ => Nat.zero_le _
theorem alloc_marked {w w1 w2 : World} {b : Nat} {t : TypeId} {cs : List Value} (h : Alloc w b t cs w1) (hm : Marked w1 ⟨b, 0, none⟩ w2) : Kp [] w w2 := by
  have := h.eq
  exact h.kp.then hm.kp.1 (by simp; omega)
theorem logE_ok {m : Nat → Fm} {f : Nat} (hf : f < 2) {s : Bs} (h : okR s) (hl : (m f).now.length + (8 + s.length) ≤ 16777216) : logE m f s = 0 := by
  unfold logE
  rw [if_pos h, appEf_i m hf]
  exact appE_fits (by rw [recB_len]; omega)
theorem logE_no {m : Nat → Fm} {f : Int} {s : Bs} (h : ¬ okR s) : logE m f s = 1 := by
  unfold logE
  rw [if_neg h]
theorem logM_no {m : Nat → Fm} {f : Int} {s : Bs} (h : ¬ okR s) : logM m f s = m := by
  unfold logM
  rw [if_neg h]
theorem recB_ne (s : Bs) : recB s ≠ [] := by
  intro e
  have := recB_len s
  rw [e] at this
  simp only [List.length_nil] at this
  omega
theorem logM_ok {m : Nat → Fm} {f : Nat} (hf : f < 2) {s : Bs} (h : okR s) (hl : (m f).now.length + (8 + s.length) ≤ 16777216) : logM m f s = fup m f ⟨(m f).sure, (m f).now ++ recB s, (m f).pend ++ [.app (recB s)]⟩ := by
  unfold logM
  rw [if_pos h, appMf_i m hf, appF_fits (by rw [recB_len]; omega), if_neg (recB_ne s)]
theorem logM_units (m : Nat → Fm) (f : Int) (s : Bs) (i : Nat) : unitsL (logM m f s i).pend ≤ unitsL (m i).pend + (8 + s.length) := by
  unfold logM
  split
  · have := appMf_at m f (recB s) i
    rw [recB_len] at this
    exact this
  · omega
theorem m00_now (i : Nat) : (m00 i).now = [] := rfl
theorem openM_m00 (f : Nat) : openM m00 f = m00 := openM_whole m00 (by rw [m00_now, recs_nil]; exact Nat.not_lt_zero _)
/-- Of a log that is whole. -/
theorem openM_flat {m : Nat → Fm} {f : Nat} {L : List Bs} (h : (m f).now = flatR L) (hk : ∀ s ∈ L, okR s) : openM m f = m ∧ recs (m f).now = L := by
  have e : recs (m f).now = L := by rw [h]; exact recs_all hk
  exact ⟨openM_whole m (by rw [e, h, flatR_len]; exact Nat.lt_irrefl _), e⟩
theorem LS.rl2 {w w' : World} {lo : Nat} {G : Nat → Prop} {s : Sl} {L : List Bs} (h : LS w lo 1 cf1 G s (tagL L)) (hs : ∀ y ∈ blkOf s, G y) (k : KG G w w') : RL w' s L :=
  tagL_rl (h.keepF k (fun y hy hn => hn (hs y hy)) (fun y hy _ hn => hn hy))
set_option maxHeartbeats 1000000 in
set_option maxRecDepth 20000 in
theorem awake_s (w : World) : C.skeplaw04_awake w (fun v w' => v = .bool true ∧ Kp [] w w') noP := skeplaw04_awake_of (by
  unfold W.skeplaw04_awake
  refine use (New_g w w (Kp.refl _ _)) ?_
  rintro _ w1 ⟨d, rfl, hD, k1⟩
  refine ⟨PD d, rfl, ?_⟩
  refine use (Open_g (f := 0) (by omega) hD u00) ?_
  rintro _ w4 ⟨lg, q, G, rfl, hD, kg4, -, hL, hg, hS, hSG⟩
  rw [openM_m00] at hD
  have hq0 := (tagL_rl hS).len
  rw [m00_now, recs_nil] at hq0
  have hql : q.len = 0 := hq0.symm
  refine ⟨(PD lg, q, 0), rfl, ?_⟩
  refine cond_f rfl ?_
  refine cond_f rfl ?_
  dsimp only
  rw [hql]
  refine cond_f rfl fun b7 w8 hA w9 hM => ?_
  have k49 := alloc_marked hA hM
  replace hD := hD.keep k49
  replace hL := hL.keep k49
  have hb : RdB w9 ⟨some ⟨b7, 0, none⟩, 1, 1⟩ [97] := Blk.rdb (hM.blk hA.blk) rfl 1 1 rfl
  have hok : okR ([97] : Bs) := by decide
  refine use (LAppend_g hD hL hg hb u00) ?_
  rintro _ w10 ⟨rfl, hD, k10⟩
  have e1 := logE_ok (m := m00) (f := 0) (by omega) hok (by decide)
  have e2 := logM_ok (m := m00) (f := 0) (by omega) hok (by decide)
  rw [show (((0 : Nat) : Int)) = 0 from rfl] at e1 e2
  replace hL := hL.kg k10 hg
  change DG w w10 G d (logM m00 0 [97]) at hD
  rw [e2] at hD
  refine ⟨_, rfl, cond_f (by show (logE m00 0 [97] != 0) = false; rw [e1]; rfl) ?_⟩
  refine use (LSync_g hD hL hg) ?_
  rintro _ w13 ⟨rfl, hD, k13⟩
  replace hL := hL.kg k13 hg
  refine ⟨_, rfl, cond_f rfl ?_⟩
  generalize hm : syncMf _ _ = m at hD
  have hm0 : (m 0).now = flatR [[97]] := by rw [← hm]; rfl
  have hmu : uK m := fun i hi => by rw [← hm]; exact Nat.le_trans (syncMf_at _ _ i) (by
    have h01 : i = 0 ∨ i = 1 := by omega
    rcases h01 with rfl | rfl
    · rw [fup_same]; simp [m00, unitsL, Pd.units, recB_len]
    · exact Nat.zero_le _)
  clear hm
  refine use (LSize_g hD hL) ?_
  rintro _ w16 ⟨rfl, k16⟩
  replace hD := hD.keep k16
  have hnl : (m 0).now.length = 9 := by rw [hm0]; rfl
  refine ⟨_, rfl, cond_f (by rw [readF_i m (by omega), hnl]; rfl) ?_⟩
  refine use (Open_g (f := 0) (by omega) hD hmu) ?_
  rintro _ w19 ⟨lg2, q2, G2, rfl, hD, k19, -, hL2, hg2, hS2, hSG2⟩
  obtain ⟨em, er⟩ := openM_flat hm0 (by simp; exact hok)
  rw [em] at hD
  rw [er] at hS2
  have hR := tagL_rl hS2
  have hRl := hR.len
  obtain ⟨a, x, ea, hc, hx⟩ := hR.get (i := 0) (by decide)
  rw [Nat.zero_mul, add_zero'] at hc
  simp only [List.length_cons, List.length_nil] at hRl
  refine ⟨(PD lg2, q2, 0), rfl, cond_t rfl (cond_t (by simp; omega) ⟨⟨by omega, by dsimp only; omega⟩, ?_⟩)⟩
  dsimp only
  rw [ea]
  refine ⟨x, ⟨rfl, hc⟩, str _, hx.str, cond_t (by decide +kernel) ?_⟩
  refine use (Size_g ((0 : Nat) : Int) hD) ?_
  rintro _ _ ⟨rfl, rfl⟩
  refine ⟨_, rfl, cond_t (by rw [readF_i m (by omega), hnl]; rfl) ?_⟩
  refine use (Read_g ((0 : Nat) : Int) hD) ?_
  rintro _ w28 ⟨r, rfl, ho, k28⟩
  rw [readF_i m (by omega), hm0, flatR_one] at ho
  have hrl := ho.rds.bsize
  rw [recB_len] at hrl
  obtain ⟨a, ea, hc⟩ := ho.rds.byteA (by rw [recB_len]; decide)
  have c0 := hc 0 (by rw [recB_len]; decide)
  rw [add_zero'] at c0
  simp only [List.length_cons, List.length_nil] at hrl
  refine ⟨r, rfl, ⟨by omega, by omega⟩, ?_⟩
  rw [ea]
  refine ⟨_, ⟨rfl, c0⟩, cond_t (by rfl) ?_⟩
  replace hD := hD.keep k28
  refine use (Read_g ((0 : Nat) : Int) hD) ?_
  rintro _ w33 ⟨r, rfl, ho, k33⟩
  rw [readF_i m (by omega), hm0, flatR_one] at ho
  have hrl := ho.rds.bsize
  rw [recB_len] at hrl
  obtain ⟨a, ea, hc⟩ := ho.rds.byteA (by rw [recB_len]; decide)
  have c8 := hc 8 (by rw [recB_len]; decide)
  simp only [List.length_cons, List.length_nil] at hrl
  refine ⟨r, rfl, ⟨by omega, by omega⟩, ?_⟩
  rw [ea]
  exact ⟨_, ⟨rfl, c8⟩, rfl, (hD.keep k33).kp⟩)
set_option maxHeartbeats 2000000 in
set_option maxRecDepth 20000 in
theorem WalWrites_s (l : Sl) {L : List Bs} (w : World) (hl : RL w l L) : C.skeplaw04_WalWrites l w (fun v w' => v = .bool true ∧ Kp [] w w') noP := skeplaw04_WalWrites_of (by
  unfold W.skeplaw04_WalWrites
  have hlen := hl.len
  refine use (awake_s w) ?_
  rintro _ w1 ⟨rfl, k1⟩
  refine ⟨_, rfl, cond_f rfl ?_⟩
  refine use (New_g w w1 k1) ?_
  rintro _ w4 ⟨d, rfl, hD, k4⟩
  refine ⟨PD d, rfl, ?_⟩
  refine use (Open_g (f := 0) (by omega) hD u00) ?_
  rintro _ w7 ⟨lg, q, G, rfl, hD, kg7, -, hLg, hg, hS, hSG⟩
  rw [openM_m00] at hD
  refine ⟨(PD lg, q, 0), rfl, cond_f rfl (cond_f rfl ?_)⟩
  have s7 := hD.kp.size
  refine ⟨fun s w' => ∃ m G, DG w w' G d m ∧ LogIs w' lg d 0 ∧ RdB w' s (m 0).now, ?_, ?_⟩
  · refine ⟨fun s v w' => ∃ (k : Nat) (m : Nat → Fm) (G : Nat → Prop), v = k ∧ k ≤ 30 ∧ DG w w' G d m ∧ LogIs w' lg d 0 ∧ G lg ∧ OwnB w' w.heap.size s (m 0).now ∧ (lg ∉ blkOf s ∧ ∀ y ∈ blkOf s, G y) ∧ (∀ i, i < 2 → unitsL (m i).pend ≤ 3008 * k) ∧ (m 0).now.length ≤ 3008 * k, fun _ v _ => 30 - v.toNat,
      ⟨⟨none, 0, 0⟩, rfl, _, rfl, 0, m00, G, rfl, by omega, hD, hLg, hg, Go.Eng.Own.nil _ _ _, ⟨by simp [blkOf], by simp [blkOf]⟩, fun i _ => Nat.zero_le _, Nat.zero_le _⟩, fun e0 s v w17 hI => ?_⟩
    clear hD hLg hg
    obtain ⟨k, m, G, rfl, hk, hD, hLg, hg, ho, ⟨hns, hsG⟩, hu, hn⟩ := hI
    have fin : ∃ u : Sl, (Value.slice s.a s.len s.cap) = .slice u.a u.len u.cap ∧ ∃ m G, DG w w17 G d m ∧ LogIs w17 lg d 0 ∧ RdB w17 u (m 0).now := ⟨s, rfl, m, G, hD, hLg, ho.rds⟩
    refine cond_d (fun h1 => cond_i (fun h2 => ?_) (fun h2 => fin)) (fun h1 => fin)
    clear fin
    replace h2 := of_decide_eq_true h2
    have hkL : k < L.length := by omega
    obtain ⟨a, x, ea, hx, hxb⟩ := hl.get hkL
    have hxl := hxb.bsize
    obtain ⟨b, hb⟩ : ∃ b, L[k] = b := ⟨_, rfl⟩
    rw [hb] at hxb hxl
    rw [ea, wlk k (by omega)]
    simp only [Int.toNat_natCast]
    have uK0 : uK m := fun i hi => by have := hu i hi; omega
    refine ⟨⟨by omega, h1⟩, x, ⟨rfl, cell_keep hx hD.kp (by simp)⟩, cond_i (fun _ => ⟨by trivial, hD.kp⟩) (fun h3 => ⟨⟨by omega, h1⟩, x, ⟨rfl, cell_keep hx hD.kp (by simp)⟩, ?_⟩)⟩
    replace h3 := of_decide_eq_false h3
    refine use (CopyBytes_s x (hxb.keep0 hD.kp) (by omega)) ?_
    rintro _ w22 ⟨p, rfl, hp, k22⟩
    refine ⟨p, rfl, ?_⟩
    replace hD := hD.keep k22
    replace hLg := hLg.keep k22
    replace ho := ho.keep0 k22
    refine use (LAppend_g hD hLg hg hp.rds uK0) ?_
    rintro _ w25 ⟨rfl, hD2, k25⟩
    have hLg2 := hLg.kg k25 hg
    have ho2 := ho.keepF k25 (fun y hy hn => hn (hsG y hy))
    refine ⟨_, rfl, ⟨by omega, h1⟩, x, ⟨rfl, cell_keep hx hD2.kp (by simp)⟩, ?_⟩
    have hu2 : ∀ i, i < 2 → unitsL (logM m 0 b i).pend ≤ 3008 * (k + 1) := fun i hi => Nat.le_trans (logM_units m 0 b i) (by have := hu i hi; omega)
    refine cond_e (fun h4 => ?_) (fun h4 => ?_)
    · have hno : ¬ okR b := fun h => by have := h.1; omega
      rw [logE_no hno]
      rw [logM_no hno] at hD2 hu2
      exact cond_f rfl ⟨s, rfl, _, rfl, ⟨k + 1, m, G, rfl, by omega, hD2, hLg2, hg, ho2, ⟨hns, hsG⟩, hu2, by omega⟩, by simp only [Int.toNat_natCast]; omega⟩
    · have hok : okR b := ⟨by omega, by omega⟩
      have e1 := logE_ok (m := m) (f := 0) (by omega) hok (by omega)
      have e2 := logM_ok (m := m) (f := 0) (by omega) hok (by omega)
      change logE m 0 b = 0 at e1
      change logM m 0 b = _ at e2
      rw [e1]
      refine cond_f rfl ⟨⟨by omega, h1⟩, x, ⟨rfl, cell_keep hx hD2.kp (by simp)⟩, ?_⟩
      refine use (rRecord_s x (hxb.keep0 hD2.kp) (by omega)) ?_
      rintro _ w34 ⟨r, rfl, hr, k34⟩
      refine ⟨r, rfl, ?_⟩
      have hslo := ho2.lo
      have s34 := (hD2.kp.then0 k34).size
      obtain ⟨q37, n38, c39, w40, hrun, hn38, ho40, k40, hq⟩ := app_bytes (ty := 22) Try.underlying22 byte_inf (ho2.keep0 k34) hr.rds (by omega) (by rw [recB_len]; omega)
      have hlo40 := ho40.lo
      have hD3 := (hD2.keep k34).wgrow k40 (fun y hy => ⟨hsG y hy, (hslo y hy).1⟩)
      have hlglt := hD2.lt lg hg
      have hk34 := k34.size
      refine ⟨q37, n38, c39, w40, hrun, ⟨q37, n38, c39⟩, rfl, _, rfl, ⟨k + 1, _, _, rfl, by omega, hD3, ?_, .inl hg, ?_, ?_, hu2, ?_⟩, by simp only [Int.toNat_natCast]; omega⟩
      · exact (hLg2.keep k34).keep2 k40 hns
      · rw [e2, fup_same]
        exact ho40
      · refine ⟨fun h => ?_, ?_⟩
        · rcases hq with e | ⟨hf, _⟩
          · apply hns
            unfold blkOf at h ⊢
            rw [e] at h
            exact h
          · have := hf lg h; omega
        intro y hy
        rcases hq with e | ⟨hf, _⟩
        · left
          apply hsG
          unfold blkOf at hy ⊢
          rw [e] at hy
          exact hy
        · exact .inr ⟨hf y hy, (hlo40 y hy).2⟩
      · rw [e2, fup_same]
        simp [recB_len]
        omega
  · rintro e0 s w46 ⟨m, G, hD, hLg, ho⟩ w47 hDr
    replace hD := hD.keep hDr.kp
    replace hLg := hLg.keep hDr.kp
    replace ho := ho.keep0 hDr.kp
    refine ⟨str _, ho.str, ?_⟩
    refine use (Read_g ((0 : Nat) : Int) hD) ?_
    rintro _ w49 ⟨r, rfl, hr, k49⟩
    rw [readF_i m (by omega)] at hr
    refine ⟨r, rfl, (ho.keep0 k49).str.2, str _, hr.rds.str, cond_t (by rw [strEq_str]; simp) ?_⟩
    refine use (LSize_g (hD.keep k49) (hLg.keep k49)) ?_
    rintro _ w53 ⟨rfl, k53⟩
    refine ⟨_, rfl, ?_, ((hD.keep k49).keep k53).kp⟩
    have : readF m 0 = (m 0).now := readF_i m (i := 0) (by omega)
    rw [this, ho.bsize]
    simp)
end Go.Proofs.Ythbablipimdaoaa
