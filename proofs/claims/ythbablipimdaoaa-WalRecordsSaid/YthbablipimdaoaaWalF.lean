/- The law WalErases. No conditions. -/
import Derived.Test.YthbablipimdaoaaWalE
namespace Go.Proofs.Ythbablipimdaoaa
open Go.RowKit Go.Eng
set_option linter.unusedVariables false
theorem made_cells (n : Nat) : (madeCells #[.int .u8 0] (n * 1)).toList = bv (List.replicate n 0) := by
  apply List.ext_getElem
  · simp [madeCells, bv]
  · intro i h1 h2
    simp [madeCells, bv, vb, Nat.mod_one]
/-- A log that is being written, from w0 on. -/
structure LW (w0 w : World) (G : Nat → Prop) (lg d f : Nat) (m : Nat → Fm) : Prop where
  dg : DG w0 w G d m
  li : LogIs w lg d f
  g : G lg
theorem LW.keep {w0 w w' : World} {G : Nat → Prop} {lg d f : Nat} {m : Nat → Fm} (h : LW w0 w G lg d f m) (k : Kp [] w w') : LW w0 w' G lg d f m := ⟨h.dg.keep k, h.li.keep k, h.g⟩
/-- Start: a disk, a log. -/
theorem Start_s {f : Nat} (hf : f < 2) {w0 w : World} {d : Nat} (hD : DG w0 w (fun _ => False) d m00) : C.wal_Open (PD d) f w (fun v w' => ∃ (lg : Nat) (q : Sl) (G : Nat → Prop), v = .tuple #[.pointer (PD lg), .slice q.a q.len q.cap, .int .i64 0] ∧ LW w0 w' G lg d f m00 ∧ q.len = 0) noP := by
  refine use (Open_g hf hD u00) ?_
  rintro _ w7 ⟨lg, q, G, rfl, hD, kg7, -, hLg, hg, hS, hSG⟩
  rw [openM_m00] at hD
  have := (tagL_rl hS).len
  rw [m00_now, recs_nil] at this
  exact ⟨lg, q, G, rfl, ⟨hD, hLg, hg⟩, this.symm⟩
/-- One record more: a copy of it is appended. -/
theorem LW.add {w0 w : World} {G : Nat → Prop} {lg d f : Nat} (hf : f < 2) {m : Nat → Fm} {L : List Bs} (h : LW w0 w G lg d f (mAdd m f L)) {p : Sl} {s : Bs} (hp : RdB w p s) (hs : okR s) (hl : (m f).now.length + (endL L + (8 + s.length)) ≤ 16777216) (hu : uK (mAdd m f L)) :
    C.wal_Log_Append (PD lg) p w (fun v w' => v = .int .i64 0 ∧ LW w0 w' G lg d f (mAdd m f (L ++ [s])) ∧ KG G w w') noP := by
  refine use (LAppend_g h.dg h.li h.g hp hu) ?_
  rintro _ w1 ⟨rfl, hD, k1⟩
  obtain ⟨e1, e2⟩ := mAdd_step hf L hs hl
  rw [e1]
  rw [e2] at hD
  exact ⟨rfl, ⟨hD, h.li.kg k1 h.g, h.g⟩, k1⟩
theorem cut0 (f : Fm) : cutE f 0 = 0 ∧ cutF f 0 = ⟨f.sure, [], f.pend ++ [.cut 0]⟩ := by
  unfold cutE cutF
  rw [if_neg (by omega), if_neg (by omega)]
  exact ⟨rfl, rfl⟩
set_option maxHeartbeats 4000000 in
set_option maxRecDepth 20000 in
theorem WalErases_s (l : Sl) (file : Int) (one : Sl) {L : List Bs} {o : Bs} (w : World) (hl : RL w l L) (ho : RdB w one o) : C.skeplaw04_WalErases l file one w (fun v w' => v = .bool true ∧ Kp [] w w') noP := skeplaw04_WalErases_of (by
  unfold W.skeplaw04_WalErases
  have hol := ho.bsize
  refine use (say_s l hl) ?_
  rintro _ w1 ⟨q, rfl, hq, k1⟩
  obtain ⟨A, hA⟩ : ∃ A, sayL L = A := ⟨_, rfl⟩
  have hAok := sayL_okR L
  have hAe := endL_say L
  have hAe' := endL_say' L
  have hAl := sayL_len L
  rw [hA] at hq hAok hAe hAe' hAl
  have hql := hq.len
  refine ⟨q, rfl, ?_⟩
  refine use (New_g w1 w1 (Kp.refl _ _)) ?_
  rintro _ w4 ⟨d, rfl, hD, k4⟩
  refine ⟨PD d, rfl, ?_⟩
  refine use (Place_s file 2 w4 (by omega) (by omega)) ?_
  rintro _ _ ⟨rfl, rfl⟩
  obtain ⟨f, hfe, hf⟩ : ∃ f : Nat, file % 2 = f ∧ f < 2 := ⟨(file % 2).toNat, by omega, by omega⟩
  rw [hfe]
  refine ⟨_, rfl, ?_⟩
  refine use (Start_s hf hD) ?_
  rintro _ w10 ⟨lg, q0, G, rfl, hW, -⟩
  refine ⟨(PD lg, q0, 0), rfl, cond_f rfl (cond_f rfl ?_)⟩
  refine ⟨fun v w' => ∃ k : Nat, v = k ∧ k ≤ A.length ∧ LW w1 w' G lg d f (mAdd m00 f (A.take k)), fun v _ => A.length - v.toNat, ⟨_, rfl, 0, rfl, by omega, by rw [List.take_zero, mAdd_nil]; exact hW⟩, fun e0 v w17 hI => ?_⟩
  clear hW
  obtain ⟨k, rfl, hk, hW⟩ := hI
  have hu : uK (mAdd m00 f (A.take k)) := fun i hi => Nat.le_trans (mAdd_units m00 f _ i) (by have := hAe k; simp [m00, unitsL]; omega)
  refine cond_d (fun h1 => ?_) (fun h1 => ?_)
  · obtain ⟨a, x, ea, hx, hxb⟩ := (hq.keep0 hW.dg.kp).get (i := k) (by omega)
    have hsok := hAok A[k] (List.getElem_mem _)
    rw [ea, Int.toNat_natCast, wlk k (by omega)]
    refine ⟨⟨by omega, h1⟩, x, ⟨rfl, hx⟩, ?_⟩
    refine use (CopyBytes_s x hxb (by have := hsok.2; omega)) ?_
    rintro _ w20 ⟨p, rfl, hp, k20⟩
    refine ⟨p, rfl, ?_⟩
    have := hAe k
    refine use ((hW.keep k20).add hf hp.rds hsok (by have := hsok.2; simp [m00]; omega) hu) ?_
    rintro _ w23 ⟨rfl, hW2, k23⟩
    exact ⟨_, rfl, _, rfl, ⟨k + 1, rfl, by omega, by rw [take_snoc A (by omega)]; exact hW2⟩, by simp only [Int.toNat_natCast]; omega⟩
  · have hke : k = A.length := by omega
    subst hke
    rw [List.take_length] at hW hu
    obtain ⟨m, hm⟩ : ∃ m, mAdd m00 f A = m := ⟨_, rfl⟩
    have hmf : (m f).now = flatR A := by rw [← hm, mAdd_now]; rfl
    have hmo : ∀ j, j ≠ f → m j = ⟨[], [], []⟩ := fun j hj => by rw [← hm, mAdd_ne _ _ hj]; rfl
    rw [hm] at hW hu
    clear hm
    refine use (Read_g (f : Int) hW.dg) ?_
    rintro _ w27 ⟨r, rfl, hr, k27⟩
    rw [readF_i m hf, hmf] at hr
    refine ⟨r, rfl, str _, hr.rds.str, ?_⟩
    replace hW := hW.keep k27
    refine use (LSync_g hW.dg hW.li hW.g) ?_
    rintro _ w31 ⟨rfl, hD1, k31⟩
    have hL1 := hW.li.kg k31 hW.g
    rw [syncEf_i hf]
    refine ⟨_, rfl, cond_f rfl ?_⟩
    rw [syncMf_i m hf] at hD1
    have hu1 : uK (fup m f (syncF (m f))) := fun i hi => by
      have := syncMf_at m f i
      rw [syncMf_i m hf] at this
      exact Nat.le_trans this (hu i hi)
    refine use (LErase_g hD1 hL1 hW.g hu1) ?_
    rintro _ w34 ⟨rfl, hD2, k34⟩
    have hL2 := hL1.kg k34 hW.g
    rw [cutEf_i _ hf, fup_same, (cut0 _).1]
    refine ⟨_, rfl, cond_f rfl ?_⟩
    rw [cutMf_i _ hf, fup_same, (cut0 _).2] at hD2
    generalize hm2 : fup (fup m f _) f _ = m2 at hD2
    have e2 : m2 f = ⟨flatR A, [], [.cut 0]⟩ := by rw [← hm2, fup_same]; simp [syncF, hmf]
    have e2o : ∀ j, j ≠ f → m2 j = ⟨[], [], []⟩ := fun j hj => by rw [← hm2, fup_ne _ _ hj, fup_ne _ _ hj]; exact hmo j hj
    have hu2 : ∀ i, i < 2 → unitsL (m2 i).pend ≤ 1 := fun i hi => by
      by_cases e : i = f
      · rw [e, e2]; exact Nat.le_refl _
      · rw [e2o i e]; exact Nat.zero_le _
    have uK2 : uK m2 := fun i hi => by have := hu2 i hi; omega
    clear hm2 hu1 hD1 hu
    refine use (LSize_g hD2 hL2) ?_
    rintro _ w37 ⟨rfl, k37⟩
    rw [readF_i m2 hf, e2]
    refine ⟨_, rfl, cond_f rfl ?_⟩
    replace hD2 := hD2.keep k37
    replace hL2 := hL2.keep k37
    refine use (Crash_g 0 0 ⟨by decide, by decide⟩ ⟨by decide, by decide⟩ hD2 uK2) ?_
    rintro _ w40 ⟨x, rfl, hX, k40⟩
    refine ⟨PD x, rfl, ?_⟩
    replace hD2 := hD2.keep k40
    replace hL2 := hL2.keep k40
    refine use (Read_g (f : Int) hX) ?_
    rintro _ w43 ⟨r2, rfl, hr2, k43⟩
    have e3 : readF (crashM m2 0 0) f = flatR A := by
      rw [readF_i _ hf]
      show crashB (m2 f).sure (m2 f).pend _ = _
      rw [e2]
      split <;> rfl
    rw [e3] at hr2
    refine ⟨r2, rfl, str _, hr2.rds.str, cond_f (by rw [strEq_str]; simp) ?_⟩
    replace hD2 := hD2.keep k43
    replace hL2 := hL2.keep k43
    refine use (Crash_g 1 1 ⟨by decide, by decide⟩ ⟨by decide, by decide⟩ hD2 uK2) ?_
    rintro _ w47 ⟨y, rfl, hY, k47⟩
    refine ⟨PD y, rfl, ?_⟩
    replace hD2 := hD2.keep k47
    replace hL2 := hL2.keep k47
    refine use (Read_g (f : Int) hY) ?_
    rintro _ w50 ⟨r3, rfl, hr3, k50⟩
    have e4 : readF (crashM m2 1 1) f = [] := by
      rw [readF_i _ hf]
      show crashB (m2 f).sure (m2 f).pend _ = _
      rw [e2]
      split <;> rfl
    rw [e4] at hr3
    refine ⟨r3, rfl, str _, hr3.rds.str, cond_f (by show (!strEq (str []) (str [])) = false; rw [strEq_str]; rfl) ⟨⟨by omega, by omega, by omega, by omega⟩, fun b54 w55 hAl => ?_⟩⟩
    replace hD2 := (hD2.keep k50).keep hAl.kp
    replace hL2 := (hL2.keep k50).keep hAl.kp
    rw [made_cells] at hAl
    have hbl := List.length_replicate (n := 65537) (a := (0 : UInt8))
    obtain ⟨big, hbig⟩ : ∃ l, l = List.replicate 65537 (0 : UInt8) := ⟨_, rfl⟩
    rw [← hbig] at hAl hbl
    clear hbig
    have hno : ¬ okR big := fun h => by have := h.2; omega
    refine use (LAppend_g hD2 hL2 hW.g (Blk.rdb hAl.blk rfl 65537 65537 hbl) uK2) ?_
    rintro _ w56 ⟨rfl, hD3, k56⟩
    rw [logE_no hno]
    rw [logM_no hno] at hD3
    have hL3 := hL2.kg k56 hW.g
    refine ⟨_, rfl, cond_f rfl ?_⟩
    refine use (LSize_g hD3 hL3) ?_
    rintro _ w59 ⟨rfl, k59⟩
    rw [readF_i m2 hf, e2]
    refine ⟨_, rfl, cond_f rfl ?_⟩
    replace hD3 := hD3.keep k59
    replace hL3 := hL3.keep k59
    have w2f : IntKind.i64.wrap (2 + (f : Int)) = 2 + f := by rw [IntKind.wrap_i64]; omega
    rw [w2f]
    refine use (Open_n (by omega) w59) ?_
    rintro _ _ ⟨rfl, rfl⟩
    have kk : Kp [] w w59 := k1.then0 hD3.kp
    refine ⟨(none, ⟨none, 0, 0⟩, 1), rfl, cond_f rfl (cond_f rfl (cond_f rfl (cond_e (fun _ => awk kk) (fun h0 => cond_i (fun _ => awk kk) (fun h3 => ?_)))))⟩
    replace h3 := of_decide_eq_false h3
    refine use (CopyBytes_s one (ho.keep0 kk) (by omega)) ?_
    rintro _ w71 ⟨p, rfl, hp, k71⟩
    refine ⟨p, rfl, ?_⟩
    have hok : okR o := ⟨by omega, by omega⟩
    have hW3 : LW w1 w71 G lg d f (mAdd m2 f []) := by
      rw [mAdd_nil]
      exact ⟨hD3.keep k71, hL3.keep k71, hW.g⟩
    refine use (hW3.add hf hp.rds hok (by rw [e2]; simp [endL]; omega) (by rw [mAdd_nil]; exact uK2)) ?_
    rintro _ w74 ⟨rfl, hW4, k74⟩
    refine ⟨_, rfl, cond_f rfl ?_⟩
    have e5 : (mAdd m2 f ([] ++ [o]) f).now = flatR [o] := by rw [mAdd_now, e2]; rfl
    have hu5 : uK (mAdd m2 f ([] ++ [o])) := fun i hi => Nat.le_trans (mAdd_units m2 f _ i) (by have := hu2 i hi; simp [endL]; omega)
    obtain ⟨em, er⟩ := openM_flat e5 (by simp; exact hok)
    refine use (Open_g hf hW4.dg hu5) ?_
    rintro _ w77 ⟨lg2, q2, G2, rfl, hD5, k77, -, hLg2, hg2, hS2, hSG2⟩
    rw [em] at hD5
    rw [er] at hS2
    refine ⟨(PD lg2, q2, 0), rfl, fun w80 hDr => cond_t rfl ?_⟩
    replace hD5 := hD5.keep hDr.kp
    have hR := (tagL_rl hS2).keep0 hDr.kp
    have hRl := hR.len
    obtain ⟨a, x, ea, hc, hx⟩ := hR.get (i := 0) Nat.one_pos
    rw [Nat.zero_mul, add_zero'] at hc
    simp only [List.length_cons, List.length_nil] at hRl
    refine cond_t (by rw [← hRl]; rfl) ⟨⟨by omega, by dsimp only; omega⟩, ?_⟩
    dsimp only
    rw [ea]
    refine ⟨x, ⟨rfl, hc⟩, str _, hx.str, str o, (ho.keep0 (k1.then0 hD5.kp)).str, cond_t (by rw [strEq_str]; simp) ?_⟩
    have w1f : IntKind.i64.wrap (1 - (f : Int)) = ((1 - f : Nat) : Int) := by rw [IntKind.wrap_i64]; omega
    rw [w1f]
    refine use (Size_g ((1 - f : Nat) : Int) hD5) ?_
    rintro _ _ ⟨rfl, rfl⟩
    have e6 : readF (mAdd m2 f ([] ++ [o])) ((1 - f : Nat) : Int) = [] := by
      rw [readF_i _ (by omega), mAdd_ne _ _ (by omega), e2o _ (by omega)]
    rw [e6]
    exact ⟨_, rfl, cond_t rfl (awk (k1.then0 hD5.kp))⟩)
theorem WalErases_walk (s : Sl) (L : List (List Int)) (file : Int) (a : Option Addr) (c : Nat) (l : List Int) (w : World) (_ : s.len ≤ s.cap ∧ s.cap ≤ maxLen) (h : IsL w 1 (fun s : Sl => Value.slice s.a s.len s.cap) (fun s L => RdL w 1 (Value.int .u8) s L) s L) (hq : ∀ x ∈ L, ∀ y ∈ x, in8 y) (_ : (Lit.int .i64 file).wf = true) (h2 : Rd .u8 w a l) (_ : l.length ≤ c) :
    Calls Try.prog 8 #[.slice s.a s.len s.cap, .int .i64 file, .slice a l.length c] w fun e w' => e = .returned (.bool true) ∧ Below w.heap.size w w' := ret_true (WalErases_s s file ⟨a, l.length, c⟩ w (rl_of_isL h hq) (rdb_of_rd h2 c))
end Go.Proofs.Ythbablipimdaoaa
