/- The law WalTorn. No conditions. -/
import Derived.Test.YthbablipimdaoaaWalF
namespace Go.Proofs.Ythbablipimdaoaa
open Go.RowKit Go.Eng
set_option linter.unusedVariables false
theorem crash_apps : ∀ (L : List Bs) (x : Bs) (n : Nat), crashB x (L.map fun s => .app (recB s)) n = x ++ (flatR L).take n
  | [], x, n => by simp [crashB, flatR]
  | s :: L, x, n => by
    have e : flatR (s :: L) = recB s ++ flatR L := by simp [flatR]
    rw [List.map_cons, crashB, e]
    split
    · rename_i h
      rw [List.take_append_of_le_length (by omega)]
    · rename_i h
      rw [crash_apps L, List.take_append, List.take_of_length_le (l := recB s) (by omega), List.append_assoc]
theorem app_sl {ty : TypeId} {w : World} {B : Nat} {s x : Sl} {xs : List Sl} {zs : List Sl} (ho : Go.Eng.Own w B 1 s (xs.map slv)) (hx : Rds w 1 x (zs.map slv)) (hB : B ≤ w.heap.size) (hb : xs.length + zs.length ≤ 1000000000) :
    ∃ q n c w1, (Builtin.append_ #[27, 27] ty #[.slice s.a s.len s.cap, .slice x.a x.len x.cap]).run Try.prog w = .ok (.slice q n c) w1 ∧ n = s.len + x.len ∧ Go.Eng.Own w1 B 1 ⟨q, n, c⟩ ((xs ++ zs).map slv) ∧ Kp (blkOf s) w w1 := by
  have h1 := ho.len
  have h2 := hx.len
  rw [List.length_map] at h1 h2
  obtain ⟨q, n, c, w1, hrun, hn, ho1, k1, _⟩ := app_any (ty := ty) Try.underlying27 sl_inf rfl (by decide) ho hx (fun v hv => by simp only [List.mem_map] at hv; obtain ⟨y, _, rfl⟩ := hv; rfl) hB (by omega) (by omega)
  rw [← List.map_append] at ho1
  exact ⟨q, n, c, w1, hrun, hn, ho1, k1⟩
set_option maxHeartbeats 4000000 in
set_option maxRecDepth 20000 in
theorem WalTorn_s (l1 l2 : Sl) (units : Int) (later : Sl) {L1 L2 : List Bs} {o : Bs} (w : World) (h1 : RL w l1 L1) (h2 : RL w l2 L2) (ho : RdB w later o) : C.skeplaw04_WalTorn l1 l2 units later w (fun v w' => v = .bool true ∧ Kp [] w w') noP := skeplaw04_WalTorn_of (by
  unfold W.skeplaw04_WalTorn
  have hol := ho.bsize
  refine use (say_s l1 h1) ?_
  rintro _ w1 ⟨qa, rfl, hqa, k1⟩
  refine ⟨qa, rfl, ?_⟩
  refine use (say_s l2 (h2.keep0 k1)) ?_
  rintro _ w4 ⟨qb, rfl, hqb, k4⟩
  refine ⟨qb, rfl, ?_⟩
  replace hqa := hqa.keep0 k4
  obtain ⟨A, hA⟩ : ∃ A, sayL L1 = A := ⟨_, rfl⟩
  obtain ⟨B, hB⟩ : ∃ B, sayL L2 = B := ⟨_, rfl⟩
  have hAok := sayL_okR L1
  have hAe := endL_say L1
  have hAe' := endL_say' L1
  have hAl := sayL_len L1
  have hBok := sayL_okR L2
  have hBe := endL_say L2
  have hBe' := endL_say' L2
  have hBl := sayL_len L2
  rw [hA] at hqa hAok hAe hAe' hAl
  rw [hB] at hqb hBok hBe hBe' hBl
  have hqal := hqa.len
  have hqbl := hqb.len
  refine use (New_g w4 w4 (Kp.refl _ _)) ?_
  rintro _ w7 ⟨d, rfl, hD, k7⟩
  refine ⟨PD d, rfl, ?_⟩
  refine use (Start_s (f := 0) (by omega) hD) ?_
  rintro _ w10 ⟨lg, q0, G, rfl, hW, -⟩
  refine ⟨(PD lg, q0, 0), rfl, cond_f rfl (cond_f rfl ?_)⟩
  refine ⟨fun v w' => ∃ k : Nat, v = k ∧ k ≤ A.length ∧ LW w4 w' G lg d 0 (mAdd m00 0 (A.take k)), fun v _ => A.length - v.toNat, ⟨_, rfl, 0, rfl, by omega, by rw [List.take_zero, mAdd_nil]; exact hW⟩, fun e0 v w17 hI => ?_⟩
  clear hW
  obtain ⟨k, rfl, hk, hW⟩ := hI
  have hu : uK (mAdd m00 0 (A.take k)) := fun i hi => Nat.le_trans (mAdd_units m00 0 _ i) (by have := hAe k; simp [m00, unitsL]; omega)
  refine cond_d (fun c1 => ?_) (fun c1 => ?_)
  · obtain ⟨a, x, ea, hx, hxb⟩ := (hqa.keep0 hW.dg.kp).get (i := k) (by omega)
    have hsok := hAok A[k] (List.getElem_mem _)
    rw [ea, Int.toNat_natCast, wlk k (by omega)]
    refine ⟨⟨by omega, c1⟩, x, ⟨rfl, hx⟩, ?_⟩
    refine use (CopyBytes_s x hxb (by have := hsok.2; omega)) ?_
    rintro _ w20 ⟨p, rfl, hp, k20⟩
    refine ⟨p, rfl, ?_⟩
    have := hAe k
    refine use ((hW.keep k20).add (by omega) hp.rds hsok (by have := hsok.2; simp [m00]; omega) hu) ?_
    rintro _ w23 ⟨rfl, hW2, k23⟩
    exact ⟨_, rfl, cond_f rfl ⟨_, rfl, ⟨k + 1, rfl, by omega, by rw [take_snoc A (by omega)]; exact hW2⟩, by simp only [Int.toNat_natCast]; omega⟩⟩
  have hke : k = A.length := by omega
  subst hke
  rw [List.take_length] at hW hu
  refine use (LSync_g hW.dg hW.li hW.g) ?_
  rintro _ w27 ⟨rfl, hD1, k27⟩
  have hL1 := hW.li.kg k27 hW.g
  refine ⟨_, rfl, cond_f rfl ?_⟩
  obtain ⟨m, hm⟩ : ∃ m, syncMf (mAdd m00 0 A) ((0 : Nat) : Int) = m := ⟨_, rfl⟩
  have hm0 : m 0 = ⟨flatR A, flatR A, []⟩ := by rw [← hm, syncMf_i _ (by omega), fup_same, mAdd_now]; rfl
  have hm1 : m 1 = ⟨[], [], []⟩ := by rw [← hm, syncMf_i _ (by omega), fup_ne _ _ (by omega), mAdd_ne _ _ (by omega)]; rfl
  have hmu : ∀ i, i < 2 → unitsL (m i).pend = 0 := fun i hi => by
    have h01 : i = 0 ∨ i = 1 := by omega
    rcases h01 with rfl | rfl
    · rw [hm0]; rfl
    · rw [hm1]; rfl
  rw [hm] at hD1
  clear hm hu
  have hW1 : LW w4 w27 G lg d 0 m := ⟨hD1, hL1, hW.g⟩
  clear hW hD1 hL1
  have hAfl := flatR_len A
  refine ⟨fun v w' => ∃ k : Nat, v = k ∧ k ≤ B.length ∧ LW w4 w' G lg d 0 (mAdd m 0 (B.take k)), fun v _ => B.length - v.toNat, ⟨_, rfl, 0, rfl, by omega, by rw [List.take_zero, mAdd_nil]; exact hW1⟩, fun e0 v w34 hI => ?_⟩
  clear hW1
  obtain ⟨k, rfl, hk, hW⟩ := hI
  have hu : uK (mAdd m 0 (B.take k)) := fun i hi => Nat.le_trans (mAdd_units m 0 _ i) (by have := hBe k; rw [hmu i hi]; omega)
  refine cond_d (fun c1 => ?_) (fun c1 => ?_)
  · obtain ⟨a, x, ea, hx, hxb⟩ := (hqb.keep0 hW.dg.kp).get (i := k) (by omega)
    have hsok := hBok B[k] (List.getElem_mem _)
    rw [ea, Int.toNat_natCast, wlk k (by omega)]
    refine ⟨⟨by omega, c1⟩, x, ⟨rfl, hx⟩, ?_⟩
    refine use (CopyBytes_s x hxb (by have := hsok.2; omega)) ?_
    rintro _ w37 ⟨p, rfl, hp, k37⟩
    refine ⟨p, rfl, ?_⟩
    have := hBe k
    refine use ((hW.keep k37).add (by omega) hp.rds hsok (by have := hsok.2; rw [hm0]; dsimp only; omega) hu) ?_
    rintro _ w40 ⟨rfl, hW2, k40⟩
    exact ⟨_, rfl, cond_f rfl ⟨_, rfl, ⟨k + 1, rfl, by omega, by rw [take_snoc B (by omega)]; exact hW2⟩, by simp only [Int.toNat_natCast]; omega⟩⟩
  have hke : k = B.length := by omega
  subst hke
  rw [List.take_length] at hW hu
  -- all that was appended
  obtain ⟨xa, ra, la, ga⟩ := hqa.ex
  obtain ⟨xb, rb, lb, gb⟩ := hqb.ex
  have k434 := hW.dg.kp
  obtain ⟨q44, n45, c46, w47, hrun47, hn45, ho47, k47'⟩ := app_sl (xs := []) (s := ⟨none, 0, 0⟩) (ty := 27) (Go.Eng.Own.nil w34 w34.heap.size 1) (ra.keep0 k434) (Nat.le_refl _) (by simp; omega)
  have k47 : Kp [] w34 w47 := k47'
  refine ⟨q44, n45, c46, w47, hrun47, ?_⟩
  have s47 := k47.size
  obtain ⟨q48, n49, c50, w51, hrun51, hn49, ho51, k51'⟩ := app_sl (ty := 27) ho47 ((rb.keep0 k434).keep0 k47) (by omega) (by simp; omega)
  have k51 : Kp [] w34 w51 := k47.then k51' (fun y hy => .inr (ho47.lo y hy).1)
  refine ⟨q48, n49, c50, w51, hrun51, ?_⟩
  rw [List.nil_append] at ho51
  have hlc := ho51.lc
  have hW51 : LW w4 w51 (fun x => G x ∨ New w34 w51 x) lg d 0 (mAdd m 0 B) := ⟨hW.dg.grow k51, hW.li.keep k51, .inl hW.g⟩
  have hlo51 := ho51.lo
  have hall : ∀ w', KG (fun x => G x ∨ New w34 w51 x) w51 w' → Kp [] w4 w' → RL w' ⟨q48, n49, c50⟩ (A ++ B) := fun w' kg k0 => by
    refine ⟨⟨xa ++ xb, (ho51.keepF kg (fun y hy hn => hn (.inr (hlo51 y hy)))).rds, by simp [la, lb], fun i x b hx hb => ?_⟩⟩
    by_cases hi : i < xa.length
    · rw [List.getElem?_append_left hi] at hx
      rw [List.getElem?_append_left (by omega)] at hb
      exact (ga i x b hx hb).keep0 k0
    · rw [List.getElem?_append_right (by omega)] at hx hb
      rw [← la] at hb
      exact (gb _ x b hx hb).keep0 k0
  have hal := (hall w51 (KpF.refl _ _) hW51.dg.kp).len
  rw [List.length_append] at hal
  dsimp only at hal hlc
  clear hW
  obtain ⟨G1, hG1⟩ : ∃ G1, (fun x => G x ∨ New w34 w51 x) = G1 := ⟨_, rfl⟩
  rw [hG1] at hall hW51
  clear hG1
  have hW := hW51
  obtain ⟨M, hM⟩ : ∃ M, mAdd m 0 B = M := ⟨_, rfl⟩
  have hM0 : M 0 = ⟨flatR A, flatR A ++ flatR B, B.map fun s => .app (recB s)⟩ := by rw [← hM, mAdd_now, hm0]; rfl
  rw [hM] at hW hu
  clear hM
  refine use (Pending_g ((0 : Nat) : Int) hW.dg hu) ?_
  rintro _ w52 ⟨rfl, k52⟩
  rw [pendN_i M (by omega), hM0]
  dsimp only
  rw [units_map]
  obtain ⟨N, hN⟩ : ∃ N, endL B = N := ⟨_, rfl⟩
  rw [hN] at hBe' ⊢
  have hwN : IntKind.i64.wrap ((N : Int) + 1) = N + 1 := by rw [IntKind.wrap_i64]; omega
  refine ⟨_, rfl, ?_⟩
  rw [hwN]
  refine use (Place_s units (N + 1) w52 (by omega) (by omega)) ?_
  rintro _ _ ⟨rfl, rfl⟩
  obtain ⟨U, hU, hUN⟩ : ∃ U : Nat, units % ((N : Int) + 1) = U ∧ U ≤ N := ⟨(units % ((N : Int) + 1)).toNat, by have := Int.emod_nonneg units (show (N : Int) + 1 ≠ 0 by omega); omega, by have := Int.emod_lt_of_pos units (show 0 < (N : Int) + 1 by omega); omega⟩
  rw [hU]
  refine ⟨_, rfl, ?_⟩
  replace hW := hW.keep k52
  refine use (Crash_g (U : Int) 0 ⟨by omega, by omega⟩ ⟨by decide, by decide⟩ hW.dg hu) ?_
  rintro _ w58 ⟨x, rfl, hX, k58⟩
  refine ⟨PD x, rfl, ?_⟩
  obtain ⟨mx, hmx⟩ : ∃ mx, crashM M U 0 = mx := ⟨_, rfl⟩
  have hmx0 : (mx 0).now = flatR A ++ (flatR B).take U := by
    rw [← hmx]
    show crashB (M 0).sure (M 0).pend (if (0 : Nat) = 0 then (U : Int) else 0).toNat = _
    rw [hM0, if_pos rfl, Int.toNat_natCast]
    exact crash_apps B _ _
  have hmx0u : ∀ i, i < 2 → unitsL (mx i).pend ≤ 0 := fun i _ => by rw [← hmx]; exact Nat.le_refl _
  have hmxu : uK mx := fun i hi => by have := hmx0u i hi; omega
  rw [hmx] at hX
  clear hmx
  obtain ⟨j, hj, ej⟩ := recs_torn B hBok U
  obtain ⟨R, hR⟩ : ∃ R, A ++ B.take j = R := ⟨_, rfl⟩
  have hrx : recs (mx 0).now = R := by rw [hmx0, recs_flat A _ hAok, ej, hR]
  have hRl : R.length = A.length + j := by rw [← hR, List.length_append, List.length_take]; omega
  have hRt : (A ++ B).take (A.length + j) = R := by rw [List.take_append, List.take_of_length_le (by omega), ← hR]; congr 2; omega
  have hRe : endL R ≤ 3008 * 40 + 3008 * 40 := by rw [← hR, endL_app]; have := hBe j; omega
  refine use (Open_g (f := 0) (by omega) hX hmxu) ?_
  rintro _ w61 ⟨lg2, q2, G2, rfl, hD2, k61, -, hLg2, hg2, hS2, hSG2⟩
  rw [hrx] at hS2
  have hn2 : (openM mx 0 0).now = flatR R := by rw [openM_now mx (by omega), hrx]
  have hu2 : ∀ i, i < 2 → unitsL (openM mx 0 i).pend ≤ 0 := fun i hi => Nat.le_trans (openM_units mx (by omega) i) (hmx0u i hi)
  obtain ⟨m5, hm5⟩ : ∃ m5, openM mx 0 = m5 := ⟨_, rfl⟩
  rw [hm5] at hD2 hn2 hu2
  clear hm5
  have hr2l := (tagL_rl hS2).len
  refine ⟨(PD lg2, q2, 0), rfl, cond_f rfl (cond_f rfl ?_)⟩
  dsimp only
  refine cond_i (fun h => by have := of_decide_eq_true h; omega) (fun _ => cond_i (fun h => by have := of_decide_eq_true h; omega) (fun _ => ⟨⟨by omega, by omega⟩, ?_⟩))
  simp only [Int.toNat_natCast, ite_same, Nat.sub_zero]
  have hall2 : RL w61 ⟨q48, q2.len, c50⟩ R := by
    have e : q2.len = A.length + j := by omega
    have := (hall w61 (((k52.kg G1).kgThen (k58.kg G1)).kgThen k61) hD2.kp).take (n := A.length + j) (by dsimp only; omega) c50
    rw [hRt] at this
    rw [e]
    exact this
  refine use (lsame_s q2 _ (tagL_rl hS2) hall2 (by omega)) ?_
  rintro _ w64 ⟨rfl, k64⟩
  replace hD2 := hD2.keep k64
  replace hLg2 := hLg2.keep k64
  have kk : Kp [] w w64 := (k1.then0 k4).then0 hD2.kp
  refine ⟨_, rfl, cond_f (by simp) (cond_e (fun _ => awk kk) (fun h0 => cond_i (fun _ => awk kk) (fun h3 => ?_)))⟩
  replace h3 := of_decide_eq_false h3
  refine use (CopyBytes_s later (ho.keep0 kk) (by omega)) ?_
  rintro _ w73 ⟨p, rfl, hp, k73⟩
  refine ⟨p, rfl, ?_⟩
  have hok : okR o := ⟨by omega, by omega⟩
  have hW3 : LW w4 w73 G2 lg2 x 0 (mAdd m5 0 []) := by
    rw [mAdd_nil]
    exact ⟨hD2.keep k73, hLg2.keep k73, hg2⟩
  have hRf := flatR_len R
  refine use (hW3.add (by omega) hp.rds hok (by rw [hn2]; simp [endL]; omega) (by rw [mAdd_nil]; intro i hi; have := hu2 i hi; omega)) ?_
  rintro _ w76 ⟨rfl, hW4, k76⟩
  refine ⟨_, rfl, cond_f rfl ?_⟩
  refine use (LSync_g hW4.dg hW4.li hW4.g) ?_
  rintro _ w79 ⟨rfl, hD5, k79⟩
  refine ⟨_, rfl, cond_f rfl ?_⟩
  obtain ⟨m6, hm6⟩ : ∃ m6, syncMf (mAdd m5 0 ([] ++ [o])) ((0 : Nat) : Int) = m6 := ⟨_, rfl⟩
  have hm60 : m6 0 = ⟨flatR (R ++ [o]), flatR (R ++ [o]), []⟩ := by
    rw [← hm6, syncMf_i _ (by omega), fup_same, mAdd_now]
    unfold syncF
    dsimp only
    rw [hn2, ← flatR_app]
    rfl
  have hu6 : uK m6 := fun i hi => by
    rw [← hm6]
    have h1 := syncMf_at (mAdd m5 0 ([] ++ [o])) ((0 : Nat) : Int) i
    have h2 := mAdd_units m5 0 ([] ++ [o]) i
    have h3 := hu2 i hi
    simp [endL] at h1 h2 ⊢
    omega
  change DG w4 w79 G2 x (syncMf (mAdd m5 0 ([] ++ [o])) ((0 : Nat) : Int)) at hD5
  rw [hm6] at hD5
  clear hm6
  refine use (Crash_g 0 0 ⟨by decide, by decide⟩ ⟨by decide, by decide⟩ hD5 hu6) ?_
  rintro _ w82 ⟨y, rfl, hY, k82⟩
  refine ⟨PD y, rfl, ?_⟩
  have hy0 : (crashM m6 0 0 0).now = flatR (R ++ [o]) := by
    show crashB (m6 0).sure (m6 0).pend _ = _
    rw [hm60]
    rfl
  have hRo : ∀ s ∈ R ++ [o], okR s := by
    intro s hs
    rcases List.mem_append.1 hs with hs | hs
    · rw [← hR] at hs
      rcases List.mem_append.1 hs with hs | hs
      · exact hAok s hs
      · exact hBok s (List.mem_of_mem_take hs)
    · simp at hs
      subst hs
      exact hok
  obtain ⟨em, er⟩ := openM_flat hy0 hRo
  refine use (Open_g (f := 0) (by omega) hY (fun i hi => Nat.zero_le _)) ?_
  rintro _ w85 ⟨lg3, q3, G3, rfl, hD6, k85, -, hLg3, hg3, hS3, hSG3⟩
  rw [er] at hS3
  refine ⟨(PD lg3, q3, 0), rfl, fun w88 hDr => cond_t rfl ?_⟩
  have hr3 := (tagL_rl hS3).keep0 hDr.kp
  have hr3l := hr3.len
  rw [List.length_append] at hr3l
  simp only [List.length_cons, List.length_nil] at hr3l
  have hwr : IntKind.i64.wrap ((q2.len : Int) + 1) = q2.len + 1 := by rw [IntKind.wrap_i64]; omega
  dsimp only
  rw [hwr]
  have hk88 : KG G2 w61 w88 := ((((((k64.kg G2).kgThen (k73.kg G2)).kgThen k76).kgThen k79).kgThen (k82.kg G2)).kgThen k85).kgThen (hDr.kp.kg G2)
  have hlc3 := hS3.ex
  obtain ⟨xs3, ho3, _, _⟩ := hlc3
  have hcap3 := ho3.lc
  refine cond_t (by simp; omega) ⟨⟨by omega, by omega⟩, ?_⟩
  have hcut3 : RL w88 ⟨q3.a, q2.len, q3.cap⟩ R := by
    have := hr3.take (n := q2.len) (by omega) q3.cap
    rwa [List.take_left' hr2l] at this
  refine use (lsame_s _ q2 hcut3 (LS.rl2 hS2 hSG2 hk88) (by omega)) ?_
  rintro _ w89 ⟨rfl, k89⟩
  refine ⟨_, rfl, cond_t (by simp) ⟨⟨by omega, by omega⟩, ?_⟩⟩
  obtain ⟨a, z, ea, hc, hz⟩ := (hr3.keep0 k89).get (i := R.length) (by simp)
  rw [ea, ← hr2l]
  have hzo : (R ++ [o])[R.length]'(by simp) = o := by simp
  rw [hzo] at hz
  have hk89 : Kp [] w w89 := ((k1.then0 k4).then0 hD6.kp).then0 (hDr.kp.then0 k89)
  exact ⟨z, ⟨rfl, hc⟩, str _, hz.str, str o, (ho.keep0 hk89).str, cond_t (by rw [strEq_str]; simp) (awk hk89)⟩)
theorem WalTorn_walk (s : Sl) (L : List (List Int)) (s2 : Sl) (L2 : List (List Int)) (units : Int) (a : Option Addr) (c : Nat) (l : List Int) (w : World) (_ : s.len ≤ s.cap ∧ s.cap ≤ maxLen) (h : IsL w 1 (fun s : Sl => Value.slice s.a s.len s.cap) (fun s L => RdL w 1 (Value.int .u8) s L) s L) (hq : ∀ x ∈ L, ∀ y ∈ x, in8 y) (_ : s2.len ≤ s2.cap ∧ s2.cap ≤ maxLen) (h2 : IsL w 1 (fun s : Sl => Value.slice s.a s.len s.cap) (fun s L => RdL w 1 (Value.int .u8) s L) s2 L2) (hq2 : ∀ x ∈ L2, ∀ y ∈ x, in8 y) (_ : (Lit.int .i64 units).wf = true) (h3 : Rd .u8 w a l) (_ : l.length ≤ c) :
    Calls Try.prog 9 #[.slice s.a s.len s.cap, .slice s2.a s2.len s2.cap, .int .i64 units, .slice a l.length c] w fun e w' => e = .returned (.bool true) ∧ Below w.heap.size w w' := ret_true (WalTorn_s s s2 units ⟨a, l.length, c⟩ w (rl_of_isL h hq) (rl_of_isL h2 hq2) (rdb_of_rd h3 c))
end Go.Proofs.Ythbablipimdaoaa
