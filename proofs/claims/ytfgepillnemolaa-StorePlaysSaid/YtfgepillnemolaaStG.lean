/- The law StoreAgain. No conditions. -/
import Derived.Test.YtfgepillnemolaaStX
namespace Go.Proofs.Ytfgepillnemolaa
open Go.RowKit Go.Eng
set_option linter.unusedVariables false
set_option linter.unusedSimpArgs false
def cont (f : Nat) (x : Lg) (i : Nat) : Bs := if i = f then flatR x.recs else []
theorem KI.cont {m : Nat → Fm} {f j : Nat} {x : Lg} (h : KI m f x j) {i : Nat} (hi : i < 2) : (m i).now = cont f x i := by
  rcases i01 hi h.f2 with rfl | rfl
  · rw [h.mf]; simp [Go.Proofs.Ytfgepillnemolaa.cont]
  · have := h.f2
    rw [h.mo, Go.Proofs.Ytfgepillnemolaa.cont, if_neg (by omega)]
theorem SK.readi {w0 w : World} {G : Nat → Prop} {st d j : Nat} {f : Nat} {x : Lg} (h : SK w0 w G st d f x j) {i : Nat} (hi : i < 2) : C.disk_Disk_Read (PD d) i w (fun v w' => ∃ q : Sl, v = .slice q.a q.len q.cap ∧ OwnB w' w.heap.size q (cont f x i) ∧ Kp [] w w') noP := by
  obtain ⟨m, L, h1, h2⟩ := h.ex
  refine use (Read_g (i : Int) h1.dg) ?_
  rintro _ w1 ⟨q, rfl, ho, k1⟩
  rw [readF_i m hi, h2.cont hi] at ho
  exact ⟨q, rfl, ho, k1⟩
/-- To open a store that has not crashed: nothing is written. -/
theorem KI.again {m : Nat → Fm} {f j : Nat} {x : Lg} (h : KI m f x j) : openK m (flA f x) (flB f x) = m ∧ openS (flA f x) (flB f x) = smOf f x ∧ openT (flA f x) (flB f x) = (x.snap, x.es) ∧ recs (m 0).now = recsOf (flA f x) ∧ recs (m 1).now = recsOf (flB f x) := by
  have hw : ∀ i, i < 2 → ¬ endL (recs (m i).now) < (m i).now.length := fun i hi => by
    rcases i01 hi h.f2 with rfl | rfl
    · rw [h.mf]
      dsimp only
      rw [recs_all h.ok, flatR_len]
      omega
    · rw [h.mo]
      simp [recs_nil]
  have eo : open2 m = m := by
    unfold open2
    rw [openM_whole m (hw 0 (by omega)), openM_whole m (hw 1 (by omega))]
  have r : ∀ i, i < 2 → recs (m i).now = if i = f then x.recs else [] := fun i hi => by
    rcases i01 hi h.f2 with rfl | rfl
    · rw [h.mf, if_pos rfl]
      exact recs_all h.ok
    · have := h.f2
      rw [h.mo, if_neg (by omega)]
      rfl
  have h01 : f = 0 ∨ f = 1 := by have := h.f2; omega
  have hmo := h.mo
  rcases h01 with rfl | rfl
  · have hp : pick (flA 0 x) (flB 0 x) = some (0, x) := rfl
    refine ⟨?_, by unfold openS; rw [hp]; rfl, by unfold openT; rw [hp], r 0 (by omega), r 1 (by omega)⟩
    unfold openK
    rw [hp]
    dsimp only
    rw [eo, if_neg]
    rw [hmo]
    simp
  · have hp : pick (flA 1 x) (flB 1 x) = some (1, x) := rfl
    refine ⟨?_, by unfold openS; rw [hp]; rfl, by unfold openT; rw [hp], r 0 (by omega), r 1 (by omega)⟩
    unfold openK
    rw [hp]
    dsimp only
    rw [eo, if_neg]
    rw [hmo]
    simp
theorem again_s {w0 w : World} {G : Nat → Prop} {st d f j : Nat} {x : Lg} (h : SK w0 w G st d f x j) (hx : okLg x) (hfit : endL x.recs ≤ 16000000) :
    C.skeplaw06_told (PD d) w (fun v w' => ∃ (st : Nat) (q1 q2 : Sl) (G' : Nat → Prop), v = .tuple #[.slice q1.a q1.len q1.cap, .slice q2.a q2.len q2.cap, .int .i64 x.s, .bool true] ∧ SK w0 w' G' st d f x j ∧ KG G w w' ∧ (∀ k, G k → G' k) ∧ RdB w' q1 x.snap ∧ (∀ z ∈ blkOf q1, G' z ∧ z ≠ st) ∧ RG w' (fun z => G' z ∧ z ≠ st) q2 x.es) noP := skeplaw06_told_of (by
  unfold W.skeplaw06_told
  obtain ⟨m, L0, hSW, hki⟩ := h.ex
  obtain ⟨ek, e1, e2, r0, r1⟩ := hki.again
  obtain ⟨oa, ob⟩ := okFL_A (f := f) hx
  refine use (Open_k hSW.dg (fun i hi => by have := hki.units i hi; omega) r0 r1 oa ob) ?_
  rintro _ w1 ⟨st, q1, q2, G', L, rfl, hS, k1, hG, hst, hq1, hq1G, hq2, _, _⟩
  rw [e1, ek] at hS
  rw [e2] at hq1 hq2
  have hK : SK w0 w1 G' st d f x j := ⟨_, L, hS, hki⟩
  have hql := hq2.len
  dsimp only at hql
  obtain ⟨⟨y1, y2⟩, ⟨y3, y4⟩, y5⟩ := hx
  refine ⟨(PD st, q1, q2, 0), rfl, cond_f rfl (cond_f rfl ?_)⟩
  refine use hK.from ?_
  rintro _ _ ⟨rfl, rfl⟩
  refine ⟨_, rfl, use hK.last ?_⟩
  rintro _ _ ⟨rfl, rfl⟩
  refine ⟨_, rfl, use hK.from ?_⟩
  rintro _ _ ⟨rfl, rfl⟩
  refine ⟨_, rfl, st, q1, q2, G', ?_, hK, k1, hG, hq1, hq1G, hq2⟩
  have : ((x.s + (x.es.length : Int)) == IntKind.i64.wrap (x.s + (q2.len : Int))) = true := beq_t (by rw [IntKind.wrap_i64]; omega)
  rw [this])
def KQ (w w' : World) (n : Int) (st d : Nat) (i c : Nat) : Prop := ∃ (All : List Bs) (f j : Nat) (x : Lg) (G : Nat → Prop), n = (All.length : Nat) ∧ SK w w' G st d f x j ∧ Fit x All i c
theorem KQ.more {w w' : World} {n : Int} {st d i i' c c' : Nat} (h : KQ w w' n st d i c) (hi : i ≤ i') (hc : c ≤ c') : KQ w w' n st d i' c' := by
  obtain ⟨All, f, j, x, G, h1, h2, h3⟩ := h
  exact ⟨All, f, j, x, G, h1, h2, h3.more hi hc⟩
theorem KQ.kp {w w' : World} {n : Int} {st d i c : Nat} (h : KQ w w' n st d i c) : Kp [] w w' := by
  obtain ⟨All, f, j, x, G, h1, h2, h3⟩ := h
  exact h2.kp
/-- What was told first, and stays. -/
structure AG (w : World) (G : Nat → Prop) (q1 q2 : Sl) (b f : Nat) (x : Lg) : Prop where
  r1 : RdB w q1 x.snap
  g1 : ∀ z ∈ blkOf q1, G z
  r2 : RG w G q2 x.es
  blk : Blk w b [.string (str (cont f x 0)), .string (str (cont f x 1))]
  gb : G b
theorem AG.keepG {w w' : World} {G G' : Nat → Prop} {q1 q2 : Sl} {b f : Nat} {x : Lg} (h : AG w G q1 q2 b f x) (k : KG G' w w') (hG : ∀ z, G z → G' z) : AG w' G q1 q2 b f x :=
  ⟨h.r1.keepF k (fun z hz hn => hn (hG z (h.g1 z hz))), h.g1, h.r2.keepF k (fun z hz hn => hn (hG z hz)), h.blk.keepF k (fun hn => hn (hG b h.gb)), h.gb⟩
theorem AG.keep0 {w w' : World} {G : Nat → Prop} {q1 q2 : Sl} {b f : Nat} {x : Lg} (h : AG w G q1 q2 b f x) (k : Kp [] w w') : AG w' G q1 q2 b f x := h.keepG (k.kg G) (fun _ h => h)
theorem cell0 {w : World} {b : Nat} {cs : List Value} (h : Blk w b cs) {v : Value} (hv : cs[0]? = some v) : w.cell? ⟨b, 0, none⟩ = some v := h.at hv
theorem cell1 {w : World} {b : Nat} {cs : List Value} (h : Blk w b cs) {v : Value} (hv : cs[1]? = some v) : w.cell? (Addr.add ⟨b, 0, none⟩ 1) = some v := h.at hv
set_option maxHeartbeats 8000000 in
set_option maxRecDepth 20000 in
theorem StoreAgain_s (life : Sl) (times : Int) (ht : in64 times) {L : List M.skeplaw06_Step} (w : World) (hl : IsL w 3 S.skeplaw06_Step.v (Is.skeplaw06_Step w) life L) (hq : ∀ x ∈ L, Wf.skeplaw06_Step x) : C.skeplaw06_StoreAgain life times w (fun v w' => v = .bool true ∧ Kp [] w w') noP := skeplaw06_StoreAgain_of (by
  unfold W.skeplaw06_StoreAgain
  have hll := hl.len
  refine use (New_g w w (Kp.refl _ _)) ?_
  rintro _ w1 ⟨d, rfl, hD, k1⟩
  refine ⟨PD d, rfl, use (Start_k hD) ?_⟩
  rintro _ w4 ⟨st, q1, q2, G, rfl, hS, k4, -, hst, h1, h2⟩
  refine ⟨(PD st, q1, q2, 0), rfl, cond_f rfl (cond_f rfl ?_)⟩
  have kp0 : KQ w w4 0 st d 0 0 := ⟨[], 0, 0, x0, G, rfl, hS, ⟨Int.le_refl _, rfl, rfl, ⟨Int.le_refl _, Int.le_refl _⟩, Nat.le_refl _, by simp, Nat.zero_le _⟩⟩
  clear hS h1 h2
  refine ⟨fun n w' => KQ w w' n st d 10 80, ?_, ?_⟩
  · refine ⟨fun n v w' => ∃ i : Nat, v = i ∧ i ≤ 8 ∧ i ≤ L.length ∧ KQ w w' n st d i (6 * i), fun _ v _ => L.length - v.toNat, ⟨_, rfl, _, rfl, 0, rfl, by omega, by omega, kp0⟩, ?_⟩
    rintro ev n _ w14 ⟨i, rfl, hi10, hiL, hK⟩
    refine cond_d (fun c1 => cond_d (fun c2 => ?_) (fun c2 => ⟨_, rfl, hK.more (by omega) (by omega)⟩)) (fun c1 => ⟨_, rfl, hK.more (by omega) (by omega)⟩)
    have hi2 : i < L.length := by omega
    obtain ⟨a, z, Ls, Sn, ea, hcells, hLs, hSn⟩ := step_get hl hq hi2
    have hLl := hLs.len
    have hSl := hSn.bsize
    have c0 := c1
    have kk0 := hK.kp
    rw [Int.toNat_natCast]
    refine ⟨⟨by omega, c0⟩, ws ea ⟨z.Snap, ⟨rfl, (hcells w14 kk0).2.2⟩, cond_d (fun c5 => aw6 kk0) (fun c5 => ?_)⟩⟩
    refine ⟨fun n w' => KQ w w' n st d i (6 * i + 6), ?_, ?_⟩
    · refine ⟨fun n v w' => ∃ k : Nat, v = k ∧ k ≤ 6 ∧ k ≤ Ls.length ∧ KQ w w' n st d i (6 * i + k), fun _ v _ => Ls.length - v.toNat, ⟨_, rfl, _, rfl, 0, rfl, by omega, by omega, hK⟩, ?_⟩
      rintro ev2 n _ w27 ⟨k, rfl, hk8, hkL, hK⟩
      have kk := hK.kp
      refine ⟨⟨by omega, c0⟩, ws ea ⟨z.L, ⟨rfl, (hcells w27 kk).1⟩, cond_d (fun c1 => cond_d (fun c2 => ?_) (fun c2 => ⟨_, rfl, hK.more (by omega) (by omega)⟩)) (fun c1 => ⟨_, rfl, hK.more (by omega) (by omega)⟩)⟩⟩
      have hk2 : k < Ls.length := by omega
      obtain ⟨a2, y, ea2, hy, hyb⟩ := (hLs.keep0 kk).get hk2
      have hyl := hyb.bsize
      rw [Int.toNat_natCast, wr1 k (by omega)]
      refine ⟨⟨by omega, c0⟩, ws ea ⟨z.L, ⟨rfl, (hcells w27 kk).1⟩, ⟨by omega, by omega⟩, ws ea2 ⟨y, ⟨rfl, hy⟩, cond_d (fun c3 => aw6 kk) (fun c3 => ⟨⟨by omega, c0⟩, ws ea ⟨z.L, ⟨rfl, (hcells w27 kk).1⟩, ⟨by omega, by omega⟩, ws ea2 ⟨y, ⟨rfl, hy⟩, use (CopyBytes_s y hyb (by omega)) ?_⟩⟩⟩)⟩⟩⟩
      rintro _ w41 ⟨p, rfl, hp, k41⟩
      obtain ⟨All, f, j, x, G', rfl, hSK, hF⟩ := hK
      have hFn := hF.len
      have hFl := hF.l
      have hFs := hF.s0
      have hend := hF.end (by omega)
      have hwl : IntKind.i64.wrap ((All.length : Int) + 1) = x.s + x.es.length + 1 := by rw [IntKind.wrap_i64]; omega
      rw [hwl]
      refine ⟨p, rfl, use ((hSK.keep k41).app rfl hp.rds (by omega) (by omega) (by omega)) ?_⟩
      rintro _ w44 ⟨rfl, hSK2, k44⟩
      exact ⟨0, rfl, cond_f rfl ⟨_, rfl, _, rfl, ⟨k + 1, rfl, by omega, hk2, All ++ [Ls[k]], f, j, x.add Ls[k], G', by simp; omega, hSK2, hF.add (by omega)⟩, by simp only [Int.toNat_natCast]; omega⟩⟩
    rintro ev3 n w52 hK
    have kk := hK.kp
    rw [wr1 i (by omega)]
    refine ⟨⟨by omega, c0⟩, ws ea ⟨z.Then, ⟨rfl, (hcells w52 kk).2.1⟩, ?_⟩⟩
    refine use (Place_s z.Then 3 w52 (by omega) (by omega)) ?_
    rintro _ _ ⟨rfl, rfl⟩
    obtain ⟨All, f, j, x, G', rfl, hSK, hF⟩ := hK
    have hFn := hF.len
    have hFl := hF.l
    have hFs := hF.s0
    have hFg := hF.g
    have hend := hF.end (by omega)
    have dec : L.length - ((i + 1 : Nat) : Int).toNat < L.length - (i : Int).toNat := by simp only [Int.toNat_natCast]; omega
    refine ⟨_, rfl, cond_e (fun c4 => ?_) (fun c4 => ?_)⟩
    · refine ⟨⟨by omega, c0⟩, ws ea ⟨z.Snap, ⟨rfl, (hcells w52 kk).2.2⟩, use (CopyBytes_s z.Snap (hSn.keep0 kk) (by omega)) ?_⟩⟩
      rintro _ w60 ⟨p, rfl, hp, k60⟩
      refine ⟨p, rfl, use ((hSK.keep k60).check hp.rds (by omega) ⟨by omega, by omega⟩ (by omega) (by omega)) ?_⟩
      rintro _ w63 ⟨rfl, hSK2, k63⟩
      exact ⟨0, rfl, cond_f rfl ⟨_, rfl, _, rfl, ⟨i + 1, rfl, by omega, hi2, All, 1 - f, 0, _, G', rfl, hSK2, (hF.check (by omega)).more (Nat.le_refl _) (by omega)⟩, dec⟩⟩
    · exact ⟨_, rfl, _, rfl, ⟨i + 1, rfl, by omega, hi2, All, f, j, x, G', rfl, hSK, hF.more (by omega) (by omega)⟩, dec⟩
  rintro ev4 n w73 ⟨All, f, j, x, G', rfl, hSK, hF⟩
  have hFn := hF.len
  have hFl := hF.l
  have hFs := hF.s0
  have hFg := hF.g
  have hend := hF.end (by omega)
  have hok : okLg x := ⟨⟨hFg.1, by have := hFg.2; omega⟩, ⟨hFs, by omega⟩, by omega⟩
  refine use (again_s hSK hok (by omega)) ?_
  rintro _ w74 ⟨st1, r1, r2, G1, rfl, hS1, k74, hG1, hr1, hr1G, hr2⟩
  clear hSK k74 hG1
  have kk74 := hS1.kp
  have hlt1 := hS1.lt
  refine ⟨(r1, r2, x.s, true), rfl, cond_f rfl ?_⟩
  refine ⟨fun u w' => ∃ (b : Nat) (G2 : Nat → Prop), u = some ⟨b, 0, none⟩ ∧ SK w w' G2 st1 d f x j ∧ AG w' G2 r1 r2 b f x, ?_, ?_⟩
  · intro w78 hDr
    have fin : ∀ (w3 w4 : World) (b : Nat) (t : TypeId), Alloc w3 b t [.string ByteArray.empty, .string ByteArray.empty] w4 → Kp [] w78 w3 → ∀ w5, Kp [] w4 w5 → (okVal true 2 (.agg #[.string (str (cont f x 0)), .string (str (cont f x 1))]) = true ∧ canPut w5 ⟨b, 0, none⟩ (.agg #[.string (str (cont f x 0)), .string (str (cont f x 1))])) ∧ ∀ w70 : World, w70 = putAt w5 ⟨b, 0, none⟩ (.agg #[.string (str (cont f x 0)), .string (str (cont f x 1))]) →
        ∃ u71 : (Option Addr), (.pointer (some ⟨b, 0, none⟩) : Value) = .pointer u71 ∧ ∃ (b : Nat) (G2 : Nat → Prop), u71 = some ⟨b, 0, none⟩ ∧ SK w w70 G2 st1 d f x j ∧ AG w70 G2 r1 r2 b f x := fun w3 w4 b t hA k3 w5 k5 => by
      have hB := hA.blk.keep k5 (by simp)
      have e4 := hA.eq
      have s3 := k3.size
      have s78 := hDr.kp.size
      have s5 := k5.size
      refine ⟨⟨rfl, hB.canN _ (Nat.le_refl _)⟩, fun w70 e70 => ?_⟩
      obtain ⟨hB2, k70, s70⟩ := hB.putAll (by rfl) e70
      have kA : Kp [] w74 w70 := (((hDr.kp.then0 k3).then0 hA.kp).then0 k5).then k70 (fun x hx => by simp at hx; subst hx; right; omega)
      refine ⟨_, rfl, b, fun y => G1 y ∨ New w74 w70 y, rfl, hS1.grow kA, hr1.keep0 kA, fun z hz => .inl (hr1G z hz).1, (hr2.keep0 kA).mono (fun y hy => .inl hy.1), hB2, .inr ⟨by omega, by omega⟩⟩
    have hS78 := hS1.keep hDr.kp
    refine ⟨?_, ?_⟩
    · refine use (hS78.readi (i := 0) (by omega)) ?_
      rintro _ w60 ⟨p, rfl, hp, k60⟩
      refine ⟨p, rfl, str (cont f x 0), hp.rds.str, ?_, ?_⟩
      · refine use ((hS78.keep k60).readi (i := 1) (by omega)) ?_
        rintro _ w64 ⟨q, rfl, hq1, k64⟩
        refine ⟨q, rfl, (hp.rds.keep0 k64).str.2, str (cont f x 1), hq1.rds.str, fun b w69 hA => ⟨(hq1.rds.keep0 hA.kp).str.2, ((hp.rds.keep0 k64).keep0 hA.kp).str.2, fin w64 w69 b _ hA (k60.then0 k64) w69 (Kp.refl _ _)⟩⟩
      · intro b w73 hA
        refine ⟨(hp.rds.keep0 hA.kp).str.2, use (((hS78.keep k60).keep hA.kp).readi (i := 1) (by omega)) ?_⟩
        rintro _ w74 ⟨q, rfl, hq1, k74⟩
        exact ⟨q, rfl, ((hp.rds.keep0 hA.kp).keep0 k74).str.2, str (cont f x 1), hq1.rds.str, fin w60 w73 b _ hA k60 w74 k74⟩
    · intro b w81 hA
      refine use ((hS78.keep hA.kp).readi (i := 0) (by omega)) ?_
      rintro _ w82 ⟨p, rfl, hp, k82⟩
      refine ⟨p, rfl, str (cont f x 0), hp.rds.str, use (((hS78.keep hA.kp).keep k82).readi (i := 1) (by omega)) ?_⟩
      rintro _ w86 ⟨q, rfl, hq1, k86⟩
      exact ⟨q, rfl, (hp.rds.keep0 k86).str.2, str (cont f x 1), hq1.rds.str, fin w78 w81 b _ hA (Kp.refl _ _) w86 (k82.then0 k86)⟩
  rintro ev5 _ w112 ⟨b, G2, rfl, hS2, hA2⟩
  clear hS1 hr1 hr2 hr1G
  refine ⟨fun v w' => ∃ (k st' : Nat) (G' : Nat → Prop), v = k ∧ k ≤ 4 ∧ SK w w' G' st' d f x j ∧ AG w' G2 r1 r2 b f x ∧ ∀ y, G2 y → G' y, fun v _ => 4 - v.toNat, ⟨_, rfl, 0, st1, G2, rfl, by omega, hS2, hA2, fun _ h => h⟩, ?_⟩
  rintro ev6 _ w117 ⟨k, st', G', rfl, hk4, hS3, hA3, hGG⟩
  refine use (Place_s times 4 w117 (by omega) (by omega)) ?_
  rintro _ _ ⟨rfl, rfl⟩
  obtain ⟨T, hT, hT4⟩ : ∃ T : Nat, times % 4 = T ∧ T < 4 := ⟨(times % 4).toNat, by omega, by omega⟩
  rw [hT]
  have hw1 : IntKind.i64.wrap (1 + (T : Int)) = 1 + T := by rw [IntKind.wrap_i64]; omega
  rw [wr1 k (by omega)]
  have hr2l := hA3.r2.len
  refine ⟨_, rfl, ?_⟩
  rw [hw1]
  refine (cond_d (fun c1 => ?_) (fun c1 => cond_t (beq_t ?_) (aw6 hS3.kp)))
  · refine use (again_s hS3 hok (by omega)) ?_
    rintro _ w121 ⟨st4, p1, p2, G4, rfl, hS4, k121, hG4, hp1, hp1G, hp2⟩
    refine ⟨(p1, p2, x.s, true), rfl, fun w124 hDr => cond_f rfl ?_⟩
    have hA4 := (hA3.keepG k121 hGG).keep0 hDr.kp
    replace hS4 := hS4.keep hDr.kp
    refine ⟨str x.snap, (hp1.keep0 hDr.kp).str, str x.snap, hA4.r1.str, cond_f (by rw [strEq_str]; simp) ?_⟩
    refine use (same6_s r2 p2 hA4.r2.rl (hp2.keep0 hDr.kp).rl (by omega)) ?_
    rintro _ w127 ⟨rfl, k127⟩
    replace hA4 := hA4.keep0 k127
    replace hS4 := hS4.keep k127
    refine ⟨_, rfl, cond_f (by simp) (cond_f (bne_f rfl) ?_)⟩
    refine ⟨⟨by omega, by omega⟩, _, ⟨rfl, cell0 hA4.blk rfl⟩, use (hS4.readi (i := 0) (by omega)) ?_⟩
    rintro _ w132 ⟨s1, rfl, hs1, k132⟩
    replace hA4 := hA4.keep0 k132
    replace hS4 := hS4.keep k132
    refine ⟨s1, rfl, cell0 hA4.blk rfl, str (cont f x 0), hs1.rds.str, cond_f (by rw [strEq_str]; simp) ?_⟩
    refine ⟨⟨by omega, by omega⟩, _, ⟨rfl, cell1 hA4.blk rfl⟩, use (hS4.readi (i := 1) (by omega)) ?_⟩
    rintro _ w138 ⟨s2, rfl, hs2, k138⟩
    replace hA4 := hA4.keep0 k138
    replace hS4 := hS4.keep k138
    exact ⟨s2, rfl, cell1 hA4.blk rfl, str (cont f x 1), hs2.rds.str, cond_f (by rw [strEq_str]; simp) ⟨_, rfl, ⟨k + 1, st4, G4, rfl, by omega, hS4, hA4, fun y hy => hG4 y (hGG y hy)⟩, by simp only [Int.toNat_natCast]; omega⟩⟩
  · rw [IntKind.wrap_i64]; dsimp only; omega)
theorem StoreAgain_walk (s : Sl) (L : List M.skeplaw06_Step) (t : Int) (w : World) (_ : s.len ≤ s.cap ∧ s.cap ≤ maxLen) (h : IsL w 3 S.skeplaw06_Step.v (Is.skeplaw06_Step w) s L) (hq : ∀ x ∈ L, Wf.skeplaw06_Step x) (ht : (Lit.int .i64 t).wf = true) :
    Calls Try.prog 5 #[.slice s.a s.len s.cap, .int .i64 t] w fun e w' => e = .returned (.bool true) ∧ Below w.heap.size w w' := ret_true (StoreAgain_s s t (wf64 ht) w h hq)
end Go.Proofs.Ytfgepillnemolaa
