/- The law StoreKeeps, walked. No conditions. -/
import Derived.Test.YtfgepillnemolaaStW
namespace Go.Proofs.Ytfgepillnemolaa
open Go.RowKit Go.Eng
set_option linter.unusedVariables false
set_option linter.unusedSimpArgs false
theorem step_get {w : World} {life : Sl} {L : List M.skeplaw06_Step} (h : IsL w 3 S.skeplaw06_Step.v (Is.skeplaw06_Step w) life L) (hq : ∀ x ∈ L, Wf.skeplaw06_Step x) {i : Nat} (hi : i < L.length) :
    ∃ (a : Addr) (z : S.skeplaw06_Step) (Ls : List Bs) (Sn : Bs), life.a = some a ∧ (∀ w', Kp [] w w' → w'.cell? (a.add (i * 3)) = some (slv z.L) ∧ w'.cell? ((a.add (i * 3)).add 1) = some (.int .i64 z.Then) ∧ w'.cell? ((a.add (i * 3)).add 2) = some (slv z.Snap)) ∧ RL w z.L Ls ∧ RdB w z.Snap Sn := by
  obtain ⟨a, z, ha, hr, hz⟩ := h.get hi
  have hw := hq _ (List.getElem_mem hi)
  obtain ⟨z1, z2, z3⟩ := hz
  obtain ⟨w1, w2, w3⟩ := hw
  have hc : Go.Eng.World.has w (a.add (i * 3)) [slv z.L, .int .i64 z.Then, slv z.Snap] := hr
  refine ⟨a, z, _, _, ha, fun w' k => ?_, rl_of_isL z1 w1, rdb_of_rdl z3 w3⟩
  have hc' := has_keep hc k (by simp)
  refine ⟨?_, hc' 1 _ rfl, hc' 2 _ rfl⟩
  have := hc' 0 _ rfl
  rwa [add_add', Nat.add_zero] at this
def KP (w w' : World) (all : Sl) (sure from_ : Int) (snap : ByteArray) (st d : Nat) (i n : Nat) : Prop := ∃ (All : List Bs) (f j : Nat) (x : Lg) (G : Nat → Prop), sure = x.s + j ∧ from_ = x.s ∧ snap = str x.snap ∧ AL w' w G st all All ∧ SK w w' G st d f x j ∧ Fit x All i n
theorem KP.more {w w' : World} {all : Sl} {sure from_ : Int} {snap : ByteArray} {st d i i' n n' : Nat} (h : KP w w' all sure from_ snap st d i n) (hi : i ≤ i') (hn : n ≤ n') : KP w w' all sure from_ snap st d i' n' := by
  obtain ⟨All, f, j, x, G, h1, h2, h3, h4, h5, h6⟩ := h
  exact ⟨All, f, j, x, G, h1, h2, h3, h4, h5, h6.more hi hn⟩
theorem KP.kp {w w' : World} {all : Sl} {sure from_ : Int} {snap : ByteArray} {st d i n : Nat} (h : KP w w' all sure from_ snap st d i n) : Kp [] w w' := by
  obtain ⟨All, f, j, x, G, h1, h2, h3, h4, h5, h6⟩ := h
  exact h5.kp
set_option maxHeartbeats 8000000 in
set_option maxRecDepth 20000 in
theorem StoreKeeps_s (life : Sl) (ca cb : Int) (hca : in64 ca) (hcb : in64 cb) {L : List M.skeplaw06_Step} (w : World) (hl : IsL w 3 S.skeplaw06_Step.v (Is.skeplaw06_Step w) life L) (hq : ∀ x ∈ L, Wf.skeplaw06_Step x) : C.skeplaw06_StoreKeeps life ca cb w (fun v w' => v = .bool true ∧ Kp [] w w') noP := skeplaw06_StoreKeeps_of (by
  unfold W.skeplaw06_StoreKeeps
  have hll := hl.len
  refine use (New_g w w (Kp.refl _ _)) ?_
  rintro _ w1 ⟨d, rfl, hD, k1⟩
  refine ⟨PD d, rfl, use (Start_k hD) ?_⟩
  rintro _ w4 ⟨st, q1, q2, G, rfl, hS, k4, -, hst, h1, h2⟩
  refine ⟨(PD st, q1, q2, 0), rfl, cond_f rfl (cond_f rfl ?_)⟩
  have kp0 : KP w w4 ⟨none, 0, 0⟩ 0 0 ByteArray.empty st d 0 0 := ⟨[], 0, 0, x0, G, rfl, rfl, rfl, AL.nil0 _ _ _ _, hS, ⟨Int.le_refl _, rfl, rfl, ⟨Int.le_refl _, Int.le_refl _⟩, Nat.le_refl _, by simp, Nat.zero_le _⟩⟩
  clear hS
  refine ⟨fun all sure from_ snap w' => KP w w' all sure from_ snap st d 10 80, ?_, ?_⟩
  · refine ⟨fun all sure from_ snap v w' => ∃ i : Nat, v = i ∧ i ≤ 10 ∧ i ≤ L.length ∧ KP w w' all sure from_ snap st d i (8 * i), fun _ _ _ _ v _ => L.length - v.toNat, ⟨⟨none, 0, 0⟩, rfl, _, rfl, _, rfl, _, rfl, _, rfl, 0, rfl, by omega, by omega, kp0⟩, ?_⟩
    rintro ev all sure from_ snap _ w20 ⟨i, rfl, hi10, hiL, hK⟩
    refine cond_d (fun c1 => cond_d (fun c2 => ?_) (fun c2 => ⟨_, rfl, _, rfl, _, rfl, _, rfl, hK.more (by omega) (by omega)⟩)) (fun c1 => ⟨_, rfl, _, rfl, _, rfl, _, rfl, hK.more (by omega) (by omega)⟩)
    have hi2 : i < L.length := by omega
    obtain ⟨a, z, Ls, Sn, ea, hcells, hLs, hSn⟩ := step_get hl hq hi2
    have hLl := hLs.len
    have hSl := hSn.bsize
    have c0 := c1
    refine ⟨fun all' w' => KP w w' all' sure from_ snap st d i (8 * i + 8), ?_, ?_⟩
    · refine ⟨fun all' v w' => ∃ k : Nat, v = k ∧ k ≤ 8 ∧ k ≤ Ls.length ∧ KP w w' all' sure from_ snap st d i (8 * i + k), fun _ v _ => Ls.length - v.toNat, ⟨_, rfl, _, rfl, 0, rfl, by omega, by omega, hK⟩, ?_⟩
      rintro ev2 all' _ w28 ⟨k, rfl, hk8, hkL, hK⟩
      rw [Int.toNat_natCast]
      have kk := hK.kp
      refine ⟨⟨by omega, c0⟩, ws ea ⟨z.L, ⟨rfl, (hcells w28 kk).1⟩, cond_d (fun c1 => cond_d (fun c2 => ?_) (fun c2 => ⟨_, rfl, hK.more (by omega) (by omega)⟩)) (fun c1 => ⟨_, rfl, hK.more (by omega) (by omega)⟩)⟩⟩
      have hk2 : k < Ls.length := by omega
      obtain ⟨a2, y, ea2, hy, hyb⟩ := (hLs.keep0 kk).get hk2
      have hyl := hyb.bsize
      rw [Int.toNat_natCast, wr1 k (by omega)]
      refine ⟨⟨by omega, c0⟩, ws ea ⟨z.L, ⟨rfl, (hcells w28 kk).1⟩, ⟨by omega, by omega⟩, ws ea2 ⟨y, ⟨rfl, hy⟩, cond_d (fun c3 => aw6 kk) (fun c3 => ⟨⟨by omega, c0⟩, ws ea ⟨z.L, ⟨rfl, (hcells w28 kk).1⟩, ⟨by omega, by omega⟩, ws ea2 ⟨y, ⟨rfl, hy⟩, use (CopyBytes_s y hyb (by omega)) ?_⟩⟩⟩)⟩⟩⟩
      rintro _ w42 ⟨p, rfl, hp, k42⟩
      obtain ⟨All, f, j, x, G', e1, e2, e3, hAL, hSK, hF⟩ := hK
      have hal := hAL.len
      have hFn := hF.len
      have hFl := hF.l
      have hFs := hF.s0
      have hend := hF.end (by omega)
      have hwl : IntKind.i64.wrap ((all'.len : Int) + 1) = x.s + x.es.length + 1 := by rw [IntKind.wrap_i64]; omega
      rw [hwl]
      refine ⟨p, rfl, use ((hSK.keep k42).app rfl hp.rds (by omega) (by omega) (by omega)) ?_⟩
      rintro _ w45 ⟨rfl, hSK2, k45⟩
      have hAL2 := (hAL.keep0 k42).keepS k45
      have kk45 := hSK2.kp
      obtain ⟨a3, y3, ea3, hy3, hyb3⟩ := (hLs.keep0 kk45).get hk2
      obtain ⟨a4, y4, ea4, hy4, hyb4⟩ := hLs.get hk2
      have e43 : a3 = a4 := by rw [ea3] at ea4; injection ea4
      subst e43
      have hy4' := cell_keep hy4 kk45 (by simp)
      refine ⟨0, rfl, cond_f rfl ⟨⟨by omega, c0⟩, ws ea ⟨z.L, ⟨rfl, (hcells w45 kk45).1⟩, ⟨by omega, by omega⟩, ws ea3 ⟨y4, ⟨rfl, hy4'⟩, fun b52 w53 hA52 => ?_⟩⟩⟩⟩
      obtain ⟨q, n, c, w57, hrun, hAL3, hSK3, -⟩ := hAL2.push (ty := 22) hSK2 hyb4 (by omega) hA52
      exact ⟨q, n, c, w57, hrun, ⟨q, n, c⟩, rfl, _, rfl, ⟨k + 1, rfl, by omega, hk2, All ++ [Ls[k]], f, j, x.add Ls[k], _, e1, e2, e3, hAL3, hSK3, hF.add (by omega)⟩, by simp only [Int.toNat_natCast]; omega⟩
    rintro ev3 all' w63 hK
    have kk := hK.kp
    rw [Int.toNat_natCast, wr1 i (by omega)]
    refine ⟨⟨by omega, c0⟩, ws ea ⟨z.Then, ⟨rfl, (hcells w63 kk).2.1⟩, ?_⟩⟩
    refine use (Place_s z.Then 3 w63 (by omega) (by omega)) ?_
    rintro _ _ ⟨rfl, rfl⟩
    obtain ⟨All, f, j, x, G', e1, e2, e3, hAL, hSK, hF⟩ := hK
    have hal := hAL.len
    have hFn := hF.len
    have hFl := hF.l
    have hFs := hF.s0
    have hFg := hF.g
    have hend := hF.end (by omega)
    have dec : L.length - ((i + 1 : Nat) : Int).toNat < L.length - (i : Int).toNat := by simp only [Int.toNat_natCast]; omega
    refine ⟨_, rfl, cond_e (fun c3 => ?_) (fun c3 => cond_e (fun c4 => ?_) (fun c4 => ?_))⟩
    · refine use hSK.sync ?_
      rintro _ w69 ⟨rfl, hSK2, k69⟩
      exact ⟨0, rfl, cond_f rfl ⟨all', rfl, _, rfl, _, rfl, _, rfl, _, rfl, ⟨i + 1, rfl, by omega, hi2, All, f, x.es.length, x, G', by omega, e2, e3, hAL.keepS k69, hSK2, hF.more (by omega) (by omega)⟩, dec⟩⟩
    · refine ⟨⟨by omega, c0⟩, ws ea ⟨z.Snap, ⟨rfl, (hcells w63 kk).2.2⟩, cond_d (fun c5 => aw6 kk) (fun c5 => ⟨⟨by omega, c0⟩, ws ea ⟨z.Snap, ⟨rfl, (hcells w63 kk).2.2⟩, use (CopyBytes_s z.Snap (hSn.keep0 kk) (by omega)) ?_⟩⟩)⟩⟩
      rintro _ w84 ⟨p, rfl, hp, k84⟩
      refine ⟨p, rfl, use ((hSK.keep k84).check hp.rds (by omega) ⟨by omega, by omega⟩ (by omega) (by omega)) ?_⟩
      rintro _ w87 ⟨rfl, hSK2, k87⟩
      have kk87 := hSK2.kp
      refine ⟨0, rfl, cond_f rfl ⟨⟨by omega, c0⟩, ws ea ⟨z.Snap, ⟨rfl, (hcells w87 kk87).2.2⟩, str Sn, (hSn.keep0 kk87).str, all', rfl, _, rfl, _, rfl, _, rfl, _, rfl, ⟨i + 1, rfl, by omega, hi2, All, 1 - f, 0, _, G', ?_, ?_, rfl, (hAL.keep0 k84).keepS k87, hSK2, (hF.check (by omega)).more (Nat.le_refl _) (by omega)⟩, dec⟩⟩⟩
      · show (all'.len : Int) = x.s + x.es.length + ((0 : Nat) : Int); omega
      · show (all'.len : Int) = x.s + x.es.length; omega
    · exact ⟨all', rfl, _, rfl, _, rfl, _, rfl, _, rfl, ⟨i + 1, rfl, by omega, hi2, All, f, j, x, G', e1, e2, e3, hAL, hSK, hF.more (by omega) (by omega)⟩, dec⟩
  rintro ev4 all sure from_ snap w115 ⟨All, f, j, x, G', rfl, rfl, rfl, hAL, hSK, hF⟩
  have hal := hAL.len
  have hFn := hF.len
  have hFl := hF.l
  have hFs := hF.s0
  have hFg := hF.g
  have hend := hF.end (by omega)
  obtain ⟨m, Lg0, hSW, hKI⟩ := hSK.ex
  refine use (Crash_g ca cb hca hcb hSW.dg (fun i hi => by have := hKI.units i hi; omega)) ?_
  rintro _ w116 ⟨dn, rfl, hDn, k116⟩
  obtain ⟨k, hjk, hkx, ⟨t, ht, hrt⟩, hoth⟩ := hKI.crash ca cb
  have hcl : (x.cut k).es.length = k := by simp [Lg.cut]; omega
  refine ⟨PD dn, rfl, use (stold_s (y := x.cut k) hDn (fun i hi => Nat.zero_le _) hKI.f2 ht hrt hoth (fun s hs => hKI.ok s (by rw [x.recs_cut' hkx]; exact List.mem_append_left _ hs)) ⟨⟨hFg.1, by show x.g ≤ _; omega⟩, ⟨hFs, by show x.s ≤ _; omega⟩, by omega⟩) ?_⟩
  rintro _ w119 ⟨st2, r1, r2, G2, rfl, hSK2, k119, hGG, hr1, hr1G, hr2⟩
  have hr2l := hr2.len
  rw [hcl] at hr2l
  have kk : Kp [] w w119 := hSK2.kp
  obtain ⟨N, hN⟩ : ∃ N : Nat, x.s = N := ⟨x.s.toNat, by omega⟩
  have hw1 : IntKind.i64.wrap (x.s + (r2.len : Int)) = ((N + k : Nat) : Int) := by rw [IntKind.wrap_i64]; omega
  have hAL2 := (hAL.keep0 k116).keepS (KS.of (st := st) k119)
  have hrl := hAL2.rl kk
  have e1 : (x.cut k).s = x.s := rfl
  rw [e1]
  refine ⟨(r1, r2, x.s, true), rfl, cond_f rfl ⟨str x.snap, hr1.str, cond_f (by rw [strEq_str]; simp) (cond_f (bne_f rfl) ?_)⟩⟩
  dsimp only
  rw [hw1]
  refine cond_d (fun hc => absurd hc (by omega)) (fun _ => cond_d (fun hc => absurd hc (by omega)) (fun _ => ?_))
  rw [hN] at hFn
  have hfrom := rl_from hrl hal.2 (n := N) (m := N + k) (by omega) (by omega) (all.cap - N)
  have hel : (All.drop N).take (N + k - N) = (x.cut k).es := by
    have := hF.es
    rw [hN, Int.toNat_natCast] at this
    rw [← this]
    show x.es.take (N + k - N) = x.es.take k
    congr 1
    omega
  rw [hel] at hfrom
  rw [hN]
  simp only [Int.toNat_natCast]
  refine ⟨⟨by omega, by have := hal.2; omega⟩, ⟨by omega, by omega⟩, ?_⟩
  refine use (same6_s r2 _ hr2.rl hfrom (by omega)) ?_
  rintro _ w123 ⟨rfl, k123⟩
  exact ⟨_, rfl, cond_t (by simp) (aw6 (kk.then0 k123))⟩)
theorem StoreKeeps_walk (s : Sl) (L : List M.skeplaw06_Step) (a b : Int) (w : World) (_ : s.len ≤ s.cap ∧ s.cap ≤ maxLen) (h : IsL w 3 S.skeplaw06_Step.v (Is.skeplaw06_Step w) s L) (hq : ∀ x ∈ L, Wf.skeplaw06_Step x) (ha : (Lit.int .i64 a).wf = true) (hb : (Lit.int .i64 b).wf = true) :
    Calls Try.prog 6 #[.slice s.a s.len s.cap, .int .i64 a, .int .i64 b] w fun e w' => e = .returned (.bool true) ∧ Below w.heap.size w w' := ret_true (StoreKeeps_s s a b (wf64 ha) (wf64 hb) w h hq)
end Go.Proofs.Ytfgepillnemolaa
