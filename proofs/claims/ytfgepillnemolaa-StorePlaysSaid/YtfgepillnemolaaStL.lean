/- Both stores, side by side: compared; one call. No conditions. -/
import Derived.Test.YtfgepillnemolaaStK
namespace Go.Proofs.Ytfgepillnemolaa
open Go.RowKit Go.Eng
set_option linter.unusedVariables false
set_option linter.unusedSimpArgs false
theorem JX.oc {w0 w : World} {G H : Nat → Prop} {st d t rd o : Nat} {L : Nat × Nat} {sm : Sm} {m : Nat → Fm} (h : JX w0 w G H st d L t rd o sm m) : w.cell? ⟨o, 0, none⟩ = some (.pointer (PD d)) ∧ w.cell? (Addr.add ⟨o, 0, none⟩ 1) = some (.pointer (PD st)) ∧ w.cell? (Addr.add ⟨o, 0, none⟩ 2) = some (.pointer (PD t)) := ⟨h.ob.at rfl, h.ob.at rfl, h.ob.at rfl⟩
theorem JX.tc {w0 w : World} {G H : Nat → Prop} {st d t rd o : Nat} {L : Nat × Nat} {sm : Sm} {m : Nat → Fm} (h : JX w0 w G H st d L t rd o sm m) : w.cell? ⟨t, 0, none⟩ = some (.pointer (PD rd)) ∧ w.cell? (Addr.add ⟨t, 0, none⟩ 3) = some (.int .i64 sm.2.2.1) ∧ w.cell? (Addr.add ⟨t, 0, none⟩ 4) = some (.int .i64 sm.2.2.2) := ⟨h.tb.at rfl, h.tb.at rfl, h.tb.at rfl⟩
set_option maxHeartbeats 4000000 in
set_option maxRecDepth 20000 in
theorem alike_s {w0 w : World} {o i : Nat} {x : Lg} (h : JO w0 w o x) (hb : BB x i) (hi : i ≤ 1000) : C.skeplaw06_On_alike (PD o) w (fun v w' => v = .bool true ∧ Kp [] w w') noP := skeplaw06_On_alike_of (by
  unfold W.skeplaw06_On_alike
  obtain ⟨G, H, st, d, L, t, rd, f, j, m, hJ, hK⟩ := h
  have hu := hb.u hi hK
  have hu9 : uR m := fun i hi => by have := hu i hi; omega
  have hl := hJ.leads
  have hf := hK.f2
  intro w1 hD
  have k1 := hD.kp
  have j1 := hJ.keep k1
  refine ⟨_, ⟨rfl, j1.oc.2.1⟩, _, ⟨rfl, j1.oc.2.2⟩, _, ⟨rfl, j1.tc.2.2⟩, use (Last_s j1.sw) ?_⟩
  rintro _ _ ⟨rfl, rfl⟩
  refine ⟨_, rfl, j1.tc.2.2, j1.oc.2.2, cond_t (beq_t rfl) ⟨_, ⟨rfl, j1.oc.2.1⟩, _, ⟨rfl, j1.oc.2.2⟩, _, ⟨rfl, j1.tc.2.1⟩, use (From_s j1.sw) ?_⟩⟩
  rintro _ _ ⟨rfl, rfl⟩
  refine ⟨_, rfl, j1.tc.2.1, j1.oc.2.2, cond_t (beq_t rfl) ⟨_, ⟨rfl, j1.oc.2.1⟩, _, ⟨rfl, j1.oc.2.2⟩, use (SSize_s j1.sw) ?_⟩⟩
  rintro _ w24 ⟨rfl, k24⟩
  have j24 := j1.keep k24
  refine ⟨_, rfl, j24.oc.2.2, use (RSize_s j24.r hl j24.tb hu9 hf) ?_⟩
  rintro _ w27 ⟨rfl, k27⟩
  have j27 := j24.keep k27
  refine ⟨_, rfl, cond_t (beq_t rfl) ⟨_, ⟨rfl, j27.oc.1⟩, _, ⟨rfl, j27.oc.2.2⟩, _, ⟨rfl, j27.tc.1⟩, use (Read_g 0 j27.sw.dg) ?_⟩⟩
  rintro _ w36 ⟨q37, rfl, o37, k36⟩
  have j36 := j27.keep k36
  refine ⟨q37, rfl, j36.tc.1, j36.oc.2.2, str _, o37.rds.str, use (rRead_b 0 j36.r hl hu9) ?_⟩
  rintro _ w40 ⟨q41, rfl, o41, k40⟩
  have j40 := j36.keep k40
  refine ⟨q41, rfl, (o37.rds.keep0 k40).str.2, str _, o41.rds.str, cond_t (by rw [strEq_str]; simp) ⟨_, ⟨rfl, j40.oc.1⟩, _, ⟨rfl, j40.oc.2.2⟩, _, ⟨rfl, j40.tc.1⟩, use (Read_g 1 j40.sw.dg) ?_⟩⟩
  rintro _ w50 ⟨q51, rfl, o51, k50⟩
  have j50 := j40.keep k50
  refine ⟨q51, rfl, j50.tc.1, j50.oc.2.2, str _, o51.rds.str, use (rRead_b 1 j50.r hl hu9) ?_⟩
  rintro _ w54 ⟨q55, rfl, o55, k54⟩
  have j54 := j50.keep k54
  refine ⟨q55, rfl, (o51.rds.keep0 k54).str.2, str _, o55.rds.str, cond_t (by rw [strEq_str]; simp) ⟨_, ⟨rfl, j54.oc.1⟩, _, ⟨rfl, j54.oc.2.2⟩, _, ⟨rfl, j54.tc.1⟩, use (Pending_g 0 j54.sw.dg (fun i hi => hu9 i hi)) ?_⟩⟩
  rintro _ w64 ⟨rfl, k64⟩
  have j64 := j54.keep k64
  refine ⟨_, rfl, j64.tc.1, j64.oc.2.2, use (rPending_b 0 j64.r) ?_⟩
  rintro _ w67 ⟨rfl, k67⟩
  have j67 := j64.keep k67
  refine ⟨_, rfl, cond_t (beq_t rfl) ⟨_, ⟨rfl, j67.oc.1⟩, _, ⟨rfl, j67.oc.2.2⟩, _, ⟨rfl, j67.tc.1⟩, use (Pending_g 1 j67.sw.dg (fun i hi => hu9 i hi)) ?_⟩⟩
  rintro _ w76 ⟨rfl, k76⟩
  have j76 := j67.keep k76
  refine ⟨_, rfl, j76.tc.1, j76.oc.2.2, use (rPending_b 1 j76.r) ?_⟩
  rintro _ w79 ⟨rfl, k79⟩
  have kk : Kp [] w w79 := ((((((((k1.then0 k24).then0 k27).then0 k36).then0 k40).then0 k50).then0 k54).then0 k64).then0 k67).then0 (k76.then0 k79)
  exact ⟨_, rfl, by rw [beq_t rfl], kk⟩)
/-- One call. -/
def DO (w0 : World) (i : Nat) (v : Value) (w' : World) : Prop := ∃ o x, v = .tuple #[.pointer (PD o), .bool true] ∧ JO w0 w' o x ∧ BB x (i + 1)
set_option maxHeartbeats 4000000 in
set_option maxRecDepth 20000 in
theorem do_s {w0 w : World} {o i : Nat} {x : Lg} (h : JO w0 w o x) (hb : BB x i) (hi : i ≤ 900) {z : S.skeplaw06_Op} {mo : M.skeplaw06_Op} (hz : Is.skeplaw06_Op w0 z mo) (hq : Wf.skeplaw06_Op mo) (hB : z.B.len ≤ 2000) : C.skeplaw06_On_do (PD o) z w (DO w0 i) noP := skeplaw06_On_do_of (by
  unfold W.skeplaw06_On_do
  have hb0 := hb
  obtain ⟨eK, eN, eM, hzb⟩ := hz
  obtain ⟨qK, qN, qM, q8⟩ := hq
  have hN : in64 z.N := by rw [eN]; exact qN
  have hM : in64 z.M_ := by rw [eM]; exact qM
  obtain ⟨B, hBr⟩ : ∃ B, RdB w0 z.B B := ⟨_, rdb_of_rdl hzb q8⟩
  have hBl := hBr.bsize
  obtain ⟨G, H, st, d, L, t, rd, f, j, m, hJ, hK⟩ := h
  have hu := hb.u (by omega) hK
  have hl := hJ.leads
  have hf := hK.f2
  have hok := hb.ok (by omega)
  intro b1 w2 hA
  have s2 := hA.eq
  have hBk : Blk w2 b1 [.int .i64 z.Kind, .int .i64 z.N, .int .i64 z.M_, .slice z.B.a z.B.len z.B.cap] := hA.blk
  have kp0 := hJ.kp
  refine ⟨z.B, ⟨rfl, hBk.at rfl⟩, use (CopyBytes_s z.B ((hBr.keep0 kp0).keep0 hA.kp) (by omega)) ?_⟩
  rintro _ w4 ⟨p, rfl, hp, k4⟩
  have hpl := hp.rds.bsize
  have hBk4 := hBk.keep k4 (by simp)
  refine ⟨p, rfl, z.Kind, ⟨rfl, hBk4.at rfl⟩, ?_⟩
  refine use (Place_s z.Kind 5 w4 (by omega) (by omega)) ?_
  rintro _ _ ⟨rfl, rfl⟩
  have k04 := hA.kp.then0 k4
  have z0 := kp0.size
  have z4 := k4.size
  have hgst := hJ.sw.is.g.1
  have hltG := hJ.sw.dg.lt
  have bst := hltG st hgst
  -- at a world behind what only draws
  have atw : ∀ w5, Kp [] w4 w5 → JX w0 w5 (fun y => G y ∨ New w w5 y) H st d L t rd o (smOf f x) m ∧ Blk w5 b1 [.int .i64 z.Kind, .int .i64 z.N, .int .i64 z.M_, .slice z.B.a z.B.len z.B.cap] ∧ RdB w5 p B ∧ (∀ w6, KS (fun y => G y ∨ New w w5 y) st w5 w6 → Blk w6 b1 [.int .i64 z.Kind, .int .i64 z.N, .int .i64 z.M_, .slice z.B.a z.B.len z.B.cap]) := fun w5 k5 => by
    have hB5 := hBk4.keep k5 (by simp)
    have z5 := k5.size
    exact ⟨hJ.grow (k04.then0 k5), hB5, hp.rds.keep0 k5, fun w6 k6 => hB5.keepF k6 (fun hn => hn.elim (fun hn => hn (.inr ⟨by omega, by omega⟩)) (by omega))⟩
  have appd : ∀ (n : Int), in64 n → ∀ w5, Kp [] w4 w5 → C.store_Store_Append (PD st) n p w5 (fun r w6 => ∃ c x' m', r = .int .i64 c ∧ KI m' f x' j ∧ BB x' (i + 1) ∧ (JX w0 w5 (fun y => G y ∨ New w w5 y) H st d L t rd o (smOf f x) m ∧ SW w0 w6 (fun y => G y ∨ New w w5 y) st d L (smOf f x') m' ∧ KS (fun y => G y ∨ New w w5 y) st w5 w6) ∧ appS (smOf f x) m n B = (c, smOf f x', m')) noP := fun n hn w5 k5 => by
    obtain ⟨h5, _, hp5, _⟩ := atw w5 k5
    obtain ⟨c, x', m', e, hk', hb'⟩ := app_all hK hb (by omega) n (b := B) (by omega)
    refine use (SAppend_s h5.sw n hn hp5 (by omega) (fun i hi => by have := hu i hi; omega)) ?_
    rintro _ w6 ⟨rfl, hw, k6⟩
    rw [e] at hw ⊢
    exact ⟨c, x', m', rfl, hk', hb', ⟨h5, hw, k6⟩, rfl⟩
  have rapp : ∀ (n : Int), in64 n → ∀ w5 w6 c x' m', KI m' f x' j → BB x' (i + 1) → JX w0 w5 (fun y => G y ∨ New w w5 y) H st d L t rd o (smOf f x) m → SW w0 w6 (fun y => G y ∨ New w w5 y) st d L (smOf f x') m' → KS (fun y => G y ∨ New w w5 y) st w5 w6 → appS (smOf f x) m n B = (c, smOf f x', m') → C.skepref06_Store_Append (PD t) n z.B w6 (fun r w7 => ∃ p : Int, r = .int .i64 p ∧ DO w0 i (.tuple #[.pointer (PD o), .bool (c == p)]) w7) noP := fun n hn w5 w6 c x' m' hk' hb' h5 hw k6 e => by
    obtain ⟨m1, m2, m3, m4⟩ := h5.mid k6
    refine use (RApp_s m1 hl m2 m3 (fun i hi => by have := hu i hi; omega) n hn (hBr.keep0 hw.dg.kp) (by omega)) ?_
    rintro _ w7 ⟨rfl, H', hX⟩
    rw [e] at hX ⊢
    exact ⟨c, rfl, o, x', by simp, ⟨_, H', st, d, L, t, rd, f, j, m', h5.both hw k6 hX, hk'⟩, hb'⟩
  refine ⟨_, rfl, cond_e (fun c0 => ?_) (fun c0 => cond_e (fun c1 => ?_) (fun c1 => cond_e (fun c2 => ?_) (fun c2 => cond_e (fun c3 => ?_) (fun c3 => ?_))))⟩
  · -- append the next
    have j8 := hJ.keep k04
    refine ⟨_, ⟨rfl, j8.oc.2.2⟩, _, ⟨rfl, j8.tc.2.2⟩, fun w15 hD => ?_⟩
    obtain ⟨h5, hB5, _, hB6⟩ := atw w15 hD.kp
    refine ⟨_, ⟨rfl, h5.oc.2.1⟩, _, ⟨rfl, h5.oc.2.2⟩, z.B, ⟨rfl, hB5.at rfl⟩, ?_⟩
    have hn : in64 (IntKind.i64.wrap ((smOf f x).2.2.2 + 1)) := by rw [IntKind.wrap_i64]; constructor <;> omega
    refine use (appd _ hn w15 hD.kp) ?_
    rintro _ w21 ⟨c, x', m', rfl, hk', hb', ⟨h5', hw, k21⟩, e⟩
    exact ⟨c, rfl, (hB6 w21 k21).at rfl, (h5'.mid k21).2.2.2.at rfl, rapp _ hn w15 w21 c x' m' hk' hb' h5' hw k21 e⟩
  · -- append the number N
    intro w27 hD
    obtain ⟨h5, hB5, _, hB6⟩ := atw w27 hD.kp
    refine ⟨_, ⟨rfl, h5.oc.2.1⟩, z.N, ⟨rfl, hB5.at rfl⟩, _, ⟨rfl, h5.oc.2.2⟩, z.N, ⟨rfl, hB5.at rfl⟩, z.B, ⟨rfl, hB5.at rfl⟩, use (appd z.N hN w27 hD.kp) ?_⟩
    rintro _ w35 ⟨c, x', m', rfl, hk', hb', ⟨h5', hw, k21⟩, e⟩
    exact ⟨c, rfl, (hB6 w35 k21).at rfl, (hB6 w35 k21).at rfl, (h5'.mid k21).2.2.2.at rfl, rapp _ hN w27 w35 c x' m' hk' hb' h5' hw k21 e⟩
  · -- sync
    intro w41 hD
    obtain ⟨h5, hB5, _, hB6⟩ := atw w41 hD.kp
    refine ⟨_, ⟨rfl, h5.oc.2.1⟩, _, ⟨rfl, h5.oc.2.2⟩, use (SSync_s h5.sw) ?_⟩
    rintro _ w46 ⟨rfl, hw, k46x⟩
    have k46 := KS.of (st := st) k46x
    obtain ⟨m1, m2, m3, m4⟩ := h5.mid k46
    refine ⟨_, rfl, m4.at rfl, use (RSync_s m1 hl m2 m3 (fun i hi => by have := hu i hi; omega) hf) ?_⟩
    rintro _ w49 ⟨rfl, H', hX⟩
    exact ⟨_, rfl, o, x, by simp, ⟨_, H', st, d, L, t, rd, f, _, _, h5.both hw k46 hX, hK.sync⟩, hb.more⟩
  · -- a checkpoint
    intro w52 hD
    obtain ⟨h5, hB5, hp5, hB6⟩ := atw w52 hD.kp
    have hg := hb.g
    have hs := hb.s
    have hnn := hb.n
    have p1 := putN_len (x.g + 1)
    have p2 := putN_len (x.s + x.es.length)
    obtain ⟨m', e, hk'⟩ := hK.check B (by simp only [hdB, List.length_append]; omega)
    have i1 : in64 ((smOf f x).2.1 + 1) := ⟨by show -9223372036854775808 ≤ x.g + 1; omega, by show x.g + 1 ≤ 9223372036854775807; omega⟩
    have i2 : in64 (smOf f x).2.2.2 := ⟨by show -9223372036854775808 ≤ x.s + x.es.length; omega, by show x.s + x.es.length ≤ 9223372036854775807; omega⟩
    refine ⟨_, ⟨rfl, h5.oc.2.1⟩, _, ⟨rfl, h5.oc.2.2⟩, z.B, ⟨rfl, hB5.at rfl⟩, use (SCheck_s h5.sw hp5 (by omega) i1 i2 (fun i hi => by have := hu i hi; omega)) ?_⟩
    rintro _ w58 ⟨rfl, hw, k58⟩
    rw [e] at hw ⊢
    obtain ⟨m1, m2, m3, m4⟩ := h5.mid k58
    refine ⟨_, rfl, (hB6 w58 k58).at rfl, m4.at rfl, use (RChk_s m1 hl m2 m3 (fun i hi => by have := hu i hi; omega) hf i1 i2 (hBr.keep0 hw.dg.kp) (by omega)) ?_⟩
    rintro _ w61 ⟨rfl, H', hX⟩
    rw [e] at hX ⊢
    exact ⟨_, rfl, o, _, by simp, ⟨_, H', st, d, L, t, rd, 1 - f, 0, m', h5.both hw k58 hX, hk'⟩, hb.check (by omega)⟩
  · -- a crash
    intro w64 hD
    obtain ⟨h5, hB5, _, _⟩ := atw w64 hD.kp
    refine ⟨_, ⟨rfl, h5.oc.1⟩, z.N, ⟨rfl, hB5.at rfl⟩, z.M_, ⟨rfl, hB5.at rfl⟩, _, ⟨rfl, h5.oc.2.2⟩, _, ⟨rfl, h5.tc.1⟩, z.N, ⟨rfl, hB5.at rfl⟩, z.M_, ⟨rfl, hB5.at rfl⟩, use (Crash_g z.N z.M_ hN hM h5.sw.dg (fun i hi => by have := hu i hi; omega)) ?_⟩
    rintro _ w75 ⟨dn, rfl, hDn, k75⟩
    have j75 := h5.keep k75
    have hB75 := hB5.keep k75 (by simp)
    refine ⟨PD dn, rfl, hB75.at rfl, hB75.at rfl, j75.tc.1, j75.oc.2.2, use (rCrash_s z.N z.M_ j75.r hl (fun i hi => by have := hu i hi; omega)) ?_⟩
    rintro _ w78 ⟨rn, H', rfl, hRn, hH', k78⟩
    have hRn' : RDiskIs w78 H' rn (rofs (crashM m z.N z.M_)) := hRn
    have hDn2 := hDn.grow k78
    obtain ⟨k, hjk, hkx, ⟨t', ht', hrt⟩, hoth⟩ := hK.crash z.N z.M_
    have hbc := hb.cut hkx
    have hokc := hbc.ok (by omega)
    obtain ⟨hki, e1, e2, r0, r1⟩ := KI.reopen hf ht' hrt hoth (fun s hs => hK.ok s (by rw [x.recs_cut' hkx]; exact List.mem_append_left _ hs)) hokc.2.1.1
    obtain ⟨oa, ob⟩ := okFL_A (f := f) hokc
    have z75 := j75.kp.size
    have hlt' := hRn'.lt
    refine ⟨PD rn, rfl, use (open_s hDn2 hRn' (fun y hy => ⟨.inr ⟨hH' y hy, hlt' y hy⟩, by have := hH' y hy; omega⟩) (fun i hi => Nat.zero_le _) r0 r1 oa ob e1 hki (by rw [e2]; have := hokc.2.2; have := hbc.n; have := hbc.s; dsimp only; omega)) ?_⟩
    rintro _ w81 ⟨o', rfl, hJO⟩
    exact ⟨(PD o', true), rfl, o', x.cut k, rfl, hJO, hbc⟩)
end Go.Proofs.Ytfgepillnemolaa
