/- The store's Check. No conditions. -/
import Derived.Test.YtfgepillnemolaaStA
namespace Go.Proofs.Ytfgepillnemolaa
open Go.RowKit Go.Eng
set_option linter.unusedVariables false
set_option linter.unusedSimpArgs false
theorem logMu (m : Nat → Fm) (f : Int) (s : Bs) (j : Nat) : unitsL (logM m f s j).pend ≤ unitsL (m j).pend + 65544 := by
  unfold logM
  split
  · rename_i h
    have h1 := appMf_at m f (recB s) j
    have h2 := recB_len s
    have h3 := h.2
    omega
  · omega
theorem cut0n (m : Nat → Fm) {o : Nat} (ho : o < 2) : (cutMf m o 0 o) = ⟨(m o).sure, [], (m o).pend ++ [.cut 0]⟩ := by
  rw [show (0 : Int) = ((0 : Nat) : Int) from rfl, cutMf_i m ho, fup_same]
  unfold cutF
  rw [if_neg (by omega)]
  rfl
theorem logE_0 {m : Nat → Fm} {o : Nat} (ho : o < 2) {s : Bs} (hn : (m o).now = []) (hs : okR s) : logE m o s = 0 := by
  unfold logE
  rw [if_pos hs, appEf_i m ho]
  exact appE_fits (by rw [hn, recB_len]; have := hs.2; simp only [List.length_nil]; omega)
theorem KG.less {G G' : Nat → Prop} {w w' : World} (h : KG G' w w') (hG : ∀ y, G y → G' y) : KG G w w' := ⟨h.os, h.tape, h.output, h.size, fun k hk hn => h.block k hk (fun hg => hn (fun hx => hg (hG k hx)))⟩
def chkS (sm : Sm) (m : Nat → Fm) (b : Bs) : Int × Sm × (Nat → Fm) :=
  if 65536 < (hdB (sm.2.1 + 1) sm.2.2.2 b).length then (1, sm, m) else
  (0, (1 - sm.1, sm.2.1 + 1, sm.2.2.2, sm.2.2.2), clr (syncMf (logM (cutMf m ((1 - sm.1 : Nat) : Int) 0) ((1 - sm.1 : Nat) : Int) (hdB (sm.2.1 + 1) sm.2.2.2 b)) ((1 - sm.1 : Nat) : Int)) sm.1)
set_option maxHeartbeats 4000000 in
theorem SCheck_s {w0 w : World} {G : Nat → Prop} {st d : Nat} {L : Nat × Nat} {sm : Sm} {m : Nat → Fm} (h : SW w0 w G st d L sm m) {p : Sl} {b : Bs} (hp : RdB w p b) (hb : b.length ≤ 100000000000) (hg64 : in64 (sm.2.1 + 1)) (hl64 : in64 sm.2.2.2) (hu : ∀ i, i < 2 → unitsL (m i).pend ≤ 500000000) :
    C.store_Store_Check (PD st) p w (fun v w' => v = .int .i64 (chkS sm m b).1 ∧ SW w0 w' G st d L (chkS sm m b).2.1 (chkS sm m b).2.2 ∧ KS G st w w') noP := store_Store_Check_of (by
  unfold W.store_Store_Check
  have hsw := h
  obtain ⟨h1, h2, h3⟩ := h
  have hpl := hp.bsize
  have hf := h2.f
  refine cond_f rfl ⟨⟨by omega, by omega⟩, PD L.1, ⟨rfl, h2.b.at rfl⟩, cond_f rfl fun w3 hD => ?_⟩
  have i3 := h2.keep hD.kp
  have hw1 : IntKind.i64.wrap (sm.2.1 + 1) = sm.2.1 + 1 := by rw [IntKind.wrap_i64]; omega
  refine ⟨_, ⟨rfl, i3.b.at rfl⟩, _, ⟨rfl, i3.b.at rfl⟩, ?_⟩
  rw [hw1]
  refine use (PutNumber_s (l := []) (sm.2.1 + 1) hg64 (Go.Eng.Own.nil w3 0 1).rds (by simp)) ?_
  rintro _ w8 ⟨q, rfl, o8, k8⟩
  rw [List.nil_append] at o8
  have hpn1 := (putN_len (sm.2.1 + 1)).2
  have hpn2 := (putN_len sm.2.2.2).2
  refine ⟨q, rfl, (i3.keep k8).b.at rfl, ?_⟩
  refine use (PutNumber_s sm.2.2.2 hl64 o8.rds (by omega)) ?_
  rintro _ w11 ⟨q2, rfl, o11, k11⟩
  refine ⟨q2, rfl, ?_⟩
  have k011 : Kp [] w w11 := (hD.kp.then0 k8).then0 k11
  obtain ⟨q14, n15, c16, w17, hrun, hn15, o17, k17, _⟩ := app_bytes (ty := 27) Try.underlying27 byte_inf o11 (hp.keep0 k011) (by have := k11.size; omega) (by rw [List.length_append]; omega)
  have k017 : Kp [] w w17 := k011.then k17 (fun y hy => .inr (by have := (o11.lo y hy).1; have := (hD.kp.then0 k8).size; omega))
  refine ⟨q14, n15, c16, w17, hrun, ?_⟩
  have hx : putN (sm.2.1 + 1) ++ putN sm.2.2.2 ++ b = hdB (sm.2.1 + 1) sm.2.2.2 b := by simp [hdB]
  rw [hx] at o17
  have hxl := o17.rds.bsize
  obtain ⟨X, hX⟩ : ∃ X, hdB (sm.2.1 + 1) sm.2.2.2 b = X := ⟨_, rfl⟩
  have hX1 : 1 ≤ X.length := by
    have := (putN_len (sm.2.1 + 1)).1
    rw [← hX]
    simp only [hdB, List.length_append]
    omega
  unfold chkS
  rw [hX] at o17 hxl ⊢
  dsimp only at hxl
  refine cond_d (fun c1 => ?_) (fun c1 w18 hD18 => ?_)
  · rw [if_pos (by omega)]
    exact ⟨rfl, hsw.keep k017, KS.of (k017.kg G)⟩
  rw [if_neg (by omega)]
  dsimp only
  have hok : okR X := ⟨hX1, by omega⟩
  have k018 := k017.then0 hD18.kp
  have i18 := h2.keep k018
  have hw2 : IntKind.i64.wrap (1 - (sm.1 : Int)) = ((1 - sm.1 : Nat) : Int) := by rw [IntKind.wrap_i64]; omega
  obtain ⟨o, ho⟩ : ∃ o, 1 - sm.1 = o := ⟨_, rfl⟩
  have ho2 : o < 2 := by omega
  obtain ⟨lg, hc, hl, hg, hne, hlg⟩ := i18.lg h2.f
  obtain ⟨lgo, hco, hlo, hgo, hneo, hlgo⟩ := i18.lg ho2
  refine ⟨_, ⟨rfl, i18.b.at rfl⟩, ⟨by omega, by omega⟩, PD lg, ⟨rfl, by rw [Int.toNat_natCast]; exact hc⟩, _, ⟨rfl, i18.b.at rfl⟩, ?_⟩
  rw [hw2, ho]
  refine ⟨⟨by omega, by omega⟩, PD lgo, ⟨rfl, by rw [Int.toNat_natCast]; exact hco⟩, ?_⟩
  have hG1 : ∀ y, G y → (G y ∨ New w w18 y) := fun y hy => .inl hy
  refine use (LErase_g (h1.grow k018) hlo (.inl hgo) (fun i hi => by have := hu i hi; omega)) ?_
  rintro _ w27 ⟨rfl, h27, k27x⟩
  have k27 := KG.less k27x hG1
  have i27 := i18.kg k27
  refine ⟨_, rfl, ?_⟩
  have hu27 : ∀ i, i < 2 → unitsL (cutMf m o 0 i).pend ≤ 500000001 := fun i hi => by have := cutMf_at m o 0 i; have := hu i hi; omega
  refine use (LAppend_g h27 (hlo.kg k27 hgo) (.inl hgo) (s := X) ((o17.rds.keep0 hD18.kp).keepF k27x (fun y hy hn => hn (.inr ⟨by have := (o17.lo y hy).1; have := (hD.kp.then0 k8).size; omega, by have := (o17.lo y hy).2; have := hD18.kp.size; omega⟩))) (fun i hi => by have := hu27 i hi; omega)) ?_
  rintro _ w30 ⟨rfl, h30x, k30x⟩
  have k30 := KG.less k30x hG1
  have h30 := h30x.mono hG1
  have hE : logE (cutMf m o 0) o X = 0 := logE_0 ho2 (by rw [cut0n m ho2]) hok
  rw [hE]
  refine ⟨_, rfl, cond_f rfl ?_⟩
  have i30 := i27.kg k30
  refine use (LSync_g h30 ((hlo.kg k27 hgo).kg k30 hgo) hgo) ?_
  rintro _ w33 ⟨rfl, h33, k33⟩
  have i33 := i30.kg k33
  refine ⟨_, rfl, fun w36 hD36 => ?_⟩
  have i36 := i33.keep hD36.kp
  refine ⟨_, ⟨rfl, i36.b.at rfl⟩, _, ⟨rfl, i36.b.at rfl⟩, _, ⟨rfl, i36.b.at rfl⟩, ?_⟩
  rw [hw2, hw1, ho]
  refine ⟨⟨rfl, i36.b.can1 (i := 2) _ rfl (Nat.le_of_ble_eq_true rfl)⟩, fun w44 e44 => ?_⟩
  obtain ⟨g1, k44, _⟩ := i36.b.put1 (i := 2) rfl e44
  refine ⟨⟨rfl, g1.can1 (i := 3) _ rfl (Nat.le_of_ble_eq_true rfl)⟩, fun w46 e46 => ?_⟩
  obtain ⟨g2, k46, _⟩ := g1.put1 (i := 3) rfl e46
  refine ⟨⟨rfl, g2.can1 (i := 4) _ rfl (Nat.le_of_ble_eq_true rfl)⟩, fun w48 e48 => ?_⟩
  obtain ⟨g3, k48, _⟩ := g2.put1 (i := 4) rfl e48
  have kp : Kp [st] w36 w48 := (k44.then k46 (by simp)).then k48 (by simp)
  have h48 := (h33.keep hD36.kp).write kp (by simp; exact ⟨i36.g.1, h3⟩)
  have i48 : StoreIs w48 G st L.1 L.2 d (o, sm.2.1 + 1, sm.2.2.2, sm.2.2.2) := ⟨g3, i36.l0.keep2 kp (by simpa using i36.ne.1.symm), i36.l1.keep2 kp (by simpa using i36.ne.2.symm), i36.g, i36.ne, ho2⟩
  obtain ⟨lg', hc', hl', hg', hne', hlg'⟩ := i48.lg h2.f
  have elg : lg' = lg := by rcases hlg with ⟨e1, rfl⟩ | ⟨e1, rfl⟩ <;> rcases hlg' with ⟨e2, rfl⟩ | ⟨e2, rfl⟩ <;> first | rfl | omega
  subst elg
  have hu33 : uK (syncMf (logM (cutMf m o 0) o X) o) := fun i hi => by have := syncMf_at (logM (cutMf m o 0) o X) o i; have := logMu (cutMf m o 0) o X i; have := hu27 i hi; omega
  refine use (LErase_g h48 hl' hg' hu33) ?_
  rintro _ w49 ⟨rfl, h49, k49⟩
  refine ⟨_, rfl, ?_⟩
  refine use (LSync_g h49 (hl'.kg k49 hg') hg') ?_
  rintro _ w52 ⟨rfl, h52, k52⟩
  exact ⟨_, rfl, rfl, ⟨h52, (i48.kg k49).kg k52, h3⟩, ((KS.of (((k018.kg G).kgThen k27).kgThen ((k30.kgThen k33).kgThen (hD36.kp.kg G)))).trans (KS.put kp)).trans (KS.of (k49.kgThen k52))⟩)
end Go.Proofs.Ytfgepillnemolaa
