/- Both stores, side by side: opened, called, compared. No conditions. -/
import Derived.Test.YtfgepillnemolaaStJ
namespace Go.Proofs.Ytfgepillnemolaa
open Go.RowKit Go.Eng
set_option linter.unusedVariables false
set_option linter.unusedSimpArgs false
/-- Blocks of the other side are written. -/
theorem DG.grF {w0 w w' : World} {G P : Nat → Prop} {d : Nat} {m : Nat → Fm} (h : DG w0 w G d m) (k : KpF P w w') (hP : ∀ x, P x → G x ∧ w0.heap.size ≤ x) : DG w0 w' (fun x => G x ∨ New w w' x) d m := by
  obtain ⟨⟨F, hd, hF, hn⟩, hlt, k0⟩ := h
  refine ⟨⟨F, hd.keepF k (fun x hx hp => hn x hx (hP x hp).1), hF, ?_⟩, ?_, ((k0.toF (F := P) (by simp)).then k (fun x hx => .inl hx)).kp (fun x hx => (hP x hx).2)⟩
  · rintro x hx (hg | hg)
    · exact hn x hx hg
    · have := hd.lt x hx; have := hg.1; omega
  · rintro x (hg | hg)
    · exact Nat.lt_of_lt_of_le (hlt x hg) k.size
    · exact hg.2
theorem SW.grF {w0 w w' : World} {G P : Nat → Prop} {st d : Nat} {L : Nat × Nat} {sm : Sm} {m : Nat → Fm} (h : SW w0 w G st d L sm m) (k : KpF P w w') (hP : ∀ x, P x → G x ∧ w0.heap.size ≤ x) (hst : ¬ P st ∧ ¬ P L.1 ∧ ¬ P L.2) : SW w0 w' (fun x => G x ∨ New w w' x) st d L sm m := by
  obtain ⟨h1, h2, h3⟩ := h
  exact ⟨h1.grF k hP, ⟨h2.b.keepF k hst.1, Blk.keepF h2.l0 k hst.2.1, Blk.keepF h2.l1 k hst.2.2, ⟨.inl h2.g.1, .inl h2.g.2.1, .inl h2.g.2.2⟩, h2.ne, h2.f⟩, h3⟩
/-- Both sides, and the block that holds them. -/
structure JX (w0 w : World) (G H : Nat → Prop) (st d : Nat) (L : Nat × Nat) (t rd o : Nat) (sm : Sm) (m : Nat → Fm) : Prop where
  sw : SW w0 w G st d L sm m
  r : RDiskIs w H rd (rofs m)
  tb : Blk w t (tC rd sm)
  ob : Blk w o [.pointer (PD d), .pointer (PD st), .pointer (PD t)]
  hH : ∀ y, H y → (G y ∧ w0.heap.size ≤ y) ∧ y ≠ st ∧ y ≠ L.1 ∧ y ≠ L.2 ∧ y ≠ t ∧ y ≠ o
  ht : (G t ∧ w0.heap.size ≤ t) ∧ t ≠ st ∧ t ≠ L.1 ∧ t ≠ L.2
  ho : G o ∧ o ≠ st ∧ o ≠ t
theorem JX.kp {w0 w : World} {G H : Nat → Prop} {st d t rd o : Nat} {L : Nat × Nat} {sm : Sm} {m : Nat → Fm} (h : JX w0 w G H st d L t rd o sm m) : Kp [] w0 w := h.sw.dg.kp
theorem JX.leads {w0 w : World} {G H : Nat → Prop} {st d t rd o : Nat} {L : Nat × Nat} {sm : Sm} {m : Nat → Fm} (h : JX w0 w G H st d L t rd o sm m) : LeadsM m := fun i hi => h.sw.dg.leads hi
theorem JX.keep {w0 w w' : World} {G H : Nat → Prop} {st d t rd o : Nat} {L : Nat × Nat} {sm : Sm} {m : Nat → Fm} (h : JX w0 w G H st d L t rd o sm m) (k : Kp [] w w') : JX w0 w' G H st d L t rd o sm m :=
  ⟨h.sw.keep k, h.r.keep0 k, h.tb.keep k (by simp), h.ob.keep k (by simp), h.hH, h.ht, h.ho⟩
theorem JX.grow {w0 w w' : World} {G H : Nat → Prop} {st d t rd o : Nat} {L : Nat × Nat} {sm : Sm} {m : Nat → Fm} (h : JX w0 w G H st d L t rd o sm m) (k : Kp [] w w') : JX w0 w' (fun x => G x ∨ New w w' x) H st d L t rd o sm m :=
  ⟨h.sw.grow k, h.r.keep0 k, h.tb.keep k (by simp), h.ob.keep k (by simp), fun y hy => ⟨⟨.inl (h.hH y hy).1.1, (h.hH y hy).1.2⟩, (h.hH y hy).2⟩, ⟨⟨.inl h.ht.1.1, h.ht.1.2⟩, h.ht.2⟩, ⟨.inl h.ho.1, h.ho.2⟩⟩
/-- The code's call, then the document's. -/
theorem JX.both {w0 w w1 w2 : World} {G H H' : Nat → Prop} {st d t rd o : Nat} {L : Nat × Nat} {sm sm' : Sm} {m m' : Nat → Fm} (h : JX w0 w G H st d L t rd o sm m) (h1 : SW w0 w1 G st d L sm' m') (k1 : KS G st w w1) (hX : RX w1 w2 H H' t rd sm' m') : JX w0 w2 (fun x => G x ∨ New w1 w2 x) H' st d L t rd o sm' m' := by
  have hlt := h1.dg.lt
  have ng : ∀ y, G y → ¬ New w1 w2 y := fun y hy hn => by have := hlt y hy; have := hn.1; omega
  have nst := ng st h1.is.g.1
  have nl1 := ng L.1 h1.is.g.2.1
  have nl2 := ng L.2 h1.is.g.2.2
  have nt := ng t h.ht.1.1
  have no := ng o h.ho.1
  have s0 := h1.dg.kp.size
  refine ⟨h1.grF hX.k (fun x hx => ?_) ⟨?_, ?_, ?_⟩, hX.is, hX.b, (h.ob.keepF k1 (fun hn => hn.elim (fun hn => hn h.ho.1) h.ho.2.1)).keepF hX.k ?_, fun y hy => ?_, ⟨⟨.inl h.ht.1.1, h.ht.1.2⟩, h.ht.2⟩, ⟨.inl h.ho.1, h.ho.2⟩⟩
  · rcases hx with hx | rfl
    · exact (h.hH x hx).1
    · exact h.ht.1
  · rintro (hx | e)
    · exact (h.hH st hx).2.1 rfl
    · exact h.ht.2.1 e.symm
  · rintro (hx | e)
    · exact (h.hH _ hx).2.2.1 rfl
    · exact h.ht.2.2.1 e.symm
  · rintro (hx | e)
    · exact (h.hH _ hx).2.2.2.1 rfl
    · exact h.ht.2.2.2 e.symm
  · rintro (hx | e)
    · exact (h.hH _ hx).2.2.2.2.2 rfl
    · exact h.ho.2.2 e
  · rcases hX.ev y hy with hx | hx
    · obtain ⟨⟨a1, a2⟩, a3⟩ := h.hH y hx
      exact ⟨⟨.inl a1, a2⟩, a3⟩
    · exact ⟨⟨.inr hx, by have := hx.1; omega⟩, fun e => nst (e ▸ hx), fun e => nl1 (e ▸ hx), fun e => nl2 (e ▸ hx), fun e => nt (e ▸ hx), fun e => no (e ▸ hx)⟩
/-- The document's side behind the code's call. -/
theorem JX.mid {w0 w w1 : World} {G H : Nat → Prop} {st d t rd o : Nat} {L : Nat × Nat} {sm : Sm} {m : Nat → Fm} (h : JX w0 w G H st d L t rd o sm m) (k1 : KS G st w w1) : RDiskIs w1 H rd (rofs m) ∧ Blk w1 t (tC rd sm) ∧ ¬ H t ∧ Blk w1 o [.pointer (PD d), .pointer (PD st), .pointer (PD t)] :=
  ⟨h.r.keepF k1 (fun x hx hn => hn.elim (fun hn => hn (h.hH x hx).1.1) (h.hH x hx).2.1), h.tb.keepF k1 (fun hn => hn.elim (fun hn => hn h.ht.1.1) h.ht.2.1), fun hx => (h.hH t hx).2.2.2.2.1 rfl, h.ob.keepF k1 (fun hn => hn.elim (fun hn => hn h.ho.1) h.ho.2.1)⟩
/-- Behind some calls: both have x. -/
def JO (w0 w : World) (o : Nat) (x : Lg) : Prop := ∃ (G H : Nat → Prop) (st d : Nat) (L : Nat × Nat) (t rd f j : Nat) (m : Nat → Fm), JX w0 w G H st d L t rd o (smOf f x) m ∧ KI m f x j
theorem JO.keep {w0 w w' : World} {o : Nat} {x : Lg} (h : JO w0 w o x) (k : Kp [] w w') : JO w0 w' o x := by
  obtain ⟨G, H, st, d, L, t, rd, f, j, m, h1, h2⟩ := h
  exact ⟨G, H, st, d, L, t, rd, f, j, m, h1.keep k, h2⟩
theorem JO.kp {w0 w : World} {o : Nat} {x : Lg} (h : JO w0 w o x) : Kp [] w0 w := by
  obtain ⟨G, H, st, d, L, t, rd, f, j, m, h1, h2⟩ := h
  exact h1.kp
/-- How much there can be. -/
structure BB (x : Lg) (i : Nat) : Prop where
  g : 1 ≤ x.g ∧ x.g ≤ 1 + i
  s : 0 ≤ x.s
  n : x.s + x.es.length ≤ i
  e : endL x.recs ≤ 100 + 2100 * i
theorem BB.more {x : Lg} {i : Nat} (h : BB x i) : BB x (i + 1) := ⟨⟨h.g.1, by have := h.g.2; omega⟩, h.s, by have := h.n; omega, by have := h.e; omega⟩
theorem BB.add {x : Lg} {i : Nat} (h : BB x i) {b : Bs} (hb : b.length ≤ 2000) : BB (x.add b) (i + 1) := by
  have h1 := h.n
  have h2 := h.e
  have h3 := (ent_len (x.s + x.es.length + 1) b).2
  refine ⟨⟨h.g.1, by have := h.g.2; show x.g ≤ _; omega⟩, h.s, ?_, ?_⟩
  · show x.s + ((x.es ++ [b]).length : Nat) ≤ _
    simp
    omega
  · rw [endL_add]; omega
theorem BB.check {x : Lg} {i : Nat} (h : BB x i) {b : Bs} (hb : b.length ≤ 2000) : BB ⟨x.g + 1, x.s + x.es.length, b, []⟩ (i + 1) := by
  have h1 := h.n
  have h2 := h.g
  have h3 := h.s
  have p1 := putN_len (x.g + 1)
  have p2 := putN_len (x.s + x.es.length)
  refine ⟨⟨by show 1 ≤ x.g + 1; omega, by show x.g + 1 ≤ _; omega⟩, by show 0 ≤ x.s + x.es.length; omega, by show x.s + x.es.length + (([] : List Bs).length : Nat) ≤ _; simp; omega, ?_⟩
  show endL [hdB (x.g + 1) (x.s + x.es.length) b] ≤ _
  simp only [endL, hdB, List.length_append]
  omega
theorem BB.cut {x : Lg} {i k : Nat} (h : BB x i) (hk : k ≤ x.es.length) : BB (x.cut k) (i + 1) := by
  have h1 := h.n
  have h2 := h.e
  have h3 := congrArg endL (x.recs_cut' hk)
  rw [endL_app] at h3
  refine ⟨⟨h.g.1, by have := h.g.2; show x.g ≤ _; omega⟩, h.s, ?_, by omega⟩
  show x.s + ((x.es.take k).length : Nat) ≤ _
  rw [List.length_take]
  omega
theorem BB.ok {x : Lg} {i : Nat} (h : BB x i) (hi : i ≤ 1000) : okLg x := by
  have h1 := h.n
  have h2 := h.g
  have h3 := h.s
  exact ⟨⟨h2.1, by omega⟩, ⟨h3, by omega⟩, by omega⟩
theorem BB.u {m : Nat → Fm} {f j : Nat} {x : Lg} {i : Nat} (h : BB x i) (hi : i ≤ 1000) (hk : KI m f x j) : ∀ i, i < 2 → unitsL (m i).pend ≤ 3000000 := fun q hq => by
  have := hk.units q hq
  have := h.e
  omega
/-- Any append. -/
theorem app_all {m : Nat → Fm} {f j : Nat} {x : Lg} {i : Nat} (h : KI m f x j) (hb : BB x i) (hi : i ≤ 1000) (n : Int) {b : Bs} (hbl : b.length ≤ 2000) : ∃ c x' m', appS (smOf f x) m n b = (c, smOf f x', m') ∧ KI m' f x' j ∧ BB x' (i + 1) := by
  have he := hb.e
  by_cases e : n = x.s + x.es.length + 1
  · have h3 := ent_len (x.s + x.es.length + 1) b
    obtain ⟨m', e1, hk⟩ := h.app b ⟨by omega, by omega⟩ (by omega)
    rw [e]
    exact ⟨0, x.add b, m', e1, hk, hb.add hbl⟩
  · by_cases c1 : n < 1 ∨ x.s + x.es.length < n - 1
    · exact ⟨8, x, m, by unfold appS smOf; dsimp only; rw [if_pos c1], h, hb.more⟩
    · exact ⟨0, x, m, by unfold appS smOf; dsimp only; rw [if_neg c1, if_pos (by omega)], h, hb.more⟩
set_option maxHeartbeats 2000000 in
theorem open_s {w0 w : World} {G H : Nat → Prop} {d rd : Nat} {m : Nat → Fm} {a b : FL} {f j : Nat} {x : Lg} (hd : DG w0 w G d m) (hr : RDiskIs w H rd (rofs m)) (hH : ∀ k, H k → G k ∧ w0.heap.size ≤ k) (hu : ∀ i, i < 2 → unitsL (m i).pend ≤ 400000000) (ha : recs (m 0).now = recsOf a) (hb : recs (m 1).now = recsOf b) (oa : okFL a) (ob : okFL b) (hS : openS a b = smOf f x) (hK : KI (openK m a b) f x j) (hes : (openT a b).2.length ≤ 1000000) :
    C.skeplaw06_open (PD d) (PD rd) w (fun v w' => ∃ o, v = .tuple #[.pointer (PD o), .bool true] ∧ JO w0 w' o x) noP := skeplaw06_open_of (by
  unfold W.skeplaw06_open
  have hHlt := hr.lt
  have hL : LeadsM m := fun i hi => hd.leads hi
  refine use (Open_k hd (fun i hi => by have := hu i hi; omega) ha hb oa ob) ?_
  rintro _ w1 ⟨st, q1, q2, G', L, rfl, hSW, k1, hGG, ⟨hst, hl1, hl2⟩, hq1, _, hq2, f1, f2⟩
  have hr1 := hr.keepF k1 (fun y hy hn => hn (hH y hy).1)
  refine ⟨(PD st, q1, q2, 0), rfl, use (rOpen_s hr1 hL (fun i hi => by have := hu i hi; omega) ha hb oa ob) ?_⟩
  rintro _ w4 ⟨t, p1, p2, H', rfl, hRE, ht, hnt, htw, hp1, hp2⟩
  refine ⟨(PD t, p1, p2, true), rfl, cond_f rfl (cond_f rfl (cond_f rfl ?_))⟩
  have z1 := k1.size
  have z4 := hRE.k.size
  have z0 := hd.kp.size
  have hq1' := hq1.keepF hRE.k (fun y hy hh => by have := f1 y hy; have := hHlt y hh; omega)
  have hq2' := f2.keepF hRE.k (fun y hy hh => by have := hHlt y hh; omega)
  have hlt1 := hSW.dg.lt
  have bst := hlt1 st hSW.is.g.1
  have bl1 := hlt1 L.1 hSW.is.g.2.1
  have bl2 := hlt1 L.2 hSW.is.g.2.2
  have hSW4 := hSW.grF hRE.k (fun y hy => ⟨hGG y (hH y hy).1, (hH y hy).2⟩) ⟨fun hh => by have := hHlt _ hh; omega, fun hh => by have := hHlt _ hh; omega, fun hh => by have := hHlt _ hh; omega⟩
  refine ⟨str _, hq1'.str, str _, hp1.str, cond_f (by rw [strEq_str]; simp) ?_⟩
  refine use (same6_s q2 p2 hq2'.rl hp2 (by omega)) ?_
  rintro _ w9 ⟨rfl, k9⟩
  refine ⟨_, rfl, cond_f (by simp) (fun o w13 hA => ⟨o, rfl, ?_⟩)⟩
  have kk : Kp [] w4 w13 := k9.then0 hA.kp
  have so := hA.eq
  have z9 := k9.size
  have zk := kk.size
  have hX := hSW4.grow kk
  rw [hS] at hX ht
  have htlt := ht.lt
  have hevlt := hRE.is.lt
  have hev : ∀ y, H' y → (H y ∧ y < w.heap.size) ∨ New w1 w4 y := fun y hy => (hRE.ev y hy).imp (fun h => ⟨h, hHlt y h⟩) id
  refine ⟨_, H', st, d, L, t, rd, f, j, _, ⟨hX, hRE.is.keep0 kk, ht.keep kk (by simp), hA.blk, fun y hy => ?_, ⟨⟨?_, by omega⟩, by omega, by omega, by omega⟩, ⟨.inr ⟨by omega, by omega⟩, by omega, by omega⟩⟩, hK⟩
  · have a1 := hevlt y hy
    have a2 : y ≠ t := fun e => hnt (e ▸ hy)
    rcases hev y hy with ⟨h1, h2⟩ | h1
    · exact ⟨⟨.inl (.inl (hGG y (hH y h1).1)), (hH y h1).2⟩, by omega, by omega, by omega, a2, by omega⟩
    · have := h1.1
      exact ⟨⟨.inl (.inr h1), by omega⟩, by omega, by omega, by omega, a2, by omega⟩
  · exact .inl (.inr ⟨by omega, htlt⟩))
end Go.Proofs.Ytfgepillnemolaa
