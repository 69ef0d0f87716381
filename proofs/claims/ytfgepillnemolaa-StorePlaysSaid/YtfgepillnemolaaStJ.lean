/- The document's store is opened: the whole. No conditions. -/
import Derived.Test.YtfgepillnemolaaStI
namespace Go.Proofs.Ytfgepillnemolaa
open Go.RowKit Go.Eng
set_option linter.unusedVariables false
set_option linter.unusedSimpArgs false
theorem RE.own {w0 w w' : World} {H H' : Nat → Prop} {rd : Nat} {m : Nat → Fm} {l : List Nat} (h : RE w0 w H H' rd m) (k : Kp l w w') (hl : ∀ x ∈ l, w0.heap.size ≤ x ∧ ¬ H' x) : RE w0 w' H H' rd m := by
  have kf : KpF (fun x => x ∈ l) w w' := k.toF (fun x hx => .inl hx)
  exact ⟨h.is.keepF kf (fun x hx hm => (hl x hm).2 hx), fun x hx => (h.ev x hx).imp id fun h => ⟨h.1, Nat.lt_of_lt_of_le h.2 k.size⟩, h.k.then kf (fun x hx => .inr (hl x hx).1), h.l⟩
def flN (a b : FL) (j : Nat) : FL := if j = 0 then a else b
def mI (m : Nat → Fm) (i : Nat) : Nat → Fm := if i = 0 then m else if i = 1 then openM m 0 else open2 m
def bst (a b : FL) (i : Nat) : Option (Nat × Lg) := if i = 0 then none else if i = 1 then a.map fun x => (0, x) else pick a b
def stepB (o : Option (Nat × Lg)) (i : Nat) (x : Lg) : Option (Nat × Lg) := match o with
  | none => some (i, x)
  | some (f, z) => if z.g < x.g then some (i, x) else some (f, z)
theorem bst_none {a b : FL} {i : Nat} (hi : i < 2) (h : flN a b i = none) : bst a b (i + 1) = bst a b i := by
  have h01 : i = 0 ∨ i = 1 := by omega
  rcases h01 with rfl | rfl
  · have h : a = none := h
    subst h; rfl
  · have h : b = none := h
    subst h
    cases a <;> rfl
theorem bst_some {a b : FL} {i : Nat} (hi : i < 2) {x : Lg} (h : flN a b i = some x) : bst a b (i + 1) = stepB (bst a b i) i x := by
  have h01 : i = 0 ∨ i = 1 := by omega
  rcases h01 with rfl | rfl
  · have h : a = some x := h
    subst h; rfl
  · have h : b = some x := h
    subst h
    cases a <;> rfl
theorem mI_up (m : Nat → Fm) {i : Nat} (hi : i < 2) : openM (mI m i) i = mI m (i + 1) := by
  have h01 : i = 0 ∨ i = 1 := by omega
  rcases h01 with rfl | rfl <;> rfl
theorem mI_at (m : Nat → Fm) {i : Nat} (hi : i < 2) : mI m i i = m i := by
  have h01 : i = 0 ∨ i = 1 := by omega
  rcases h01 with rfl | rfl
  · rfl
  · exact openM_ne m (by omega) (by omega)
theorem mI_units (m : Nat → Fm) {K : Nat} (hu : ∀ i, i < 2 → unitsL (m i).pend ≤ K) (i : Nat) : ∀ j, j < 2 → unitsL (mI m i j).pend ≤ K := fun j hj => by
  unfold mI
  split
  · exact hu j hj
  · have h1 := fun j => openM_units m (f := 0) (by omega) j
    split
    · exact Nat.le_trans (h1 j) (hu j hj)
    · exact Nat.le_trans (openM_units (openM m 0) (f := 1) (by omega) j) (Nat.le_trans (h1 j) (hu j hj))
theorem qcell {w : World} {b1 : Nat} {qs : Nat → Sl} (h : Blk w b1 [slv (qs 0), slv (qs 1)]) {j : Nat} (hj : j < 2) : w.cell? (Addr.add ⟨b1, 0, none⟩ (j * 1)) = some (.slice (qs j).a (qs j).len (qs j).cap) := by
  have h01 : j = 0 ∨ j = 1 := by omega
  rcases h01 with rfl | rfl
  · exact h.at (i := 0) rfl
  · exact h.at (i := 1) rfl
def qset (qs : Nat → Sl) (i : Nat) (p : Sl) : Nat → Sl := fun j => if j = i then p else qs j
theorem qput {w : World} {b1 : Nat} {qs : Nat → Sl} (h : Blk w b1 [slv (qs 0), slv (qs 1)]) {j : Nat} (hj : j < 2) (p : Sl) : canPut w (Addr.add ⟨b1, 0, none⟩ (j * 1)) (.slice p.a p.len p.cap) ∧ ∀ w' : World, w' = putAt w (Addr.add ⟨b1, 0, none⟩ (j * 1)) (.slice p.a p.len p.cap) → Blk w' b1 [slv (qset qs j p 0), slv (qset qs j p 1)] ∧ Kp [b1] w w' := by
  have h01 : j = 0 ∨ j = 1 := by omega
  rcases h01 with rfl | rfl
  · refine ⟨h.can1 (i := 0) _ rfl (by simp), fun w' e => ?_⟩
    obtain ⟨g, k, _⟩ := h.put1 (i := 0) rfl e
    exact ⟨g, k⟩
  · refine ⟨h.can1 (i := 1) _ rfl (by simp), fun w' e => ?_⟩
    obtain ⟨g, k, _⟩ := h.put1 (i := 1) rfl e
    exact ⟨g, k⟩
theorem QJ.low {w : World} {lo lo' : Nat} {H : Nat → Prop} {q : Sl} {R : List Bs} (h : QJ w lo H q R) (hl : lo' ≤ lo) : QJ w lo' H q R := ⟨h.ls.mono2 hl (fun y hy _ => ⟨by have := hy.1; omega, hy.2⟩), h.n⟩
/-- The best head so far. -/
def BS (w : World) (lo : Nat) (H : Nat → Prop) (o : Option (Nat × Lg)) (best g s : Int) (sn : Sl) : Prop := match o with
  | none => best = -1
  | some (f, x) => best = f ∧ g = x.g ∧ s = x.s ∧ RdB w sn x.snap ∧ ∀ y ∈ blkOf sn, lo ≤ y ∧ y < w.heap.size ∧ ¬ H y
theorem BS.re {w w' : World} {lo rd : Nat} {H H' : Nat → Prop} {m : Nat → Fm} {o : Option (Nat × Lg)} {best g s : Int} {sn : Sl} (h : BS w lo H o best g s sn) (r : RE w w' H H' rd m) : BS w' lo H' o best g s sn := by
  cases o with
  | none => exact h
  | some fx =>
    obtain ⟨h1, h2, h3, h4, h5⟩ := h
    have sz := r.k.size
    exact ⟨h1, h2, h3, h4.keepF r.k (fun y hy => (h5 y hy).2.2), fun y hy => ⟨(h5 y hy).1, by have := (h5 y hy).2.1; omega, fun hH => (r.ev y hH).elim (h5 y hy).2.2 (fun hn => by have := (h5 y hy).2.1; have := hn.1; omega)⟩⟩
theorem BS.keepL {w w' : World} {lo : Nat} {H : Nat → Prop} {o : Option (Nat × Lg)} {best g s : Int} {sn : Sl} {l : List Nat} (h : BS w lo H o best g s sn) (k : Kp l w w') (hl : ∀ x ∈ l, x < lo ∨ w.heap.size ≤ x) : BS w' lo H o best g s sn := by
  cases o with
  | none => exact h
  | some fx =>
    obtain ⟨h1, h2, h3, h4, h5⟩ := h
    have sz := k.size
    have kf : KpF (fun x => x ∈ l) w w' := k.toF (fun x hx => .inl hx)
    exact ⟨h1, h2, h3, h4.keepF kf (fun y hy hm => by have := h5 y hy; rcases hl y hm with h | h <;> omega), fun y hy => ⟨(h5 y hy).1, by have := (h5 y hy).2.1; omega, (h5 y hy).2.2⟩⟩
/-- Behind i files. -/
def OI (w w2 w' : World) (H : Nat → Prop) (b1 rd : Nat) (a b : FL) (m : Nat → Fm) (i : Nat) (best g s : Int) (sn : Sl) : Prop := ∃ (H' : Nat → Prop) (qs : Nat → Sl), RE w w' H H' rd (mI m i) ∧ ¬ H' b1 ∧ Blk w' b1 [slv (qs 0), slv (qs 1)] ∧ (∀ j, j < i → QJ w' w2.heap.size H' (qs j) (recsOf (flN a b j))) ∧ BS w' w2.heap.size H' (bst a b i) best g s sn
theorem flN_ok {a b : FL} (oa : okFL a) (ob : okFL b) (i : Nat) : okFL (flN a b i) := by
  unfold flN
  split
  · exact oa
  · exact ob
theorem lg_put {x : Lg} (n : Nat) (hs : 0 ≤ x.s ∧ x.s ≤ 1125899906842624) (hn : n ≤ 1000000000) : in64 (x.s + n) := ⟨by omega, by omega⟩
set_option maxHeartbeats 8000000 in
set_option maxRecDepth 20000 in
theorem rOpen_s {H : Nat → Prop} {rd : Nat} {m : Nat → Fm} {w : World} (h : RDiskIs w H rd (rofs m)) (l : LeadsM m) (hu : ∀ i, i < 2 → unitsL (m i).pend ≤ 500000000) {a b : FL} (ha : recs (m 0).now = recsOf a) (hb : recs (m 1).now = recsOf b) (oa : okFL a) (ob : okFL b) :
    C.skepref06_Open (PD rd) w (fun v w' => ∃ (t : Nat) (q1 q2 : Sl) (H' : Nat → Prop), v = .tuple #[.pointer (PD t), .slice q1.a q1.len q1.cap, .slice q2.a q2.len q2.cap, .bool true] ∧ RE w w' H H' rd (openK m a b) ∧ Blk w' t (tC rd (openS a b)) ∧ ¬ H' t ∧ w.heap.size ≤ t ∧ RdB w' q1 (openT a b).1 ∧ RL w' q2 (openT a b).2) noP := skepref06_Open_of (by
  unfold W.skepref06_Open
  intro b1 w2 hA
  have s2 := hA.eq
  have hlt := h.lt
  have nb1 : ¬ H b1 := fun hH => by have := hlt b1 hH; omega
  have hsz : ∀ i, i < 2 → ∀ s ∈ recsOf (flN a b i), s.length ≤ 65536 := fun i hi s hs => by
    have h01 : i = 0 ∨ i = 1 := by omega
    rcases h01 with rfl | rfl
    · rw [show flN a b 0 = a from rfl, ← ha] at hs; exact (recs_ok _ s hs).2
    · rw [show flN a b 1 = b from rfl, ← hb] at hs; exact (recs_ok _ s hs).2
  refine ⟨fun best g s sn v w' => ∃ i : Nat, v = i ∧ i ≤ 2 ∧ OI w w2 w' H b1 rd a b m i best g s sn, fun _ _ _ _ v _ => 2 - v.toNat, ⟨_, rfl, _, rfl, _, rfl, ⟨none, 0, 0⟩, rfl, _, rfl, 0, rfl, by omega, H, fun _ => ⟨none, 0, 0⟩, RE.kp h l hA.kp, nb1, hA.blk, fun j hj => by omega, rfl⟩, ?_⟩
  rintro ev best g s sn _ w15 ⟨i, rfl, hi2, H1, qs, hR, hn1, hB, hQ, hBS⟩
  have s15 := hR.k.size
  have b1lt := hB.lt
  refine cond_d (fun c1 => ?_) (fun c1 => ?_)
  · have hi : i < 2 := by omega
    have hw : IntKind.i64.wrap ((i : Int) + 1) = ((i + 1 : Nat) : Int) := by rw [IntKind.wrap_i64]; omega
    have dec : 2 - ((i + 1 : Nat) : Int).toNat < 2 - (i : Int).toNat := by simp only [Int.toNat_natCast]; omega
    rw [hw]
    refine use (rLog_s hi hR.is hR.l (fun j hj => by have := mI_units m hu i j hj; omega)) ?_
    rintro _ w16 ⟨p, H2, rfl, hp, r16⟩
    rw [mI_at m hi] at hp
    rw [mI_up m hi] at r16
    have hrec : recs (m i).now = recsOf (flN a b i) := by
      have h01 : i = 0 ∨ i = 1 := by omega
      rcases h01 with rfl | rfl
      · exact ha
      · exact hb
    rw [hrec] at hp
    have hn2 : ¬ H2 b1 := fun hH => (r16.ev b1 hH).elim hn1 (fun hn => by have := hn.1; omega)
    have hB16 := hB.keepF r16.k hn1
    obtain ⟨hcan, hput⟩ := qput hB16 hi p
    rw [Int.toNat_natCast]
    refine ⟨p, rfl, ⟨by omega, by omega⟩, ⟨rfl, hcan⟩, fun w19 e19 => ?_⟩
    obtain ⟨hB19, k19⟩ := hput w19 e19
    have z16 := r16.k.size
    have z2 := hA.kp.size
    have lo15 : w2.heap.size ≤ w15.heap.size := by
      have := hB.lt
      omega
    have hb1lo : ∀ x ∈ [b1], x < w2.heap.size ∨ w16.heap.size ≤ x := fun x hx => by simp at hx; subst hx; left; omega
    have hR19 := (hR.trans r16).own k19 (fun x hx => by simp at hx; subst hx; exact ⟨by omega, hn2⟩)
    have hp19 := (hp.low lo15).keepL k19 hb1lo
    have hQ19 : ∀ j, j < i + 1 → QJ w19 w2.heap.size H2 (qset qs i p j) (recsOf (flN a b j)) := fun j hj => by
      by_cases e : j = i
      · subst e
        unfold qset
        rw [if_pos rfl]
        exact hp19
      · unfold qset
        rw [if_neg e]
        exact ((hQ j (by omega)).re r16).keepL k19 hb1lo
    have hBS19 := (hBS.re r16).keepL k19 hb1lo
    have hself : qset qs i p i = p := by unfold qset; rw [if_pos rfl]
    have hc19 := qcell hB19 hi
    rw [hself] at hc19
    have hplen := rec_len hp19.ls
    refine ⟨⟨by omega, by omega⟩, p, ⟨rfl, hc19⟩, cond_e (fun c2 => ?_) (fun c2 => ?_)⟩
    · have hfl : flN a b i = none := by
        cases e : flN a b i with
        | none => rfl
        | some x => rw [e] at hplen; simp only [recsOf, Lg.recs, List.length_cons] at hplen; omega
      refine ⟨_, rfl, _, rfl, _, rfl, sn, rfl, _, rfl, ⟨i + 1, rfl, by omega, H2, qset qs i p, hR19, hn2, hB19, hQ19, ?_⟩, dec⟩
      rw [bst_none hi hfl]
      exact hBS19
    · obtain ⟨x, hfl⟩ : ∃ x, flN a b i = some x := by
        cases e : flN a b i with
        | none => rw [e] at hplen; simp only [recsOf, List.length_nil] at hplen; omega
        | some x => exact ⟨x, rfl⟩
      have hok : okLg x := by have := flN_ok oa ob i; rwa [hfl] at this
      have hszx := hsz i hi
      rw [hfl] at hp19 hszx
      obtain ⟨A, y, hAa, hcy, hy, hyB, hyc⟩ := rec_get hp19.ls (i := 0) (by simp [recsOf, Lg.recs])
      have e0 : (recsOf (some x))[0]'(by simp [recsOf, Lg.recs]) = hdB x.g x.s x.snap := rfl
      rw [e0] at hy
      rw [add_add', show 0 * 2 + 1 = 1 from rfl] at hcy
      have hyz := hszx (hdB x.g x.s x.snap) (by simp [recsOf, Lg.recs])
      refine ⟨⟨by omega, by omega⟩, p, ⟨rfl, hc19⟩, ⟨by omega, by omega⟩, ws hAa ⟨y, ⟨rfl, hcy⟩, use (rHead_s hok hy hyc (by omega)) ?_⟩⟩
      rintro _ w29 ⟨q, rfl, hq, hqb, k29⟩
      refine ⟨(x.g, x.s, q, true), rfl, cond_t rfl ?_⟩
      have z29 := k29.size
      have hR29 := hR19.keep0 k29
      have hB29 := hB19.keep k29 (by simp)
      have hQ29 : ∀ j, j < i + 1 → QJ w29 w2.heap.size H2 (qset qs i p j) (recsOf (flN a b j)) := fun j hj => (hQ19 j hj).keepL k29 (by simp)
      have hBS29 := hBS19.keepL k29 (by simp)
      have mine : BS w29 w2.heap.size H2 (some (i, x)) i x.g x.s q := ⟨rfl, rfl, rfl, hq, fun z hz => ⟨(hyB z (hqb z hz)).1.1, by have := (hyB z (hqb z hz)).2.1; omega, (hyB z (hqb z hz)).1.2⟩⟩
      have hst := bst_some hi hfl
      have up : ∀ (best g s : Int) (sn : Sl), BS w29 w2.heap.size H2 (bst a b (i + 1)) best g s sn → ∃ j : Nat, ((i + 1 : Nat) : Int) = j ∧ j ≤ 2 ∧ OI w w2 w29 H b1 rd a b m j best g s sn := fun best g s sn hbs => ⟨i + 1, rfl, by omega, H2, qset qs i p, hR29, hn2, hB29, hQ29, hbs⟩
      cases hbo : bst a b i with
      | none =>
        rw [hbo] at hst hBS29
        have hbm : best = -1 := hBS29
        refine cond_d (fun c3 => ⟨_, rfl, _, rfl, _, rfl, q, rfl, _, rfl, up _ _ _ _ ?_, dec⟩) (fun c3 => absurd (by omega) c3)
        rw [hst]
        exact mine
      | some fz =>
        obtain ⟨f, z⟩ := fz
        rw [hbo] at hst hBS29
        have hBS' := hBS29
        obtain ⟨hb1', hb2', _⟩ := hBS29
        refine cond_d (fun c3 => absurd c3 (by omega)) (fun c3 => cond_d (fun c4 => ⟨_, rfl, _, rfl, _, rfl, q, rfl, _, rfl, up _ _ _ _ ?_, dec⟩) (fun c4 => ⟨_, rfl, _, rfl, _, rfl, sn, rfl, _, rfl, up _ _ _ _ ?_, dec⟩))
        · rw [hst]
          unfold stepB
          dsimp only at c4 ⊢
          rw [if_pos (by omega)]
          exact mine
        · rw [hst]
          unfold stepB
          dsimp only at c4 ⊢
          rw [if_neg (by omega)]
          exact hBS'
  have ei : i = 2 := by omega
  subst ei
  have hR2 : RE w w15 H H1 rd (open2 m) := hR
  have hu2 := mI_units m hu 2
  have hbs2 : bst a b 2 = pick a b := rfl
  rw [hbs2] at hBS
  cases hpk : pick a b with
  | none =>
    rw [hpk] at hBS
    have hbm : best = -1 := hBS
    refine cond_d (fun c2 => ?_) (fun c2 => absurd (by omega) c2)
    have eK : openK m a b = syncMf (appMf (clr (clr (open2 m) 0) 1) ((0 : Nat) : Int) (recB (hdB 1 0 []))) ((0 : Nat) : Int) := by
      unfold openK freshM logM
      rw [hpk, if_pos hd0_ok]
    have eS : openS a b = (0, 1, 0, 0) := by unfold openS; rw [hpk]
    have eT : openT a b = ([], []) := by unfold openT; rw [hpk]
    rw [eK, eS, eT]
    have clu : ∀ (m : Nat → Fm) (f i : Nat), unitsL (clr m f i).pend ≤ unitsL (m i).pend + 1 := fun m f i => Nat.le_trans (syncMf_at _ _ i) (cutMf_at m _ 0 i)
    refine use (rClear_s (f := 0) (by omega) hR2.is hR2.l (fun i hi => by have := hu2 i hi; exact Nat.le_trans this (by omega))) ?_
    rintro _ w52 ⟨rfl, H2, h2⟩
    have ha1 : ∀ i, i < 2 → unitsL (clr (open2 m) 0 i).pend ≤ 500000001 := fun i hi => Nat.le_trans (clu _ _ i) (Nat.add_le_add_right (hu2 i hi) 1)
    refine ⟨(), rfl, use (rClear_s (f := 1) (by omega) h2.is h2.l (fun i hi => Nat.le_trans (ha1 i hi) (by omega))) ?_⟩
    rintro _ w55 ⟨rfl, H3, h3⟩
    have ha2 : ∀ i, i < 2 → unitsL (clr (clr (open2 m) 0) 1 i).pend ≤ 500000002 := fun i hi => Nat.le_trans (clu _ _ i) (Nat.add_le_add_right (ha1 i hi) 1)
    refine ⟨(), rfl, use (Head_s 1 0 (by decide) (by decide) ⟨none, 0, 0⟩ (b := []) (Go.Eng.Own.nil w55 0 1).rds (by decide)) ?_⟩
    rintro _ w58 ⟨p59, rfl, o59, k58⟩
    refine ⟨p59, rfl, use (rRecord_s p59 o59.rds (by have := hd0_ok.2; omega)) ?_⟩
    rintro _ w61 ⟨p62, rfl, o62, k61⟩
    have r61 := ((h2.trans h3).keep0 k58).keep0 k61
    have hrl : (recB (hdB 1 0 [])).length ≤ 70000 := by rw [recB_len]; have := hd0_ok.2; omega
    refine ⟨p62, rfl, use (rApp_e ((0 : Nat) : Int) r61.is r61.l (fun i hi => Nat.le_trans (ha2 i hi) (by omega)) o62.rds (fun _ y hy hH => ?_) (by omega)) ?_⟩
    · have a1 := (o62.lo y hy).1; have a2 := h3.is.lt y hH; have := k58.size; omega
    rintro _ w64 ⟨rfl, H4, h4⟩
    have ha3 : ∀ i, i < 2 → unitsL (appMf (clr (clr (open2 m) 0) 1) ((0 : Nat) : Int) (recB (hdB 1 0 [])) i).pend ≤ 500080000 := fun i hi => Nat.le_trans (appMf_at _ _ _ i) (by have := ha2 i hi; omega)
    refine ⟨_, rfl, use (rSync_e ((0 : Nat) : Int) h4.is h4.l (fun i hi => Nat.le_trans (ha3 i hi) (by omega))) ?_⟩
    rintro _ w67 ⟨rfl, H5, h5⟩
    refine ⟨_, rfl, fun b70 w71 hA71 => ?_⟩
    have rr := hR2.trans ((r61.trans h4).trans h5)
    have s71 := hA71.eq
    have zz := rr.k.size
    refine ⟨b70, ⟨none, 0, 0⟩, ⟨none, 0, 0⟩, H5, rfl, rr.keep0 hA71.kp, hA71.blk, fun hH => ?_, by omega, (Go.Eng.Own.nil w71 0 1).rds, RL.nil _⟩
    have := rr.is.lt b70 hH
    omega
  | some fx =>
    obtain ⟨f, x⟩ := fx
    rw [hpk] at hBS
    obtain ⟨rfl, rfl, rfl, hsn, hsnB⟩ := hBS
    obtain ⟨hf2, hfc⟩ := pick_lt hpk
    have hfl : flN a b f = some x := by
      rcases hfc with ⟨rfl, e⟩ | ⟨rfl, e⟩
      · exact e
      · exact e
    have hok : okLg x := by have := flN_ok oa ob f; rwa [hfl] at this
    have hszx := hsz f hf2
    have hQf := hQ f hf2
    rw [hfl] at hQf hszx
    obtain ⟨⟨x1, x2⟩, ⟨x3, x4⟩, x5⟩ := hok
    have eS : openS a b = (f, x.g, x.s, x.s + x.es.length) := by unfold openS; rw [hpk]
    have eT : openT a b = (x.snap, x.es) := by unfold openT; rw [hpk]
    have eK : openK m a b = if 0 < (open2 m (1 - f)).now.length then clr (open2 m) (1 - f) else open2 m := by unfold openK; rw [hpk]
    rw [eS, eT, eK]
    refine cond_d (fun c2 => absurd c2 (by omega)) (fun c2 b72 w73 hA72 => ?_)
    have s73 := hA72.eq
    have hlt1 := hR2.is.lt
    have nb72 : ¬ H1 b72 := fun hH => by have := hlt1 b72 hH; omega
    refine ⟨fun v k w' => ∃ i : Nat, k = ((i + 1 : Nat) : Int) ∧ i ≤ x.es.length ∧ Blk w' b72 [.pointer (PD rd), .int .i64 f, .int .i64 x.g, .int .i64 x.s, .int .i64 (x.s + i)] ∧ LS w' w73.heap.size 1 cf1 (fun y => y ≠ b72 ∧ ¬ H1 y) v (tagL (x.es.take i)) ∧ Kp [b72] w73 w', fun _ k _ => x.es.length + 1 - k.toNat, ⟨⟨none, 0, 0⟩, rfl, _, rfl, 0, rfl, by omega, by rw [show ((0 : Nat) : Int) = 0 from rfl, Int.add_zero]; exact hA72.blk, LS.nil _ _ _ _ _, Kp.refl _ _⟩, ?_⟩
    rintro ev2 v _ w80 ⟨i, rfl, hie, hB72, hS, k80⟩
    have kk80 : Kp [] w15 w80 := hA72.kp.then k80 (fun y hy => by simp at hy; subst hy; right; omega)
    have hB80 := hB.keep kk80 (by simp)
    have hQ80 := hQf.keepL kk80 (by simp)
    have hlen := rec_len hQ80.ls
    simp only [recsOf, Lg.recs, List.length_cons, numsL_len] at hlen
    have hc80 := qcell hB80 hf2
    rw [Int.toNat_natCast]
    have z80 := kk80.size
    refine ⟨⟨by omega, by omega⟩, qs f, ⟨rfl, hc80⟩, cond_d (fun c3 => ?_) (fun c3 => ?_)⟩
    · have hi2 : i < x.es.length := by omega
      obtain ⟨A, y, hAa, hcy, hy, hyB, hyc⟩ := rec_get hQ80.ls (i := i + 1) (by simp [recsOf, Lg.recs, numsL_len]; omega)
      have e0 : (recsOf (some x))[i + 1]'(by simp [recsOf, Lg.recs, numsL_len]; omega) = entB (x.s + 1 + i) x.es[i] := by
        have := numsL_get x.s x.es i hi2
        simp only [recsOf, Lg.recs, List.getElem_cons_succ]
        rw [List.getElem?_eq_getElem (by rw [numsL_len]; exact hi2)] at this
        injection this
      have hyz : (entB (x.s + 1 + i) x.es[i]).length ≤ 65536 := by
        rw [← e0]
        exact hszx _ (List.getElem_mem _)
      rw [e0] at hy
      have hyl := hy.bsize
      have hxi : in64 (x.s + 1 + (i : Int)) := ⟨by omega, by omega⟩
      simp only [Int.toNat_natCast]
      refine ⟨⟨by omega, by omega⟩, qs f, ⟨rfl, hc80⟩, ⟨by omega, by omega⟩, ws hAa ⟨y, ⟨rfl, hcy⟩, fun b85 w86 hA85 => ?_⟩⟩
      have s86 := hA85.eq
      have hRs : RsR w86 b85 y (entB (x.s + 1 + i) x.es[i]) (some 0) := ⟨⟨0, false, hA85.blk, rfl, rfl, Nat.zero_le _⟩, hy.keep0 hA85.kp, fun h0 hb => by have := hy.ltB (by decide) h0 b85 hb; omega, by omega⟩
      refine use (R_Number_p b85 w86 y _ _ hRs) ?_
      rintro _ w87 ⟨v1, st1, rfl, hr1, hR1, k87⟩
      have en1 : num ((entB (x.s + 1 + i) x.es[i]).drop 0) = some (x.s + 1 + i, x.es[i]) := by rw [List.drop_zero]; exact num_put hxi _
      obtain ⟨k1, rfl, rfl, hd1⟩ : ∃ k1, st1 = some k1 ∧ v1 = x.s + 1 + i ∧ (entB (x.s + 1 + i) x.es[i]).drop k1 = x.es[i] := by
        rcases hr1 with ⟨k, k', e1, e2, e3⟩ | ⟨e1, e2⟩
        · injection e1 with e1
          subst e1
          rw [en1] at e3
          injection e3 with e3
          injection e3 with e3 e4
          exact ⟨k', e2, e3.symm, e4.symm⟩
        · have := e2 0 rfl
          rw [en1] at this
          cases this
      obtain ⟨⟨at1, bad1, hB85, rfl, rfl, hk1⟩, hd, _, _⟩ := hR1
      have kk87 : Kp [] w80 w87 := hA85.kp.then k87 (by simp; omega)
      have hB72' := hB72.keep kk87 (by simp)
      refine ⟨_, rfl, fun w' => w87 = w', ⟨false, ⟨rfl, hB85.at rfl⟩, cond_t rfl ⟨_, ⟨rfl, hB72'.at (i := 4) rfl⟩, cond_d (fun c4 => absurd c4 (by omega)) (fun _ => rfl)⟩⟩, ?_⟩
      rintro ev3 _ rfl
      have hwm : IntKind.i64.wrap (x.s + 1 + (i : Int) - 1) = x.s + i := by rw [IntKind.wrap_i64]; omega
      rw [hwm]
      refine ⟨false, ⟨rfl, hB85.at rfl⟩, cond_f rfl ⟨_, ⟨rfl, hB72'.at (i := 4) rfl⟩, cond_d (fun c4 => absurd c4 (by omega)) (fun _ => ⟨⟨rfl, hB72'.can1 (i := 4) _ rfl (by simp)⟩, fun w98 e98 w99 hD99 => ?_⟩)⟩⟩
      obtain ⟨g98, k98, _⟩ := hB72'.put1 (i := 4) rfl e98
      have b72lt := hB72.lt
      have hne : b85 ≠ b72 := by omega
      have hB85' := (hB85.keep k98 (by simpa using hne)).keep hD99.kp (by simp)
      refine ⟨y, ⟨rfl, hB85'.at (i := 0) rfl⟩, (k1 : Int), ⟨rfl, hB85'.at (i := 1) rfl⟩, ⟨by omega, by omega⟩, ?_⟩
      rw [Int.toNat_natCast]
      have kk99 : Kp [b72] w80 w99 := ((kk87.up [b72]).then k98 (fun y hy => .inl hy)).then0 hD99.kp
      have ynb : ∀ z ∈ blkOf y, z ≠ b72 ∧ z < w99.heap.size := fun z hz => by
        have a1 := (hyB z hz).2.1
        have a2 : z < w15.heap.size ∨ True := .inr trivial
        have a3 := kk99.size
        refine ⟨fun e => ?_, by omega⟩
        exact absurd (hQf.ls) (fun hls => by
          obtain ⟨A', y', hA', hcy', hy', hyB', hyc'⟩ := rec_get hls (i := i + 1) (by simp [recsOf, Lg.recs, numsL_len]; omega)
          have e1 := (rec_get (hQf.keepL kk80 (by simp)).ls (i := i + 1) (by simp [recsOf, Lg.recs, numsL_len]; omega))
          have hA'' : A' = A := by rw [hAa] at hA'; injection hA' with hA'; exact hA'.symm
          subst hA''
          have hcy2 := cell_keep hcy' kk80 (by simp)
          rw [hcy] at hcy2
          injection hcy2 with hcy2
          injection hcy2 with e2 e3 e4
          have : z ∈ blkOf y' := by unfold blkOf at hz ⊢; rw [← e2]; exact hz
          have := (hyB' z this).2.1
          omega)
      have hy99 : RdB w99 y (entB (x.s + 1 + i) x.es[i]) := hy.keep kk99 (fun a ha => by simpa using (ynb a.block (by simp [blkOf, ha])).1)
      have hrest := hy99.bdrop hyc (n := k1) (by omega) (y.len - k1) (y.cap - k1) rfl
      rw [hd1] at hrest
      intro b102 w103 hA102
      have hS99 : LS w99 w73.heap.size 1 cf1 (fun y => y ≠ b72 ∧ ¬ H1 y) v (tagL (x.es.take i)) := hS.keepF (kk99.toF (F := fun y => y = b72) (fun y hy => .inl (by simpa using hy))) (fun z hz e => by have := (hS.lo z hz).1; omega) (fun z hz _ e => hz.1 e)
      have z99 := kk99.size
      have s15' := hA72.kp.size
      obtain ⟨q104, n105, c106, w107, hrun, hn, hS2, k107, hq104⟩ := push0 (ty := 22) (b := x.es[i]) hS99 (by omega) hrest (fun z hz => ⟨⟨(ynb z (blk_drop z hz)).1, (hyB z (blk_drop z hz)).1.2⟩, (ynb z (blk_drop z hz)).2, fun hv => by
        have a1 := (hS.lo z hv).1
        have a2 := (hyB z (blk_drop z hz)).2.2
        have : z < w73.heap.size := by
          obtain ⟨A', y', hA', hcy', hy', hyB', hyc'⟩ := rec_get hQf.ls (i := i + 1) (by simp [recsOf, Lg.recs, numsL_len]; omega)
          have hA'' : A' = A := by rw [hAa] at hA'; injection hA' with hA'; exact hA'.symm
          subst hA''
          have hcy2 := cell_keep hcy' kk80 (by simp)
          rw [hcy] at hcy2
          injection hcy2 with hcy2
          injection hcy2 with e2 e3 e4
          have : z ∈ blkOf y' := by
            have := blk_drop z hz
            unfold blkOf at this ⊢; rw [← e2]; exact this
          have := (hyB' z this).2.1
          omega
        omega⟩) (by dsimp only; omega) (by rw [tagL_len, List.length_take]; omega) hA102
      refine ⟨q104, n105, c106, w107, hrun, ⟨q104, n105, c106⟩, rfl, _, rfl, ⟨i + 1, ?_, by omega, ?_, ?_, ?_⟩, ?_⟩
      · rw [IntKind.wrap_i64]; omega
      · have hg : [Value.pointer (PD rd), .int .i64 f, .int .i64 x.g, .int .i64 x.s, .int .i64 (x.s + i)].set 4 (.int .i64 (x.s + 1 + i)) = [.pointer (PD rd), .int .i64 f, .int .i64 x.g, .int .i64 x.s, .int .i64 (x.s + ((i + 1 : Nat) : Int))] := by
          simp
          omega
        rw [hg] at g98
        exact (g98.keep hD99.kp (by simp)).keep k107 (fun hv => by have := (hS.lo b72 hv).1; omega)
      · have : tagL (x.es.take (i + 1)) = tagL (x.es.take i) ++ [(0, x.es[i])] := by
          rw [take_snoc x.es hi2, tagL_app]
          rfl
        rw [this]
        exact hS2
      · exact (k80.then kk99 (fun y hy => .inl hy)).then k107 (fun z hz => .inr (hS.lo z hz).1)
      · have : IntKind.i64.wrap (((i + 1 : Nat) : Int) + 1) = ((i + 2 : Nat) : Int) := by rw [IntKind.wrap_i64]; omega
        rw [this]
        simp only [Int.toNat_natCast]
        omega
    · have ei : i = x.es.length := by omega
      subst ei
      rw [List.take_length] at hS
      have hR80 : RE w w80 H H1 rd (open2 m) := (hR2.keep0 kk80)
      obtain ⟨o, ho⟩ : ∃ o, 1 - f = o := ⟨_, rfl⟩
      have ho2 : o < 2 := by omega
      have hwo : IntKind.i64.wrap (1 - (f : Int)) = (o : Nat) := by rw [IntKind.wrap_i64]; omega
      rw [hwo, ho]
      refine use (rSize_b (o : Int) hR80.is hR80.l (fun i hi => Nat.le_trans (hu2 i hi) (by omega))) ?_
      rintro _ w110 ⟨rfl, k110⟩
      rw [readF_i _ ho2]
      have hR110 := hR80.keep0 k110
      have hB110 := hB72.keep k110 (by simp)
      have hsn110 := (hsn.keep0 kk80).keep0 k110
      refine ⟨_, rfl, cond_d (fun c4 => ?_) (fun c4 => ?_)⟩
      · rw [if_pos (by omega)]
        refine use (rClear_s ho2 hR110.is hR110.l (fun i hi => Nat.le_trans (hu2 i hi) (by omega))) ?_
        rintro _ w113 ⟨rfl, H2, h2⟩
        have b72lt := hB110.lt
        refine ⟨(), rfl, b72, sn, v, H2, rfl, hR110.trans h2, hB110.keepF h2.k nb72, fun hH => (h2.ev b72 hH).elim nb72 (fun hn => by have := hn.1; omega), by omega, hsn110.keepF h2.k (fun z hz => (hsnB z hz).2.2), ?_⟩
        exact tagL_rl ((hS.keep0 k110).keepF h2.k (fun z hz hH => by have := (hS.lo z hz).1; have := hlt1 z hH; omega) (fun z hz hzl hH => hz.2 hH))
      · rw [if_neg (by omega)]
        exact ⟨b72, sn, v, H1, rfl, hR110, hB110, nb72, by omega, hsn110, tagL_rl (hS.keep0 k110)⟩)
end Go.Proofs.Ytfgepillnemolaa
