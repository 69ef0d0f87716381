/- The law DiskPlays. No conditions. -/
import Derived.Test.YtjjleboohldkiaaDiskL
import Derived.Test.YtjjleboohldkiaaDisk6
import Derived.Test.YtjjleboohldkiaaOpenD
namespace Go.Proofs.Ytjjleboohldkiaa
open Go.RowKit Go.Eng
set_option linter.unusedVariables false
def uB (m : Nat → Fm) (K : Nat) : Prop := ∀ i, i < 2 → unitsL (m i).pend ≤ K
theorem uB.big {m : Nat → Fm} {K : Nat} (h : uB m K) (hK : K ≤ 1000000000) : ∀ i, i < 2 → unitsL (m i).pend ≤ 1000000000 := fun i hi => by have := h i hi; omega
theorem same_s {w0 w : World} {d rd : Nat} {m : Nat → Fm} (h : BD w0 w d rd m) (hu : uB m 1000000000) :
    C.skeplaw03_same (PD d) (PD rd) w (fun v w' => v = .bool true ∧ Kp [] w w') noP := skeplaw03_same_of (by
  unfold W.skeplaw03_same
  have hL := h.leads
  refine ⟨fun v w' => -1 ≤ v ∧ v ≤ 3 ∧ Kp [] w w', fun v _ => (3 - v).toNat, ⟨_, rfl, by omega, by omega, Kp.refl _ _⟩, fun e0 v w5 hI => ?_⟩
  obtain ⟨hv1, hv3, k5⟩ := hI
  refine cond_d (fun h1 w6 hDr => ?_) (fun h1 => ⟨rfl, k5⟩)
  have k6 := k5.then0 hDr.kp
  obtain ⟨⟨F, G, hF, hG, _⟩, _⟩ := h.keep k6
  refine use (Read_b v hF) ?_
  rintro _ w7 ⟨q, rfl, ho, k7⟩
  refine ⟨q, rfl, str _, ho.rds.str, ?_⟩
  refine use (rRead_b v (hG.keep0 k7) hL hu) ?_
  rintro _ w11 ⟨q2, rfl, ho2, k11⟩
  refine ⟨q2, rfl, (ho.keep0 k11).rds.str.2, str _, ho2.rds.str, cond_f (by rw [strEq_str]; simp) ?_⟩
  refine use (Size_b v ((hF.keep0 k7).keep0 k11)) ?_
  rintro _ _ ⟨rfl, rfl⟩
  refine ⟨_, rfl, ?_⟩
  refine use (rSize_b v ((hG.keep0 k7).keep0 k11) hL hu) ?_
  rintro _ w18 ⟨rfl, k18⟩
  refine ⟨_, rfl, cond_n (fun hn => by omega) (fun _ => ?_)⟩
  refine use (Pending_b v (((hF.keep0 k7).keep0 k11).keep0 k18) (fun i hi => by have := hu i hi; omega)) ?_
  rintro _ w21 ⟨rfl, k21⟩
  refine ⟨_, rfl, ?_⟩
  refine use (rPending_b v ((((hG.keep0 k7).keep0 k11).keep0 k18).keep0 k21)) ?_
  rintro _ w24 ⟨rfl, k24⟩
  have hw : IntKind.i64.wrap (v + 1) = v + 1 := by rw [IntKind.wrap_i64]; omega
  exact ⟨_, rfl, cond_n (fun hn => by omega) (fun _ => ⟨_, rfl, ⟨by omega, by omega, ((((k6.then0 k7).then0 k11).then0 k18).then0 k21).then0 k24⟩, by simp only [hw]; omega⟩)⟩)
theorem Wf.in8 {mo : M.skeplaw03_Op} (h : Wf.skeplaw03_Op mo) : ∀ x ∈ mo.B, in8 x := h.2.2.2.2
set_option maxHeartbeats 2000000 in
theorem do_s {w0 w : World} {d rd K : Nat} {m : Nat → Fm} {x : S.skeplaw03_Op} {mo : M.skeplaw03_Op} (h : BD w0 w d rd m) (hx : Is.skeplaw03_Op w0 x mo) (hq : Wf.skeplaw03_Op mo) (hb : x.B.len ≤ 2000) (hu : uB m K) (hK : K ≤ 1000000) :
    C.skeplaw03_do (PD d) (PD rd) x w (fun v w' => ∃ dn rn m', v = .tuple #[.pointer (PD dn), .pointer (PD rn), .bool true] ∧ BD w0 w' dn rn m' ∧ uB m' (K + 2000)) noP := skeplaw03_do_of (by
  unfold W.skeplaw03_do
  obtain ⟨⟨F, G, h1, h2, h3, h4, h5⟩, h6⟩ := h
  have hltF := h1.lt
  have hltG := h2.lt
  intro b1 w2 hA
  have hB := hA.blk
  have s2 := hA.eq
  have s06 := h6.size
  replace h1 := h1.keep0 hA.kp
  replace h2 := h2.keep0 hA.kp
  replace h6 := h6.then0 hA.kp
  have hbig := hu.big (by omega)
  obtain ⟨eK, eF, eN, eM, hxb⟩ := hx
  obtain ⟨qK, qF, qN, qM, q8⟩ := hq
  refine ⟨x.File, ⟨rfl, hB.at rfl⟩, ?_⟩
  refine use (Place_s x.File 4 w2 (by omega) (by omega)) ?_
  rintro _ _ ⟨rfl, rfl⟩
  refine ⟨_, rfl, x.Kind, ⟨rfl, hB.at rfl⟩, ?_⟩
  refine use (Place_s x.Kind 4 w2 (by omega) (by omega)) ?_
  rintro _ _ ⟨rfl, rfl⟩
  refine ⟨_, rfl, ?_⟩
  obtain ⟨f, hf⟩ : ∃ f, IntKind.i64.wrap (x.File % 4 - 1) = f := ⟨_, rfl⟩
  rw [hf]
  have hL : LeadsM m := fun i hi => h1.leads hi
  have hbr := rdb_of_rdl hxb q8
  have hbl := hbr.bsize
  have hnF : ¬ F b1 := fun hF1 => by have := hltF b1 hF1; omega
  refine cond_e (fun hk0 => ?_) (fun hk0 => cond_e (fun hk1 => ?_) (fun hk1 => cond_e (fun hk2 => ?_) (fun hk2 => ?_)))
  · refine ⟨x.B, ⟨rfl, hB.at rfl⟩, ?_⟩
    refine use (CopyBytes_s x.B (hbr.keep0 h6) (by omega)) ?_
    rintro _ w12 ⟨p, rfl, ho, k12⟩
    refine ⟨p, rfl, ?_⟩
    have s12 := k12.size
    have hlo := ho.lo
    have hpl := ho.rds.bsize
    refine use (Append_b f (h1.keep0 k12) ho.rds (fun i hi => h1.plen hi (hbig i hi))) ?_
    rintro _ w15 ⟨rfl, a1, a2⟩
    have s15 := a2.size
    refine ⟨_, rfl, fun v w' => ∃ (k : Nat) (l : Bs), v = k ∧ k ≤ p.len ∧ l.length = p.len ∧ OwnB w' w2.heap.size p l ∧ Kp (blkOf p) w15 w', fun v _ => p.len - v.toNat, ⟨_, rfl, 0, _, rfl, by omega, ho.rds.bsize, ho.keepF a2 (fun y hy hFy => ?_), Kp.refl _ _⟩, fun e0 v w22 hI => ?_⟩
    · have := hltF y hFy; have := hlo y hy; omega
    obtain ⟨k, l, rfl, hk, hl, hol, k22⟩ := hI
    refine cond_d (fun hk2 => ?_) (fun hk2 => ?_)
    · obtain ⟨a, ha, hc⟩ := hol.rds.byte (i := k) (by omega)
      obtain ⟨a', ha', hcan, hput⟩ := hol.bset (i := k) (by omega) (u8of (xorI .u8 (l[k].toNat) 255))
      rw [ha] at ha'
      injection ha' with ha'
      subst ha'
      rw [u8of_val (xor_in8 _)] at hcan hput
      rw [ha, Int.toNat_natCast]
      refine ⟨⟨by omega, hk2⟩, _, ⟨rfl, hc⟩, ⟨by omega, hk2⟩, ⟨rfl, hcan⟩, fun w26 e26 => ?_⟩
      obtain ⟨ho2, k26, s26⟩ := hput w26 e26
      have hw : IntKind.i64.wrap ((k : Int) + 1) = (k + 1 : Nat) := by rw [IntKind.wrap_i64]; omega
      exact ⟨_, rfl, ⟨k + 1, _, hw, by omega, by simpa using hl, ho2, k22.then k26 (fun y hy => .inl hy)⟩, by simp only [hw]; omega⟩
    · have hB22 : Blk w22 b1 _ := ((hB.keep k12 (by simp)).keepF a2 hnF).keep k22 (fun hy => by have := hlo b1 hy; omega)
      have far : ∀ y ∈ blkOf p, w0.heap.size ≤ y ∧ ¬ (F y ∨ New w12 w15 y) ∧ ¬ G y := fun y hy => by
        have := hlo y hy
        refine ⟨by omega, ?_, fun hg => by have := hltG y hg; omega⟩
        rintro (hf | hn)
        · have := hltF y hf; omega
        · have := hn.1; omega
      have k012 := h6.then0 k12
      have k022 : Kp [] w0 w22 := (((k012.toF (F := F) (by simp)).then a2 (fun x hx => .inl hx)).kp h4).then k22 (fun y hy => .inr (far y hy).1)
      have h2' := ((h2.keep0 k12).keepF a2 (fun y hg hf => h3 y hf hg)).keepF (k22.toF (F := fun y => y ∈ blkOf p) (fun y hy => .inl hy)) (fun y hg hy => (far y hy).2.2 hg)
      refine ⟨x.B, ⟨rfl, hB22.at rfl⟩, ?_⟩
      refine use (rAppend_b f h2' hL hbig (hbr.keep0 k022) (fun h0 y hy hg => ?_) (by omega)) ?_
      · have := hbr.ltB (by omega) h0 y hy; have := h5 y hg; omega
      rintro _ w29 ⟨rfl, c1, c2⟩
      refine ⟨_, rfl, d, rd, appMf m f (bso mo.B), by simp, BD.both (h1.keep0 k12) (h2.keep0 k12) h3 h4 h5 k012 a1 a2 (blkOf p) k22 far c1 c2, fun i hi => Nat.le_trans (appMf_at m f _ i) (by have := hu i hi; omega)⟩
  · intro w32 hDr
    have hB32 := hB.keep hDr.kp (by simp)
    replace h1 := h1.keep0 hDr.kp
    replace h2 := h2.keep0 hDr.kp
    replace h6 := h6.then0 hDr.kp
    refine ⟨x.N, ⟨rfl, hB32.at rfl⟩, x.N, ⟨rfl, hB32.at rfl⟩, ?_⟩
    refine use (Cut_b f x.N h1 (fun i hi => h1.plen hi (hbig i hi))) ?_
    rintro _ w35 ⟨rfl, a1, a2⟩
    refine ⟨_, rfl, (hB32.keepF a2 hnF).at rfl, ?_⟩
    refine use (rCut_b f x.N (h2.keepF a2 (fun y hg hf => h3 y hf hg)) hL hbig) ?_
    rintro _ w38 ⟨rfl, c1, c2⟩
    exact ⟨_, rfl, d, rd, cutMf m f x.N, by simp, BD.both h1 h2 h3 h4 h5 h6 a1 a2 [] (Kp.refl _ _) (by simp) c1 c2, fun i hi => Nat.le_trans (cutMf_at m f _ i) (by have := hu i hi; omega)⟩
  · refine use (Sync_b f h1) ?_
    rintro _ w41 ⟨rfl, a1, a2⟩
    refine ⟨_, rfl, ?_⟩
    refine use (rSync_b f (h2.keepF a2 (fun y hg hf => h3 y hf hg)) hL hbig) ?_
    rintro _ w38 ⟨rfl, c1, c2⟩
    exact ⟨_, rfl, d, rd, syncMf m f, by simp, BD.both h1 h2 h3 h4 h5 h6 a1 a2 [] (Kp.refl _ _) (by simp) c1 c2, fun i hi => Nat.le_trans (syncMf_at m f i) (by have := hu i hi; omega)⟩
  · intro w47 hDr
    have hB47 := hB.keep hDr.kp (by simp)
    replace h1 := h1.keep0 hDr.kp
    replace h2 := h2.keep0 hDr.kp
    replace h6 := h6.then0 hDr.kp
    refine ⟨x.N, ⟨rfl, hB47.at rfl⟩, x.M_, ⟨rfl, hB47.at rfl⟩, x.N, ⟨rfl, hB47.at rfl⟩, x.M_, ⟨rfl, hB47.at rfl⟩, ?_⟩
    refine use (Crash_s x.N x.M_ (by rw [eN]; exact qN) (by rw [eM]; exact qM) h1 (fun i hi => h1.plen hi (hbig i hi))) ?_
    rintro _ w52 ⟨dn, F', rfl, n1, nF, k52⟩
    have hB52 := hB47.keep k52 (by simp)
    refine ⟨_, rfl, hB52.at rfl, hB52.at rfl, ?_⟩
    refine use (rCrash_s x.N x.M_ (h2.keep0 k52) hL (fun i hi => by have := hbig i hi; omega)) ?_
    rintro _ w55 ⟨rn, G', rfl, n2, nG, k55⟩
    have s6 := h6.size
    have s52 := k52.size
    exact ⟨_, rfl, dn, rn, crashM m x.N x.M_, rfl, ⟨⟨F', G', n1.keep0 k55, n2, fun k hf hg => by have := n1.lt k hf; have := nG k hg; omega, fun k hf => by have := nF k hf; omega, fun k hg => by have := nG k hg; omega⟩, (h6.then0 k52).then0 k55⟩, fun i hi => Nat.zero_le _⟩)
set_option maxHeartbeats 2000000 in
theorem DiskPlays_s (s : Sl) (L : List M.skeplaw03_Op) (w : World) (hr : IsL w 5 S.skeplaw03_Op.v (Is.skeplaw03_Op w) s L) (hq : ∀ x ∈ L, Wf.skeplaw03_Op x) :
    C.skeplaw03_DiskPlays s w (fun v w' => v = .bool true ∧ Kp [] w w') noP := skeplaw03_DiskPlays_of (by
  unfold W.skeplaw03_DiskPlays
  have hlen := hr.len
  refine use (awake_s w) ?_
  rintro _ w1 ⟨rfl, k1⟩
  refine ⟨_, rfl, cond_f rfl ?_⟩
  refine use (dNew_s w1) ?_
  rintro _ w4 ⟨d, F, rfl, hd, k4, hF⟩
  refine ⟨PD d, rfl, ?_⟩
  refine use (rNew_s w4) ?_
  rintro _ w7 ⟨rd, G, rfl, hg, k7, hG⟩
  have s1 := k1.size
  have s4 := k4.size
  have hB0 : BD w w7 d rd m00 := ⟨⟨F, G, hd.keep0 k7, hg, fun k hf hg => by have := hd.lt k hf; have := hG k hg; omega, fun k hf => by have := hF k hf; omega, fun k hg => by have := hG k hg; omega⟩, (k1.then0 k4).then0 k7⟩
  refine ⟨PD rd, rfl, fun p q v w' => ∃ (d rd : Nat) (m : Nat → Fm) (k : Nat), p = PD d ∧ q = PD rd ∧ v = k ∧ k ≤ 60 ∧ BD w w' d rd m ∧ uB m (2000 * k), fun _ _ v _ => 60 - v.toNat, ⟨_, rfl, _, rfl, _, rfl, d, rd, m00, 0, rfl, rfl, rfl, by omega, hB0, fun i hi => Nat.zero_le _⟩, fun e0 p q v w18 hI => ?_⟩
  clear hB0 hd hg hF hG
  obtain ⟨d, rd, m, k, rfl, rfl, rfl, hk, hB, hu⟩ := hI
  refine cond_d (fun h1 => cond_d (fun h2 => ?_) (fun h2 => ⟨rfl, hB.kp⟩)) (fun h1 => ⟨rfl, hB.kp⟩)
  obtain ⟨ad, x, ha, hx, hR⟩ := hr.get (i := k) (by omega)
  have hwf := hq L[k] (List.getElem_mem _)
  obtain ⟨mo, hmo⟩ : ∃ mo, L[k] = mo := ⟨_, rfl⟩
  rw [hmo] at hR hwf
  have hx18 := rd_keep hx hB.kp (by simp)
  rw [ha, Int.toNat_natCast]
  refine ⟨⟨by omega, h1⟩, x.B, ⟨rfl, hx18 4 _ rfl⟩, cond_d (fun _ => ⟨rfl, hB.kp⟩) (fun h3 => ⟨⟨by omega, h1⟩, x, ⟨rfl, hx18⟩, ?_⟩)⟩
  refine use (do_s hB hR hwf (by omega) hu (by omega)) ?_
  rintro _ w23 ⟨dn, rn, m', rfl, hB', hu'⟩
  refine ⟨(PD dn, PD rn, true), rfl, cond_f rfl (cond_f rfl ?_)⟩
  refine use (same_s hB' (hu'.big (by omega))) ?_
  rintro _ w26 ⟨rfl, k26⟩
  have hw : IntKind.i64.wrap ((k : Int) + 1) = (k + 1 : Nat) := by rw [IntKind.wrap_i64]; omega
  exact ⟨_, rfl, cond_f rfl ⟨_, rfl, _, rfl, _, rfl, ⟨dn, rn, m', k + 1, rfl, rfl, hw, by omega, hB'.keep k26, fun i hi => by have := hu' i hi; omega⟩, by simp only [hw]; omega⟩⟩)
theorem DiskPlays_walk (s : Sl) (L : List M.skeplaw03_Op) (w : World) (_ : s.len ≤ s.cap ∧ s.cap ≤ maxLen) (hr : IsL w 5 S.skeplaw03_Op.v (Is.skeplaw03_Op w) s L) (hq : ∀ x ∈ L, Wf.skeplaw03_Op x) :
    Calls Try.prog 4 #[.slice s.a s.len s.cap] w fun e w' => e = .returned (.bool true) ∧ Below w.heap.size w w' := ret_true (DiskPlays_s s L w hr hq)
end Go.Proofs.Ytjjleboohldkiaa
