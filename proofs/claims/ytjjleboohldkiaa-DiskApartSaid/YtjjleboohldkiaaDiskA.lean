/- The law DiskApart. No conditions. -/
import Derived.Test.YtjjleboohldkiaaDiskL
import Derived.Test.YtjjleboohldkiaaDisk3
import Derived.Test.YtjjleboohldkiaaOpenD
import Derived.Test.YtjjleboohldkiaaDisk6
namespace Go.Proofs.Ytjjleboohldkiaa
open Go.RowKit Go.Eng
set_option linter.unusedVariables false
set_option linter.unusedSimpArgs false
/-- Two disks of the call's own, apart from each other, and two strings in block b. -/
structure AP (w w' : World) (b : Nat) (F X : Nat → Prop) (d dn : Nat) (m n : Nat → Fm) : Prop where
  blk : Blk w' b [.string (str (m 0).now), .string (str (m 1).now)]
  bl : w.heap.size ≤ b
  bF : ¬ F b
  bX : ¬ X b
  dF : DiskIs w' F d m
  fl : ∀ k, F k → w.heap.size ≤ k
  dX : DiskIs w' X dn n
  xl : ∀ k, X k → w.heap.size ≤ k
  fx : ∀ k, F k → X k → False
  kp : Kp [] w w'
theorem AP.keep {w w' w2 : World} {b : Nat} {F X : Nat → Prop} {d dn : Nat} {m n : Nat → Fm} {l : List Nat} (h : AP w w' b F X d dn m n) (k : Kp l w' w2) (hl : ∀ x ∈ l, w.heap.size ≤ x ∧ x ≠ b ∧ ¬ F x ∧ ¬ X x) : AP w w2 b F X d dn m n := by
  obtain ⟨h1, h2, h3, h4, h5, h6, h7, h8, h9, h10⟩ := h
  have kf : KpF (fun x => x ∈ l) w' w2 := k.toF (fun x hx => .inl hx)
  exact ⟨h1.keep k (fun h => (hl b h).2.1 rfl), h2, h3, h4, h5.keepF kf (fun x hx hm => (hl x hm).2.2.1 hx), h6, h7.keepF kf (fun x hx hm => (hl x hm).2.2.2 hx), h8, h9, h10.then k (fun x hx => .inr (hl x hx).1)⟩
theorem AP.keep0 {w w' w2 : World} {b : Nat} {F X : Nat → Prop} {d dn : Nat} {m n : Nat → Fm} (h : AP w w' b F X d dn m n) (k : Kp [] w' w2) : AP w w2 b F X d dn m n := h.keep k (by simp)
theorem AP.step {w w' w2 : World} {b : Nat} {F X : Nat → Prop} {d dn : Nat} {m n n' : Nat → Fm} (h : AP w w' b F X d dn m n) (h2 : DiskIs w2 (fun k => X k ∨ New w' w2 k) dn n') (k : KpF X w' w2) : AP w w2 b F (fun k => X k ∨ New w' w2 k) d dn m n' := by
  obtain ⟨h1, h2', h3, h4, h5, h6, h7, h8, h9, h10⟩ := h
  have hb := h1.lt
  have hs := h10.size
  refine ⟨h1.keepF k h4, h2', h3, ?_, h5.keepF k (fun x hx hx2 => h9 x hx hx2), h6, h2, ?_, ?_, ((h10.toF (F := X) (by simp)).then k (fun x hx => .inl hx)).kp h8⟩
  · rintro (h | h)
    · exact h4 h
    · have := h.1; omega
  · rintro x (h | h)
    · exact h8 x h
    · have := h.1; omega
  · rintro x hf (h | h)
    · exact h9 x hf h
    · have := h5.lt x hf; have := h.1; omega
theorem crash_now {w : World} {F : Nat → Prop} {d : Nat} {m : Nat → Fm} (h : DiskIs w F d m) (hu : ∀ i, i < 2 → unitsL (m i).pend ≤ 100000) {i : Nat} (hi : i < 2) : (crashF (m i) (if i = 0 then 16777216 else 16777216)).now = (m i).now := by
  show crashB (m i).sure (m i).pend (if i = 0 then (16777216 : Int) else 16777216).toNat = _
  rw [ite_self]
  exact crash_all (h.leads hi) _ (by have := hu i hi; omega)
theorem cell0 {w : World} {b : Nat} {cs : List Value} (h : Blk w b cs) {v : Value} (hv : cs[0]? = some v) : w.cell? ⟨b, 0, none⟩ = some v := h.at hv
theorem cell1 {w : World} {b : Nat} {cs : List Value} (h : Blk w b cs) {v : Value} (hv : cs[1]? = some v) : w.cell? (Addr.add ⟨b, 0, none⟩ 1) = some v := h.at hv
set_option maxHeartbeats 4000000 in
set_option maxRecDepth 20000 in
theorem DiskApart_s (s t : Sl) (L : List M.skeplaw03_Op) {more : Bs} (w : World) (hr : IsL w 5 S.skeplaw03_Op.v (Is.skeplaw03_Op w) s L) (hq : ∀ x ∈ L, Wf.skeplaw03_Op x) (ht : RdB w t more) (hct : t.len ≤ t.cap) :
    C.skeplaw03_DiskApart s t w (fun v w' => v = .bool true ∧ Kp [] w w') noP := skeplaw03_DiskApart_of (by
  unfold W.skeplaw03_DiskApart
  have hlen := hr.len
  have htl := ht.bsize
  refine use (awake_s w) ?_
  rintro _ w1 ⟨rfl, k1⟩
  have aw : C.skeplaw03_awake w1 (fun r w' => ∃ p : Bool, r = .bool p ∧ ((.bool p : Value) = .bool true ∧ Kp [] w w')) noP := by
    refine use (awake_s w1) ?_
    rintro _ w7 ⟨rfl, k7⟩
    exact ⟨_, rfl, rfl, k1.then0 k7⟩
  refine ⟨_, rfl, cond_f rfl (cond_d (fun _ => aw) (fun hm2 => ?_))⟩
  clear aw
  refine use (New_d w w1 k1) ?_
  rintro _ w10 ⟨d, rfl, hD0⟩
  refine ⟨PD d, rfl, fun w' => ∃ m, DS w w' d m ∧ (∀ i, i < 2 → unitsL (m i).pend ≤ 60000) ∧ ∀ i, i < 2 → (m i).now.length ≤ 60000, ?_, ?_⟩
  · refine ⟨fun v w' => ∃ (k : Nat) (m : Nat → Fm), v = k ∧ k ≤ 30 ∧ DS w w' d m ∧ (∀ i, i < 2 → unitsL (m i).pend ≤ 2000 * k) ∧ ∀ i, i < 2 → (m i).now.length ≤ 2000 * k, fun v _ => 30 - v.toNat, ⟨_, rfl, 0, m00, rfl, by omega, hD0, fun i _ => Nat.le_refl _, fun i _ => Nat.le_refl _⟩, fun e0 v w18 hI => ?_⟩
    obtain ⟨k, m, rfl, hk, hD, hu, hn⟩ := hI
    have fin : ∃ m, DS w w18 d m ∧ (∀ i, i < 2 → unitsL (m i).pend ≤ 60000) ∧ ∀ i, i < 2 → (m i).now.length ≤ 60000 := ⟨m, hD, fun i hi => by have := hu i hi; omega, fun i hi => by have := hn i hi; omega⟩
    refine cond_d (fun h1 => cond_d (fun h2 => ?_) (fun h2 => fin)) (fun h1 => fin)
    clear fin
    obtain ⟨ad, x, ha, hx, hR⟩ := hr.get (i := k) (by omega)
    have hwf := hq L[k] (List.getElem_mem _)
    obtain ⟨mo, hmo⟩ : ∃ mo, L[k] = mo := ⟨_, rfl⟩
    rw [hmo] at hR hwf
    have hc : Go.Eng.World.has w (ad.add (k * 5)) [.int .i64 x.Kind, .int .i64 x.File, .int .i64 x.N, .int .i64 x.M_, .slice x.B.a x.B.len x.B.cap] := hx
    have hcs : ∀ w', Kp [] w w' → w'.cell? (ad.add (k * 5)) = some (.int .i64 x.Kind) ∧ w'.cell? ((ad.add (k * 5)).add 1) = some (.int .i64 x.File) ∧ w'.cell? ((ad.add (k * 5)).add 2) = some (.int .i64 x.N) ∧ w'.cell? ((ad.add (k * 5)).add 4) = some (.slice x.B.a x.B.len x.B.cap) := fun w' kk => by
      have hc' := has_keep hc kk (by simp)
      refine ⟨?_, hc' 1 _ rfl, hc' 2 _ rfl, hc' 4 _ rfl⟩
      have := hc' 0 _ rfl
      rwa [add_add', Nat.add_zero] at this
    obtain ⟨_, _, _, _, hxb⟩ := hR
    have hb := (rdb_of_rdl hxb hwf.2.2.2.2)
    have hbl := hb.bsize
    rw [ha, Int.toNat_natCast]
    have c0 : (0 : Int) ≤ (k : Int) ∧ (k : Int) < (s.len : Int) := ⟨by omega, h1⟩
    have hw : IntKind.i64.wrap ((k : Int) + 1) = (k + 1 : Nat) := by rw [IntKind.wrap_i64]; omega
    have hM : 30 - (((k + 1 : Nat) : Int)).toNat < 30 - ((k : Nat) : Int).toNat := by omega
    refine ⟨c0, x.B, ⟨rfl, (hcs w18 hD.kp).2.2.2⟩, cond_d (fun _ => ⟨rfl, hD.kp⟩) (fun h3 => ⟨c0, x.File, ⟨rfl, (hcs w18 hD.kp).2.1⟩, ?_⟩)⟩
    refine use (Place_s x.File 2 w18 (by omega) (by omega)) ?_
    rintro _ _ ⟨rfl, rfl⟩
    obtain ⟨f, hf, hf2⟩ : ∃ f : Nat, x.File % 2 = f ∧ f < 2 := ⟨(x.File % 2).toNat, by omega, by omega⟩
    rw [hf]
    refine ⟨_, rfl, c0, x.Kind, ⟨rfl, (hcs w18 hD.kp).1⟩, ?_⟩
    refine use (Place_s x.Kind 3 w18 (by omega) (by omega)) ?_
    rintro _ _ ⟨rfl, rfl⟩
    have hbig : ∀ i, i < 2 → unitsL (m i).pend ≤ 1000000000 := fun i hi => by have := hu i hi; omega
    refine ⟨_, rfl, cond_e (fun h4 => ?_) (fun h4 => cond_e (fun h5 w40 hDr => ?_) (fun h5 => ?_))⟩
    · refine ⟨c0, x.B, ⟨rfl, (hcs w18 hD.kp).2.2.2⟩, use (CopyBytes_s x.B (hb.keep0 hD.kp) (by omega)) ?_⟩
      rintro _ w33 ⟨q, rfl, hqo, k33⟩
      refine ⟨q, rfl, use (Append_d ((f : Nat) : Int) (hD.keep k33) hqo.rds hbig) ?_⟩
      rintro _ w36 ⟨rfl, hD1⟩
      refine ⟨_, rfl, _, rfl, ⟨k + 1, _, hw, by omega, hD1, fun i hi => Nat.le_trans (appMf_at m _ _ i) (by have := hu i hi; omega), fun i hi => ?_⟩, by rw [hw]; exact hM⟩
      have hni := hn i hi
      rw [appMf_i m hf2]
      by_cases e : i = f
      · subst e
        rw [fup_same, appF_fits (by omega)]
        simp
        omega
      · rw [fup_ne _ _ e]; omega
    · replace hD := hD.keep hDr.kp
      refine ⟨c0, x.N, ⟨rfl, (hcs w40 hD.kp).2.2.1⟩, use (Size_d ((f : Nat) : Int) hD) ?_⟩
      rintro _ _ ⟨rfl, rfl⟩
      have hsm := hD.small (i := f) hf2
      rw [readF_i _ hf2]
      have hw2 : IntKind.i64.wrap (((m f).now.length : Int) + 1) = (m f).now.length + 1 := by rw [IntKind.wrap_i64]; omega
      refine ⟨_, rfl, (hcs w40 hD.kp).2.2.1, ?_⟩
      rw [hw2]
      refine use (Place_s x.N ((m f).now.length + 1) w40 (by omega) (by omega)) ?_
      rintro _ _ ⟨rfl, rfl⟩
      refine ⟨_, rfl, use (Cut_d ((f : Nat) : Int) _ hD hbig) ?_⟩
      rintro _ w49 ⟨rfl, hD1⟩
      refine ⟨_, rfl, _, rfl, ⟨k + 1, _, hw, by omega, hD1, fun i hi => Nat.le_trans (cutMf_at m _ _ i) (by have := hu i hi; omega), fun i hi => ?_⟩, by rw [hw]; exact hM⟩
      have hni := hn i hi
      rw [cutMf_i m hf2]
      by_cases e : i = f
      · subst e
        rw [fup_same]
        unfold cutF
        split
        · omega
        · simp; omega
      · rw [fup_ne _ _ e]; omega
    · refine use (Sync_d ((f : Nat) : Int) hD) ?_
      rintro _ w53 ⟨rfl, hD1⟩
      refine ⟨_, rfl, _, rfl, ⟨k + 1, _, hw, by omega, hD1, fun i hi => Nat.le_trans (syncMf_at m _ i) (by have := hu i hi; omega), fun i hi => ?_⟩, by rw [hw]; exact hM⟩
      have hni := hn i hi
      rw [syncMf_i m hf2]
      by_cases e : i = f
      · subst e
        rw [fup_same]
        show (m i).now.length ≤ _
        omega
      · rw [fup_ne _ _ e]; omega
  rintro e0 w57 ⟨m, ⟨⟨F, hdF, hFl⟩, k57⟩, hu, hn⟩
  have s57 := k57.size
  refine ⟨fun u w' => ∃ b, u = some ⟨b, 0, none⟩ ∧ Blk w' b [.string (str (m 0).now), .string (str (m 1).now)] ∧ w.heap.size ≤ b ∧ ¬ F b ∧ DiskIs w' F d m ∧ Kp [] w w', ?_, ?_⟩
  · intro w59 hDr
    have hd59 := hdF.keep0 hDr.kp
    have k59 := k57.then0 hDr.kp
    have s59 := k59.size
    have fin : ∀ (w3 w4 : World) (b : Nat) (t : TypeId), Alloc w3 b t [.string ByteArray.empty, .string ByteArray.empty] w4 → Kp [] w59 w3 → ∀ w5, Kp [] w4 w5 → (okVal true 2 (.agg #[.string (str (m 0).now), .string (str (m 1).now)]) = true ∧ canPut w5 ⟨b, 0, none⟩ (.agg #[.string (str (m 0).now), .string (str (m 1).now)])) ∧ ∀ w70 : World, w70 = putAt w5 ⟨b, 0, none⟩ (.agg #[.string (str (m 0).now), .string (str (m 1).now)]) →
        ∃ u71 : (Option Addr), (.pointer (some ⟨b, 0, none⟩) : Value) = .pointer u71 ∧ ∃ b, u71 = some ⟨b, 0, none⟩ ∧ Blk w70 b [.string (str (m 0).now), .string (str (m 1).now)] ∧ w.heap.size ≤ b ∧ ¬ F b ∧ DiskIs w70 F d m ∧ Kp [] w w70 := fun w3 w4 b t hA k3 w5 k5 => by
      have hB := hA.blk.keep k5 (by simp)
      have e4 := hA.eq
      have s3 := k3.size
      have nF : ¬ F b := fun h => by have := hd59.lt b h; omega
      refine ⟨⟨rfl, hB.canN _ (Nat.le_refl _)⟩, fun w70 e70 => ?_⟩
      obtain ⟨hB2, k70, s70⟩ := hB.putAll (by rfl) e70
      have kA : Kp [] w59 w5 := (k3.then0 hA.kp).then0 k5
      exact ⟨_, rfl, b, rfl, hB2, by omega, nF, (hd59.keep0 kA).keepF (k70.toF (F := fun x => x ∈ [b]) (fun x hx => .inl hx)) (fun x hx hm => by simp at hm; subst hm; exact nF hx), (k59.then0 kA).then k70 (fun x hx => by simp at hx; subst hx; right; omega)⟩
    refine ⟨?_, ?_⟩
    · refine use (Read_b ((0 : Nat) : Int) hd59) ?_
      rintro _ w60 ⟨p, rfl, hp, k60⟩
      rw [readF_i _ (by omega)] at hp
      refine ⟨p, rfl, str (m 0).now, hp.rds.str, ?_, ?_⟩
      · refine use (Read_b ((1 : Nat) : Int) (hd59.keep0 k60)) ?_
        rintro _ w64 ⟨q, rfl, hq1, k64⟩
        rw [readF_i _ (by omega)] at hq1
        refine ⟨q, rfl, (hp.rds.keep0 k64).str.2, str (m 1).now, hq1.rds.str, fun b w69 hA => ⟨(hq1.rds.keep0 hA.kp).str.2, ((hp.rds.keep0 k64).keep0 hA.kp).str.2, fin w64 w69 b _ hA (k60.then0 k64) w69 (Kp.refl _ _)⟩⟩
      · intro b w73 hA
        refine ⟨(hp.rds.keep0 hA.kp).str.2, use (Read_b ((1 : Nat) : Int) ((hd59.keep0 k60).keep0 hA.kp)) ?_⟩
        rintro _ w74 ⟨q, rfl, hq1, k74⟩
        rw [readF_i _ (by omega)] at hq1
        exact ⟨q, rfl, ((hp.rds.keep0 hA.kp).keep0 k74).str.2, str (m 1).now, hq1.rds.str, fin w60 w73 b _ hA k60 w74 k74⟩
    · intro b w81 hA
      refine use (Read_b ((0 : Nat) : Int) (hd59.keep0 hA.kp)) ?_
      rintro _ w82 ⟨p, rfl, hp, k82⟩
      rw [readF_i _ (by omega)] at hp
      refine ⟨p, rfl, str (m 0).now, hp.rds.str, use (Read_b ((1 : Nat) : Int) ((hd59.keep0 hA.kp).keep0 k82)) ?_⟩
      rintro _ w86 ⟨q, rfl, hq1, k86⟩
      rw [readF_i _ (by omega)] at hq1
      exact ⟨q, rfl, (hp.rds.keep0 k86).str.2, str (m 1).now, hq1.rds.str, fin w59 w81 b _ hA (Kp.refl _ _) w86 (k82.then0 k86)⟩
  rintro e1 _ w93 ⟨b, rfl, hB, hbl, hbF, hdF93, k93⟩
  clear hdF
  refine use (Crash_s 16777216 16777216 ⟨by decide, by decide⟩ ⟨by decide, by decide⟩ hdF93 (fun i hi => hdF93.plen hi (by have := hu i hi; omega))) ?_
  rintro _ w94 ⟨dn, X, rfl, hX, hXl, k94⟩
  obtain ⟨n, hnm⟩ : ∃ n : Nat → Fm, n = (fun j => crashF (m j) (if j = 0 then 16777216 else 16777216)) := ⟨_, rfl⟩
  rw [← hnm] at hX
  have en : ∀ i, i < 2 → (n i).now = (m i).now := fun i hi => by rw [hnm]; exact crash_now hdF93 (fun i hi => by have := hu i hi; omega) hi
  have up : ∀ i, unitsL (n i).pend = 0 := fun i => by rw [hnm]; rfl
  clear hnm
  have s93 := k93.size
  have hP : AP w w94 b F X d dn m n := ⟨hB.keep k94 (by simp), hbl, hbF, fun h => by have := hXl b h; have := hB.lt; omega, hdF93.keep0 k94, hFl, hX, fun k hk => by have := hXl k hk; omega, fun k h1 h2 => by have := hXl k h2; have := hdF93.lt k h1; omega, k93.then0 k94⟩
  clear hX hdF93 hB
  refine ⟨PD dn, rfl, fun w97 hDr => cond_f rfl ?_⟩
  replace hP := hP.keep0 hDr.kp
  refine ⟨⟨by omega, by omega⟩, _, ⟨rfl, cell0 hP.blk rfl⟩, use (Read_b ((0 : Nat) : Int) hP.dX) ?_⟩
  rintro _ w100 ⟨p, rfl, hp, k100⟩
  rw [readF_i _ (by omega), en 0 (by omega)] at hp
  replace hP := hP.keep0 k100
  refine ⟨p, rfl, cell0 hP.blk rfl, str (m 0).now, hp.rds.str, cond_f (by rw [strEq_str]; simp) ?_⟩
  refine ⟨⟨by omega, by omega⟩, _, ⟨rfl, cell1 hP.blk rfl⟩, use (Read_b ((1 : Nat) : Int) hP.dX) ?_⟩
  rintro _ w106 ⟨p1, rfl, hp1, k106⟩
  rw [readF_i _ (by omega), en 1 (by omega)] at hp1
  replace hP := hP.keep0 k106
  refine ⟨p1, rfl, cell1 hP.blk rfl, str (m 1).now, hp1.rds.str, cond_f (by rw [strEq_str]; simp) ?_⟩
  refine use (CopyBytes_s t (ht.keep0 hP.kp) (by omega)) ?_
  rintro _ w110 ⟨q, rfl, hqo, k110⟩
  replace hP := hP.keep0 k110
  refine ⟨q, rfl, use (Append_b ((0 : Nat) : Int) hP.dX hqo.rds (fun i hi => hP.dX.plen hi (by have := up i; omega))) ?_⟩
  rintro _ w113 ⟨rfl, a1, a2⟩
  have hn0 := hn 0 (by omega)
  have hn1 := hn 1 (by omega)
  rw [appMf_i _ (by omega), appF_fits (by rw [en 0 (by omega)]; omega)] at a1
  replace hP := hP.step a1 a2
  clear a1 a2
  obtain ⟨n1, hn1e⟩ : ∃ n1 : Nat → Fm, n1 = fup n 0 ⟨(n 0).sure, (n 0).now ++ more, (n 0).pend ++ (if more = [] then [] else [.app more])⟩ := ⟨_, rfl⟩
  rw [← hn1e] at hP
  have g0 : (n1 0).now = (m 0).now ++ more := by rw [hn1e, fup_same, ← en 0 (by omega)]
  have gu : ∀ i, i < 2 → unitsL (n1 i).pend ≤ 2000 := fun i hi => by
    rw [hn1e]
    by_cases e : i = 0
    · subst e
      rw [fup_same]
      dsimp only
      rw [unitsL_app, units_one, up]
      omega
    · rw [fup_ne _ _ e, up]; omega
  have g1 : (n1 1).now = (m 1).now := by rw [hn1e, fup_ne _ _ (by omega), en 1 (by omega)]
  clear hn1e en up
  refine ⟨_, rfl, use (Cut_b ((1 : Nat) : Int) 0 hP.dX (fun i hi => hP.dX.plen hi (by have := gu i hi; omega))) ?_⟩
  rintro _ w116 ⟨rfl, a1, a2⟩
  rw [cutMf_i _ (by omega)] at a1
  replace hP := hP.step a1 a2
  clear a1 a2
  obtain ⟨n2, hn2e⟩ : ∃ n2 : Nat → Fm, n2 = fup n1 1 (cutF (n1 1) 0) := ⟨_, rfl⟩
  rw [← hn2e] at hP
  have z0 : (n2 0).now = (m 0).now ++ more := by rw [hn2e, fup_ne _ _ (by omega), g0]
  have z1 : (n2 1).now = [] := by
    rw [hn2e, fup_same]
    unfold cutF
    rw [if_neg (by omega)]
    simp
  clear hn2e g0 g1 gu
  generalize (fun k => (X k ∨ New w110 w113 k) ∨ New w113 w116 k) = X' at hP
  refine ⟨_, rfl, use (Read_b ((0 : Nat) : Int) hP.dF) ?_⟩
  rintro _ w119 ⟨r, rfl, hro, k119⟩
  rw [readF_i _ (by omega)] at hro
  have hlo := hro.lo
  have hap := hP.kp.size
  have far : ∀ x ∈ blkOf r, w.heap.size ≤ x ∧ x ≠ b ∧ ¬ F x ∧ ¬ X' x := fun x hx => by
    have := hlo x hx
    refine ⟨by omega, fun e => ?_, fun h => ?_, fun h => ?_⟩
    · subst e; have := hP.blk.lt; omega
    · have := hP.dF.lt x h; omega
    · have := hP.dX.lt x h; omega
  have hrl := hro.rds.bsize
  refine ⟨r, rfl, fun v w' => ∃ (k : Nat) (l : Bs), v = k ∧ k ≤ r.len ∧ l.length = r.len ∧ OwnB w' w116.heap.size r l ∧ Kp (blkOf r) w119 w', fun v _ => r.len - v.toNat, ⟨_, rfl, 0, _, rfl, by omega, hrl, hro, Kp.refl _ _⟩, fun e2 v w126 hI => ?_⟩
  obtain ⟨k, l, rfl, hk, hl, hol, k126⟩ := hI
  refine cond_d (fun hk2 => ?_) (fun hk2 => ?_)
  · obtain ⟨a, ha, hc⟩ := hol.rds.byte (i := k) (by omega)
    obtain ⟨a', ha', hcan, hput⟩ := hol.bset (i := k) (by omega) (u8of (xorI .u8 (l[k].toNat) 255))
    rw [ha] at ha'
    injection ha' with ha'
    subst ha'
    rw [u8of_val (xor_in8 _)] at hcan hput
    rw [ha, Int.toNat_natCast]
    refine ⟨⟨by omega, hk2⟩, _, ⟨rfl, hc⟩, ⟨by omega, hk2⟩, ⟨rfl, hcan⟩, fun w130 e130 => ?_⟩
    obtain ⟨ho2, k130, s130⟩ := hput w130 e130
    have hw : IntKind.i64.wrap ((k : Int) + 1) = (k + 1 : Nat) := by rw [IntKind.wrap_i64]; omega
    exact ⟨_, rfl, ⟨k + 1, _, hw, by omega, by simpa using hl, ho2, k126.then k130 (fun y hy => .inl hy)⟩, by simp only [hw]; omega⟩
  · intro b132 w133 hA
    have s126 := k126.size
    have s119 := k119.size
    have hx7 : RdB w133 ⟨some ⟨b132, 0, none⟩, 1, 1⟩ [7] := Blk.rdb (l := [7]) hA.blk rfl 1 1 rfl
    obtain ⟨q, nn, c, w137, hrun, hnn, hown, k137, -⟩ := app_bytes (P := Try.prog) (t := 22) (ty := 22) (e := 5) (by kernel_rfl) byte_info (hol.keep0 hA.kp) hx7 (by have := hA.kp.size; omega) (by simp; omega)
    refine ⟨q, nn, c, w137, hrun, fun w138 hDr => ?_⟩
    replace hP := (((hP.keep0 k119).keep k126 far).keep0 hA.kp).keep k137 far
    replace hP := hP.keep0 hDr.kp
    refine cond_t (by dsimp only at hnn; simp; omega) ?_
    refine ⟨⟨by omega, by omega⟩, _, ⟨rfl, cell0 hP.blk rfl⟩, use (Read_b ((0 : Nat) : Int) hP.dF) ?_⟩
    rintro _ w141 ⟨p2, rfl, hp2, k141⟩
    rw [readF_i _ (by omega)] at hp2
    replace hP := hP.keep0 k141
    refine ⟨p2, rfl, cell0 hP.blk rfl, str (m 0).now, hp2.rds.str, cond_t (by rw [strEq_str]; simp) ?_⟩
    refine ⟨⟨by omega, by omega⟩, _, ⟨rfl, cell1 hP.blk rfl⟩, use (Read_b ((1 : Nat) : Int) hP.dF) ?_⟩
    rintro _ w147 ⟨p3, rfl, hp3, k147⟩
    rw [readF_i _ (by omega)] at hp3
    replace hP := hP.keep0 k147
    refine ⟨p3, rfl, cell1 hP.blk rfl, str (m 1).now, hp3.rds.str, cond_t (by rw [strEq_str]; simp) ?_⟩
    refine ⟨⟨by omega, by omega⟩, _, ⟨rfl, cell0 hP.blk rfl⟩, str more, (ht.keep0 hP.kp).str, by rw [str_size, str_size]; omega, use (Read_b ((0 : Nat) : Int) hP.dX) ?_⟩
    rintro _ w154 ⟨p4, rfl, hp4, k154⟩
    rw [readF_i _ (by omega), z0] at hp4
    replace hP := hP.keep0 k154
    refine ⟨p4, rfl, (ht.keep0 hP.kp).str.2, cell0 hP.blk rfl, str _, hp4.rds.str, cond_t (by rw [str_add, strEq_str]; simp) ?_⟩
    refine use (Size_b ((1 : Nat) : Int) hP.dX) ?_
    rintro _ _ ⟨rfl, rfl⟩
    rw [readF_i _ (by omega), z1]
    exact ⟨_, rfl, by simp, hP.kp⟩)
theorem DiskApart_walk (s : Sl) (L : List M.skeplaw03_Op) (a2 : Option Addr) (c2 : Nat) (l2 : List Int) (w : World) (_ : s.len ≤ s.cap ∧ s.cap ≤ maxLen) (hr : IsL w 5 S.skeplaw03_Op.v (Is.skeplaw03_Op w) s L) (hq : ∀ x ∈ L, Wf.skeplaw03_Op x) (h2 : Rd .u8 w a2 l2) (hc2 : l2.length ≤ c2) :
    Calls Try.prog 5 #[.slice s.a s.len s.cap, .slice a2 l2.length c2] w fun e w' => e = .returned (.bool true) ∧ Below w.heap.size w w' := ret_true (DiskApart_s s ⟨a2, l2.length, c2⟩ L w hr hq (rdb_of_rd h2 c2) hc2)
end Go.Proofs.Ytjjleboohldkiaa
