/- The document's disk (skepref03): what turns it. No conditions. -/
import Derived.Test.YtfgepillnemolaaDisk3
namespace Go.Proofs.Ytfgepillnemolaa
open Go.RowKit Go.Eng
set_option linter.unusedVariables false
theorem u_info : (Try.prog.info? 109).map (fun i => (i.zero, i.size, i.bytes)) = some (some (.agg #[.int .u8 0, .bool false, .int .i64 0]), 3, 16) := by kernel_rfl
set_option maxHeartbeats 1000000 in
set_option maxRecDepth 20000 in
/-- One unit more. -/
theorem rput1 {F : Nat → Prop} {d : Nat} {m : Nat → Bs × List RU} {i : Nat} (hi : i < 2) {w : World} (h : RDiskIs w F d m) (u : RU) (hu : (m i).2.length ≤ 1000000000000) :
    ∃ s : Sl, w.cell? ⟨d, i * 2 + 1, none⟩ = some (.slice s.a s.len s.cap) ∧ ∀ (b17 : Nat) (w18 : World), Alloc w b17 109 (uC u) w18 → w18.cell? ⟨d, i * 2 + 1, none⟩ = some (.slice s.a s.len s.cap) ∧
      ∃ (q : Option Addr) (n c : Nat) (w22 : World), (Builtin.append_ #[99, 99] 99 #[.slice s.a s.len s.cap, .slice (some ⟨b17, 0, none⟩) 1 1]).run Try.prog w18 = .ok (.slice q n c) w22 ∧
      canPut w22 ⟨d, i * 2 + 1, none⟩ (.slice q n c) ∧ ∀ w23 : World, w23 = putAt w22 ⟨d, i * 2 + 1, none⟩ (.slice q n c) →
        RDiskIs w23 (fun k => F k ∨ New w w23 k) d (rup m i ((m i).1, (m i).2 ++ [u])) ∧ KpF F w w23 := by
  have h0 := h
  obtain ⟨⟨cs, s, FF, hB, hcl, hrow, hfi, hnd, hdj, hFF⟩, hdF, hlt⟩ := h
  have f := hfi i hi
  refine ⟨(s i).Us, hB.at (hrow i hi 1 _ rfl), fun b17 w18 hA => ?_⟩
  have s18 := hA.eq
  have hB18 := hB.keep hA.kp (by simp)
  refine ⟨hB18.at (hrow i hi 1 _ rfl), ?_⟩
  have hA' : Blk w18 b17 (uC u) := hA.blk
  have husl := (u_rd f.us).len
  have hx : Rds w18 3 ⟨some ⟨b17, 0, none⟩, 1, 1⟩ (uC u) := by
    have := Blk.rds1 hA'
    rwa [uC_len] at this
  obtain ⟨q, n, c, w22, hrun, hn, ho, k22, hq⟩ := app_any (ty := 99) Try.underlying99 u_info rfl (by decide) (f.us.keep0 hA.kp) hx (uC_leaf u) (Nat.zero_le _) (by dsimp only; omega) (by dsimp only; omega)
  refine ⟨q, n, c, w22, hrun, ?_⟩
  have hdus : d ∉ blkOf (s i).Us := fun hx => hnd i hi (f.usF d hx)
  have hB22 := hB18.keep k22 hdus
  refine ⟨hB22.can1 _ rfl (by omega), fun w23 e23 => ?_⟩
  obtain ⟨hB23, k23, s23⟩ := hB22.put1 rfl e23
  have s22 := k22.size
  have huslt : ∀ x ∈ blkOf (s i).Us, x < w.heap.size := fun x hx => hlt x (hFF i hi x (f.usF x hx))
  have hdlt := hlt d hdF
  have hqF : ∀ x ∈ blkOf ⟨q, n, c⟩, x ∈ blkOf (s i).Us ∨ (w18.heap.size ≤ x ∧ x < w22.heap.size) := by
    intro x hx
    rcases hq with e | ⟨hf, _⟩
    · left; unfold blkOf at hx ⊢; rw [e] at hx; exact hx
    · exact .inr ⟨hf x hx, (ho.lo x hx).2⟩
  refine rdisk_putX (X := New w w23) h0 (s := s) (s' := fun j => if j = i then ⟨(s i).Sure, ⟨q, n, c⟩⟩ else s j) hi hfi hnd hdj hFF (fun x hx hf => by have := hlt x hf; unfold New at hx; omega) (fun x hx => hx.2) hB23 (by simpa using hcl) ?_ (fun j hj => if_neg hj) ?_ ?_
  · exact hrow.cell (r := i) (k := 1) hi (by omega) (by omega) (fun _ => rfl) (by rw [if_pos rfl]; rfl) (fun j _ hne => by rw [if_neg hne])
  · rw [if_pos rfl]
    refine ⟨?_, ?_, fun x hx => ⟨.inl (f.sureF x hx).1, fun hx2 => ?_⟩, fun x hx => ?_⟩
    · exact ((f.sure.keep0 hA.kp).keep k22 (fun a ha => (f.sureF _ (mem_blk ha)).2)).keep k23 (fun a ha => by
        simp
        intro e
        exact hnd i hi (e ▸ (f.sureF _ (mem_blk ha)).1))
    · rw [List.flatMap_append]
      simpa using ho.keep k23 (fun x hx => by
        simp
        rintro rfl
        rcases hqF x hx with h | h
        · exact hdus h
        · omega)
    · rcases hqF x hx2 with h | h
      · exact (f.sureF x hx).2 h
      · have := hlt x (hFF i hi x (f.sureF x hx).1)
        omega
    · rcases hqF x hx with h | h
      · exact .inl (f.usF x h)
      · exact .inr ⟨by omega, by omega⟩
  · refine (((hA.kp.toF (F := fun k => k = d ∨ FF i k) (by simp)).thenK k22 (fun x hx => .inl (.inr (f.usF x hx))))).thenK k23 (by simp)
theorem ne01 {i : Nat} (hi : i < 2) {X : Prop} {Y : Prop} (h : X) : cond ((i : Int) != 0) (cond ((i : Int) != 1) Y X) X :=
  cond_n (fun _ => cond_n (fun _ => by omega) (fun _ => h)) (fun _ => h)
set_option maxHeartbeats 1000000 in
set_option maxRecDepth 20000 in
theorem rAppend_s {F : Nat → Prop} {d : Nat} {m : Nat → Bs × List RU} {i : Nat} (hi : i < 2) {f : Fm} {b : Bs} {p : Sl} {w : World} (h : RDiskIs w F d m) (hm : m i = rof f) (hL : Leads f.sure f.pend f.now) (hu : unitsL f.pend ≤ 100000000000) (hp : RdB w p b) (hpF : 0 < p.len → ∀ x ∈ blkOf p, ¬ F x) (hbl : b.length ≤ 100000000000) :
    C.skepref03_Disk_Append (some ⟨d, 0, none⟩) i p w (fun v w' => v = .int .i64 (appE f b) ∧ RDiskIs w' (fun k => F k ∨ New w w' k) d (rup m i (rof (appF f b))) ∧ KpF F w w') noP := skepref03_Disk_Append_of (by
  unfold W.skepref03_Disk_Append
  have hps := hp.bsize
  refine ⟨fun w' => w = w', ne01 hi rfl, ?_⟩
  rintro e0 _ rfl
  refine use (rSize_s hi h hm hL (by omega)) ?_
  rintro _ w3 ⟨rfl, k3⟩
  refine ⟨_, rfl, ?_⟩
  have hle := hL.okw
  have hw3 : IntKind.i64.wrap ((f.now.length : Int) + (p.len : Int)) = f.now.length + p.len := by
    have : f.now.length ≤ 16777216 := by have := crash_small hL (unitsL f.pend); rwa [crash_all hL _ (Nat.le_refl _)] at this
    rw [IntKind.wrap_i64]; omega
  rw [hw3]
  have s3 := k3.size
  have hlt := h.lt
  refine cond_d (fun h1 => ?_) (fun h1 => ?_)
  · unfold appE appF
    rw [if_pos (by omega), if_pos (by omega), ← hm, rup_self]
    exact ⟨rfl, (h.keep0 k3).mono (fun x hx => .inl hx) (fun x hx => hx.elim (fun h => by have := hlt x h; omega) (fun h => h.2)), k3.toF (by simp)⟩
  · have hE : appE f b = 0 := by unfold appE; rw [if_neg (by omega)]
    have hF : rof (appF f b) = (f.sure, unitsOf f.pend ++ b.map .byte) := by
      unfold appF rof
      rw [if_neg (by omega)]
      split
      · rename_i e; rw [e]; simp
      · dsimp only; rw [unitsOf_app]; simp [unitsOf]
    rw [hE, hF]
    refine ⟨fun v w' => ∃ (j : Nat) (F' : Nat → Prop), v = j ∧ j ≤ b.length ∧ RDiskIs w' F' d (rup m i (f.sure, unitsOf f.pend ++ (b.take j).map .byte)) ∧ (∀ k, F' k → F k ∨ New w w' k) ∧ KpF F w w', fun v _ => b.length - v.toNat,
      ⟨_, rfl, 0, F, rfl, by omega, ?_, fun k hk => .inl hk, k3.toF (by simp)⟩, fun e0 v w10 hI => ?_⟩
    · have : (f.sure, unitsOf f.pend ++ (b.take 0).map RU.byte) = m i := by rw [hm]; simp [rof]
      rw [this, rup_self]
      exact h.keep0 k3
    obtain ⟨j, F', rfl, hj, hR, hF', hk⟩ := hI
    have s10 := hk.size
    refine cond_d (fun h2 => ?_) (fun h2 => ?_)
    · intro w11 hD
      have s11 := hD.sz
      have hR' := hR.keep0 hD.kp
      have hp11 := (hp.keepF0 hk hpF).keep0 hD.kp
      obtain ⟨ad, ha, hc⟩ := hp11.byte (i := j) (by omega)
      obtain ⟨sl, hc1, hput⟩ := rput1 hi hR' (.byte b[j]) (by rw [rup_same]; have := unitsOf_len f.pend; simp; omega)
      rw [rup_same, rup_rup] at hput
      dsimp only [withSome]
      simp only [add_blk, Nat.zero_add, Int.toNat_natCast]
      refine ⟨⟨by omega, by omega⟩, sl, ⟨by trivial, hc1⟩, ⟨by omega, h2⟩, ?_⟩
      rw [ha]
      refine ⟨_, ⟨by trivial, hc⟩, fun b17 w18 hA => ?_⟩
      obtain ⟨hc2, q, n, c, w22, hrun, hcan, hfin⟩ := hput b17 w18 hA
      refine ⟨hc2, q, n, c, w22, hrun, ⟨by omega, by omega⟩, ⟨by trivial, hcan⟩, fun w23 e23 => ?_⟩
      obtain ⟨hR23, k23⟩ := hfin w23 e23
      have hw : IntKind.i64.wrap ((j : Int) + 1) = (j + 1 : Nat) := by rw [IntKind.wrap_i64]; omega
      have s23 := k23.size
      refine ⟨_, rfl, ⟨j + 1, fun k => F' k ∨ New w11 w23 k, hw, by omega, ?_, fun x hx => ?_, (hk.then0 hD.kp).then k23 (fun x hx => ?_)⟩, by simp only [hw]; omega⟩
      · rw [List.take_add_one, List.getElem?_eq_getElem (by omega), List.map_append, ← List.append_assoc]
        exact hR23
      · unfold New at hx ⊢
        rcases hx with hx | hx
        · have := hF' x hx
          unfold New at this
          rcases this with h | h
          · exact .inl h
          · exact .inr ⟨h.1, by omega⟩
        · exact .inr ⟨by omega, hx.2⟩
      · rcases hF' x hx with h | h
        · exact .inl h
        · exact .inr h.1
    · have : j = b.length := by omega
      subst this
      rw [List.take_length] at hR
      refine ⟨rfl, hR.mono hF' (fun x hx => ?_), hk⟩
      rcases hx with hx | hx
      · have := hlt x hx; omega
      · exact hx.2)
set_option maxHeartbeats 1000000 in
set_option maxRecDepth 20000 in
theorem rCut_s {F : Nat → Prop} {d : Nat} {m : Nat → Bs × List RU} {i : Nat} (hi : i < 2) {f : Fm} (n : Int) {w : World} (h : RDiskIs w F d m) (hm : m i = rof f) (hL : Leads f.sure f.pend f.now) (hu : unitsL f.pend ≤ 100000000000) :
    C.skepref03_Disk_Cut (some ⟨d, 0, none⟩) i n w (fun v w' => v = .int .i64 (cutE f n) ∧ RDiskIs w' (fun k => F k ∨ New w w' k) d (rup m i (rof (cutF f n))) ∧ KpF F w w') noP := skepref03_Disk_Cut_of (by
  unfold W.skepref03_Disk_Cut
  have hlt := h.lt
  have same : ∀ w', Kp [] w w' → (n < 0 ∨ (f.now.length : Int) < n) → Value.int .i64 1 = .int .i64 (cutE f n) ∧ RDiskIs w' (fun k => F k ∨ New w w' k) d (rup m i (rof (cutF f n))) ∧ KpF F w w' := fun w' k e => by
    unfold cutE cutF
    rw [if_pos e, if_pos e, ← hm, rup_self]
    have := k.size
    exact ⟨rfl, (h.keep0 k).mono (fun x hx => .inl hx) (fun x hx => hx.elim (fun h => by have := hlt x h; omega) (fun h => h.2)), k.toF (by simp)⟩
  refine ⟨fun w' => 0 ≤ n ∧ n ≤ f.now.length ∧ Kp [] w w', ne01 hi (cond_d (fun h1 => same w (Kp.refl _ _) (.inl h1)) fun h1 => ?_), ?_⟩
  · refine use (rSize_s hi h hm hL (by omega)) ?_
    rintro _ w2 ⟨rfl, k2⟩
    exact ⟨_, rfl, cond_d (fun h2 => same w2 k2 (.inr (by omega))) (fun h2 => ⟨by omega, by omega, k2⟩)⟩
  · rintro e0 w8 ⟨h1, h2, k8⟩ w9 hD
    have k9 := k8.then0 hD.kp
    have s9 := k9.size
    obtain ⟨nn, rfl⟩ : ∃ nn : Nat, n = nn := ⟨n.toNat, by omega⟩
    obtain ⟨sl, hc1, hput⟩ := rput1 hi (h.keep0 k9) (.cut nn) (by rw [hm]; have := unitsOf_len f.pend; simp [rof]; omega)
    dsimp only [withSome]
    simp only [add_blk, Nat.zero_add, Int.toNat_natCast]
    refine ⟨⟨by omega, by omega⟩, sl, ⟨by trivial, hc1⟩, fun b17 w18 hA => ?_⟩
    obtain ⟨hc2, q, n', c, w22, hrun, hcan, hfin⟩ := hput b17 w18 hA
    refine ⟨hc2, q, n', c, w22, hrun, ⟨by omega, by omega⟩, ⟨by trivial, hcan⟩, fun w23 e23 => ?_⟩
    obtain ⟨hR23, k23⟩ := hfin w23 e23
    have s23 := k23.size
    have hE : cutE f nn = 0 := by unfold cutE; rw [if_neg (by omega)]
    have hF : rof (cutF f nn) = ((m i).1, (m i).2 ++ [.cut nn]) := by
      unfold cutF rof
      rw [if_neg (by omega), hm]
      dsimp only [rof]
      rw [unitsOf_app]
      simp [unitsOf]
    rw [hE, hF]
    refine ⟨by trivial, hR23.mono (fun x hx => ?_) (fun x hx => ?_), (k9.toF (F := F) (by simp)).then k23 (fun x hx => .inl hx)⟩
    · unfold New at hx ⊢
      rcases hx with hx | hx
      · exact .inl hx
      · exact .inr ⟨by omega, hx.2⟩
    · rcases hx with hx | hx
      · have := hlt x hx; omega
      · exact hx.2)
set_option maxHeartbeats 1000000 in
set_option maxRecDepth 20000 in
theorem rSync_s {F : Nat → Prop} {d : Nat} {m : Nat → Bs × List RU} {i : Nat} (hi : i < 2) {f : Fm} {w : World} (h : RDiskIs w F d m) (hm : m i = rof f) (hL : Leads f.sure f.pend f.now) (hu : unitsL f.pend ≤ 100000000000) :
    C.skepref03_Disk_Sync (some ⟨d, 0, none⟩) i w (fun v w' => v = .int .i64 0 ∧ RDiskIs w' (fun k => F k ∨ New w w' k) d (rup m i (rof (syncF f))) ∧ KpF F w w') noP := skepref03_Disk_Sync_of (by
  unfold W.skepref03_Disk_Sync
  refine ne01 hi ?_
  intro w1 hD
  have h1 := h.keep0 hD.kp
  dsimp only [withSome]
  refine use (rRead_s hi h1 hm hL (by omega)) ?_
  rintro _ w3 ⟨q, rfl, ho, k3⟩
  refine ⟨q, rfl, ⟨by omega, by omega⟩, ?_⟩
  have h3 := h1.keep0 k3
  have h30 := h3
  obtain ⟨⟨cs, s, FF, hB, hcl, hrow, hfi, hnd, hdj, hFF⟩, hdF, hlt⟩ := h3
  have ff := hfi i hi
  have s1 := hD.sz
  have hqlo := ho.lo
  rw [add_blk, Nat.zero_add, Int.toNat_natCast]
  refine ⟨⟨rfl, hB.canN _ (by show i * 2 + 2 ≤ _; omega)⟩, fun w6 e6 => ?_⟩
  obtain ⟨hB6, k6, s6⟩ := hB.putN (by show i * 2 + 2 ≤ _; omega) e6
  refine ⟨rfl, ?_⟩
  have hlt0 := h.lt
  have hdlt := hlt0 d h.dF
  have kk : Kp [] w w3 := hD.kp.then0 k3
  have hput := rdisk_putX (X := fun y => y ∈ blkOf q) (f' := (f.now, [])) (s' := fun j => if j = i then ⟨q, ⟨none, 0, 0⟩⟩ else s j) h30 hi hfi hnd hdj hFF (fun y hy hf => by have := hqlo y hy; have := hlt0 y hf; omega) (fun y hy => by have := hqlo y hy; omega) hB6 ?_ ?_ (fun j hj => if_neg hj) ?_ (k6.toF (by simp))
  · obtain ⟨hR, kF⟩ := hput
    refine ⟨hR.mono (fun x hx => ?_) (fun x hx => ?_), (kk.toF (F := F) (by simp)).then kF (fun x hx => .inl hx)⟩
    · rcases hx with hx | hx
      · exact .inl hx
      · have := hqlo x hx; exact .inr ⟨by omega, by omega⟩
    · rcases hx with hx | hx
      · have := hlt0 x hx; have := kk.size; omega
      · exact hx.2
  · show (cs.take (i * 2) ++ [_, _] ++ cs.drop (i * 2 + 2)).length = 4
    simp
    omega
  · have hg := hrow.set (r := i) (g := fun j => rfileC (if j = i then ⟨q, ⟨none, 0, 0⟩⟩ else s j)) hi (by omega) (fun _ => rfl) rfl (fun j _ hne => by rw [if_neg hne])
    rw [if_pos rfl] at hg
    exact hg
  · rw [if_pos rfl]
    have hq6 := ho.keep k6 (fun y hy => by simp; rintro rfl; have := hqlo y hy; omega)
    exact ⟨hq6.rds, Go.Eng.Own.nil _ _ _, fun y hy => ⟨.inr hy, by simp [blkOf]⟩, by simp [blkOf]⟩)
theorem rPending_s {F : Nat → Prop} {d : Nat} {m : Nat → Bs × List RU} {i : Nat} (hi : i < 2) {f : Fm} {w : World} (h : RDiskIs w F d m) (hm : m i = rof f) :
    C.skepref03_Disk_Pending (some ⟨d, 0, none⟩) i w (fun v w' => v = .int .i64 (unitsL f.pend) ∧ Kp [] w w') noP := skepref03_Disk_Pending_of (by
  unfold W.skepref03_Disk_Pending
  refine ne01 hi ?_
  obtain ⟨⟨cs, s, FF, hB, hcl, hrow, hfi, hnd, hdj, hFF⟩, hdF, hlt⟩ := h
  have ff := hfi i hi
  rw [hm] at ff
  have hus := (u_rd ff.us).len
  dsimp only [rof] at hus
  rw [unitsOf_len] at hus
  dsimp only [withSome]
  rw [add_blk, add_blk, Nat.zero_add, Int.toNat_natCast]
  exact ⟨⟨by omega, by omega⟩, (s i).Us, ⟨rfl, hB.at (hrow i hi 1 _ rfl)⟩, by rw [hus], Kp.refl _ _⟩)
set_option maxHeartbeats 1000000 in
set_option maxRecDepth 20000 in
theorem rCrash_s {F : Nat → Prop} {d : Nat} {m : Nat → Fm} (a p : Int) {w : World} (h : RDiskIs w F d (fun i => rof (m i))) (hL : ∀ i, i < 2 → Leads (m i).sure (m i).pend (m i).now) (hu : ∀ i, i < 2 → unitsL (m i).pend ≤ 100000000000) :
    C.skepref03_Disk_Crash (some ⟨d, 0, none⟩) a p w (fun v w' => ∃ dn F', v = .pointer (some ⟨dn, 0, none⟩) ∧ RDiskIs w' F' dn (fun j => rof (crashF (m j) (if j = 0 then a else p))) ∧ (∀ k, F' k → w.heap.size ≤ k) ∧ Kp [] w w') noP := skepref03_Disk_Crash_of (by
  unfold W.skepref03_Disk_Crash
  intro b1 w2 hA w3 hD
  have s2 := hA.eq
  have s3 := hD.sz
  have hN := (hA.blk).keep hD.kp (by simp)
  have k3 := hA.kp.then0 hD.kp
  obtain ⟨⟨cs, s, FF, hB, hcl, hrow, hfi, hnd, hdj, hFF⟩, hdF, hlt⟩ := h
  have toF : ∀ {x y : World}, Kp [] x y → KpF (fun _ => False) x y := fun k => k.toF (by simp)
  dsimp only [withSome]
  have f0 := (hfi 0 (by omega)).keepF (toF k3) (fun _ _ h => h)
  have r0 := RowsOf.rdA (hB.keep k3 (by simp)) hrow (i := 0) (by omega)
  rw [Nat.zero_mul, show (Addr.add ⟨d, 0, none⟩ 0) = ⟨d, 0, none⟩ from by rw [add_blk]] at r0
  refine ⟨⟨by omega, by omega⟩, s 0, ⟨rfl, r0⟩, ?_⟩
  refine use (with_s (s 0) a f0.sure (u_rd f0.us) (hL 0 (by omega)) (by have := hu 0 (by omega); omega)) ?_
  rintro _ w6 ⟨q0, rfl, ho0, k6⟩
  have s6 := k6.size
  have hlo0 := ho0.lo
  refine ⟨q0, rfl, ⟨by omega, by omega⟩, ?_⟩
  replace hN := hN.keep k6 (by simp)
  refine ⟨⟨rfl, hN.can1 _ rfl (Nat.le_of_ble_eq_true rfl)⟩, fun w9 e9 w10 hD10 => ?_⟩
  obtain ⟨hN, k9, s9⟩ := hN.put1 rfl e9
  replace ho0 := (ho0.keep k9 (fun y hy => by simp; have := hlo0 y hy; omega)).keep0 hD10.kp
  replace hN := hN.keep hD10.kp (by simp)
  have s10 := hD10.sz
  have k10 : Kp [] w w10 := ((k3.then0 k6).then k9 (by simp; omega)).then0 hD10.kp
  have f1 := (hfi 1 (by omega)).keepF (toF k10) (fun _ _ h => h)
  have r1 := RowsOf.rdA (hB.keep k10 (by simp)) hrow (i := 1) (by omega)
  rw [Nat.one_mul] at r1
  refine ⟨⟨by omega, by omega⟩, s 1, ⟨rfl, r1⟩, ?_⟩
  refine use (with_s (s 1) p f1.sure (u_rd f1.us) (hL 1 (by omega)) (by have := hu 1 (by omega); omega)) ?_
  rintro _ w13 ⟨q1, rfl, ho1, k13⟩
  have s13 := k13.size
  have hlo1 := ho1.lo
  refine ⟨q1, rfl, ⟨by omega, by omega⟩, ?_⟩
  replace hN := hN.keep k13 (by simp)
  refine ⟨⟨rfl, hN.can1 _ rfl (Nat.le_of_ble_eq_true rfl)⟩, fun w16 e16 => ?_⟩
  obtain ⟨hN, k16, s16⟩ := hN.put1 rfl e16
  replace ho0 := (ho0.keep0 k13).keep k16 (fun y hy => by simp; have := hlo0 y hy; omega)
  replace ho1 := ho1.keep k16 (fun y hy => by simp; have := hlo1 y hy; omega)
  refine ⟨b1, fun k => k = b1 ∨ k ∈ blkOf q0 ∨ k ∈ blkOf q1, rfl, ⟨⟨_, fun j => if j = 0 then ⟨q0, ⟨none, 0, 0⟩⟩ else ⟨q1, ⟨none, 0, 0⟩⟩, fun j k => if j = 0 then k ∈ blkOf q0 else k ∈ blkOf q1, hN, rfl, ?_, ?_, ?_, ?_, ?_⟩, .inl rfl, ?_⟩, ?_, ?_⟩
  · intro i hi j v hj
    have h2 : i = 0 ∨ i = 1 := by omega
    have hj3 : j < 2 := (List.getElem?_eq_some_iff.1 hj).1
    have h3 : j = 0 ∨ j = 1 := by omega
    rcases h2 with rfl | rfl <;> rcases h3 with rfl | rfl <;> exact hj
  · intro i hi
    have h2 : i = 0 ∨ i = 1 := by omega
    rcases h2 with rfl | rfl
    · exact ⟨ho0.rds, Go.Eng.Own.nil _ _ _, fun x hx => ⟨hx, by simp [blkOf]⟩, by simp [blkOf]⟩
    · exact ⟨ho1.rds, Go.Eng.Own.nil _ _ _, fun x hx => ⟨hx, by simp [blkOf]⟩, by simp [blkOf]⟩
  · intro i hi hx
    have h2 : i = 0 ∨ i = 1 := by omega
    rcases h2 with rfl | rfl
    · have := hlo0 b1 hx; omega
    · have := hlo1 b1 hx; omega
  · intro x hx hy
    have := hlo0 x hx
    have := hlo1 x hy
    omega
  · intro i hi x hx
    have h2 : i = 0 ∨ i = 1 := by omega
    rcases h2 with rfl | rfl
    · exact .inr (.inl hx)
    · exact .inr (.inr hx)
  · rintro x (rfl | hx | hx)
    · omega
    · have := hlo0 x hx; omega
    · have := hlo1 x hx; omega
  · rintro x (rfl | hx | hx)
    · omega
    · have := hlo0 x hx; omega
    · have := hlo1 x hx; omega
  · exact (k10.then0 k13).then k16 (by simp; omega))
end Go.Proofs.Ytfgepillnemolaa
