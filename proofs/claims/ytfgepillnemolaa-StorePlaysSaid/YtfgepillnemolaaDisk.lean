/- The disk's contracts. No conditions. -/
import Derived.Test.YtfgepillnemolaaDiskM
namespace Go.Proofs.Ytfgepillnemolaa
open Go.RowKit Go.Eng
set_option linter.unusedVariables false
theorem fup_self (m : Nat → Fm) (i : Nat) : fup m i (m i) = m := by
  funext j
  unfold fup
  split
  · rename_i e; rw [e]
  · rfl
theorem fup_same (m : Nat → Fm) (i : Nat) (f : Fm) : fup m i f i = f := by simp [fup]
theorem fup_ne (m : Nat → Fm) {i j : Nat} (f : Fm) (h : j ≠ i) : fup m i f j = m j := by simp [fup, h]
theorem file_s (d : Nat) {i : Nat} (hi : i < 2) (w : World) : C.disk_Disk_file (some ⟨d, 0, none⟩) i w (fun v w' => v = .pointer (some ⟨d, i * 3, none⟩) ∧ w = w') noP := disk_Disk_file_of (by
  unfold W.disk_Disk_file
  refine cond_f rfl (cond_d (fun h => by omega) fun _ => cond_d (fun h => by omega) fun _ => ⟨⟨by omega, by omega⟩, ?_⟩)
  rw [add_blk, Nat.zero_add, Int.toNat_natCast]
  exact ⟨rfl, rfl⟩)
theorem file_n (d : Nat) {i : Int} (hi : i < 0 ∨ 2 ≤ i) (w : World) : C.disk_Disk_file (some ⟨d, 0, none⟩) i w (fun v w' => v = .pointer none ∧ w = w') noP := disk_Disk_file_of (by
  unfold W.disk_Disk_file
  exact cond_f rfl (cond_d (fun h => ⟨rfl, rfl⟩) fun _ => cond_d (fun h => ⟨rfl, rfl⟩) fun _ => by omega))
theorem dNew_s (w : World) : C.disk_New w (fun v w' => ∃ d F, v = .pointer (some ⟨d, 0, none⟩) ∧ DiskIs w' F d (fun _ => ⟨[], [], []⟩) ∧ Kp [] w w' ∧ ∀ k, F k → w.heap.size ≤ k) noP := disk_New_of (by
  unfold W.disk_New
  intro b1 w2 hA
  have s2 := hA.eq
  refine ⟨b1, (· = b1), rfl, ⟨⟨_, fun _ => ⟨⟨none, 0, 0⟩, ⟨none, 0, 0⟩, ⟨none, 0, 0⟩⟩, fun _ _ => False, hA.blk, rfl, ?_, fun i hi => FileIs.empty _ _, fun _ _ h => h, fun _ h _ => h, fun _ _ _ h => h.elim⟩, rfl, fun k hk => by omega⟩, hA.kp, fun k hk => by omega⟩
  intro i hi j v hj
  have hj3 : j < 3 := (List.getElem?_eq_some_iff.1 hj).1
  have h2 : i = 0 ∨ i = 1 := by omega
  have h3 : j = 0 ∨ j = 1 ∨ j = 2 := by omega
  rcases h2 with rfl | rfl <;> rcases h3 with rfl | rfl | rfl <;> exact hj)
theorem units_s (x : S.disk_done) {p : Pd} {F : Nat → Prop} {s : S.disk_file} {w : World} (h : PdIs w F s x p) : C.disk_done_units x w (fun v w' => v = .int .i64 p.units ∧ Kp [] w w' ∧ w'.heap.size = w.heap.size + 1) noP := disk_done_units_of (by
  unfold W.disk_done_units
  intro b1 w2 hA
  have hB := hA.blk
  have s2 := hA.eq
  refine ⟨_, ⟨rfl, hB.at rfl⟩, ?_⟩
  cases p with
  | app b =>
    rw [h.1]
    refine cond_f rfl ⟨_, ⟨rfl, hB.at rfl⟩, ?_⟩
    exact ⟨by rw [← h.2.1.1.bsize]; rfl, hA.kp, s2.2⟩
  | cut m =>
    rw [h.1]
    exact cond_t rfl ⟨rfl, hA.kp, s2.2⟩)
/-- A file has been turned; X: what is new. -/
theorem disk_putX {w w' : World} {F X : Nat → Prop} {d : Nat} {m : Nat → Fm} (h : DiskIs w F d m) {cs cs' : List Value} {s s' : Nat → S.disk_file} {FF : Nat → Nat → Prop} {f' : Fm} {i : Nat} (hi : i < 2)
    (hfi : ∀ i, i < 2 → FileIs w (FF i) (s i) (m i)) (hnd : ∀ i, i < 2 → ¬ FF i d) (hdj : ∀ k, FF 0 k → FF 1 k → False) (hFF : ∀ i, i < 2 → ∀ k, FF i k → F k)
    (hX : ∀ k, X k → ¬ F k) (hXl : ∀ k, X k → k < w'.heap.size)
    (hB : Blk w' d cs') (hl : cs'.length = 6) (hrow : RowsOf 3 cs' 2 (fun i => fileC (s' i))) (hs : ∀ j, j ≠ i → s' j = s j) (hf : FileIs w' (fun k => FF i k ∨ X k) (s' i) f') (k : KpF (fun k => k = d ∨ FF i k) w w') :
    DiskIs w' (fun k => F k ∨ X k) d (fup m i f') ∧ KpF F w w' := by
  have hlt := h.lt
  have hdF := h.dF
  refine ⟨⟨⟨cs', s', fun j k => FF j k ∨ (j = i ∧ X k), hB, hl, hrow, ?_, ?_, ?_, ?_⟩, .inl hdF, ?_⟩, ?_⟩
  · intro j hj
    by_cases e : j = i
    · subst e
      rw [fup_same]
      exact hf.mono (fun x hx => hx.imp id fun h => ⟨rfl, h⟩)
    · rw [fup_ne _ _ e, hs j e]
      refine ((hfi j hj).keepF k (fun x hx hg => ?_)).mono (fun x hx => .inl hx)
      rcases hg with rfl | hg
      · exact hnd j hj hx
      · have : (i = 0 ∧ j = 1) ∨ (i = 1 ∧ j = 0) := by omega
        rcases this with ⟨rfl, rfl⟩ | ⟨rfl, rfl⟩
        · exact hdj x hg hx
        · exact hdj x hx hg
  · rintro j hj (hd | ⟨_, hd⟩)
    · exact hnd j hj hd
    · exact hX d hd hdF
  · rintro x (h0 | ⟨e0, h0⟩) (h1 | ⟨e1, h1⟩)
    · exact hdj x h0 h1
    · exact hX x h1 (hFF 0 (by omega) x h0)
    · exact hX x h0 (hFF 1 (by omega) x h1)
    · omega
  · rintro j hj x (hx | ⟨_, hx⟩)
    · exact .inl (hFF j hj x hx)
    · exact .inr hx
  · rintro x (hx | hx)
    · have := hlt x hx; have := k.size; omega
    · exact hXl x hx
  · exact ⟨k.os, k.tape, k.output, k.size, fun x hx hn => k.block x hx (fun hg => hn (by
      rcases hg with rfl | hg
      · exact hdF
      · exact hFF i hi x hg))⟩
/-- A file has been turned. -/
theorem disk_put {w w' : World} {F : Nat → Prop} {d : Nat} {m : Nat → Fm} (h : DiskIs w F d m) {cs cs' : List Value} {s s' : Nat → S.disk_file} {FF : Nat → Nat → Prop} {f' : Fm} {i : Nat} (hi : i < 2)
    (hfi : ∀ i, i < 2 → FileIs w (FF i) (s i) (m i)) (hnd : ∀ i, i < 2 → ¬ FF i d) (hdj : ∀ k, FF 0 k → FF 1 k → False) (hFF : ∀ i, i < 2 → ∀ k, FF i k → F k)
    (hB : Blk w' d cs') (hl : cs'.length = 6) (hrow : RowsOf 3 cs' 2 (fun i => fileC (s' i))) (hs : ∀ j, j ≠ i → s' j = s j) (hf : FileIs w' (fun k => FF i k ∨ New w w' k) (s' i) f') (k : KpF (fun k => k = d ∨ FF i k) w w') :
    DiskIs w' (fun k => F k ∨ New w w' k) d (fup m i f') ∧ KpF F w w' :=
  disk_putX h (cs := cs) hi hfi hnd hdj hFF (fun x hx hF => by have := h.lt x hF; unfold New at hx; omega) (fun x hx => hx.2) hB hl hrow hs hf k
/-- Two slices at one place. -/
theorem rds_same {w : World} {s t : Sl} {l m : Bs} (h : RdB w s l) (k : RdB w t m) (e : s.a = t.a) (hl : s.len ≤ t.len) : l = m.take s.len := by
  have h1 := h.bsize
  have k1 := k.bsize
  apply List.ext_getElem?
  intro i
  by_cases hi : i < s.len
  · obtain ⟨a, ha, hh⟩ := h.has (by omega)
    obtain ⟨b, hb, kk⟩ := k.has (by omega)
    have hab : a = b := by rw [← e, ha] at hb; injection hb
    subst hab
    have x1 := hh i (vb l[i]) (by rw [bv_get, List.getElem?_eq_getElem (by omega)]; rfl)
    have x2 := kk i (vb m[i]) (by rw [bv_get, List.getElem?_eq_getElem (by omega)]; rfl)
    rw [x1] at x2
    injection x2 with x2
    rw [List.getElem?_take, if_pos hi, List.getElem?_eq_getElem (by omega), List.getElem?_eq_getElem (by omega), vb_inj x2]
  · rw [List.getElem?_eq_none (by omega), List.getElem?_eq_none (by simp; omega)]
/-- What a slice's block holds of it, when the slice grows in place or elsewhere. -/
theorem sure_keep {w w1 : World} {s t q : Sl} {l m n : Bs} (h : RdB w s l) (ht : RdB w t m) (hsame : (s.a = t.a ∧ s.len ≤ t.len) ∨ ∀ x ∈ blkOf s, x ∉ blkOf t) (hq : RdB w1 q (m ++ n)) (k : Kp (blkOf t) w w1) (hqt : q.a = t.a ∨ ((∀ k ∈ blkOf q, w.heap.size ≤ k) ∧ Kp [] w w1)) (hql : t.len ≤ q.len) (hlt : ∀ x ∈ blkOf s, x < w.heap.size) :
    RdB w1 s l ∧ ((s.a = q.a ∧ s.len ≤ q.len) ∨ ∀ x ∈ blkOf s, x ∉ blkOf q) := by
  rcases hqt with e | ⟨hf, k0⟩
  · rcases hsame with ⟨e1, e2⟩ | hd
    · have hl := rds_same h ht e1 e2
      have hm := ht.bsize
      refine ⟨?_, .inl ⟨e1.trans e.symm, by omega⟩⟩
      have hc := hq.bcut (n := s.len) (by omega) s.cap
      rw [List.take_append_of_le_length (by omega), ← hl] at hc
      have : (⟨q.a, s.len, s.cap⟩ : Sl) = s := by rw [e, ← e1]
      rw [this] at hc
      exact hc
    · refine ⟨h.keep k (fun a ha => hd _ (by simp [blkOf, ha])), .inr fun x hx hx2 => hd x hx ?_⟩
      unfold blkOf at hx2 ⊢
      rw [e] at hx2
      exact hx2
  · refine ⟨h.keep0 k0, .inr fun x hx hx2 => ?_⟩
    have := hlt x hx
    have := hf x hx2
    omega
theorem Blk.rds1 {w : World} {b : Nat} {cs : List Value} (h : Blk w b cs) : Rds w cs.length ⟨some ⟨b, 0, none⟩, 1, 1⟩ cs :=
  ⟨by simp, fun _ => ⟨_, rfl, h.has 0 cs (fun i v hi => by rw [Nat.zero_add]; exact hi)⟩⟩
theorem doneC_leaf (x : S.disk_done) : ∀ v ∈ doneC x, leafB v = true := by
  intro v hv
  simp only [doneC, List.mem_cons, List.not_mem_nil, or_false] at hv
  rcases hv with rfl | rfl | rfl <;> rfl
set_option maxHeartbeats 1000000 in
theorem Append_s {F : Nat → Prop} {d : Nat} {m : Nat → Fm} {i : Nat} (hi : i < 2) {b : Bs} {p : Sl} {w : World} (h : DiskIs w F d m) (hp : RdB w p b) (hu : (m i).pend.length ≤ 1000000000) :
    C.disk_Disk_Append (some ⟨d, 0, none⟩) i p w (fun v w' => v = .int .i64 (appE (m i) b) ∧ DiskIs w' (fun k => F k ∨ New w w' k) d (fup m i (appF (m i) b)) ∧ KpF F w w') noP := disk_Disk_Append_of (by
  unfold W.disk_Disk_Append
  refine use (file_s d hi w) ?_
  rintro _ _ ⟨rfl, rfl⟩
  refine ⟨_, rfl, cond_f rfl ?_⟩
  have h0 := h
  obtain ⟨⟨cs, s, FF, hB, hcl, hrow, hfi, hnd, hdj, hFF⟩, hdF, hlt⟩ := h
  have f := hfi i hi
  have hsz := f.now.rds.bsize
  have hps := hp.bsize
  have hsm := f.small
  dsimp only [withSome]
  simp only [add_blk]
  refine ⟨(s i).now, ⟨rfl, hB.at (hrow i hi 1 _ rfl)⟩, ?_⟩
  have hw : IntKind.i64.wrap (16777216 - ((s i).now.len : Int)) = 16777216 - (s i).now.len := by rw [IntKind.wrap_i64]; omega
  rw [hw]
  have stay : appE (m i) b = 2 ∨ b = [] → appF (m i) b = m i := by
    intro hh
    unfold appE at hh
    unfold appF
    split
    · rfl
    · rename_i hn
      rw [if_neg hn] at hh
      rw [if_pos (by rcases hh with hh | hh; · omega
                     · exact hh)]
  have same : appF (m i) b = m i → DiskIs w (fun k => F k ∨ New w w k) d (fup m i (appF (m i) b)) ∧ KpF F w w := fun e => by
    rw [e, fup_self]
    exact ⟨h0.mono (fun x hx => .inl hx) (fun x hx => hx.elim (hlt x) (fun h => h.2)), KpF.refl _ _⟩
  refine cond_d (fun h1 => ?_) (fun h1 => cond_e (fun h2 => ?_) (fun h2 => ?_))
  · have he : appE (m i) b = 2 := by unfold appE; rw [if_pos (by omega)]
    exact ⟨by rw [he], same (stay (.inl he))⟩
  · have hb : b = [] := List.length_eq_zero_iff.1 (by omega)
    exact ⟨by unfold appE; rw [if_neg (by omega)], same (stay (.inr hb))⟩
  · have hbn : b ≠ [] := fun e => by subst e; simp at hps; omega
    have hE : appE (m i) b = 0 := by unfold appE; rw [if_neg (by omega)]
    have hF : appF (m i) b = ⟨(m i).sure, (m i).now ++ b, (m i).pend ++ [.app b]⟩ := by unfold appF; rw [if_neg (by omega), if_neg hbn]
    intro b6 w7 hA
    have s7 := hA.eq
    have ho6 : OwnB w7 w.heap.size ⟨some ⟨b6, 0, none⟩, 0, 0⟩ [] := Go.Eng.Own.fresh hA (Nat.le_refl _) (Nat.le_refl _) rfl
    obtain ⟨q8, n9, c10, w11, hrun, hn9, ho8, k11, hq8⟩ := app_bytes (ty := 27) Try.underlying27 byte_info ho6 (hp.keep0 hA.kp) (by omega) (by simp; omega)
    have s11 := k11.size
    have k011 : Kp [] w w11 := hA.kp.then k11 (by simp [blkOf]; omega)
    have hlo8 := ho8.lo
    rw [List.nil_append] at ho8
    refine ⟨q8, n9, c10, w11, hrun, ?_⟩
    have hB11 := hB.keep k011 (by simp)
    have f11 : FileIs w11 (FF i) (s i) (m i) := f.keepF (k011.toF (F := fun _ => False) (by simp)) (fun _ _ h => h)
    refine ⟨(s i).now, ⟨rfl, hB11.at (hrow i hi 1 _ rfl)⟩, ?_⟩
    obtain ⟨q14, n15, c16, w17, hrun2, hn15, ho14, k17, hq14⟩ := app_bytes (ty := 27) Try.underlying27 byte_info f11.now ho8.rds (Nat.zero_le _) (by omega)
    have s17 := k17.size
    refine ⟨q14, n15, c16, w17, hrun2, ?_⟩
    have hnowlt : ∀ x ∈ blkOf (s i).now, x < w.heap.size := fun x hx => hlt x (hFF i hi x (f.nowF x hx))
    have hpendlt : ∀ x ∈ blkOf (s i).pending, x < w.heap.size := fun x hx => hlt x (hFF i hi x (f.pendF x hx).1)
    have hsurelt : ∀ x ∈ blkOf (s i).sure, x < w.heap.size := fun x hx => hlt x (hFF i hi x (f.sureF x hx).1)
    have hdlt := hlt d hdF
    have hdnow : d ∉ blkOf (s i).now := fun hx => hnd i hi (f.nowF d hx)
    have hdpend : d ∉ blkOf (s i).pending := fun hx => hnd i hi (f.pendF d hx).1
    have hB17 := hB11.keep k17 hdnow
    obtain ⟨hsure17, hsame17⟩ := sure_keep f11.sure f11.now.rds f11.same ho14.rds k17 (by simpa using hq14) (by dsimp only; omega) (fun x hx => by have := hsurelt x hx; omega)
    have h14F : ∀ x ∈ blkOf ⟨q14, n15, c16⟩, x ∈ blkOf (s i).now ∨ (w11.heap.size ≤ x ∧ x < w17.heap.size) := by
      intro x hx
      rcases hq14 with e | ⟨hf, _⟩
      · left; unfold blkOf at hx ⊢; rw [e] at hx; exact hx
      · exact .inr ⟨hf x hx, (ho14.lo x hx).2⟩
    have h8lt : ∀ x ∈ blkOf ⟨q8, n9, c10⟩, w.heap.size ≤ x ∧ x < w11.heap.size := hlo8
    refine ⟨⟨rfl, hB17.can1 _ rfl (by omega)⟩, fun w19 e19 => ?_⟩
    obtain ⟨hB19, k19, s19⟩ := hB17.put1 rfl e19
    have hrow1 : RowsOf 3 (cs.set (i * 3 + 1) (.slice q14 n15 c16)) 2 (fun j => if j = i then (fileC (s i)).set 1 (.slice q14 n15 c16) else fileC (s j)) :=
      hrow.cell (r := i) (k := 1) hi (by omega) (by omega) (fun _ => rfl) (if_pos rfl) (fun j _ hne => if_neg hne)
    have hcl1 : (cs.set (i * 3 + 1) (.slice q14 n15 c16)).length = 6 := by simpa using hcl
    have hc2 : (cs.set (i * 3 + 1) (.slice q14 n15 c16))[i * 3 + 2]? = some (.slice (s i).pending.a (s i).pending.len (s i).pending.cap) := hrow1 i hi 2 _ (by dsimp only; rw [if_pos rfl]; rfl)
    refine ⟨(s i).pending, ⟨rfl, hB19.at hc2⟩, fun b22 w23 hA22 => ?_⟩
    have s23 := hA22.eq
    have hB22 : Blk w23 b22 (doneC ⟨false, 0, ⟨q8, n9, c10⟩⟩) := hA22.blk
    obtain ⟨ds, hds, hdl, hdp⟩ := f11.pend
    have hds23 := ((hds.keep k17 (fun x hx => (f.pendF x hx).2)).keep k19 (fun x hx => by simp; rintro rfl; exact hdpend hx)).keep0 hA22.kp
    have hdsl := hds.len
    have hdsl2 : ds.length = (s i).pending.len := by
      rw [flat_len (n := 3) (fun _ => rfl)] at hdsl
      omega
    obtain ⟨q24, n25, c26, w27, hrun3, hn25, ho24, k27, hq24⟩ := app_any (ty := 65) Try.underlying65 done_info rfl (by decide) hds23 (Blk.rds1 hB22) (doneC_leaf _) (Nat.zero_le _) (by dsimp only; omega) (by dsimp only; omega)
    have s27 := k27.size
    refine ⟨q24, n25, c26, w27, hrun3, ?_⟩
    have hB27 := (hB19.keep hA22.kp (by simp)).keep k27 hdpend
    refine ⟨⟨rfl, hB27.can1 _ rfl (by omega)⟩, fun w29 e29 => ?_⟩
    obtain ⟨hB29, k29, s29⟩ := hB27.put1 rfl e29
    rw [hE, hF]
    refine ⟨rfl, ?_⟩
    have h24F : ∀ x ∈ blkOf ⟨q24, n25, c26⟩, x ∈ blkOf (s i).pending ∨ (w23.heap.size ≤ x ∧ x < w27.heap.size) := by
      intro x hx
      rcases hq24 with e | ⟨hf, _⟩
      · left; unfold blkOf at hx ⊢; rw [e] at hx; exact hx
      · exact .inr ⟨hf x hx, (ho24.lo x hx).2⟩
    have kA : Kp (d :: blkOf (s i).pending) w17 w29 := (((k19.mono (l' := d :: blkOf (s i).pending) (by simp)).then0 hA22.kp).then k27 (by intro x hx; exact .inl (List.mem_cons_of_mem _ hx))).then k29 (by simp)
    have far : ∀ x, x ≠ d → x ∉ blkOf (s i).pending → x ∉ d :: blkOf (s i).pending := by
      intro x h1 h2 h3
      rcases List.mem_cons.1 h3 with h3 | h3
      · exact h1 h3
      · exact h2 h3
    have ne14 : ∀ x ∈ blkOf ⟨q14, n15, c16⟩, x ≠ d ∧ x ∉ blkOf (s i).pending := by
      intro x hx
      rcases h14F x hx with hx | hx
      · exact ⟨fun e => by subst e; exact hdnow hx, fun hp => (f.pendF x hp).2 hx⟩
      · exact ⟨by omega, fun hp => by have := hpendlt x hp; omega⟩
    have ne24 : ∀ x, x < w23.heap.size → x ∉ blkOf (s i).pending → x ∉ blkOf ⟨q24, n25, c26⟩ := by
      intro x hx hn hx2
      rcases h24F x hx2 with h | h
      · exact hn h
      · omega
    have w29s : w.heap.size ≤ w29.heap.size := by omega
    refine disk_put h0 (cs := cs) (s := s) (s' := fun j => if j = i then ⟨(s i).sure, ⟨q14, n15, c16⟩, ⟨q24, n25, c26⟩⟩ else s j) hi hfi hnd hdj hFF hB29 (by simpa using hcl) ?_ (fun j hj => if_neg hj) ?_ ?_
    · exact hrow1.cell (r := i) (k := 2) hi (by omega) (by omega) (fun j => by split <;> rfl) (by rw [if_pos rfl, if_pos rfl]; rfl) (fun j _ hne => by rw [if_neg hne, if_neg hne])
    · rw [if_pos rfl]
      refine ⟨?_, ?_, ?_, ?_, ?_, hsame17, ?_, f.leads.put hbn (by simp; omega), by simp; omega⟩
      · exact ho14.keep kA (fun x hx => far x (ne14 x hx).1 (ne14 x hx).2)
      · exact hsure17.keep kA (fun a ha => far _ (fun e => hnd i hi (by rw [← e]; exact (f.sureF _ (by simp [blkOf, ha])).1)) (f.sureF _ (by simp [blkOf, ha])).2)
      · intro x hx
        rcases h14F x hx with hx | hx
        · exact .inl (f.nowF x hx)
        · exact .inr ⟨by omega, by omega⟩
      · intro x hx
        exact ⟨.inl (f.sureF x hx).1, ne24 x (by have := hsurelt x hx; omega) (f.sureF x hx).2⟩
      · intro x hx
        refine ⟨?_, fun hx2 => ?_⟩
        · rcases h24F x hx with hx | hx
          · exact .inl (f.pendF x hx).1
          · exact .inr ⟨by omega, by omega⟩
        · have := ho14.lo x hx2
          exact ne24 x (by omega) (ne14 x hx2).2 hx
      · refine ⟨ds ++ [⟨false, 0, ⟨q8, n9, c10⟩⟩], ?_, by simp [hdl], ?_⟩
        · rw [List.flatMap_append]
          simpa using ho24.keep k29 (fun x hx => by
            simp
            rintro rfl
            rcases h24F x hx with h | h
            · exact hdpend h
            · omega)
        · intro j x y hx hy
          by_cases hj : j < ds.length
          · rw [List.getElem?_append_left hj] at hx
            rw [List.getElem?_append_left (by omega)] at hy
            have hpd := hdp j x y hx hy
            cases y with
            | cut n => exact hpd
            | app c =>
              obtain ⟨e1, e2, e3⟩ := hpd
              refine ⟨e1, ⟨(e2.1.keep k17 (fun a ha => (e3 _ (mem_blk ha)).2.1)).keep kA (fun a ha => ?_), e2.2⟩, fun z hz => ?_⟩
              · have := e3 a.block (mem_blk ha)
                exact far _ (fun e => hnd i hi (by rw [← e]; exact this.1)) this.2.2
              · have := e3 z hz
                have hz2 := hlt z (hFF i hi z this.1)
                refine ⟨.inl this.1, fun h14 => ?_, ne24 z (by omega) this.2.2⟩
                rcases h14F z h14 with h | h
                · exact this.2.1 h
                · omega
          · have e1 : j = ds.length := by
              have := (List.getElem?_eq_some_iff.1 hx).1
              simp at this
              omega
            subst e1
            simp at hx
            rw [hdl] at hy
            simp at hy
            subst hx hy
            refine ⟨rfl, ⟨(ho8.rds.keep k17 (fun a ha => ?_)).keep kA (fun a ha => ?_), ho8.lc⟩, fun z hz => ?_⟩
            · have := h8lt a.block (mem_blk ha)
              exact fun hn => by have := hnowlt _ hn; omega
            · have := h8lt a.block (mem_blk ha)
              exact far _ (by omega) (fun hn => by have := hpendlt _ hn; omega)
            · have := h8lt z hz
              refine ⟨.inr ⟨this.1, by omega⟩, fun h14 => ?_, ne24 z (by omega) (fun hn => by have := hpendlt _ hn; omega)⟩
              rcases h14F z h14 with h | h
              · have := hnowlt _ h; omega
              · omega
    · refine ((k011.toF (F := fun k => k = d ∨ FF i k) (by simp)).thenK k17 (fun x hx => .inl (.inr (f.nowF x hx)))).thenK kA (fun x hx => ?_)
      rcases List.mem_cons.1 hx with hx | hx
      · exact .inl (.inl hx)
      · exact .inl (.inr (f.pendF x hx).1))
set_option maxHeartbeats 1000000 in
theorem Cut_s {F : Nat → Prop} {d : Nat} {m : Nat → Fm} {i : Nat} (hi : i < 2) (n : Int) {w : World} (h : DiskIs w F d m) (hu : (m i).pend.length ≤ 1000000000) :
    C.disk_Disk_Cut (some ⟨d, 0, none⟩) i n w (fun v w' => v = .int .i64 (cutE (m i) n) ∧ DiskIs w' (fun k => F k ∨ New w w' k) d (fup m i (cutF (m i) n)) ∧ KpF F w w') noP := disk_Disk_Cut_of (by
  unfold W.disk_Disk_Cut
  refine use (file_s d hi w) ?_
  rintro _ _ ⟨rfl, rfl⟩
  refine ⟨_, rfl, cond_f rfl ?_⟩
  have h0 := h
  obtain ⟨⟨cs, s, FF, hB, hcl, hrow, hfi, hnd, hdj, hFF⟩, hdF, hlt⟩ := h
  have f := hfi i hi
  have hsz := f.now.rds.bsize
  have hsm := f.small
  dsimp only [withSome]
  simp only [add_blk]
  have same : n < 0 ∨ ((m i).now.length : Int) < n → Value.int .i64 1 = .int .i64 (cutE (m i) n) ∧ DiskIs w (fun k => F k ∨ New w w k) d (fup m i (cutF (m i) n)) ∧ KpF F w w := fun e => by
    unfold cutE cutF
    rw [if_pos e, if_pos e, fup_self]
    exact ⟨rfl, h0.mono (fun x hx => .inl hx) (fun x hx => hx.elim (hlt x) (fun h => h.2)), KpF.refl _ _⟩
  refine cond_d (fun h1 => same (.inl h1)) (fun h1 => ⟨(s i).now, ⟨rfl, hB.at (hrow i hi 1 _ rfl)⟩, cond_d (fun h2 => same (.inr (by omega))) (fun h2 => ?_)⟩)
  clear same
  have hE : cutE (m i) n = 0 := by unfold cutE; rw [if_neg (by omega)]
  have hF : cutF (m i) n = ⟨(m i).sure, (m i).now.take n.toNat, (m i).pend ++ [.cut n.toNat]⟩ := by unfold cutF; rw [if_neg (by omega)]
  intro b6 w7 hA
  have s7 := hA.eq
  have ho6 : OwnB w7 w.heap.size ⟨some ⟨b6, 0, none⟩, 0, 0⟩ [] := Go.Eng.Own.fresh hA (Nat.le_refl _) (Nat.le_refl _) rfl
  have hB7 := hB.keep hA.kp (by simp)
  have f7 : FileIs w7 (FF i) (s i) (m i) := f.keepF (hA.kp.toF (F := fun _ => False) (by simp)) (fun _ _ h => h)
  have hlc := f7.now.lc
  refine ⟨(s i).now, ⟨rfl, hB7.at (hrow i hi 1 _ rfl)⟩, ⟨by omega, by omega⟩, ?_⟩
  simp only [ite_same, Nat.sub_zero]
  obtain ⟨q8, n9, c10, w11, hrun, hn9, ho8, k11, hq8⟩ := app_bytes (ty := 27) Try.underlying27 byte_info ho6 (f7.now.rds.bcut (n := n.toNat) (by omega) (s i).now.cap) (by omega) (by simp; omega)
  rw [List.nil_append] at ho8
  have s11 := k11.size
  have k011 : Kp [] w w11 := hA.kp.then k11 (by simp [blkOf]; omega)
  have hlo8 := ho8.lo
  refine ⟨q8, n9, c10, w11, hrun, ?_⟩
  have hB11 := hB.keep k011 (by simp)
  have f11 : FileIs w11 (FF i) (s i) (m i) := f.keepF (k011.toF (F := fun _ => False) (by simp)) (fun _ _ h => h)
  refine ⟨⟨rfl, hB11.can1 _ rfl (by omega)⟩, fun w19 e19 => ?_⟩
  obtain ⟨hB19, k19, s19⟩ := hB11.put1 rfl e19
  have hrow1 : RowsOf 3 (cs.set (i * 3 + 1) (.slice q8 n9 c10)) 2 (fun j => if j = i then (fileC (s i)).set 1 (.slice q8 n9 c10) else fileC (s j)) :=
    hrow.cell (r := i) (k := 1) hi (by omega) (by omega) (fun _ => rfl) (if_pos rfl) (fun j _ hne => if_neg hne)
  have hcl1 : (cs.set (i * 3 + 1) (.slice q8 n9 c10)).length = 6 := by simpa using hcl
  have hc2 : (cs.set (i * 3 + 1) (.slice q8 n9 c10))[i * 3 + 2]? = some (.slice (s i).pending.a (s i).pending.len (s i).pending.cap) := hrow1 i hi 2 _ (by dsimp only; rw [if_pos rfl]; rfl)
  refine ⟨(s i).pending, ⟨rfl, hB19.at hc2⟩, fun b22 w23 hA22 => ?_⟩
  have s23 := hA22.eq
  have hnowlt : ∀ x ∈ blkOf (s i).now, x < w.heap.size := fun x hx => hlt x (hFF i hi x (f.nowF x hx))
  have hpendlt : ∀ x ∈ blkOf (s i).pending, x < w.heap.size := fun x hx => hlt x (hFF i hi x (f.pendF x hx).1)
  have hsurelt : ∀ x ∈ blkOf (s i).sure, x < w.heap.size := fun x hx => hlt x (hFF i hi x (f.sureF x hx).1)
  have hdlt := hlt d hdF
  have hdnow : d ∉ blkOf (s i).now := fun hx => hnd i hi (f.nowF d hx)
  have hdpend : d ∉ blkOf (s i).pending := fun hx => hnd i hi (f.pendF d hx).1
  have hB22 : Blk w23 b22 (doneC ⟨true, n, ⟨none, 0, 0⟩⟩) := hA22.blk
  obtain ⟨ds, hds, hdl, hdp⟩ := f11.pend
  have hds23 := (hds.keep k19 (fun x hx => by simp; rintro rfl; exact hdpend hx)).keep0 hA22.kp
  have hdsl := hds.len
  have hdsl2 : ds.length = (s i).pending.len := by
    rw [flat_len (n := 3) (fun _ => rfl)] at hdsl
    omega
  obtain ⟨q24, n25, c26, w27, hrun3, hn25, ho24, k27, hq24⟩ := app_any (ty := 65) Try.underlying65 done_info rfl (by decide) hds23 (Blk.rds1 hB22) (doneC_leaf _) (Nat.zero_le _) (by dsimp only; omega) (by dsimp only; omega)
  have s27 := k27.size
  refine ⟨q24, n25, c26, w27, hrun3, ?_⟩
  have hB27 := (hB19.keep hA22.kp (by simp)).keep k27 hdpend
  refine ⟨⟨rfl, hB27.can1 _ rfl (by omega)⟩, fun w29 e29 => ?_⟩
  obtain ⟨hB29, k29, s29⟩ := hB27.put1 rfl e29
  rw [hE, hF]
  refine ⟨rfl, ?_⟩
  have h24F : ∀ x ∈ blkOf ⟨q24, n25, c26⟩, x ∈ blkOf (s i).pending ∨ (w23.heap.size ≤ x ∧ x < w27.heap.size) := by
    intro x hx
    rcases hq24 with e | ⟨hf, _⟩
    · left; unfold blkOf at hx ⊢; rw [e] at hx; exact hx
    · exact .inr ⟨hf x hx, (ho24.lo x hx).2⟩
  have kA : Kp (d :: blkOf (s i).pending) w11 w29 := (((k19.mono (l' := d :: blkOf (s i).pending) (by simp)).then0 hA22.kp).then k27 (by intro x hx; exact .inl (List.mem_cons_of_mem _ hx))).then k29 (by simp)
  have far : ∀ x, x ≠ d → x ∉ blkOf (s i).pending → x ∉ d :: blkOf (s i).pending := by
    intro x h1 h2 h3
    rcases List.mem_cons.1 h3 with h3 | h3
    · exact h1 h3
    · exact h2 h3
  have ne14 : ∀ x ∈ blkOf ⟨q8, n9, c10⟩, x ≠ d ∧ x ∉ blkOf (s i).pending := by
    intro x hx
    have := hlo8 x hx
    exact ⟨by omega, fun hp => by have := hpendlt x hp; omega⟩
  have ne24 : ∀ x, x < w23.heap.size → x ∉ blkOf (s i).pending → x ∉ blkOf ⟨q24, n25, c26⟩ := by
    intro x hx hn hx2
    rcases h24F x hx2 with h | h
    · exact hn h
    · omega
  have w29s : w.heap.size ≤ w29.heap.size := by omega
  refine disk_put h0 (cs := cs) (s := s) (s' := fun j => if j = i then ⟨(s i).sure, ⟨q8, n9, c10⟩, ⟨q24, n25, c26⟩⟩ else s j) hi hfi hnd hdj hFF hB29 (by simpa using hcl) ?_ (fun j hj => if_neg hj) ?_ ?_
  · exact hrow1.cell (r := i) (k := 2) hi (by omega) (by omega) (fun j => by split <;> rfl) (by rw [if_pos rfl, if_pos rfl]; rfl) (fun j _ hne => by rw [if_neg hne, if_neg hne])
  · rw [if_pos rfl]
    refine ⟨?_, ?_, ?_, ?_, ?_, ?_, ?_, f.leads.cut (by omega), by simp; omega⟩
    · exact (ho8.mono (Nat.zero_le _)).keep kA (fun x hx => far x (ne14 x hx).1 (ne14 x hx).2)
    · exact f11.sure.keep kA (fun a ha => far _ (fun e => hnd i hi (by rw [← e]; exact (f.sureF _ (mem_blk ha)).1)) (f.sureF _ (mem_blk ha)).2)
    · intro x hx
      have := hlo8 x hx
      exact .inr ⟨by omega, by omega⟩
    · intro x hx
      exact ⟨.inl (f.sureF x hx).1, ne24 x (by have := hsurelt x hx; omega) (f.sureF x hx).2⟩
    · intro x hx
      refine ⟨?_, fun hx2 => ?_⟩
      · rcases h24F x hx with hx | hx
        · exact .inl (f.pendF x hx).1
        · exact .inr ⟨by omega, by omega⟩
      · have := hlo8 x hx2
        exact ne24 x (by omega) (ne14 x hx2).2 hx
    · refine .inr (fun x hx hx2 => ?_)
      have := hsurelt x hx
      have := hlo8 x hx2
      omega
    · refine ⟨ds ++ [⟨true, n, ⟨none, 0, 0⟩⟩], ?_, by simp [hdl], ?_⟩
      · rw [List.flatMap_append]
        simpa using ho24.keep k29 (fun x hx => by
          simp
          rintro rfl
          rcases h24F x hx with h | h
          · exact hdpend h
          · omega)
      · intro j x y hx hy
        by_cases hj : j < ds.length
        · rw [List.getElem?_append_left hj] at hx
          rw [List.getElem?_append_left (by omega)] at hy
          have hpd := hdp j x y hx hy
          cases y with
          | cut n => exact hpd
          | app c =>
            obtain ⟨e1, e2, e3⟩ := hpd
            refine ⟨e1, ⟨e2.1.keep kA (fun a ha => ?_), e2.2⟩, fun z hz => ?_⟩
            · have := e3 a.block (mem_blk ha)
              exact far _ (fun e => hnd i hi (by rw [← e]; exact this.1)) this.2.2
            · have := e3 z hz
              have hz2 := hlt z (hFF i hi z this.1)
              exact ⟨.inl this.1, fun h14 => by have := hlo8 z h14; omega, ne24 z (by omega) this.2.2⟩
        · have e1 : j = ds.length := by
            have := (List.getElem?_eq_some_iff.1 hx).1
            simp at this
            omega
          subst e1
          simp at hx
          rw [hdl] at hy
          simp at hy
          subst hx hy
          exact ⟨rfl, by dsimp only; omega⟩
  · refine (k011.toF (F := fun k => k = d ∨ FF i k) (by simp)).thenK kA (fun x hx => ?_)
    rcases List.mem_cons.1 hx with hx | hx
    · exact .inl (.inl hx)
    · exact .inl (.inr (f.pendF x hx).1))
set_option maxHeartbeats 1000000 in
theorem Sync_s {F : Nat → Prop} {d : Nat} {m : Nat → Fm} {i : Nat} (hi : i < 2) {w : World} (h : DiskIs w F d m) :
    C.disk_Disk_Sync (some ⟨d, 0, none⟩) i w (fun v w' => v = .int .i64 0 ∧ DiskIs w' (fun k => F k ∨ New w w' k) d (fup m i (syncF (m i))) ∧ KpF F w w') noP := disk_Disk_Sync_of (by
  unfold W.disk_Disk_Sync
  refine use (file_s d hi w) ?_
  rintro _ _ ⟨rfl, rfl⟩
  refine ⟨_, rfl, cond_f rfl ?_⟩
  have h0 := h
  obtain ⟨⟨cs, s, FF, hB, hcl, hrow, hfi, hnd, hdj, hFF⟩, hdF, hlt⟩ := h
  have f := hfi i hi
  have hlc := f.now.lc
  dsimp only [withSome]
  simp only [add_blk]
  intro w4 hD
  have hB4 := hB.keep hD.kp (by simp)
  have hc := hB4.at (hrow i hi 1 _ rfl)
  refine ⟨(s i).now, ⟨rfl, hc⟩, (s i).now, ⟨rfl, hc⟩, (s i).now, ⟨rfl, hc⟩, ⟨by omega, by omega⟩, ⟨by omega, by omega⟩, ?_⟩
  simp only [ite_same, Nat.sub_zero, Int.toNat_natCast]
  refine ⟨⟨rfl, hB4.can1 _ rfl (by omega)⟩, fun w12 e12 => ?_⟩
  obtain ⟨hB12, k12, s12⟩ := hB4.put1 rfl e12
  refine ⟨⟨rfl, hB12.can1 _ rfl (by simp; omega)⟩, fun w14 e14 => ?_⟩
  obtain ⟨hB14, k14, s14⟩ := hB12.put1 rfl e14
  refine ⟨by trivial, ?_⟩
  have kk : Kp [d] w w14 := ((hD.kp.up [d]).then k12 (by simp)).then k14 (by simp)
  have f14 := f.keepF (kk.toF (F := fun k => k = d) (by simp)) (fun x hx e => hnd i hi (e ▸ hx))
  refine disk_put h0 (cs := cs) (s := s) (s' := fun j => if j = i then ⟨⟨(s i).now.a, (s i).now.len, (s i).now.len⟩, (s i).now, ⟨none, 0, 0⟩⟩ else s j) hi hfi hnd hdj hFF hB14 (by simpa using hcl) ?_ (fun j hj => if_neg hj) ?_ (kk.toF (by simp))
  · have r1 := hrow.cell (r := i) (k := 0) (u := .slice (s i).now.a (s i).now.len (s i).now.len) (g := fun j => if j = i then (fileC (s i)).set 0 (.slice (s i).now.a (s i).now.len (s i).now.len) else fileC (s j)) hi (by omega) (by omega) (fun _ => rfl) (if_pos rfl) (fun j _ hne => if_neg hne)
    exact r1.cell (r := i) (k := 2) hi (by omega) (by simp; omega) (fun j => by split <;> rfl) (by rw [if_pos rfl, if_pos rfl]; rfl) (fun j _ hne => by rw [if_neg hne, if_neg hne])
  · rw [if_pos rfl]
    have hsz := f14.now.rds.bsize
    have hc := f14.now.rds.bcut (n := (s i).now.len) (Nat.le_refl _) (s i).now.len
    rw [List.take_of_length_le (by omega)] at hc
    exact ⟨f14.now, hc, fun x hx => .inl (f.nowF x hx), fun x hx => ⟨.inl (f.nowF x hx), by simp [blkOf]⟩, by simp [blkOf], .inl ⟨rfl, Nat.le_refl _⟩, ⟨[], Go.Eng.Own.nil _ _ _, rfl, by simp⟩, ⟨f.small, rfl⟩, f.small⟩)
theorem Read_s {F : Nat → Prop} {d : Nat} {m : Nat → Fm} {i : Nat} (hi : i < 2) {w : World} (h : DiskIs w F d m) :
    C.disk_Disk_Read (some ⟨d, 0, none⟩) i w (fun v w' => ∃ q : Sl, v = .slice q.a q.len q.cap ∧ OwnB w' w.heap.size q (m i).now ∧ Kp [] w w') noP := disk_Disk_Read_of (by
  unfold W.disk_Disk_Read
  refine use (file_s d hi w) ?_
  rintro _ _ ⟨rfl, rfl⟩
  refine ⟨_, rfl, cond_f rfl ?_⟩
  intro b4 w5 hA
  obtain ⟨⟨cs, s, FF, hB, hcl, hrow, hfi, hnd, hdj, hFF⟩, hdF, hlt⟩ := h.keep0 hA.kp
  have f := hfi i hi
  have s5 := hA.eq
  have ho6 : OwnB w5 w.heap.size ⟨some ⟨b4, 0, none⟩, 0, 0⟩ [] := Go.Eng.Own.fresh hA (Nat.le_refl _) (Nat.le_refl _) rfl
  dsimp only [withSome]
  simp only [add_blk]
  refine ⟨(s i).now, ⟨rfl, hB.at (hrow i hi 1 _ rfl)⟩, ?_⟩
  obtain ⟨q8, n9, c10, w11, hrun, hn9, ho8, k11, hq8⟩ := app_bytes (ty := 27) Try.underlying27 byte_info ho6 f.now.rds (by omega) (by have := f.small; simp; omega)
  exact ⟨q8, n9, c10, w11, hrun, ⟨q8, n9, c10⟩, rfl, ho8, hA.kp.then k11 (by simp [blkOf]; omega)⟩)
theorem Size_s {F : Nat → Prop} {d : Nat} {m : Nat → Fm} {i : Nat} (hi : i < 2) {w : World} (h : DiskIs w F d m) :
    C.disk_Disk_Size (some ⟨d, 0, none⟩) i w (fun v w' => v = .int .i64 (m i).now.length ∧ w = w') noP := disk_Disk_Size_of (by
  unfold W.disk_Disk_Size
  refine use (file_s d hi w) ?_
  rintro _ _ ⟨rfl, rfl⟩
  refine ⟨_, rfl, cond_f rfl ?_⟩
  obtain ⟨⟨cs, s, FF, hB, hcl, hrow, hfi, hnd, hdj, hFF⟩, hdF, hlt⟩ := h
  have f := hfi i hi
  dsimp only [withSome]
  simp only [add_blk]
  exact ⟨(s i).now, ⟨rfl, hB.at (hrow i hi 1 _ rfl)⟩, by rw [f.now.rds.bsize], by trivial⟩)
end Go.Proofs.Ytfgepillnemolaa
