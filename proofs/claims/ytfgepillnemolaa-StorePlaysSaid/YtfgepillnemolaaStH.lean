/- The document's store: its disk, what is done to an open store. No conditions. -/
import Derived.Test.YtfgepillnemolaaStG
import Derived.Test.YtfgepillnemolaaDisk6
namespace Go.Proofs.Ytfgepillnemolaa
open Go.RowKit Go.Eng
set_option linter.unusedVariables false
set_option linter.unusedSimpArgs false
theorem small_now {x : Bs} {p : List Pd} {now : Bs} (h : Leads x p now) : now.length ≤ 16777216 := by
  have := crash_small h (unitsL p)
  rwa [crash_all h _ (Nat.le_refl _)] at this
theorem leads_app {f : Fm} (h : Leads f.sure f.pend f.now) (b : Bs) : Leads (appF f b).sure (appF f b).pend (appF f b).now := by
  unfold appF
  split
  · exact h
  · split
    · exact h
    · rename_i h1 h2
      exact h.put h2 (by simp; omega)
theorem leads_cut {f : Fm} (h : Leads f.sure f.pend f.now) (n : Int) : Leads (cutF f n).sure (cutF f n).pend (cutF f n).now := by
  unfold cutF
  split
  · exact h
  · exact h.cut (by omega)
theorem leads_up {m : Nat → Fm} (h : LeadsM m) (j : Nat) {v : Fm} (hv : j < 2 → Leads v.sure v.pend v.now) : LeadsM (fup m j v) := fun i hi => by
  by_cases e : i = j
  · subst e; rw [fup_same]; exact hv hi
  · rw [fup_ne _ _ e]; exact h i hi
theorem LeadsM.app {m : Nat → Fm} (h : LeadsM m) (f : Int) (b : Bs) : LeadsM (appMf m f b) := by
  unfold appMf
  split
  · exact leads_up h _ fun hj => leads_app (h _ hj) b
  · exact h
theorem LeadsM.cut {m : Nat → Fm} (h : LeadsM m) (f n : Int) : LeadsM (cutMf m f n) := by
  unfold cutMf
  split
  · exact leads_up h _ fun hj => leads_cut (h _ hj) n
  · exact h
theorem LeadsM.sync {m : Nat → Fm} (h : LeadsM m) (f : Int) : LeadsM (syncMf m f) := by
  unfold syncMf
  split
  · exact leads_up h _ fun hj => ⟨small_now (h _ hj), rfl⟩
  · exact h
/-- The document's disk behind some calls: it was H's, it is H''s. -/
structure RE (w0 w : World) (H H' : Nat → Prop) (rd : Nat) (m : Nat → Fm) : Prop where
  is : RDiskIs w H' rd (rofs m)
  ev : ∀ k, H' k → H k ∨ New w0 w k
  k : KpF H w0 w
  l : LeadsM m
theorem RE.trans {w0 w1 w2 : World} {H H1 H2 : Nat → Prop} {rd rd' : Nat} {m m' : Nat → Fm} (h : RE w0 w1 H H1 rd m) (k : RE w1 w2 H1 H2 rd' m') : RE w0 w2 H H2 rd' m' := by
  have s1 := h.k.size
  have s2 := k.k.size
  refine ⟨k.is, fun x hx => ?_, h.k.then k.k (fun x hx => (h.ev x hx).imp id fun h => h.1), k.l⟩
  rcases k.ev x hx with hx | hx
  · rcases h.ev x hx with hx | hx
    · exact .inl hx
    · exact .inr ⟨hx.1, by have := hx.2; omega⟩
  · exact .inr ⟨by have := hx.1; omega, hx.2⟩
theorem RE.kp {w0 w : World} {H : Nat → Prop} {rd : Nat} {m : Nat → Fm} (h : RDiskIs w0 H rd (rofs m)) (l : LeadsM m) (k : Kp [] w0 w) : RE w0 w H H rd m := ⟨h.keep0 k, fun _ h => .inl h, k.toF (by simp), l⟩
theorem RE.keep0 {w0 w w' : World} {H H' : Nat → Prop} {rd : Nat} {m : Nat → Fm} (h : RE w0 w H H' rd m) (k : Kp [] w w') : RE w0 w' H H' rd m := h.trans (RE.kp h.is h.l k)
abbrev uR (m : Nat → Fm) : Prop := ∀ i, i < 2 → unitsL (m i).pend ≤ 1000000000
theorem rApp_e {H : Nat → Prop} {rd : Nat} {m : Nat → Fm} (f : Int) {b : Bs} {p : Sl} {w : World} (h : RDiskIs w H rd (rofs m)) (l : LeadsM m) (hu : uR m) (hp : RdB w p b) (hpF : 0 < p.len → ∀ x ∈ blkOf p, ¬ H x) (hbl : b.length ≤ 100000000000) :
    C.skepref03_Disk_Append (PD rd) f p w (fun v w' => v = .int .i64 (appEf m f b) ∧ ∃ H', RE w w' H H' rd (appMf m f b)) noP := by
  refine use (rAppend_b f h l hu hp hpF hbl) ?_
  rintro _ w1 ⟨rfl, h1, k1⟩
  exact ⟨rfl, _, h1, fun _ h => h, k1, l.app f b⟩
theorem rCut_e {H : Nat → Prop} {rd : Nat} {m : Nat → Fm} (f n : Int) {w : World} (h : RDiskIs w H rd (rofs m)) (l : LeadsM m) (hu : uR m) :
    C.skepref03_Disk_Cut (PD rd) f n w (fun v w' => v = .int .i64 (cutEf m f n) ∧ ∃ H', RE w w' H H' rd (cutMf m f n)) noP := by
  refine use (rCut_b f n h l hu) ?_
  rintro _ w1 ⟨rfl, h1, k1⟩
  exact ⟨rfl, _, h1, fun _ h => h, k1, l.cut f n⟩
theorem rSync_e {H : Nat → Prop} {rd : Nat} {m : Nat → Fm} (f : Int) {w : World} (h : RDiskIs w H rd (rofs m)) (l : LeadsM m) (hu : uR m) :
    C.skepref03_Disk_Sync (PD rd) f w (fun v w' => v = .int .i64 (syncEf f) ∧ ∃ H', RE w w' H H' rd (syncMf m f)) noP := by
  refine use (rSync_b f h l hu) ?_
  rintro _ w1 ⟨rfl, h1, k1⟩
  exact ⟨rfl, _, h1, fun _ h => h, k1, l.sync f⟩
theorem rClear_s {H : Nat → Prop} {rd : Nat} {m : Nat → Fm} {f : Nat} (hf : f < 2) {w : World} (h : RDiskIs w H rd (rofs m)) (l : LeadsM m) (hu : ∀ i, i < 2 → unitsL (m i).pend ≤ 900000000) :
    C.skepref06_clear (PD rd) f w (fun v w' => v = .tuple #[] ∧ ∃ H', RE w w' H H' rd (clr m f)) noP := skepref06_clear_of (by
  unfold W.skepref06_clear
  refine use (rCut_e (f : Int) 0 h l (fun i hi => by have := hu i hi; omega)) ?_
  rintro _ w1 ⟨rfl, H1, h1⟩
  refine ⟨_, rfl, use (rSync_e (f : Int) h1.is h1.l (fun i hi => by have := cutMf_at m (f : Int) 0 i; have := hu i hi; omega)) ?_⟩
  rintro _ w4 ⟨rfl, H2, h2⟩
  exact ⟨_, rfl, rfl, H2, h1.trans h2⟩)
/-- The document's store in memory. -/
def tC (rd : Nat) (sm : Sm) : List Value := [.pointer (PD rd), .int .i64 sm.1, .int .i64 sm.2.1, .int .i64 sm.2.2.1, .int .i64 sm.2.2.2]
/-- The document's store behind a call. -/
structure RX (w0 w : World) (H H' : Nat → Prop) (t rd : Nat) (sm : Sm) (m : Nat → Fm) : Prop where
  is : RDiskIs w H' rd (rofs m)
  ev : ∀ k, H' k → H k ∨ New w0 w k
  k : KpF (fun k => H k ∨ k = t) w0 w
  l : LeadsM m
  b : Blk w t (tC rd sm)
  n : ¬ H' t
theorem RE.rx {w0 w : World} {H H' : Nat → Prop} {t rd : Nat} {sm : Sm} {m : Nat → Fm} (h : RE w0 w H H' rd m) (hb : Blk w0 t (tC rd sm)) (hn : ¬ H t) : RX w0 w H H' t rd sm m := by
  have hlt := hb.lt
  exact ⟨h.is, h.ev, (KpF.refl _ _).then h.k (fun x hx => .inl (.inl hx)), h.l, hb.keepF h.k hn, fun hx => (h.ev t hx).elim hn (fun h => by have := h.1; omega)⟩
theorem RX.put {w0 w w' : World} {H H' : Nat → Prop} {t rd : Nat} {sm sm' : Sm} {m : Nat → Fm} (h : RX w0 w H H' t rd sm m) (k : Kp [t] w w') (hb : Blk w' t (tC rd sm')) : RX w0 w' H H' t rd sm' m := by
  have kf : KpF (fun x => x = t) w w' := k.toF (fun x hx => .inl (by simpa using hx))
  refine ⟨h.is.keepF kf (fun x hx e => h.n (e ▸ hx)), fun x hx => (h.ev x hx).imp id fun h => ⟨h.1, Nat.lt_of_lt_of_le h.2 k.size⟩, h.k.then kf (fun x hx => .inl (.inr hx)), h.l, hb, h.n⟩
theorem rLen {n : Int} (b : Bs) (hb : b.length ≤ 900000) : (entB n b).length ≤ 1000000 := by have := ent_len n b; omega
set_option maxHeartbeats 1000000 in
theorem RApp_s {H : Nat → Prop} {t rd : Nat} {sm : Sm} {m : Nat → Fm} {w : World} (h : RDiskIs w H rd (rofs m)) (l : LeadsM m) (ht : Blk w t (tC rd sm)) (hH : ¬ H t) (hu : uR m) (n : Int) (hn : in64 n) {p : Sl} {b : Bs} (hp : RdB w p b) (hb : b.length ≤ 900000) :
    C.skepref06_Store_Append (PD t) n p w (fun v w' => v = .int .i64 (appS sm m n b).1 ∧ ∃ H', RX w w' H H' t rd (appS sm m n b).2.1 (appS sm m n b).2.2) noP := skepref06_Store_Append_of (by
  unfold W.skepref06_Store_Append
  have hpl := hp.bsize
  have same : ∀ c : Int, appS sm m n b = (c, sm, m) → (Value.int .i64 c = .int .i64 (appS sm m n b).1 ∧ ∃ H', RX w w H H' t rd (appS sm m n b).2.1 (appS sm m n b).2.2) := fun c e => by
    rw [e]
    exact ⟨rfl, H, (RE.kp h l (Kp.refl _ _)).rx ht hH⟩
  refine cond_d (fun c1 => same 8 (by unfold appS; rw [if_pos (.inl c1)])) (fun c1 => ?_)
  have hw1 : IntKind.i64.wrap (n - 1) = n - 1 := by rw [IntKind.wrap_i64]; omega
  rw [hw1]
  refine ⟨sm.2.2.2, ⟨rfl, ht.at (i := 4) rfl⟩, cond_d (fun c2 => same 8 (by unfold appS; rw [if_pos (.inr (by omega))])) (fun c2 => ⟨sm.2.2.2, ⟨rfl, ht.at (i := 4) rfl⟩, cond_d (fun c3 => same 0 (by unfold appS; rw [if_neg (by omega), if_pos c3])) (fun c3 => ?_)⟩)⟩
  clear same
  have e : appS sm m n b = (logE m sm.1 (entB n b), if logE m sm.1 (entB n b) = 0 then (sm.1, sm.2.1, sm.2.2.1, n) else sm, logM m sm.1 (entB n b)) := by unfold appS; rw [if_neg (by omega), if_neg (by omega)]
  rw [e]
  refine use (rNumber_s n hn w) ?_
  rintro _ w5 ⟨q, rfl, o5, k5⟩
  have hpn := (putN_len n).2
  have z5 := k5.size
  obtain ⟨q8, n9, c10, w11, hrun, hn9, o11, k11, _⟩ := app_bytes (ty := 27) Try.underlying27 byte_inf o5 (hp.keep0 k5) (by omega) (by omega)
  have k011 : Kp [] w w11 := k5.then k11 (fun y hy => .inr (o5.lo y hy).1)
  obtain ⟨E, hE⟩ : ∃ E, entB n b = E := ⟨_, rfl⟩
  have e2 : putN n ++ b = E := by rw [← hE]; rfl
  rw [e2] at o11
  rw [hE]
  have hEl : E.length = n9 := o11.rds.bsize
  have hE1 : 1 ≤ E.length := by rw [← hE]; have := ent_len n b; omega
  refine ⟨q, rfl, q8, n9, c10, w11, hrun, cond_d (fun c4 => ?_) (fun c4 w12 hD => ?_)⟩
  · have hno : ¬ okR E := fun hk => by have := hk.2; omega
    have e3 : logE m sm.1 E = 1 := by unfold logE; rw [if_neg hno]
    have e4 : logM m sm.1 E = m := by unfold logM; rw [if_neg hno]
    rw [e3, e4, if_neg (by omega)]
    exact ⟨rfl, H, (RE.kp h l k011).rx ht hH⟩
  have hok : okR E := ⟨hE1, by omega⟩
  have e3 : logE m sm.1 E = appEf m sm.1 (recB E) := by unfold logE; rw [if_pos hok]
  have e4 : logM m sm.1 E = appMf m sm.1 (recB E) := by unfold logM; rw [if_pos hok]
  rw [e3, e4]
  have k012 := k011.then0 hD.kp
  have t12 := ht.keep k012 (by simp)
  refine ⟨PD rd, ⟨rfl, t12.at (i := 0) rfl⟩, sm.1, ⟨rfl, t12.at (i := 1) rfl⟩, use (rRecord_s ⟨q8, n9, c10⟩ (o11.rds.keep0 hD.kp) (by omega)) ?_⟩
  rintro _ w17 ⟨p18, rfl, o17, k17⟩
  have k017 := k012.then0 k17
  have t17 := ht.keep k017 (by simp)
  have hlt := h.lt
  refine ⟨p18, rfl, t17.at (i := 1) rfl, t17.at (i := 0) rfl, use (rApp_e (sm.1 : Int) (h.keep0 k017) l hu o17.rds (fun _ x hx hHx => ?_) (by rw [recB_len]; omega)) ?_⟩
  · have := (o17.lo x hx).1; have := hlt x hHx; have := k012.size; omega
  rintro _ w20 ⟨rfl, H1, h1⟩
  have hX := ((RE.kp h l k017).trans h1).rx ht hH
  refine ⟨_, rfl, cond_e (fun c5 => ?_) (fun c5 => ?_)⟩
  · rw [if_pos c5]
    refine ⟨⟨rfl, hX.b.can1 (i := 4) _ rfl (Nat.le_of_ble_eq_true rfl)⟩, fun w24 e24 => ?_⟩
    obtain ⟨g1, k24, _⟩ := hX.b.put1 (i := 4) rfl e24
    exact ⟨rfl, H1, hX.put k24 g1⟩
  · rw [if_neg c5]
    exact ⟨rfl, H1, hX⟩)
theorem RSync_s {H : Nat → Prop} {t rd : Nat} {sm : Sm} {m : Nat → Fm} {w : World} (h : RDiskIs w H rd (rofs m)) (l : LeadsM m) (ht : Blk w t (tC rd sm)) (hH : ¬ H t) (hu : uR m) (hf : sm.1 < 2) :
    C.skepref06_Store_Sync (PD t) w (fun v w' => v = .int .i64 0 ∧ ∃ H', RX w w' H H' t rd sm (syncMf m sm.1)) noP := skepref06_Store_Sync_of (by
  unfold W.skepref06_Store_Sync
  intro w1 hD
  have t1 := ht.keep hD.kp (by simp)
  refine ⟨PD rd, ⟨rfl, t1.at (i := 0) rfl⟩, sm.1, ⟨rfl, t1.at (i := 1) rfl⟩, use (rSync_e (sm.1 : Int) (h.keep0 hD.kp) l hu) ?_⟩
  rintro _ w6 ⟨rfl, H1, h1⟩
  rw [syncEf_i hf]
  exact ⟨_, rfl, rfl, H1, ((RE.kp h l hD.kp).trans h1).rx ht hH⟩)
theorem RSize_s {H : Nat → Prop} {t rd : Nat} {sm : Sm} {m : Nat → Fm} {w : World} (h : RDiskIs w H rd (rofs m)) (l : LeadsM m) (ht : Blk w t (tC rd sm)) (hu : uR m) (hf : sm.1 < 2) :
    C.skepref06_Store_Size (PD t) w (fun v w' => v = .int .i64 (m sm.1).now.length ∧ Kp [] w w') noP := skepref06_Store_Size_of (by
  unfold W.skepref06_Store_Size
  intro w1 hD
  have t1 := ht.keep hD.kp (by simp)
  refine ⟨PD rd, ⟨rfl, t1.at (i := 0) rfl⟩, sm.1, ⟨rfl, t1.at (i := 1) rfl⟩, use (rSize_b (sm.1 : Int) (h.keep0 hD.kp) l hu) ?_⟩
  rintro _ w6 ⟨rfl, k6⟩
  rw [readF_i m hf]
  exact ⟨_, rfl, rfl, hD.kp.then0 k6⟩)
set_option maxHeartbeats 2000000 in
theorem RChk_s {H : Nat → Prop} {t rd : Nat} {sm : Sm} {m : Nat → Fm} {w : World} (h : RDiskIs w H rd (rofs m)) (l : LeadsM m) (ht : Blk w t (tC rd sm)) (hH : ¬ H t) (hu : ∀ i, i < 2 → unitsL (m i).pend ≤ 500000000) (hf : sm.1 < 2) (hg64 : in64 (sm.2.1 + 1)) (hl64 : in64 sm.2.2.2) {p : Sl} {b : Bs} (hp : RdB w p b) (hb : b.length ≤ 900000) :
    C.skepref06_Store_Check (PD t) p w (fun v w' => v = .int .i64 (chkS sm m b).1 ∧ ∃ H', RX w w' H H' t rd (chkS sm m b).2.1 (chkS sm m b).2.2) noP := skepref06_Store_Check_of (by
  unfold W.skepref06_Store_Check
  intro w1 hD
  have t1 := ht.keep hD.kp (by simp)
  have hw1 : IntKind.i64.wrap (sm.2.1 + 1) = sm.2.1 + 1 := by rw [IntKind.wrap_i64]; omega
  refine ⟨sm.2.1, ⟨rfl, t1.at (i := 2) rfl⟩, sm.2.2.2, ⟨rfl, t1.at (i := 4) rfl⟩, ?_⟩
  rw [hw1]
  refine use (Head_s (sm.2.1 + 1) sm.2.2.2 hg64 hl64 p (hp.keep0 hD.kp) (by omega)) ?_
  rintro _ w6 ⟨q, rfl, o6, k6⟩
  obtain ⟨X, hX⟩ : ∃ X, hdB (sm.2.1 + 1) sm.2.2.2 b = X := ⟨_, rfl⟩
  have hX1 : 1 ≤ X.length := by
    have := (putN_len (sm.2.1 + 1)).1
    rw [← hX]; simp [hdB]; omega
  rw [hX] at o6
  have hXl := o6.rds.bsize
  have k06 := hD.kp.then0 k6
  unfold chkS
  rw [hX]
  refine ⟨q, rfl, cond_d (fun c1 => ?_) (fun c1 => ?_)⟩
  · rw [if_pos (by omega)]
    exact ⟨rfl, H, (RE.kp h l k06).rx ht hH⟩
  rw [if_neg (by omega)]
  dsimp only
  have hok : okR X := ⟨hX1, by omega⟩
  obtain ⟨o, ho⟩ : ∃ o, 1 - sm.1 = o := ⟨_, rfl⟩
  have ho2 : o < 2 := by omega
  have hwo : IntKind.i64.wrap (1 - (sm.1 : Int)) = (o : Nat) := by rw [IntKind.wrap_i64]; omega
  rw [ho]
  have t6 := ht.keep k06 (by simp)
  refine ⟨sm.1, ⟨rfl, t6.at (i := 1) rfl⟩, PD rd, ⟨rfl, t6.at (i := 0) rfl⟩, ?_⟩
  rw [hwo]
  refine use (rCut_e (o : Int) 0 (h.keep0 k06) l (fun i hi => by have := hu i hi; omega)) ?_
  rintro _ w13 ⟨rfl, H1, h1⟩
  have r1 := (RE.kp h l k06).trans h1
  refine ⟨_, rfl, fun w16 hD16 => ?_⟩
  replace r1 := r1.keep0 hD16.kp
  have x1 := r1.rx ht hH
  refine ⟨PD rd, ⟨rfl, x1.b.at (i := 0) rfl⟩, use (rRecord_s q (o6.rds.keepF (h1.k.then0 hD16.kp) (fun y hy hHy => ?_)) (by omega)) ?_⟩
  · have := (o6.lo y hy).1; have := h.lt y hHy; have := hD.kp.size; omega
  rintro _ w19 ⟨p20, rfl, o19, k19⟩
  replace r1 := r1.keep0 k19
  have x2 := r1.rx ht hH
  have hu1 : ∀ i, i < 2 → unitsL (cutMf m o 0 i).pend ≤ 500000001 := fun i hi => by have := cutMf_at m o 0 i; have := hu i hi; omega
  have hRl : (recB X).length ≤ 70000 := by rw [recB_len]; omega
  refine ⟨p20, rfl, x2.b.at (i := 0) rfl, use (rApp_e (o : Int) r1.is r1.l (fun i hi => by have := hu1 i hi; omega) o19.rds (fun _ y hy hHy => ?_) (by omega)) ?_⟩
  · have a1 := (o19.lo y hy).1
    have a2 := x1.is.lt y hHy
    omega
  rintro _ w22 ⟨rfl, H2, h2⟩
  have r2 := r1.trans h2
  have x3 := r2.rx ht hH
  have hu2 : ∀ i, i < 2 → unitsL (appMf (cutMf m o 0) o (recB X) i).pend ≤ 500080000 := fun i hi => by have := appMf_at (cutMf m o 0) o (recB X) i; have := hu1 i hi; omega
  refine ⟨_, rfl, PD rd, ⟨rfl, x3.b.at (i := 0) rfl⟩, use (rSync_e (o : Int) r2.is r2.l (fun i hi => by have := hu2 i hi; omega)) ?_⟩
  rintro _ w27 ⟨rfl, H3, h3⟩
  have r3 := r2.trans h3
  refine ⟨_, rfl, fun w30 hD30 => ?_⟩
  replace r3 := r3.keep0 hD30.kp
  have x4 := r3.rx ht hH
  refine ⟨PD rd, ⟨rfl, x4.b.at (i := 0) rfl⟩, sm.1, ⟨rfl, x4.b.at (i := 1) rfl⟩, use (rClear_s hf r3.is r3.l (fun i hi => by have := syncMf_at (appMf (cutMf m o 0) o (recB X)) o i; have := hu2 i hi; omega)) ?_⟩
  rintro _ w35 ⟨rfl, H4, h4⟩
  have x5 := (r3.trans h4).rx ht hH
  refine ⟨(), rfl, ⟨rfl, x5.b.can1 (i := 1) _ rfl (Nat.le_of_ble_eq_true rfl)⟩, fun w39 e39 => ?_⟩
  obtain ⟨g1, k39, _⟩ := x5.b.put1 (i := 1) rfl e39
  refine ⟨sm.2.1, ⟨rfl, g1.at (i := 2) rfl⟩, ?_⟩
  rw [hw1]
  refine ⟨⟨rfl, g1.can1 (i := 2) _ rfl (Nat.le_of_ble_eq_true rfl)⟩, fun w43 e43 => ?_⟩
  obtain ⟨g2, k43, _⟩ := g1.put1 (i := 2) rfl e43
  refine ⟨sm.2.2.2, ⟨rfl, g2.at (i := 4) rfl⟩, ⟨rfl, g2.can1 (i := 3) _ rfl (Nat.le_of_ble_eq_true rfl)⟩, fun w47 e47 => ?_⟩
  obtain ⟨g3, k47, _⟩ := g2.put1 (i := 3) rfl e47
  have em : logM (cutMf m o 0) o X = appMf (cutMf m o 0) o (recB X) := by unfold logM; rw [if_pos hok]
  rw [em]
  exact ⟨rfl, H4, x5.put ((k39.then k43 (by simp)).then k47 (by simp)) (sm' := (o, sm.2.1 + 1, sm.2.2.2, sm.2.2.2)) g3⟩)
end Go.Proofs.Ytfgepillnemolaa
