/- The document's disk for any number of a file; both disks, side by side. No conditions. -/
import Derived.Test.YtfgepillnemolaaDiskD
import Derived.Test.YtfgepillnemolaaDisk4
namespace Go.Proofs.Ytfgepillnemolaa
open Go.RowKit Go.Eng
set_option linter.unusedVariables false
def rofs (m : Nat → Fm) : Nat → Bs × List RU := fun i => rof (m i)
theorem rofs_fup (m : Nat → Fm) (i : Nat) (f : Fm) : rup (rofs m) i (rof f) = rofs (fup m i f) := by
  funext j
  unfold rup rofs fup
  split <;> rfl
theorem RDiskIs.old {w : World} {F : Nat → Prop} {d : Nat} {m : Nat → Bs × List RU} (h : RDiskIs w F d m) : RDiskIs w (fun k => F k ∨ New w w k) d m :=
  h.mono (fun x hx => .inl hx) (fun x hx => hx.elim (h.lt x) (fun h => h.2))
theorem no01 {f : Int} (hn : ¬ okF f) {X Y : Prop} (h : X) : cond (f != 0) (cond (f != 1) X Y) Y :=
  cond_n (fun _ => cond_n (fun _ => h) (fun _ => by omega)) (fun _ => by omega)
abbrev LeadsM (m : Nat → Fm) : Prop := ∀ i, i < 2 → Leads (m i).sure (m i).pend (m i).now
theorem rAppend_b {F : Nat → Prop} {d : Nat} {m : Nat → Fm} (f : Int) {b : Bs} {p : Sl} {w : World} (h : RDiskIs w F d (rofs m)) (hL : LeadsM m) (hu : ∀ i, i < 2 → unitsL (m i).pend ≤ 1000000000) (hp : RdB w p b) (hpF : 0 < p.len → ∀ x ∈ blkOf p, ¬ F x) (hbl : b.length ≤ 100000000000) :
    C.skepref03_Disk_Append (PD d) f p w (fun v w' => v = .int .i64 (appEf m f b) ∧ RDiskIs w' (fun k => F k ∨ New w w' k) d (rofs (appMf m f b)) ∧ KpF F w w') noP := by
  rcases okF_cases (f := f) with ⟨i, rfl, hi⟩ | hn
  · unfold appEf appMf
    rw [if_pos (okF_of hi), if_pos (okF_of hi), Int.toNat_natCast, ← rofs_fup]
    exact rAppend_s hi h rfl (hL i hi) (by have := hu i hi; omega) hp hpF hbl
  · unfold appEf appMf
    rw [if_neg hn, if_neg hn]
    refine skepref03_Disk_Append_of ?_
    unfold W.skepref03_Disk_Append
    exact ⟨fun _ => False, no01 hn ⟨rfl, h.old, KpF.refl _ _⟩, fun _ _ h => h.elim⟩
theorem rCut_b {F : Nat → Prop} {d : Nat} {m : Nat → Fm} (f n : Int) {w : World} (h : RDiskIs w F d (rofs m)) (hL : LeadsM m) (hu : ∀ i, i < 2 → unitsL (m i).pend ≤ 1000000000) :
    C.skepref03_Disk_Cut (PD d) f n w (fun v w' => v = .int .i64 (cutEf m f n) ∧ RDiskIs w' (fun k => F k ∨ New w w' k) d (rofs (cutMf m f n)) ∧ KpF F w w') noP := by
  rcases okF_cases (f := f) with ⟨i, rfl, hi⟩ | hn
  · unfold cutEf cutMf
    rw [if_pos (okF_of hi), if_pos (okF_of hi), Int.toNat_natCast, ← rofs_fup]
    exact rCut_s hi n h rfl (hL i hi) (by have := hu i hi; omega)
  · unfold cutEf cutMf
    rw [if_neg hn, if_neg hn]
    refine skepref03_Disk_Cut_of ?_
    unfold W.skepref03_Disk_Cut
    exact ⟨fun _ => False, no01 hn ⟨rfl, h.old, KpF.refl _ _⟩, fun _ _ h => h.elim⟩
theorem rSync_b {F : Nat → Prop} {d : Nat} {m : Nat → Fm} (f : Int) {w : World} (h : RDiskIs w F d (rofs m)) (hL : LeadsM m) (hu : ∀ i, i < 2 → unitsL (m i).pend ≤ 1000000000) :
    C.skepref03_Disk_Sync (PD d) f w (fun v w' => v = .int .i64 (syncEf f) ∧ RDiskIs w' (fun k => F k ∨ New w w' k) d (rofs (syncMf m f)) ∧ KpF F w w') noP := by
  rcases okF_cases (f := f) with ⟨i, rfl, hi⟩ | hn
  · unfold syncEf syncMf
    rw [if_pos (okF_of hi), if_pos (okF_of hi), Int.toNat_natCast, ← rofs_fup]
    exact rSync_s hi h rfl (hL i hi) (by have := hu i hi; omega)
  · unfold syncEf syncMf
    rw [if_neg hn, if_neg hn]
    refine skepref03_Disk_Sync_of ?_
    unfold W.skepref03_Disk_Sync
    exact no01 hn ⟨rfl, h.old, KpF.refl _ _⟩
theorem rRead_b {F : Nat → Prop} {d : Nat} {m : Nat → Fm} (f : Int) {w : World} (h : RDiskIs w F d (rofs m)) (hL : LeadsM m) (hu : ∀ i, i < 2 → unitsL (m i).pend ≤ 1000000000) :
    C.skepref03_Disk_Read (PD d) f w (fun v w' => ∃ q : Sl, v = .slice q.a q.len q.cap ∧ OwnB w' w.heap.size q (readF m f) ∧ Kp [] w w') noP := by
  rcases okF_cases (f := f) with ⟨i, rfl, hi⟩ | hn
  · unfold readF
    rw [if_pos (okF_of hi), Int.toNat_natCast]
    exact rRead_s hi h rfl (hL i hi) (by have := hu i hi; omega)
  · unfold readF
    rw [if_neg hn]
    refine use (rRead_n (by omega) w) ?_
    rintro _ _ ⟨rfl, rfl⟩
    exact ⟨⟨none, 0, 0⟩, rfl, Go.Eng.Own.nil _ _ _, Kp.refl _ _⟩
theorem rSize_b {F : Nat → Prop} {d : Nat} {m : Nat → Fm} (f : Int) {w : World} (h : RDiskIs w F d (rofs m)) (hL : LeadsM m) (hu : ∀ i, i < 2 → unitsL (m i).pend ≤ 1000000000) :
    C.skepref03_Disk_Size (PD d) f w (fun v w' => v = .int .i64 (readF m f).length ∧ Kp [] w w') noP := by
  rcases okF_cases (f := f) with ⟨i, rfl, hi⟩ | hn
  · unfold readF
    rw [if_pos (okF_of hi), Int.toNat_natCast]
    exact rSize_s hi h rfl (hL i hi) (by have := hu i hi; omega)
  · unfold readF
    rw [if_neg hn]
    refine use (rSize_n (by omega) w) ?_
    rintro _ _ ⟨rfl, rfl⟩
    exact ⟨rfl, Kp.refl _ _⟩
theorem rPending_b {F : Nat → Prop} {d : Nat} {m : Nat → Fm} (f : Int) {w : World} (h : RDiskIs w F d (rofs m)) :
    C.skepref03_Disk_Pending (PD d) f w (fun v w' => v = .int .i64 (pendN m f) ∧ Kp [] w w') noP := by
  rcases okF_cases (f := f) with ⟨i, rfl, hi⟩ | hn
  · unfold pendN
    rw [if_pos (okF_of hi), Int.toNat_natCast]
    exact rPending_s hi h rfl
  · unfold pendN
    rw [if_neg hn]
    refine skepref03_Disk_Pending_of ?_
    unfold W.skepref03_Disk_Pending
    exact no01 hn ⟨rfl, Kp.refl _ _⟩
/-- Both disks, all of them the call's own. -/
structure BD (w0 w : World) (d rd : Nat) (m : Nat → Fm) : Prop where
  ex : ∃ F G, DiskIs w F d m ∧ RDiskIs w G rd (rofs m) ∧ (∀ k, F k → G k → False) ∧ (∀ k, F k → w0.heap.size ≤ k) ∧ (∀ k, G k → w0.heap.size ≤ k)
  kp : Kp [] w0 w
theorem BD.keep {w0 w w' : World} {d rd : Nat} {m : Nat → Fm} (h : BD w0 w d rd m) (k : Kp [] w w') : BD w0 w' d rd m := by
  obtain ⟨⟨F, G, h1, h2, h3, h4, h5⟩, h6⟩ := h
  exact ⟨⟨F, G, h1.keep0 k, h2.keep0 k, h3, h4, h5⟩, h6.then0 k⟩
theorem BD.leads {w0 w : World} {d rd : Nat} {m : Nat → Fm} (h : BD w0 w d rd m) : LeadsM m := by
  obtain ⟨⟨F, G, h1, h2⟩, h6⟩ := h
  exact fun i hi => h1.leads hi
/-- One disk is turned, then (behind what keeps it) the other. -/
theorem BD.both {w0 w w1 w2 w3 : World} {F G : Nat → Prop} {d rd : Nat} {m m' : Nat → Fm} (h1 : DiskIs w F d m) (h2 : RDiskIs w G rd (rofs m)) (h3 : ∀ k, F k → G k → False) (h4 : ∀ k, F k → w0.heap.size ≤ k) (h5 : ∀ k, G k → w0.heap.size ≤ k) (h6 : Kp [] w0 w)
    (a1 : DiskIs w1 (fun k => F k ∨ New w w1 k) d m') (a2 : KpF F w w1) (l : List Nat) (b1 : Kp l w1 w2) (bl : ∀ x ∈ l, w0.heap.size ≤ x ∧ ¬ (F x ∨ New w w1 x) ∧ ¬ G x)
    (c1 : RDiskIs w3 (fun k => G k ∨ New w2 w3 k) rd (rofs m')) (c2 : KpF G w2 w3) : BD w0 w3 d rd m' := by
  have s6 := h6.size
  have s1 := a2.size
  have s2 := b1.size
  have s3 := c2.size
  have d2 : DiskIs w2 (fun k => F k ∨ New w w1 k) d m' := a1.keepF (b1.toF (F := fun x => x ∈ l) (fun x hx => .inl hx)) (fun x hx hl => (bl x hl).2.1 hx)
  have hlt2 := h2.lt
  have d3 : DiskIs w3 (fun k => F k ∨ New w w1 k) d m' := d2.keepF c2 (fun x hx hg => hx.elim (fun hf => h3 x hf hg) (fun hn => by have := hlt2 x hg; have := hn.1; omega))
  have hlt1 := h1.lt
  refine ⟨⟨_, _, d3, c1, ?_, ?_, ?_⟩, ?_⟩
  · rintro k (hf | hn) (hg | hn')
    · exact h3 k hf hg
    · have := hlt1 k hf; have := hn'.1; omega
    · have := hlt2 k hg; have := hn.1; omega
    · have := hn.2; have := hn'.1; omega
  · rintro k (hf | hn)
    · exact h4 k hf
    · have := hn.1; omega
  · rintro k (hf | hn)
    · exact h5 k hf
    · have := hn.1; omega
  · have x1 : Kp [] w0 w1 := ((h6.toF (F := F) (by simp)).then a2 (fun x hx => .inl hx)).kp h4
    have x2 : Kp [] w0 w2 := x1.then b1 (fun x hx => .inr (bl x hx).1)
    exact ((x2.toF (F := G) (by simp)).then c2 (fun x hx => .inl hx)).kp h5
/-- Bytes of one's own, each turned. -/
theorem xor_in8 (y : Int) : in8 (xorI .u8 y 255) := by
  unfold xorI
  rw [IntKind.wrap_u8]
  omega
end Go.Proofs.Ytfgepillnemolaa
