/- A disk of the call's own, beside blocks that it does not touch. No conditions. -/
import Derived.Test.YtfgepillnemolaaDiskD
import Derived.RangeFuncRecord
namespace Go.Eng
/-- What lies in G stays. -/
abbrev KG (G : Nat → Prop) (w w' : World) : Prop := KpF (fun k => ¬ G k) w w'
theorem Kp.kg {w w' : World} (h : Kp [] w w') (G : Nat → Prop) : KG G w w' := h.toF (by simp)
theorem KpF.kgThen {G : Nat → Prop} {w w1 w2 : World} (h : KG G w w1) (k : KG G w1 w2) : KG G w w2 := h.then k (fun _ hx => .inl hx)
end Go.Eng
namespace Go.Proofs.Ytfgepillnemolaa
open Go.RowKit Go.Eng
set_option linter.unusedVariables false
structure DG (w0 w : World) (G : Nat → Prop) (d : Nat) (m : Nat → Fm) : Prop where
  ex : ∃ F, DiskIs w F d m ∧ (∀ k, F k → w0.heap.size ≤ k) ∧ ∀ k, F k → ¬ G k
  lt : ∀ k, G k → k < w.heap.size
  kp : Kp [] w0 w
theorem DG.keep {w0 w w' : World} {G : Nat → Prop} {d : Nat} {m : Nat → Fm} (h : DG w0 w G d m) (k : Kp [] w w') : DG w0 w' G d m := by
  obtain ⟨⟨F, hd, hF, hn⟩, hlt, k0⟩ := h
  exact ⟨⟨F, hd.keep0 k, hF, hn⟩, fun x hx => Nat.lt_of_lt_of_le (hlt x hx) k.size, k0.then0 k⟩
/-- What is new is not touched either. -/
theorem DG.grow {w0 w w' : World} {G : Nat → Prop} {d : Nat} {m : Nat → Fm} (h : DG w0 w G d m) (k : Kp [] w w') : DG w0 w' (fun x => G x ∨ New w w' x) d m := by
  obtain ⟨⟨F, hd, hF, hn⟩, hlt, k0⟩ := h
  refine ⟨⟨F, hd.keep0 k, hF, ?_⟩, ?_, k0.then0 k⟩
  · rintro x hx (hg | hg)
    · exact hn x hx hg
    · have := hd.lt x hx; have := hg.1; omega
  · rintro x (hg | hg)
    · exact Nat.lt_of_lt_of_le (hlt x hg) k.size
    · exact hg.2
theorem DG.mono {w0 w : World} {G G' : Nat → Prop} {d : Nat} {m : Nat → Fm} (h : DG w0 w G d m) (hG : ∀ x, G' x → G x) : DG w0 w G' d m := by
  obtain ⟨⟨F, hd, hF, hn⟩, hlt, k0⟩ := h
  exact ⟨⟨F, hd, hF, fun x hx hg => hn x hx (hG x hg)⟩, fun x hx => hlt x (hG x hx), k0⟩
/-- Blocks of G that are the call's own may be written. -/
theorem DG.write {w0 w w' : World} {G : Nat → Prop} {d : Nat} {m : Nat → Fm} (h : DG w0 w G d m) {l : List Nat} (k : Kp l w w') (hl : ∀ x ∈ l, G x ∧ w0.heap.size ≤ x) : DG w0 w' G d m := by
  obtain ⟨⟨F, hd, hF, hn⟩, hlt, k0⟩ := h
  exact ⟨⟨F, hd.keepF (k.toF (F := fun x => x ∈ l) (fun x hx => .inl hx)) (fun x hx hm => hn x hx (hl x hm).1), hF, hn⟩, fun x hx => Nat.lt_of_lt_of_le (hlt x hx) k.size, k0.then k (fun x hx => .inr (hl x hx).2)⟩
theorem DG.wgrow {w0 w w' : World} {G : Nat → Prop} {d : Nat} {m : Nat → Fm} (h : DG w0 w G d m) {l : List Nat} (k : Kp l w w') (hl : ∀ x ∈ l, G x ∧ w0.heap.size ≤ x) : DG w0 w' (fun x => G x ∨ New w w' x) d m := by
  have h' := h.write k hl
  obtain ⟨⟨F, hd, hF, hn⟩, hlt, k0⟩ := h
  refine ⟨⟨F, hd.keepF (k.toF (F := fun x => x ∈ l) (fun x hx => .inl hx)) (fun x hx hm => hn x hx (hl x hm).1), hF, ?_⟩, ?_, h'.kp⟩
  · rintro x hx (hg | hg)
    · exact hn x hx hg
    · have := hd.lt x hx; have := hg.1; omega
  · rintro x (hg | hg)
    · exact Nat.lt_of_lt_of_le (hlt x hg) k.size
    · exact hg.2
theorem DG.step {w0 w w' : World} {G F : Nat → Prop} {d : Nat} {m : Nat → Fm} (hF : ∀ k, F k → w0.heap.size ≤ k) (hn : ∀ k, F k → ¬ G k) (hlt : ∀ k, G k → k < w.heap.size) (k0 : Kp [] w0 w) (h : DiskIs w' (fun k => F k ∨ New w w' k) d m) (k : KpF F w w') : DG w0 w' G d m ∧ KG G w w' := by
  refine ⟨⟨⟨_, h, fun x hx => hx.elim (hF x) (fun h => Nat.le_trans k0.size h.1), ?_⟩, fun x hx => Nat.lt_of_lt_of_le (hlt x hx) k.size, ((k0.toF (F := F) (by simp)).then k (fun x hx => .inl hx)).kp hF⟩, ?_⟩
  · rintro x (hf | hnew) hg
    · exact hn x hf hg
    · have := hlt x hg; have := hnew.1; omega
  · exact ⟨k.os, k.tape, k.output, k.size, fun x hx hg => k.block x hx (fun hf => hg (hn x hf))⟩
theorem DG.small {w0 w : World} {G : Nat → Prop} {d : Nat} {m : Nat → Fm} (h : DG w0 w G d m) {i : Nat} (hi : i < 2) : (m i).now.length ≤ 16777216 := by
  obtain ⟨⟨F, hd, hF⟩, _, k0⟩ := h
  exact hd.small hi
theorem DG.leads {w0 w : World} {G : Nat → Prop} {d : Nat} {m : Nat → Fm} (h : DG w0 w G d m) {i : Nat} (hi : i < 2) : Leads (m i).sure (m i).pend (m i).now := by
  obtain ⟨⟨F, hd, hF⟩, _, k0⟩ := h
  exact hd.leads hi
theorem New_g (w0 w : World) (k : Kp [] w0 w) : C.disk_New w (fun v w' => ∃ d, v = .pointer (PD d) ∧ DG w0 w' (fun _ => False) d m00 ∧ Kp [] w w') noP := by
  refine use (dNew_s w) ?_
  rintro _ w1 ⟨d, F, rfl, hd, k1, hF⟩
  exact ⟨d, rfl, ⟨⟨F, hd, fun x hx => Nat.le_trans k.size (hF x hx), fun _ _ h => h⟩, fun _ h => h.elim, k.then0 k1⟩, k1⟩
theorem New_g2 (w0 w : World) (k : Kp [] w0 w) : C.disk_New w (fun v w' => ∃ d, v = .pointer (PD d) ∧ DG w0 w' (fun x => x < w.heap.size) d m00 ∧ Kp [] w w') noP := by
  refine use (dNew_s w) ?_
  rintro _ w1 ⟨d, F, rfl, hd, k1, hF⟩
  exact ⟨d, rfl, ⟨⟨F, hd, fun x hx => Nat.le_trans k.size (hF x hx), fun x hx h => by have := hF x hx; omega⟩, fun x h => Nat.lt_of_lt_of_le h k1.size, k.then0 k1⟩, k1⟩
theorem Append_g {w0 w : World} {G : Nat → Prop} {d : Nat} {m : Nat → Fm} (f : Int) {b : Bs} {p : Sl} (h : DG w0 w G d m) (hp : RdB w p b) (hu : ∀ i, i < 2 → unitsL (m i).pend ≤ 1000000000) :
    C.disk_Disk_Append (PD d) f p w (fun v w' => v = .int .i64 (appEf m f b) ∧ DG w0 w' G d (appMf m f b) ∧ KG G w w') noP := by
  obtain ⟨⟨F, hd, hF, hn⟩, hlt, k0⟩ := h
  refine use (Append_b f hd hp (fun i hi => hd.plen hi (hu i hi))) ?_
  rintro _ w1 ⟨rfl, h1, k1⟩
  exact ⟨rfl, DG.step hF hn hlt k0 h1 k1⟩
theorem Cut_g {w0 w : World} {G : Nat → Prop} {d : Nat} {m : Nat → Fm} (f n : Int) (h : DG w0 w G d m) (hu : ∀ i, i < 2 → unitsL (m i).pend ≤ 1000000000) :
    C.disk_Disk_Cut (PD d) f n w (fun v w' => v = .int .i64 (cutEf m f n) ∧ DG w0 w' G d (cutMf m f n) ∧ KG G w w') noP := by
  obtain ⟨⟨F, hd, hF, hn⟩, hlt, k0⟩ := h
  refine use (Cut_b f n hd (fun i hi => hd.plen hi (hu i hi))) ?_
  rintro _ w1 ⟨rfl, h1, k1⟩
  exact ⟨rfl, DG.step hF hn hlt k0 h1 k1⟩
theorem Sync_g {w0 w : World} {G : Nat → Prop} {d : Nat} {m : Nat → Fm} (f : Int) (h : DG w0 w G d m) :
    C.disk_Disk_Sync (PD d) f w (fun v w' => v = .int .i64 (syncEf f) ∧ DG w0 w' G d (syncMf m f) ∧ KG G w w') noP := by
  obtain ⟨⟨F, hd, hF, hn⟩, hlt, k0⟩ := h
  refine use (Sync_b f hd) ?_
  rintro _ w1 ⟨rfl, h1, k1⟩
  exact ⟨rfl, DG.step hF hn hlt k0 h1 k1⟩
theorem Read_g {w0 w : World} {G : Nat → Prop} {d : Nat} {m : Nat → Fm} (f : Int) (h : DG w0 w G d m) :
    C.disk_Disk_Read (PD d) f w (fun v w' => ∃ q : Sl, v = .slice q.a q.len q.cap ∧ OwnB w' w.heap.size q (readF m f) ∧ Kp [] w w') noP := by
  obtain ⟨⟨F, hd, hF⟩, _, k0⟩ := h
  exact Read_b f hd
theorem Size_g {w0 w : World} {G : Nat → Prop} {d : Nat} {m : Nat → Fm} (f : Int) (h : DG w0 w G d m) :
    C.disk_Disk_Size (PD d) f w (fun v w' => v = .int .i64 (readF m f).length ∧ w = w') noP := by
  obtain ⟨⟨F, hd, hF⟩, _, k0⟩ := h
  exact Size_b f hd
theorem Pending_g {w0 w : World} {G : Nat → Prop} {d : Nat} {m : Nat → Fm} (f : Int) (h : DG w0 w G d m) (hu : ∀ i, i < 2 → unitsL (m i).pend ≤ 1000000000) :
    C.disk_Disk_Pending (PD d) f w (fun v w' => v = .int .i64 (pendN m f) ∧ Kp [] w w') noP := by
  obtain ⟨⟨F, hd, hF⟩, _, k0⟩ := h
  exact Pending_b f hd (fun i hi => by have := hu i hi; omega)
/-- The disk that crashed is not touched; the new one is the call's own. -/
theorem Crash_g {w0 w : World} {G : Nat → Prop} {d : Nat} {m : Nat → Fm} (a p : Int) (ha : in64 a) (hp : in64 p) (h : DG w0 w G d m) (hu : ∀ i, i < 2 → unitsL (m i).pend ≤ 1000000000) :
    C.disk_Disk_Crash (PD d) a p w (fun v w' => ∃ dn, v = .pointer (PD dn) ∧ DG w0 w' G dn (crashM m a p) ∧ Kp [] w w') noP := by
  obtain ⟨⟨F, hd, hF, hn⟩, hlt, k0⟩ := h
  refine use (Crash_s a p ha hp hd (fun i hi => hd.plen hi (hu i hi))) ?_
  rintro _ w1 ⟨dn, F', rfl, h1, hF', k1⟩
  exact ⟨dn, rfl, ⟨⟨F', h1, fun k hk => Nat.le_trans k0.size (hF' k hk), fun k hk hg => by have := hF' k hk; have := hlt k hg; omega⟩, fun k hk => Nat.lt_of_lt_of_le (hlt k hk) k1.size, k0.then0 k1⟩, k1⟩
/-- An object is laid over. -/
theorem put_kp (w : World) (r : Nat) (o : Obj) : Kp [r] w (w.putObj r o) := ⟨rfl, rfl, rfl, by simp [World.putObj], fun k hk hn => by
  have : ¬ r = k := fun e => hn (by simp [e])
  simp [World.putObj, this]⟩
theorem put_at {w : World} {r : Nat} (o : Obj) (h : r < w.heap.size) : (w.putObj r o).heap[r]? = some o := by
  simp [World.putObj, h]
theorem put_sz (w : World) (r : Nat) (o : Obj) : (w.putObj r o).heap.size = w.heap.size := by simp [World.putObj]
theorem heap_lt {w : World} {r : Nat} {o : Obj} (h : w.heap[r]? = some o) : r < w.heap.size := (Array.getElem?_eq_some_iff.1 h).1
theorem heap_keep {w w' : World} {l : List Nat} {r : Nat} {o : Obj} (h : w.heap[r]? = some o) (k : Kp l w w') (hn : r ∉ l) : w'.heap[r]? = some o := (k.block r (heap_lt h) hn).trans h
theorem heap_keepF {w w' : World} {F : Nat → Prop} {r : Nat} {o : Obj} (h : w.heap[r]? = some o) (k : KpF F w w') (hn : ¬ F r) : w'.heap[r]? = some o := (k.block r (heap_lt h) hn).trans h
end Go.Proofs.Ytfgepillnemolaa
