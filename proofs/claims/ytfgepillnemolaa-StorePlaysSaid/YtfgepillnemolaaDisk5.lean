/- The disk's contracts for any number of a file. No conditions. -/
import Derived.Test.YtfgepillnemolaaDisk2
import Derived.Test.YtfgepillnemolaaBy
namespace Go.Proofs.Ytfgepillnemolaa
open Go.RowKit Go.Eng
set_option linter.unusedVariables false
abbrev okF (f : Int) : Prop := 0 ≤ f ∧ f < 2
abbrev PD (d : Nat) : Option Addr := some ⟨d, 0, none⟩
def appEf (m : Nat → Fm) (f : Int) (b : Bs) : Int := if okF f then appE (m f.toNat) b else 1
def appMf (m : Nat → Fm) (f : Int) (b : Bs) : Nat → Fm := if okF f then fup m f.toNat (appF (m f.toNat) b) else m
def cutEf (m : Nat → Fm) (f : Int) (n : Int) : Int := if okF f then cutE (m f.toNat) n else 1
def cutMf (m : Nat → Fm) (f : Int) (n : Int) : Nat → Fm := if okF f then fup m f.toNat (cutF (m f.toNat) n) else m
def syncEf (f : Int) : Int := if okF f then 0 else 1
def syncMf (m : Nat → Fm) (f : Int) : Nat → Fm := if okF f then fup m f.toNat (syncF (m f.toNat)) else m
def crashM (m : Nat → Fm) (a p : Int) : Nat → Fm := fun j => crashF (m j) (if j = 0 then a else p)
def readF (m : Nat → Fm) (f : Int) : Bs := if okF f then (m f.toNat).now else []
def pendN (m : Nat → Fm) (f : Int) : Nat := if okF f then unitsL (m f.toNat).pend else 0
theorem okF_cases {f : Int} : (∃ i : Nat, f = i ∧ i < 2) ∨ ¬ okF f := by
  by_cases h : okF f
  · exact .inl ⟨f.toNat, by omega, by omega⟩
  · exact .inr h
theorem okF_of {i : Nat} (h : i < 2) : okF (i : Int) := by omega
theorem DiskIs.old {w : World} {F : Nat → Prop} {d : Nat} {m : Nat → Fm} (h : DiskIs w F d m) : DiskIs w (fun k => F k ∨ New w w k) d m :=
  h.mono (fun x hx => .inl hx) (fun x hx => hx.elim (h.lt x) (fun h => h.2))
theorem DiskIs.leads {w : World} {F : Nat → Prop} {d : Nat} {m : Nat → Fm} (h : DiskIs w F d m) {i : Nat} (hi : i < 2) : Leads (m i).sure (m i).pend (m i).now := by
  obtain ⟨⟨cs, s, FF, h1, h2, h3, h4, h5⟩, hF, hlt⟩ := h
  exact (h4 i hi).leads
theorem DiskIs.small {w : World} {F : Nat → Prop} {d : Nat} {m : Nat → Fm} (h : DiskIs w F d m) {i : Nat} (hi : i < 2) : (m i).now.length ≤ 16777216 := by
  obtain ⟨⟨cs, s, FF, h1, h2, h3, h4, h5⟩, hF, hlt⟩ := h
  exact (h4 i hi).small
theorem DiskIs.plen {w : World} {F : Nat → Prop} {d : Nat} {m : Nat → Fm} (h : DiskIs w F d m) {i : Nat} (hi : i < 2) {K : Nat} (hu : unitsL (m i).pend ≤ K) : (m i).pend.length ≤ K := by
  have := (h.leads hi).len
  omega
theorem Append_b {F : Nat → Prop} {d : Nat} {m : Nat → Fm} (f : Int) {b : Bs} {p : Sl} {w : World} (h : DiskIs w F d m) (hp : RdB w p b) (hu : ∀ i, i < 2 → (m i).pend.length ≤ 1000000000) :
    C.disk_Disk_Append (PD d) f p w (fun v w' => v = .int .i64 (appEf m f b) ∧ DiskIs w' (fun k => F k ∨ New w w' k) d (appMf m f b) ∧ KpF F w w') noP := by
  rcases okF_cases (f := f) with ⟨i, rfl, hi⟩ | hn
  · unfold appEf appMf
    rw [if_pos (okF_of hi), if_pos (okF_of hi), Int.toNat_natCast]
    exact Append_s hi h hp (hu i hi)
  · unfold appEf appMf
    rw [if_neg hn, if_neg hn]
    refine disk_Disk_Append_of ?_
    unfold W.disk_Disk_Append
    refine use (file_n d (by omega) w) ?_
    rintro _ _ ⟨rfl, rfl⟩
    exact ⟨none, rfl, cond_t rfl ⟨rfl, h.old, KpF.refl _ _⟩⟩
theorem Cut_b {F : Nat → Prop} {d : Nat} {m : Nat → Fm} (f n : Int) {w : World} (h : DiskIs w F d m) (hu : ∀ i, i < 2 → (m i).pend.length ≤ 1000000000) :
    C.disk_Disk_Cut (PD d) f n w (fun v w' => v = .int .i64 (cutEf m f n) ∧ DiskIs w' (fun k => F k ∨ New w w' k) d (cutMf m f n) ∧ KpF F w w') noP := by
  rcases okF_cases (f := f) with ⟨i, rfl, hi⟩ | hn
  · unfold cutEf cutMf
    rw [if_pos (okF_of hi), if_pos (okF_of hi), Int.toNat_natCast]
    exact Cut_s hi n h (hu i hi)
  · unfold cutEf cutMf
    rw [if_neg hn, if_neg hn]
    refine disk_Disk_Cut_of ?_
    unfold W.disk_Disk_Cut
    refine use (file_n d (by omega) w) ?_
    rintro _ _ ⟨rfl, rfl⟩
    exact ⟨none, rfl, cond_t rfl ⟨rfl, h.old, KpF.refl _ _⟩⟩
theorem Sync_b {F : Nat → Prop} {d : Nat} {m : Nat → Fm} (f : Int) {w : World} (h : DiskIs w F d m) :
    C.disk_Disk_Sync (PD d) f w (fun v w' => v = .int .i64 (syncEf f) ∧ DiskIs w' (fun k => F k ∨ New w w' k) d (syncMf m f) ∧ KpF F w w') noP := by
  rcases okF_cases (f := f) with ⟨i, rfl, hi⟩ | hn
  · unfold syncEf syncMf
    rw [if_pos (okF_of hi), if_pos (okF_of hi), Int.toNat_natCast]
    exact Sync_s hi h
  · unfold syncEf syncMf
    rw [if_neg hn, if_neg hn]
    refine disk_Disk_Sync_of ?_
    unfold W.disk_Disk_Sync
    refine use (file_n d (by omega) w) ?_
    rintro _ _ ⟨rfl, rfl⟩
    exact ⟨none, rfl, cond_t rfl ⟨rfl, h.old, KpF.refl _ _⟩⟩
theorem Read_b {F : Nat → Prop} {d : Nat} {m : Nat → Fm} (f : Int) {w : World} (h : DiskIs w F d m) :
    C.disk_Disk_Read (PD d) f w (fun v w' => ∃ q : Sl, v = .slice q.a q.len q.cap ∧ OwnB w' w.heap.size q (readF m f) ∧ Kp [] w w') noP := by
  rcases okF_cases (f := f) with ⟨i, rfl, hi⟩ | hn
  · unfold readF
    rw [if_pos (okF_of hi), Int.toNat_natCast]
    exact Read_s hi h
  · unfold readF
    rw [if_neg hn]
    refine disk_Disk_Read_of ?_
    unfold W.disk_Disk_Read
    refine use (file_n d (by omega) w) ?_
    rintro _ _ ⟨rfl, rfl⟩
    exact ⟨none, rfl, cond_t rfl ⟨⟨none, 0, 0⟩, rfl, Go.Eng.Own.nil _ _ _, Kp.refl _ _⟩⟩
theorem Size_b {F : Nat → Prop} {d : Nat} {m : Nat → Fm} (f : Int) {w : World} (h : DiskIs w F d m) :
    C.disk_Disk_Size (PD d) f w (fun v w' => v = .int .i64 (readF m f).length ∧ w = w') noP := by
  rcases okF_cases (f := f) with ⟨i, rfl, hi⟩ | hn
  · unfold readF
    rw [if_pos (okF_of hi), Int.toNat_natCast]
    exact Size_s hi h
  · unfold readF
    rw [if_neg hn]
    refine disk_Disk_Size_of ?_
    unfold W.disk_Disk_Size
    refine use (file_n d (by omega) w) ?_
    rintro _ _ ⟨rfl, rfl⟩
    exact ⟨none, rfl, cond_t rfl ⟨rfl, rfl⟩⟩
theorem Pending_b {F : Nat → Prop} {d : Nat} {m : Nat → Fm} (f : Int) {w : World} (h : DiskIs w F d m) (hu : ∀ i, i < 2 → unitsL (m i).pend ≤ 1000000000000) :
    C.disk_Disk_Pending (PD d) f w (fun v w' => v = .int .i64 (pendN m f) ∧ Kp [] w w') noP := by
  rcases okF_cases (f := f) with ⟨i, rfl, hi⟩ | hn
  · unfold pendN
    rw [if_pos (okF_of hi), Int.toNat_natCast]
    exact Pending_s hi h (hu i hi)
  · unfold pendN
    rw [if_neg hn]
    refine disk_Disk_Pending_of ?_
    unfold W.disk_Disk_Pending
    refine use (file_n d (by omega) w) ?_
    rintro _ _ ⟨rfl, rfl⟩
    exact ⟨none, rfl, cond_t rfl ⟨rfl, Kp.refl _ _⟩⟩
end Go.Proofs.Ytfgepillnemolaa
