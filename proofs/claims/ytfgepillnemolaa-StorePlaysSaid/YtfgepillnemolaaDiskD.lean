/- A disk of the call's own. No conditions. -/
import Derived.Test.YtfgepillnemolaaDisk5
namespace Go.Proofs.Ytfgepillnemolaa
open Go.RowKit Go.Eng
set_option linter.unusedVariables false
theorem str_add (a b : Bs) : str a ++ str b = str (a ++ b) := by
  apply ByteArray.ext
  simp [str]
theorem Blk.rdb {w : World} {b : Nat} {l : Bs} {cs : List Value} (h : Blk w b cs) (e : cs = bv l) (n c : Nat) (hn : l.length = n) : RdB w ⟨some ⟨b, 0, none⟩, n, c⟩ l := by
  subst e
  exact ⟨by rw [bv_len]; dsimp only; omega, fun _ => ⟨_, rfl, h.has 0 _ (fun i v hi => by rw [Nat.zero_add]; exact hi)⟩⟩
/-- A disk of the call's own: all of it is new since w0. -/
structure DS (w0 w : World) (d : Nat) (m : Nat → Fm) : Prop where
  ex : ∃ F, DiskIs w F d m ∧ ∀ k, F k → w0.heap.size ≤ k
  kp : Kp [] w0 w
theorem DS.keep {w0 w w' : World} {d : Nat} {m : Nat → Fm} (h : DS w0 w d m) (k : Kp [] w w') : DS w0 w' d m := by
  obtain ⟨⟨F, hd, hF⟩, k0⟩ := h
  exact ⟨⟨F, hd.keep0 k, hF⟩, k0.then0 k⟩
theorem DS.step {w0 w w' : World} {F : Nat → Prop} {d : Nat} {m : Nat → Fm} (hF : ∀ k, F k → w0.heap.size ≤ k) (k0 : Kp [] w0 w) (h : DiskIs w' (fun k => F k ∨ New w w' k) d m) (k : KpF F w w') : DS w0 w' d m :=
  ⟨⟨_, h, fun x hx => hx.elim (hF x) (fun h => Nat.le_trans k0.size h.1)⟩, ((k0.toF (F := F) (by simp)).then k (fun x hx => .inl hx)).kp hF⟩
theorem DS.leads {w0 w : World} {d : Nat} {m : Nat → Fm} (h : DS w0 w d m) {i : Nat} (hi : i < 2) : Leads (m i).sure (m i).pend (m i).now := by
  obtain ⟨⟨F, hd, hF⟩, k0⟩ := h
  exact hd.leads hi
theorem DS.small {w0 w : World} {d : Nat} {m : Nat → Fm} (h : DS w0 w d m) {i : Nat} (hi : i < 2) : (m i).now.length ≤ 16777216 := by
  obtain ⟨⟨F, hd, hF⟩, k0⟩ := h
  exact hd.small hi
def m00 : Nat → Fm := fun _ => ⟨[], [], []⟩
theorem New_d (w0 w : World) (k : Kp [] w0 w) : C.disk_New w (fun v w' => ∃ d, v = .pointer (PD d) ∧ DS w0 w' d m00) noP := by
  refine use (dNew_s w) ?_
  rintro _ w1 ⟨d, F, rfl, hd, k1, hF⟩
  exact ⟨d, rfl, ⟨F, hd, fun x hx => Nat.le_trans k.size (hF x hx)⟩, k.then0 k1⟩
theorem Append_d {w0 w : World} {d : Nat} {m : Nat → Fm} (f : Int) {b : Bs} {p : Sl} (h : DS w0 w d m) (hp : RdB w p b) (hu : ∀ i, i < 2 → unitsL (m i).pend ≤ 1000000000) :
    C.disk_Disk_Append (PD d) f p w (fun v w' => v = .int .i64 (appEf m f b) ∧ DS w0 w' d (appMf m f b)) noP := by
  obtain ⟨⟨F, hd, hF⟩, k0⟩ := h
  refine use (Append_b f hd hp (fun i hi => hd.plen hi (hu i hi))) ?_
  rintro _ w1 ⟨rfl, h1, k1⟩
  exact ⟨rfl, DS.step hF k0 h1 k1⟩
theorem Cut_d {w0 w : World} {d : Nat} {m : Nat → Fm} (f n : Int) (h : DS w0 w d m) (hu : ∀ i, i < 2 → unitsL (m i).pend ≤ 1000000000) :
    C.disk_Disk_Cut (PD d) f n w (fun v w' => v = .int .i64 (cutEf m f n) ∧ DS w0 w' d (cutMf m f n)) noP := by
  obtain ⟨⟨F, hd, hF⟩, k0⟩ := h
  refine use (Cut_b f n hd (fun i hi => hd.plen hi (hu i hi))) ?_
  rintro _ w1 ⟨rfl, h1, k1⟩
  exact ⟨rfl, DS.step hF k0 h1 k1⟩
theorem Sync_d {w0 w : World} {d : Nat} {m : Nat → Fm} (f : Int) (h : DS w0 w d m) :
    C.disk_Disk_Sync (PD d) f w (fun v w' => v = .int .i64 (syncEf f) ∧ DS w0 w' d (syncMf m f)) noP := by
  obtain ⟨⟨F, hd, hF⟩, k0⟩ := h
  refine use (Sync_b f hd) ?_
  rintro _ w1 ⟨rfl, h1, k1⟩
  exact ⟨rfl, DS.step hF k0 h1 k1⟩
theorem Read_d {w0 w : World} {d : Nat} {m : Nat → Fm} (f : Int) (h : DS w0 w d m) :
    C.disk_Disk_Read (PD d) f w (fun v w' => ∃ q : Sl, v = .slice q.a q.len q.cap ∧ OwnB w' w.heap.size q (readF m f) ∧ Kp [] w w') noP := by
  obtain ⟨⟨F, hd, hF⟩, k0⟩ := h
  exact Read_b f hd
theorem Size_d {w0 w : World} {d : Nat} {m : Nat → Fm} (f : Int) (h : DS w0 w d m) :
    C.disk_Disk_Size (PD d) f w (fun v w' => v = .int .i64 (readF m f).length ∧ w = w') noP := by
  obtain ⟨⟨F, hd, hF⟩, k0⟩ := h
  exact Size_b f hd
theorem Pending_d {w0 w : World} {d : Nat} {m : Nat → Fm} (f : Int) (h : DS w0 w d m) (hu : ∀ i, i < 2 → unitsL (m i).pend ≤ 1000000000) :
    C.disk_Disk_Pending (PD d) f w (fun v w' => v = .int .i64 (pendN m f) ∧ Kp [] w w') noP := by
  obtain ⟨⟨F, hd, hF⟩, k0⟩ := h
  exact Pending_b f hd (fun i hi => by have := hu i hi; omega)
theorem Crash_d {w0 w : World} {d : Nat} {m : Nat → Fm} (a p : Int) (ha : in64 a) (hp : in64 p) (h : DS w0 w d m) (hu : ∀ i, i < 2 → unitsL (m i).pend ≤ 1000000000) :
    C.disk_Disk_Crash (PD d) a p w (fun v w' => ∃ dn, v = .pointer (PD dn) ∧ DS w w' dn (crashM m a p)) noP := by
  obtain ⟨⟨F, hd, hF⟩, k0⟩ := h
  refine use (Crash_s a p ha hp hd (fun i hi => hd.plen hi (hu i hi))) ?_
  rintro _ w1 ⟨dn, F', rfl, h1, hF', k1⟩
  exact ⟨dn, rfl, ⟨F', h1, hF'⟩, k1⟩
/-- The plain law of a file. -/
theorem appE_fits {f : Fm} {b : Bs} (h : f.now.length + b.length ≤ 16777216) : appE f b = 0 := by
  unfold appE
  rw [if_neg (by omega)]
theorem appE_full {f : Fm} {b : Bs} (h : 16777216 < f.now.length + b.length) : appE f b = 2 := by
  unfold appE
  rw [if_pos (by omega)]
theorem appF_fits {f : Fm} {b : Bs} (h : f.now.length + b.length ≤ 16777216) : appF f b = ⟨f.sure, f.now ++ b, f.pend ++ (if b = [] then [] else [.app b])⟩ := by
  unfold appF
  rw [if_neg (by omega)]
  split
  · rename_i e; subst e; simp
  · rfl
theorem appF_full {f : Fm} {b : Bs} (h : 16777216 < f.now.length + b.length) : appF f b = f := by
  unfold appF
  rw [if_pos (by omega)]
theorem units_one (b : Bs) : unitsL (if b = [] then [] else [.app b]) = b.length := by
  split
  · rename_i e; subst e; rfl
  · simp [unitsL, Pd.units]
theorem appF_units (f : Fm) (b : Bs) : unitsL (appF f b).pend ≤ unitsL f.pend + b.length := by
  rcases Nat.lt_or_ge 16777216 (f.now.length + b.length) with h | h
  · rw [appF_full h]; omega
  · rw [appF_fits h]; dsimp only; rw [unitsL_app, units_one]; omega
theorem cutF_units (f : Fm) (n : Int) : unitsL (cutF f n).pend ≤ unitsL f.pend + 1 := by
  unfold cutF
  split
  · omega
  · dsimp only; rw [unitsL_app]; simp [unitsL, Pd.units]
theorem appMf_at (m : Nat → Fm) (f : Int) (b : Bs) (j : Nat) : unitsL (appMf m f b j).pend ≤ unitsL (m j).pend + b.length := by
  unfold appMf
  split
  · by_cases e : j = f.toNat
    · rw [e, fup_same]; exact appF_units _ _
    · rw [fup_ne _ _ e]; omega
  · omega
theorem cutMf_at (m : Nat → Fm) (f : Int) (n : Int) (j : Nat) : unitsL (cutMf m f n j).pend ≤ unitsL (m j).pend + 1 := by
  unfold cutMf
  split
  · by_cases e : j = f.toNat
    · rw [e, fup_same]; exact cutF_units _ _
    · rw [fup_ne _ _ e]; omega
  · omega
theorem syncMf_at (m : Nat → Fm) (f : Int) (j : Nat) : unitsL (syncMf m f j).pend ≤ unitsL (m j).pend := by
  unfold syncMf
  split
  · by_cases e : j = f.toNat
    · rw [e, fup_same]; exact Nat.zero_le _
    · rw [fup_ne _ _ e]; omega
  · omega
theorem appMf_i (m : Nat → Fm) {i : Nat} (hi : i < 2) (b : Bs) : appMf m i b = fup m i (appF (m i) b) := by
  unfold appMf
  rw [if_pos (okF_of hi), Int.toNat_natCast]
theorem cutMf_i (m : Nat → Fm) {i : Nat} (hi : i < 2) (n : Int) : cutMf m i n = fup m i (cutF (m i) n) := by
  unfold cutMf
  rw [if_pos (okF_of hi), Int.toNat_natCast]
theorem syncMf_i (m : Nat → Fm) {i : Nat} (hi : i < 2) : syncMf m i = fup m i (syncF (m i)) := by
  unfold syncMf
  rw [if_pos (okF_of hi), Int.toNat_natCast]
theorem appEf_i (m : Nat → Fm) {i : Nat} (hi : i < 2) (b : Bs) : appEf m i b = appE (m i) b := by
  unfold appEf
  rw [if_pos (okF_of hi), Int.toNat_natCast]
theorem cutEf_i (m : Nat → Fm) {i : Nat} (hi : i < 2) (n : Int) : cutEf m i n = cutE (m i) n := by
  unfold cutEf
  rw [if_pos (okF_of hi), Int.toNat_natCast]
theorem syncEf_i {i : Nat} (hi : i < 2) : syncEf i = 0 := by
  unfold syncEf
  rw [if_pos (okF_of hi)]
theorem readF_i (m : Nat → Fm) {i : Nat} (hi : i < 2) : readF m i = (m i).now := by
  unfold readF
  rw [if_pos (okF_of hi), Int.toNat_natCast]
theorem pendN_i (m : Nat → Fm) {i : Nat} (hi : i < 2) : pendN m i = unitsL (m i).pend := by
  unfold pendN
  rw [if_pos (okF_of hi), Int.toNat_natCast]
end Go.Proofs.Ytfgepillnemolaa
