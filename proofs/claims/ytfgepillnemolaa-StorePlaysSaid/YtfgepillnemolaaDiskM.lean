/- The disk: what it is in memory, its plain law. No conditions. -/
import Derived.Test.YtfgepillnemolaaMemF
import Derived.Test.YtfgepillnemolaaV0
namespace Go.Proofs.Ytfgepillnemolaa
open Go.RowKit Go.Eng
set_option linter.unusedVariables false
/-- What is pending: bytes that were put behind; a cut. -/
inductive Pd where
  | app (b : Bs)
  | cut (n : Nat)
def Pd.units : Pd → Nat
  | .app b => b.length
  | .cut _ => 1
/-- A file: what is certain, what it is now, what was done since. -/
structure Fm where
  sure : Bs
  now : Bs
  pend : List Pd
def unitsL : List Pd → Nat
  | [] => 0
  | p :: r => p.units + unitsL r
theorem unitsL_app (a b : List Pd) : unitsL (a ++ b) = unitsL a + unitsL b := by
  induction a with
  | nil => simp [unitsL]
  | cons p r ih => simp only [List.cons_append, unitsL, ih]; omega
/-- From x on, what is pending leads to now (no stage is too long). -/
def Leads (x : Bs) : List Pd → Bs → Prop
  | [], now => x.length ≤ 16777216 ∧ x = now
  | .app b :: r, now => x.length ≤ 16777216 ∧ b ≠ [] ∧ Leads (x ++ b) r now
  | .cut m :: r, now => x.length ≤ 16777216 ∧ m ≤ x.length ∧ Leads (x.take m) r now
theorem Leads.put {b : Bs} (hb : b ≠ []) : ∀ {x : Bs} {p : List Pd} {now : Bs}, Leads x p now → (now ++ b).length ≤ 16777216 → Leads x (p ++ [.app b]) (now ++ b)
  | x, [], now, h, hl => by
    obtain ⟨h1, rfl⟩ : x.length ≤ 16777216 ∧ x = now := h
    exact ⟨h1, hb, hl, rfl⟩
  | x, .app c :: r, now, h, hl => ⟨h.1, h.2.1, Leads.put hb h.2.2 hl⟩
  | x, .cut m :: r, now, h, hl => ⟨h.1, h.2.1, Leads.put hb h.2.2 hl⟩
theorem Leads.cut {n : Nat} : ∀ {x : Bs} {p : List Pd} {now : Bs}, Leads x p now → n ≤ now.length → Leads x (p ++ [.cut n]) (now.take n)
  | x, [], now, h, hn => by
    obtain ⟨h1, rfl⟩ : x.length ≤ 16777216 ∧ x = now := h
    exact ⟨h1, hn, by simp; omega, rfl⟩
  | x, .app c :: r, now, h, hn => ⟨h.1, h.2.1, Leads.cut h.2.2 hn⟩
  | x, .cut m :: r, now, h, hn => ⟨h.1, h.2.1, Leads.cut h.2.2 hn⟩
theorem Leads.small : ∀ {x : Bs} {p : List Pd} {now : Bs}, Leads x p now → x.length ≤ 16777216
  | x, [], now, h => h.1
  | x, .app c :: r, now, h => h.1
  | x, .cut m :: r, now, h => h.1
/-- What a crash leaves. -/
def crashB (x : Bs) : List Pd → Nat → Bs
  | [], _ => x
  | .app b :: r, n => if n < b.length then x ++ b.take n else crashB (x ++ b) r (n - b.length)
  | .cut m :: r, n => if n < 1 then x else crashB (x.take m) r (n - 1)
def appE (f : Fm) (b : Bs) : Int := if (16777216 : Int) - f.now.length < b.length then 2 else 0
def appF (f : Fm) (b : Bs) : Fm := if (16777216 : Int) - f.now.length < b.length then f else if b = [] then f else ⟨f.sure, f.now ++ b, f.pend ++ [.app b]⟩
def cutE (f : Fm) (n : Int) : Int := if n < 0 ∨ (f.now.length : Int) < n then 1 else 0
def cutF (f : Fm) (n : Int) : Fm := if n < 0 ∨ (f.now.length : Int) < n then f else ⟨f.sure, f.now.take n.toNat, f.pend ++ [.cut n.toNat]⟩
def syncF (f : Fm) : Fm := ⟨f.now, f.now, []⟩
def crashF (f : Fm) (n : Int) : Fm := ⟨crashB f.sure f.pend n.toNat, crashB f.sure f.pend n.toNat, []⟩
def fup (m : Nat → Fm) (i : Nat) (f : Fm) : Nat → Fm := fun j => if j = i then f else m j
def doneC (d : S.disk_done) : List Value := [.bool d.cut, .int .i64 d.size, .slice d.b_.a d.b_.len d.b_.cap]
def fileC (s : S.disk_file) : List Value := [.slice s.sure.a s.sure.len s.sure.cap, .slice s.now.a s.now.len s.now.cap, .slice s.pending.a s.pending.len s.pending.cap]
/-- One thing that is pending, in memory. -/
def PdIs (w : World) (F : Nat → Prop) (s : S.disk_file) (d : S.disk_done) : Pd → Prop
  | .app b => d.cut = false ∧ (RdB w d.b_ b ∧ d.b_.len ≤ d.b_.cap) ∧ ∀ x ∈ blkOf d.b_, F x ∧ x ∉ blkOf s.now ∧ x ∉ blkOf s.pending
  | .cut m => d.cut = true ∧ d.size = m
/-- A file in memory, all of it in F. -/
structure FileIs (w : World) (F : Nat → Prop) (s : S.disk_file) (f : Fm) : Prop where
  now : OwnB w 0 s.now f.now
  sure : RdB w s.sure f.sure
  nowF : ∀ x ∈ blkOf s.now, F x
  sureF : ∀ x ∈ blkOf s.sure, F x ∧ x ∉ blkOf s.pending
  pendF : ∀ x ∈ blkOf s.pending, F x ∧ x ∉ blkOf s.now
  same : (s.sure.a = s.now.a ∧ s.sure.len ≤ s.now.len) ∨ ∀ x ∈ blkOf s.sure, x ∉ blkOf s.now
  pend : ∃ ds : List S.disk_done, Go.Eng.Own w 0 3 s.pending (ds.flatMap doneC) ∧ ds.length = f.pend.length ∧ ∀ (i : Nat) d p, ds[i]? = some d → f.pend[i]? = some p → PdIs w F s d p
  leads : Leads f.sure f.pend f.now
  small : f.now.length ≤ 16777216
theorem PdIs.keepF {w w' : World} {F G : Nat → Prop} {s : S.disk_file} {d : S.disk_done} {p : Pd} (h : PdIs w F s d p) (k : KpF G w w') (hd : ∀ x, F x → ¬ G x) : PdIs w' F s d p := by
  cases p with
  | app b => exact ⟨h.1, ⟨h.2.1.1.keepF k (fun x hx => hd x (h.2.2 x hx).1), h.2.1.2⟩, h.2.2⟩
  | cut m => exact h
theorem FileIs.keepF {w w' : World} {F G : Nat → Prop} {s : S.disk_file} {f : Fm} (h : FileIs w F s f) (k : KpF G w w') (hd : ∀ x, F x → ¬ G x) : FileIs w' F s f := by
  obtain ⟨ds, h1, h2, h3⟩ := h.pend
  exact ⟨h.now.keepF k (fun x hx => hd x (h.nowF x hx)), h.sure.keepF k (fun x hx => hd x (h.sureF x hx).1), h.nowF, h.sureF, h.pendF, h.same,
    ⟨ds, h1.keepF k (fun x hx => hd x (h.pendF x hx).1), h2, fun i d p hd' hp => (h3 i d p hd' hp).keepF k hd⟩, h.leads, h.small⟩
theorem PdIs.mono {w : World} {F G : Nat → Prop} {s : S.disk_file} {d : S.disk_done} {p : Pd} (h : PdIs w F s d p) (hd : ∀ x, F x → G x) : PdIs w G s d p := by
  cases p with
  | app b => exact ⟨h.1, h.2.1, fun x hx => ⟨hd x (h.2.2 x hx).1, (h.2.2 x hx).2⟩⟩
  | cut m => exact h
theorem FileIs.mono {w : World} {F G : Nat → Prop} {s : S.disk_file} {f : Fm} (h : FileIs w F s f) (hd : ∀ x, F x → G x) : FileIs w G s f := by
  obtain ⟨ds, h1, h2, h3⟩ := h.pend
  exact ⟨h.now, h.sure, fun x hx => hd x (h.nowF x hx), fun x hx => ⟨hd x (h.sureF x hx).1, (h.sureF x hx).2⟩, fun x hx => ⟨hd x (h.pendF x hx).1, (h.pendF x hx).2⟩, h.same,
    ⟨ds, h1, h2, fun i d p hd' hp => (h3 i d p hd' hp).mono hd⟩, h.leads, h.small⟩
theorem FileIs.empty (w : World) (F : Nat → Prop) : FileIs w F ⟨⟨none, 0, 0⟩, ⟨none, 0, 0⟩, ⟨none, 0, 0⟩⟩ ⟨[], [], []⟩ :=
  ⟨Go.Eng.Own.nil _ _ _, (Go.Eng.Own.nil w 0 1).rds, by simp [blkOf], by simp [blkOf], by simp [blkOf], .inl ⟨rfl, Nat.le_refl _⟩, ⟨[], Go.Eng.Own.nil _ _ _, rfl, by simp⟩, ⟨by simp, rfl⟩, by simp⟩
/-- A disk in memory: block d; what it may touch: F. -/
structure DiskIs (w : World) (F : Nat → Prop) (d : Nat) (m : Nat → Fm) : Prop where
  is : ∃ (cs : List Value) (s : Nat → S.disk_file) (FF : Nat → Nat → Prop), Blk w d cs ∧ cs.length = 6 ∧ RowsOf 3 cs 2 (fun i => fileC (s i)) ∧ (∀ i, i < 2 → FileIs w (FF i) (s i) (m i)) ∧ (∀ i, i < 2 → ¬ FF i d) ∧ (∀ k, FF 0 k → FF 1 k → False) ∧ (∀ i, i < 2 → ∀ k, FF i k → F k)
  dF : F d
  lt : ∀ k, F k → k < w.heap.size
theorem DiskIs.keepF {w w' : World} {F G : Nat → Prop} {d : Nat} {m : Nat → Fm} (h : DiskIs w F d m) (k : KpF G w w') (hd : ∀ x, F x → ¬ G x) : DiskIs w' F d m := by
  obtain ⟨⟨cs, s, FF, h1, h2, h3, h4, h5, h6, h7⟩, hF, hlt⟩ := h
  exact ⟨⟨cs, s, FF, h1.keepF k (hd d hF), h2, h3, fun i hi => (h4 i hi).keepF k (fun x hx => hd x (h7 i hi x hx)), h5, h6, h7⟩, hF, fun k' hk => Nat.lt_of_lt_of_le (hlt k' hk) k.size⟩
theorem DiskIs.keep0 {w w' : World} {F : Nat → Prop} {d : Nat} {m : Nat → Fm} (h : DiskIs w F d m) (k : Kp [] w w') : DiskIs w' F d m := h.keepF (k.toF (F := fun _ => False) (by simp)) (fun _ _ h => h)
theorem DiskIs.mono {w : World} {F G : Nat → Prop} {d : Nat} {m : Nat → Fm} (h : DiskIs w F d m) (hd : ∀ x, F x → G x) (hlt : ∀ x, G x → x < w.heap.size) : DiskIs w G d m := by
  obtain ⟨⟨cs, s, FF, h1, h2, h3, h4, h5, h6, h7⟩, hF, _⟩ := h
  exact ⟨⟨cs, s, FF, h1, h2, h3, h4, h5, h6, fun i hi k hk => hd k (h7 i hi k hk)⟩, hd d hF, hlt⟩
theorem byte_info : (Try.prog.info? 5).map (fun i => (i.zero, i.size, i.bytes)) = some (some (.int .u8 0), 1, 1) := by kernel_rfl
theorem done_info : (Try.prog.info? 93).map (fun i => (i.zero, i.size, i.bytes)) = some (some (.agg #[.bool false, .int .i64 0, .slice none 0 0]), 3, 40) := by kernel_rfl
end Go.Proofs.Ytfgepillnemolaa
