/- The document's disk (skepref03). No conditions. -/
import Derived.Test.YtfgepillnemolaaDisk2
import Derived.Test.YtfgepillnemolaaV1
namespace Go.Proofs.Ytfgepillnemolaa
open Go.RowKit Go.Eng
set_option linter.unusedVariables false
inductive RU where
  | byte (b : UInt8)
  | cut (n : Nat)
def unitsOf : List Pd → List RU
  | [] => []
  | .app b :: r => b.map .byte ++ unitsOf r
  | .cut n :: r => .cut n :: unitsOf r
theorem unitsOf_len : ∀ p : List Pd, (unitsOf p).length = unitsL p
  | [] => rfl
  | .app b :: r => by simp [unitsOf, unitsL, Pd.units, unitsOf_len r]
  | .cut n :: r => by simp [unitsOf, unitsL, Pd.units, unitsOf_len r]; omega
theorem unitsOf_app (a b : List Pd) : unitsOf (a ++ b) = unitsOf a ++ unitsOf b := by
  induction a with
  | nil => rfl
  | cons p r ih => cases p <;> simp [unitsOf, ih]
def withB : Bs → List RU → Nat → Bs
  | x, [], _ => x
  | x, _ :: _, 0 => x
  | x, .byte b :: r, n + 1 => withB (x ++ [b]) r n
  | x, .cut m :: r, n + 1 => withB (x.take m) r n
def Okw : Bs → List RU → Prop
  | _, [] => True
  | x, .byte b :: r => x.length ≤ 16777216 ∧ Okw (x ++ [b]) r
  | x, .cut m :: r => m ≤ x.length ∧ Okw (x.take m) r
theorem okw_bytes : ∀ (b : Bs) (x : Bs) (r : List RU), (x ++ b).length ≤ 16777216 → Okw (x ++ b) r → Okw x (b.map .byte ++ r)
  | [], x, r, h, k => by simpa using k
  | c :: b, x, r, h, k => by
    rw [List.length_append] at h
    simp only [List.length_cons] at h
    refine ⟨by omega, okw_bytes b (x ++ [c]) r (by simp; omega) (by simpa using k)⟩
theorem Leads.okw : ∀ {x : Bs} {p : List Pd} {now : Bs}, Leads x p now → Okw x (unitsOf p)
  | x, [], now, h => trivial
  | x, .app c :: r, now, h => okw_bytes c x _ h.2.2.small (Leads.okw h.2.2)
  | x, .cut m :: r, now, h => ⟨h.2.1, Leads.okw h.2.2⟩
theorem withB_zero (x : Bs) (l : List RU) : withB x l 0 = x := by cases l <;> rfl
theorem withB_bytes : ∀ (b : Bs) (x : Bs) (r : List RU) (n : Nat), withB x (b.map .byte ++ r) n = if n < b.length then x ++ b.take n else withB (x ++ b) r (n - b.length)
  | [], x, r, n => by simp
  | c :: b, x, r, 0 => by simp [withB]
  | c :: b, x, r, n + 1 => by
    simp only [List.map_cons, List.cons_append, withB]
    rw [withB_bytes b (x ++ [c]) r n]
    simp only [List.length_cons, List.take_succ_cons, Nat.add_lt_add_iff_right, Nat.add_sub_add_right]
    split <;> simp
theorem with_crash : ∀ (p : List Pd) (x : Bs) (n : Nat), withB x (unitsOf p) n = crashB x p n
  | [], x, n => by cases n <;> rfl
  | .app b :: r, x, n => by rw [unitsOf, withB_bytes, crashB, with_crash r]
  | .cut m :: r, x, 0 => rfl
  | .cut m :: r, x, n + 1 => by
    rw [unitsOf, withB, crashB, with_crash r, if_neg (by omega), Nat.add_sub_cancel]
theorem crash_all : ∀ {x : Bs} {p : List Pd} {now : Bs}, Leads x p now → ∀ n, unitsL p ≤ n → crashB x p n = now
  | x, [], now, h, n, hn => h.2
  | x, .app c :: r, now, h, n, hn => by
    simp only [unitsL, Pd.units] at hn
    rw [crashB, if_neg (by omega)]
    exact crash_all h.2.2 _ (by omega)
  | x, .cut m :: r, now, h, n, hn => by
    simp only [unitsL, Pd.units] at hn
    rw [crashB, if_neg (by omega)]
    exact crash_all h.2.2 _ (by omega)
def uC : RU → List Value
  | .byte b => [.int .u8 b.toNat, .bool false, .int .i64 0]
  | .cut n => [.int .u8 0, .bool true, .int .i64 n]
def uV (u : RU) : Value := .agg (uC u).toArray
theorem uC_len (u : RU) : (uC u).length = 3 := by cases u <;> rfl
theorem uC_leaf (u : RU) : ∀ v ∈ uC u, leafB v = true := by
  intro v hv
  cases u <;> (simp only [uC, List.mem_cons, List.not_mem_nil, or_false] at hv; rcases hv with rfl | rfl | rfl <;> rfl)
theorem u_rd {w : World} {B : Nat} {s : Sl} {us : List RU} (h : Go.Eng.Own w B 3 s (us.flatMap uC)) : RdL w 3 uV s us := by
  have hl := h.len
  rw [flat_len (n := 3) uC_len] at hl
  exact h.rds.rdl uC_len (fun _ => rfl) (by omega)
set_option maxHeartbeats 1000000 in
set_option maxRecDepth 20000 in
theorem with_s (f : S.skepref03_F) {sure now : Bs} {pend : List Pd} (n : Int) {w : World} (hs : RdB w f.Sure sure) (hus : RdL w 3 uV f.Us (unitsOf pend)) (hL : Leads sure pend now) (hu : unitsL pend ≤ 1000000000000) :
    C.skepref03_with f n w (fun v w' => ∃ q : Sl, v = .slice q.a q.len q.cap ∧ OwnB w' w.heap.size q (crashB sure pend n.toNat) ∧ Kp [] w w') noP := skepref03_with_of (by
  unfold W.skepref03_with
  intro b1 w2 hA
  have s2 := hA.eq
  have hB := hA.blk
  have hsm := hL.small
  refine ⟨f.Sure, ⟨rfl, hB.at rfl⟩, ?_⟩
  obtain ⟨q4, n5, c6, w7, hrun, hn5, ho4, k7, _⟩ := app_bytes (l := []) (s := ⟨none, 0, 0⟩) (ty := 27) Try.underlying27 byte_info (Go.Eng.Own.nil w2 w2.heap.size 1) (hs.keep0 hA.kp) (Nat.le_refl _) (by simp; omega)
  rw [List.nil_append] at ho4
  have k27 : Kp [] w2 w7 := k7
  have s7 := k7.size
  refine ⟨q4, n5, c6, w7, hrun, ?_⟩
  have hul := hus.len
  rw [unitsOf_len] at hul
  have hUl := unitsOf_len pend
  refine ⟨fun x v w' => ∃ (j : Nat) (cur : Bs), v = j ∧ j ≤ (unitsOf pend).length ∧ (j : Int) ≤ max n 0 ∧ OwnB w' w2.heap.size x cur ∧ Okw cur ((unitsOf pend).drop j) ∧ withB cur ((unitsOf pend).drop j) (n.toNat - j) = crashB sure pend n.toNat ∧ Kp [] w2 w', fun _ v _ => unitsL pend - v.toNat,
    ⟨⟨q4, n5, c6⟩, rfl, _, rfl, 0, sure, rfl, by omega, by omega, ho4, hL.okw, by rw [List.drop_zero, Nat.sub_zero]; exact with_crash _ _ _, k27⟩, fun e0 x v w14 hI => ?_⟩
  obtain ⟨j, cur, rfl, hj, hjn, ho, hok, htg, k14⟩ := hI
  have hB14 := hB.keep k14 (by simp)
  have hlo := ho.lo
  have fin : (unitsOf pend).drop j = [] ∨ n.toNat - j = 0 → ∃ q : Sl, (Value.slice x.a x.len x.cap) = .slice q.a q.len q.cap ∧ OwnB w14 w.heap.size q (crashB sure pend n.toNat) ∧ Kp [] w w14 := fun h => by
    have : cur = crashB sure pend n.toNat := by
      rw [← htg]
      rcases h with h | h
      · rw [h]; rfl
      · rw [h, withB_zero]
    rw [← this]
    exact ⟨x, rfl, ho.mono (by omega), hA.kp.then0 k14⟩
  have hw : IntKind.i64.wrap ((j : Int) + 1) = (j + 1 : Nat) := by rw [IntKind.wrap_i64]; omega
  refine ⟨f.Us, ⟨rfl, hB14.at rfl⟩, cond_d (fun h1 => cond_d (fun h2 => ?_) (fun h2 => fin (.inr (by omega)))) (fun h1 => fin (.inl (List.drop_of_length_le (by omega))))⟩
  clear fin
  have hjl : j < (unitsOf pend).length := by omega
  obtain ⟨ad, had, hx⟩ := ((hus.keep0 hA.kp).keep0 k14).get hjl
  have hde := List.drop_eq_getElem_cons hjl
  obtain ⟨u, hu⟩ : ∃ u, (unitsOf pend)[j] = u := ⟨_, rfl⟩
  rw [hu] at hde hx
  rw [hde] at hok htg
  obtain ⟨r, hr⟩ : ∃ r, n.toNat - j = r + 1 := ⟨n.toNat - j - 1, by omega⟩
  rw [hr] at htg
  have hr' : n.toNat - (j + 1) = r := by omega
  have hcs := ho.rds.bsize
  have hxlc := ho.lc
  refine ⟨f.Us, ⟨rfl, hB14.at rfl⟩, ⟨by omega, h1⟩, ?_⟩
  rw [had]
  simp only [withSome, Int.toNat_natCast, ite_same, Nat.sub_zero]
  cases u with
  | cut m =>
    have c1 := hx 1 _ rfl
    have c2 := hx 2 _ rfl
    have hm := hok.1
    refine ⟨_, ⟨by trivial, c1⟩, cond_t rfl ⟨f.Us, ⟨by trivial, hB14.at rfl⟩, ⟨by omega, h1⟩, ?_⟩⟩
    rw [had]
    refine ⟨_, ⟨by trivial, c2⟩, ⟨by omega, by omega⟩, ?_⟩
    refine ⟨⟨x.a, m, x.cap⟩, by simp, _, rfl, ⟨j + 1, cur.take m, hw, by omega, by omega, ho.bcut (by omega), hok.2, ?_, k14⟩, by simp only [hw]; omega⟩
    rw [hr']
    exact htg
  | byte b =>
    have c1 := hx 1 _ rfl
    have c0 := hx 0 _ rfl
    rw [add_add', Nat.add_zero] at c0
    have hcl := hok.1
    refine ⟨_, ⟨by trivial, c1⟩, cond_f rfl ⟨f.Us, ⟨by trivial, hB14.at rfl⟩, ⟨by omega, h1⟩, ?_⟩⟩
    rw [had]
    refine ⟨_, ⟨by trivial, c0⟩, fun b27 w28 hA27 => ?_⟩
    have hB27 : Blk w28 b27 (bv [b]) := hA27.blk
    obtain ⟨q29, n30, c31, w32, hrun2, hn30, ho29, k32, _⟩ := app_bytes (ty := 27) Try.underlying27 byte_info (ho.keep0 hA27.kp) (show RdB w28 ⟨some ⟨b27, 0, none⟩, 1, 1⟩ [b] from Blk.rds1 hB27) (by have := hA27.kp.size; have := k14.size; omega) (by simp; omega)
    refine ⟨q29, n30, c31, w32, hrun2, ⟨q29, n30, c31⟩, rfl, _, rfl, ⟨j + 1, cur ++ [b], hw, by omega, by omega, ho29, hok.2, ?_, (k14.then0 hA27.kp).then k32 (fun y hy => .inr (hlo y hy).1)⟩, by simp only [hw]; omega⟩
    rw [hr']
    exact htg)
def rfileC (s : S.skepref03_F) : List Value := [.slice s.Sure.a s.Sure.len s.Sure.cap, .slice s.Us.a s.Us.len s.Us.cap]
/-- The document's file in memory: what is certain, the units since. -/
structure RFileIs (w : World) (F : Nat → Prop) (s : S.skepref03_F) (f : Bs × List RU) : Prop where
  sure : RdB w s.Sure f.1
  us : Go.Eng.Own w 0 3 s.Us (f.2.flatMap uC)
  sureF : ∀ x ∈ blkOf s.Sure, F x ∧ x ∉ blkOf s.Us
  usF : ∀ x ∈ blkOf s.Us, F x
theorem RFileIs.keepF {w w' : World} {F G : Nat → Prop} {s : S.skepref03_F} {f : Bs × List RU} (h : RFileIs w F s f) (k : KpF G w w') (hd : ∀ x, F x → ¬ G x) : RFileIs w' F s f :=
  ⟨h.sure.keepF k (fun x hx => hd x (h.sureF x hx).1), h.us.keepF k (fun x hx => hd x (h.usF x hx)), h.sureF, h.usF⟩
theorem RFileIs.mono {w : World} {F G : Nat → Prop} {s : S.skepref03_F} {f : Bs × List RU} (h : RFileIs w F s f) (hd : ∀ x, F x → G x) : RFileIs w G s f :=
  ⟨h.sure, h.us, fun x hx => ⟨hd x (h.sureF x hx).1, (h.sureF x hx).2⟩, fun x hx => hd x (h.usF x hx)⟩
theorem RFileIs.empty (w : World) (F : Nat → Prop) : RFileIs w F ⟨⟨none, 0, 0⟩, ⟨none, 0, 0⟩⟩ ([], []) :=
  ⟨(Go.Eng.Own.nil w 0 1).rds, Go.Eng.Own.nil _ _ _, by simp [blkOf], by simp [blkOf]⟩
structure RDiskIs (w : World) (F : Nat → Prop) (d : Nat) (m : Nat → Bs × List RU) : Prop where
  is : ∃ (cs : List Value) (s : Nat → S.skepref03_F) (FF : Nat → Nat → Prop), Blk w d cs ∧ cs.length = 4 ∧ RowsOf 2 cs 2 (fun i => rfileC (s i)) ∧ (∀ i, i < 2 → RFileIs w (FF i) (s i) (m i)) ∧ (∀ i, i < 2 → ¬ FF i d) ∧ (∀ k, FF 0 k → FF 1 k → False) ∧ (∀ i, i < 2 → ∀ k, FF i k → F k)
  dF : F d
  lt : ∀ k, F k → k < w.heap.size
theorem RDiskIs.keepF {w w' : World} {F G : Nat → Prop} {d : Nat} {m : Nat → Bs × List RU} (h : RDiskIs w F d m) (k : KpF G w w') (hd : ∀ x, F x → ¬ G x) : RDiskIs w' F d m := by
  obtain ⟨⟨cs, s, FF, h1, h2, h3, h4, h5, h6, h7⟩, hF, hlt⟩ := h
  exact ⟨⟨cs, s, FF, h1.keepF k (hd d hF), h2, h3, fun i hi => (h4 i hi).keepF k (fun x hx => hd x (h7 i hi x hx)), h5, h6, h7⟩, hF, fun k' hk => Nat.lt_of_lt_of_le (hlt k' hk) k.size⟩
theorem RDiskIs.keep0 {w w' : World} {F : Nat → Prop} {d : Nat} {m : Nat → Bs × List RU} (h : RDiskIs w F d m) (k : Kp [] w w') : RDiskIs w' F d m := h.keepF (k.toF (F := fun _ => False) (by simp)) (fun _ _ h => h)
theorem RDiskIs.mono {w : World} {F G : Nat → Prop} {d : Nat} {m : Nat → Bs × List RU} (h : RDiskIs w F d m) (hd : ∀ x, F x → G x) (hlt : ∀ x, G x → x < w.heap.size) : RDiskIs w G d m := by
  obtain ⟨⟨cs, s, FF, h1, h2, h3, h4, h5, h6, h7⟩, hF, _⟩ := h
  exact ⟨⟨cs, s, FF, h1, h2, h3, h4, h5, h6, fun i hi k hk => hd k (h7 i hi k hk)⟩, hd d hF, hlt⟩
theorem RDiskIs.congr {w : World} {F : Nat → Prop} {d : Nat} {m m' : Nat → Bs × List RU} (h : RDiskIs w F d m) (e : ∀ i, i < 2 → m i = m' i) : RDiskIs w F d m' := by
  obtain ⟨⟨cs, s, FF, h1, h2, h3, h4, h5⟩, hF, hlt⟩ := h
  exact ⟨⟨cs, s, FF, h1, h2, h3, fun i hi => e i hi ▸ h4 i hi, h5⟩, hF, hlt⟩
def rup (m : Nat → Bs × List RU) (i : Nat) (f : Bs × List RU) : Nat → Bs × List RU := fun j => if j = i then f else m j
theorem rup_same (m : Nat → Bs × List RU) (i : Nat) (f : Bs × List RU) : rup m i f i = f := by simp [rup]
theorem rup_ne (m : Nat → Bs × List RU) {i j : Nat} (f : Bs × List RU) (h : j ≠ i) : rup m i f j = m j := by simp [rup, h]
theorem rup_rup (m : Nat → Bs × List RU) (i : Nat) (f g : Bs × List RU) : rup (rup m i f) i g = rup m i g := by
  funext j
  unfold rup
  split <;> rfl
theorem rup_self (m : Nat → Bs × List RU) (i : Nat) : rup m i (m i) = m := by
  funext j
  unfold rup
  split
  · rename_i e; rw [e]
  · rfl
/-- A file has been turned; X: what is new. -/
theorem rdisk_putX {w w' : World} {F X : Nat → Prop} {d : Nat} {m : Nat → Bs × List RU} (h : RDiskIs w F d m) {cs' : List Value} {s s' : Nat → S.skepref03_F} {FF : Nat → Nat → Prop} {f' : Bs × List RU} {i : Nat} (hi : i < 2)
    (hfi : ∀ i, i < 2 → RFileIs w (FF i) (s i) (m i)) (hnd : ∀ i, i < 2 → ¬ FF i d) (hdj : ∀ k, FF 0 k → FF 1 k → False) (hFF : ∀ i, i < 2 → ∀ k, FF i k → F k)
    (hX : ∀ k, X k → ¬ F k) (hXl : ∀ k, X k → k < w'.heap.size)
    (hB : Blk w' d cs') (hl : cs'.length = 4) (hrow : RowsOf 2 cs' 2 (fun i => rfileC (s' i))) (hs : ∀ j, j ≠ i → s' j = s j) (hf : RFileIs w' (fun k => FF i k ∨ X k) (s' i) f') (k : KpF (fun k => k = d ∨ FF i k) w w') :
    RDiskIs w' (fun k => F k ∨ X k) d (rup m i f') ∧ KpF F w w' := by
  have hlt := h.lt
  have hdF := h.dF
  refine ⟨⟨⟨cs', s', fun j k => FF j k ∨ (j = i ∧ X k), hB, hl, hrow, ?_, ?_, ?_, ?_⟩, .inl hdF, ?_⟩, ?_⟩
  · intro j hj
    by_cases e : j = i
    · subst e
      rw [rup_same]
      exact hf.mono (fun x hx => hx.imp id fun h => ⟨rfl, h⟩)
    · rw [rup_ne _ _ e, hs j e]
      refine ((hfi j hj).keepF k (fun x hx hg => ?_)).mono (fun x hx => .inl hx)
      rcases hg with rfl | hg
      · exact hnd j hj hx
      · have : (i = 0 ∧ j = 1) ∨ (i = 1 ∧ j = 0) := by omega
        rcases this with ⟨rfl, rfl⟩ | ⟨rfl, rfl⟩
        · exact hdj x hg hx
        · exact hdj x hx hg
  · rintro j hj (hd | ⟨_, hd⟩)
    · exact hnd j hj hd
    · exact hX d hd hdF
  · rintro x (h0 | ⟨e0, h0⟩) (h1 | ⟨e1, h1⟩)
    · exact hdj x h0 h1
    · exact hX x h1 (hFF 0 (by omega) x h0)
    · exact hX x h0 (hFF 1 (by omega) x h1)
    · omega
  · rintro j hj x (hx | ⟨_, hx⟩)
    · exact .inl (hFF j hj x hx)
    · exact .inr hx
  · rintro x (hx | hx)
    · have := hlt x hx; have := k.size; omega
    · exact hXl x hx
  · exact ⟨k.os, k.tape, k.output, k.size, fun x hx hn => k.block x hx (fun hg => hn (by
      rcases hg with rfl | hg
      · exact hdF
      · exact hFF i hi x hg))⟩
def rof (f : Fm) : Bs × List RU := (f.sure, unitsOf f.pend)
theorem rNew_s (w : World) : C.skepref03_New w (fun v w' => ∃ d F, v = .pointer (some ⟨d, 0, none⟩) ∧ RDiskIs w' F d (fun _ => ([], [])) ∧ Kp [] w w' ∧ ∀ k, F k → w.heap.size ≤ k) noP := skepref03_New_of (by
  unfold W.skepref03_New
  intro b1 w2 hA
  have s2 := hA.eq
  refine ⟨b1, (· = b1), rfl, ⟨⟨_, fun _ => ⟨⟨none, 0, 0⟩, ⟨none, 0, 0⟩⟩, fun _ _ => False, hA.blk, rfl, ?_, fun i hi => RFileIs.empty _ _, fun _ _ h => h, fun _ h _ => h, fun _ _ _ h => h.elim⟩, rfl, fun k hk => by omega⟩, hA.kp, fun k hk => by omega⟩
  intro i hi j v hj
  have hj3 : j < 2 := (List.getElem?_eq_some_iff.1 hj).1
  have h2 : i = 0 ∨ i = 1 := by omega
  have h3 : j = 0 ∨ j = 1 := by omega
  rcases h2 with rfl | rfl <;> rcases h3 with rfl | rfl <;> exact hj)
theorem rRead_s {F : Nat → Prop} {d : Nat} {m : Nat → Bs × List RU} {i : Nat} (hi : i < 2) {f : Fm} {w : World} (h : RDiskIs w F d m) (hm : m i = rof f) (hL : Leads f.sure f.pend f.now) (hu : unitsL f.pend ≤ 1000000000000) :
    C.skepref03_Disk_Read (some ⟨d, 0, none⟩) i w (fun v w' => ∃ q : Sl, v = .slice q.a q.len q.cap ∧ OwnB w' w.heap.size q f.now ∧ Kp [] w w') noP := skepref03_Disk_Read_of (by
  unfold W.skepref03_Disk_Read
  refine ⟨fun w' => w = w', cond_n (fun h0 => cond_n (fun h1 => by omega) (fun _ => rfl)) (fun _ => rfl), ?_⟩
  rintro e0 _ rfl w3 hD
  obtain ⟨⟨cs, s, FF, hB, hcl, hrow, hfi, hnd, hdj, hFF⟩, hdF, hlt⟩ := h.keep0 hD.kp
  have ff := hfi i hi
  rw [hm] at ff
  have s3 := hD.sz
  have hus := u_rd ff.us
  have hul := hus.len
  dsimp only [rof] at hus hul
  rw [unitsOf_len] at hul
  dsimp only [withSome]
  rw [Int.toNat_natCast]
  refine ⟨⟨by omega, by omega⟩, s i, ⟨rfl, RowsOf.rdA hB hrow hi⟩, ⟨by omega, by omega⟩, (s i).Us, ⟨rfl, ?_⟩, ?_⟩
  · rw [add_blk, add_blk, Nat.zero_add]
    exact hB.at (hrow i hi 1 _ rfl)
  · refine use (with_s (s i) (((s i).Us.len : Nat) : Int) ff.sure hus hL hu) ?_
    rintro _ w8 ⟨q, rfl, ho, k8⟩
    dsimp only [rof] at ho
    rw [Int.toNat_natCast, crash_all hL _ (by omega)] at ho
    exact ⟨q, rfl, q, rfl, by rw [← s3]; exact ho, hD.kp.then0 k8⟩)
theorem rRead_n {d : Nat} {i : Int} (hi : i ≠ 0 ∧ i ≠ 1) (w : World) :
    C.skepref03_Disk_Read (some ⟨d, 0, none⟩) i w (fun v w' => v = .slice none 0 0 ∧ w = w') noP := skepref03_Disk_Read_of (by
  unfold W.skepref03_Disk_Read
  exact ⟨fun w' => False, cond_n (fun h0 => cond_n (fun h1 => ⟨rfl, rfl⟩) (fun _ => by omega)) (fun _ => by omega), fun _ _ h => h.elim⟩)
theorem rSize_s {F : Nat → Prop} {d : Nat} {m : Nat → Bs × List RU} {i : Nat} (hi : i < 2) {f : Fm} {w : World} (h : RDiskIs w F d m) (hm : m i = rof f) (hL : Leads f.sure f.pend f.now) (hu : unitsL f.pend ≤ 1000000000000) :
    C.skepref03_Disk_Size (some ⟨d, 0, none⟩) i w (fun v w' => v = .int .i64 f.now.length ∧ Kp [] w w') noP := skepref03_Disk_Size_of (by
  unfold W.skepref03_Disk_Size
  refine use (rRead_s hi h hm hL hu) ?_
  rintro _ w1 ⟨q, rfl, ho, k1⟩
  exact ⟨q, rfl, by rw [ho.rds.bsize], k1⟩)
theorem rSize_n {d : Nat} {i : Int} (hi : i ≠ 0 ∧ i ≠ 1) (w : World) :
    C.skepref03_Disk_Size (some ⟨d, 0, none⟩) i w (fun v w' => v = .int .i64 0 ∧ w = w') noP := skepref03_Disk_Size_of (by
  unfold W.skepref03_Disk_Size
  refine use (rRead_n hi w) ?_
  rintro _ _ ⟨rfl, rfl⟩
  exact ⟨⟨none, 0, 0⟩, rfl, rfl, rfl⟩)
end Go.Proofs.Ytfgepillnemolaa
