/- Bytes as values, strings, what a call may touch. No conditions. -/
import Derived.Test.YtfgepillnemolaaAux
import Derived.Laws.Strings
import Derived.Laws.IdiomStrings
namespace Go.Eng
open Go.RowKit
set_option linter.unusedVariables false
abbrev Bs := List UInt8
def vb (x : UInt8) : Value := .int .u8 x.toNat
def bv (l : Bs) : List Value := l.map vb
theorem vb_leaf (x : UInt8) : leafB (vb x) = true := rfl
theorem bv_leaf (l : Bs) : ∀ v ∈ bv l, leafB v = true := by
  intro v hv
  simp only [bv, List.mem_map] at hv
  obtain ⟨x, _, rfl⟩ := hv
  rfl
theorem bv_len (l : Bs) : (bv l).length = l.length := by simp [bv]
theorem bv_app (a b : Bs) : bv (a ++ b) = bv a ++ bv b := by simp [bv]
theorem bv_nil : bv [] = [] := rfl
theorem bv_get (l : Bs) (i : Nat) : (bv l)[i]? = (l[i]?).map vb := by simp [bv]
theorem bv_take (l : Bs) (n : Nat) : bv (l.take n) = (bv l).take n := by simp [bv]
theorem vb_inj {x y : UInt8} (h : vb x = vb y) : x = y := by
  unfold vb at h
  injection h with _ h
  exact UInt8.toNat.inj (by omega)
def str (l : Bs) : ByteArray := ⟨l.toArray⟩
theorem str_size (l : Bs) : (str l).size = l.length := by simp [str, ByteArray.size]
theorem bytesV_str (l : Bs) : bytesV (str l) = bv l := by simp [bytesV, str, bv, vb]
theorem strEq_str (a b : Bs) : strEq (str a) (str b) = decide (a = b) := by
  unfold strEq
  rw [ByteArray.toList_eq, ByteArray.toList_eq, Bool.eq_iff_iff, beq_iff_eq, decide_eq_true_eq]
  simp [str]
theorem str_get (l : Bs) (i : Nat) (h : i < l.length) : byteAt (str l) i = l[i].toNat := by simp [byteAt, str, h]
abbrev RdB (w : World) (s : Sl) (l : Bs) : Prop := Rds w 1 s (bv l)
abbrev OwnB (w : World) (B : Nat) (s : Sl) (l : Bs) : Prop := Own w B 1 s (bv l)
theorem Rds.bsize {w : World} {s : Sl} {l : Bs} (h : RdB w s l) : l.length = s.len := by have := h.len; rw [bv_len] at this; omega
/-- A byte of it. -/
theorem Rds.byte {w : World} {s : Sl} {l : Bs} (h : RdB w s l) {i : Nat} (hi : i < l.length) : ∃ a, s.a = some a ∧ w.cell? (a.add (i * 1)) = some (.int .u8 (l[i].toNat)) := by
  obtain ⟨a, ha, hh⟩ := h.has (by have := h.bsize; omega)
  refine ⟨a, ha, ?_⟩
  rw [Nat.mul_one]
  exact hh i _ (by rw [bv_get, List.getElem?_eq_getElem hi]; rfl)
/-- As a string. -/
theorem Rds.str {w : World} {s : Sl} {l : Bs} (h : RdB w s l) : (str l).size = s.len ∧ (0 < s.len → withSome s.a fun a => World.has w a (bytesV (str l))) := by
  refine ⟨by rw [str_size]; exact h.bsize, fun h0 => ?_⟩
  obtain ⟨a, ha, hh⟩ := h.has h0
  rw [ha, bytesV_str]
  exact hh
theorem add0 (q : Option Addr) : q.map (fun x => x.add (0 * 1)) = q := by
  cases q with
  | none => rfl
  | some a => simp [Addr.add]
theorem ite_same (c : Prop) [Decidable c] (q : Option Addr) : (if c then q else q.map (fun x => Addr.add x (0 * 1))) = q := by rw [add0]; split <;> rfl
/-- The first bytes of a slice. -/
theorem Rds.bcut {w : World} {s : Sl} {l : Bs} (h : RdB w s l) {n : Nat} (hn : n ≤ s.len) (c : Nat) : RdB w ⟨s.a, n, c⟩ (l.take n) :=
  ⟨by rw [bv_len, List.length_take, h.bsize, Nat.min_eq_left hn, Nat.mul_one], fun h0 => by
    obtain ⟨a, ha, hh⟩ := h.has (by dsimp only at h0; omega)
    refine ⟨a, ha, fun i v hi => hh i v ?_⟩
    rw [bv_take] at hi
    have : i < n := by have := (List.getElem?_eq_some_iff.1 hi).1; simp at this; omega
    rw [List.getElem?_take, if_pos this] at hi
    exact hi⟩
theorem Own.bcut {w : World} {B : Nat} {s : Sl} {l : Bs} (h : OwnB w B s l) {n : Nat} (hn : n ≤ s.len) : OwnB w B ⟨s.a, n, s.cap⟩ (l.take n) := by
  have hl : l.length = s.len := h.rds.bsize
  refine ⟨by rw [bv_len, List.length_take, hl, Nat.min_eq_left hn, Nat.mul_one], by have := h.lc; dsimp only; omega, ?_⟩
  rcases h.is with ⟨h0, h1⟩ | ⟨b, rest, ha, hB, hb, hc⟩
  · exact .inl ⟨h0, h1⟩
  · refine .inr ⟨b, bv (l.drop n) ++ rest, ha, hB, ?_, ?_⟩
    · rw [← List.append_assoc, ← bv_app, List.take_append_drop]; exact hb
    · rw [← List.append_assoc, ← bv_app, List.take_append_drop]; exact hc

theorem Rds.byteA {w : World} {s : Sl} {l : Bs} (h : RdB w s l) (h0 : 0 < l.length) : ∃ a, s.a = some a ∧ ∀ i (hi : i < l.length), w.cell? (a.add i) = some (.int .u8 (l[i].toNat)) := by
  obtain ⟨a, ha, hh⟩ := h.has (by have := h.bsize; omega)
  exact ⟨a, ha, fun i hi => hh i _ (by rw [bv_get, List.getElem?_eq_getElem hi]; rfl)⟩
/-- The bytes from a place on. -/
theorem Rds.bdrop {w : World} {s : Sl} {l : Bs} (h : RdB w s l) (hc : s.len ≤ s.cap) {n : Nat} (hn : n ≤ s.len) (m c : Nat) (hm : m = s.len - n) : RdB w ⟨if s.cap = n then s.a else s.a.map (fun x => Addr.add x (n * 1)), m, c⟩ (l.drop n) := by
  have hl := h.bsize
  refine ⟨by rw [bv_len, List.length_drop]; dsimp only; omega, fun h0 => ?_⟩
  dsimp only at h0
  obtain ⟨a, ha, hh⟩ := h.has (by omega)
  rw [if_neg (by omega), ha]
  refine ⟨_, rfl, fun i v hi => ?_⟩
  rw [add_add', Nat.mul_one]
  refine hh _ _ ?_
  rw [bv_get] at hi ⊢
  rw [List.getElem?_drop] at hi
  exact hi
theorem blk_drop (s : Sl) (n m c k : Nat) : ∀ x ∈ blkOf ⟨if s.cap = n then s.a else s.a.map (fun x => Addr.add x k), m, c⟩, x ∈ blkOf s := by
  intro x hx
  have e : blkOf ⟨if s.cap = n then s.a else s.a.map (fun x => Addr.add x k), m, c⟩ = blkOf s := by
    by_cases h : s.cap = n
    · rw [if_pos h]; rfl
    · rw [if_neg h]
      unfold blkOf
      cases s.a with
      | none => rfl
      | some a => simp [add_block]
  rw [e] at hx
  exact hx
/-- A byte of one's own, stored. -/
theorem Own.bset {w : World} {B : Nat} {s : Sl} {l : Bs} (h : OwnB w B s l) {i : Nat} (hi : i < l.length) (c : UInt8) :
    ∃ a, s.a = some a ∧ canPut w (a.add (i * 1)) (vb c) ∧ ∀ w1, w1 = putAt w (a.add (i * 1)) (vb c) → OwnB w1 B s (l.set i c) ∧ Kp (blkOf s) w w1 ∧ w1.heap.size = w.heap.size := by
  have hl : l.length = s.len := h.rds.bsize
  rcases h.is with ⟨h0, h1⟩ | ⟨b, rest, ha, hB, hb, hc⟩
  · have := h.lc; omega
  · refine ⟨_, ha, ?_, fun w1 e => ?_⟩
    · rw [add_blk]
      exact hb.can1 _ rfl (by rw [List.length_append, bv_len]; omega)
    · rw [add_blk] at e
      obtain ⟨h2, k2, s2⟩ := hb.put1 rfl e
      have hset : (bv l ++ rest).set (0 + i * 1) (vb c) = bv (l.set i c) ++ rest := by
        rw [Nat.zero_add, Nat.mul_one, List.set_append_left _ _ (by rw [bv_len]; exact hi)]
        simp [bv]
      rw [hset] at h2
      refine ⟨⟨by rw [bv_len, List.length_set]; omega, h.lc, .inr ⟨b, rest, ha, hB, h2, ?_⟩⟩, ?_, s2⟩
      · rw [List.length_append, bv_len, List.length_set]
        rw [List.length_append, bv_len] at hc
        exact hc
      · unfold blkOf; rw [ha]; exact k2

/-- So many rows of cells. -/
def RowsOf (sz : Nat) (cs : List Value) (n : Nat) (f : Nat → List Value) : Prop := ∀ i, i < n → ∀ j v, (f i)[j]? = some v → cs[i * sz + j]? = some v
theorem row_le {i n sz : Nat} (h : i < n) : i * sz + sz ≤ n * sz := by
  have := Nat.mul_le_mul_right sz h
  rw [Nat.succ_mul] at this
  exact this
theorem row_apart {i r sz : Nat} (h : i < r) : i * sz + sz ≤ r * sz := row_le h
theorem RowsOf.set {sz : Nat} {cs : List Value} {n : Nat} {f g : Nat → List Value} (h : RowsOf sz cs n f) {r : Nat} (hr : r < n) (hl : n * sz ≤ cs.length) (hlf : ∀ i, (f i).length = sz) (hgr : (g r).length = sz) (hg : ∀ i, i < n → i ≠ r → g i = f i) :
    RowsOf sz (cs.take (r * sz) ++ g r ++ cs.drop (r * sz + sz)) n g := by
  intro i hi j v hj
  have hj19 : j < sz := by
    have := (List.getElem?_eq_some_iff.1 hj).1
    by_cases e : i = r
    · subst e; omega
    · rw [hg i hi e, hlf] at this; exact this
  have hr19 := row_le (sz := sz) hr
  rw [set_get hgr (by omega)]
  rcases Nat.lt_trichotomy i r with e | e | e
  · have := row_apart (sz := sz) e
    rw [if_pos (by omega)]
    exact h i hi j v (by rw [← hg i hi (by omega)]; exact hj)
  · subst e
    rw [if_neg (by omega), if_pos (by omega), show i * sz + j - i * sz = j by omega]
    exact hj
  · have := row_apart (sz := sz) e
    rw [if_neg (by omega), if_neg (by omega)]
    exact h i hi j v (by rw [← hg i hi (by omega)]; exact hj)
theorem set_cell_get {cs : List Value} {k : Nat} {v : Value} {j : Nat} (h : j ≠ k) : (cs.set k v)[j]? = cs[j]? := by rw [List.getElem?_set_ne (Ne.symm h)]
/-- One cell of a row. -/
theorem RowsOf.cell {sz : Nat} {cs : List Value} {n : Nat} {f g : Nat → List Value} (h : RowsOf sz cs n f) {r k : Nat} {u : Value} (hr : r < n) (hk : k < sz) (hl : n * sz ≤ cs.length) (hlf : ∀ i, (f i).length = sz) (hgr : g r = (f r).set k u) (hg : ∀ i, i < n → i ≠ r → g i = f i) :
    RowsOf sz (cs.set (r * sz + k) u) n g := by
  intro i hi j v hj
  have hr19 := row_le (sz := sz) hr
  by_cases e : i = r
  · subst e
    rw [hgr] at hj
    by_cases e2 : j = k
    · subst e2
      rw [List.getElem?_set_self (by omega)]
      rw [List.getElem?_set_self (by rw [hlf]; exact hk)] at hj
      exact hj
    · rw [set_cell_get (by omega)]
      rw [set_cell_get e2] at hj
      exact h i hi j v hj
  · have hj19 : j < sz := by
      have := (List.getElem?_eq_some_iff.1 hj).1
      rw [hg i hi e, hlf] at this
      exact this
    rw [set_cell_get (by
      rcases Nat.lt_or_gt_of_ne e with e | e
      · have := row_apart (sz := sz) e; omega
      · have := row_apart (sz := sz) e; omega)]
    exact h i hi j v (by rw [← hg i hi e]; exact hj)
theorem mem_blk {s : Sl} {a : Addr} (h : s.a = some a) : a.block ∈ blkOf s := by unfold blkOf; rw [h]; simp
theorem flat_len {α β : Type} {f : α → List β} {n : Nat} (hf : ∀ x, (f x).length = n) : ∀ L : List α, (L.flatMap f).length = L.length * n
  | [] => by simp
  | x :: L => by rw [List.flatMap_cons, List.length_append, hf, flat_len hf L, List.length_cons, Nat.add_mul]; omega
/-- What a call may touch. -/
structure KpF (F : Nat → Prop) (w w' : World) : Prop where
  os : w'.os = w.os
  tape : w'.tape = w.tape
  output : w'.output = w.output
  size : w.heap.size ≤ w'.heap.size
  block : ∀ k, k < w.heap.size → ¬ F k → w'.heap[k]? = w.heap[k]?
theorem Kp.toF {l : List Nat} {w w' : World} (h : Kp l w w') {F : Nat → Prop} (hF : ∀ x ∈ l, F x ∨ w.heap.size ≤ x) : KpF F w w' :=
  ⟨h.os, h.tape, h.output, h.size, fun k hk hn => h.block k hk (fun hm => (hF k hm).elim hn (fun h => by omega))⟩
theorem KpF.refl (F : Nat → Prop) (w : World) : KpF F w w := ⟨rfl, rfl, rfl, Nat.le_refl _, fun _ _ _ => rfl⟩
theorem KpF.then {F G : Nat → Prop} {w w1 w2 : World} (h : KpF F w w1) (k : KpF G w1 w2) (hG : ∀ x, G x → F x ∨ w.heap.size ≤ x) : KpF F w w2 :=
  ⟨k.os.trans h.os, k.tape.trans h.tape, k.output.trans h.output, Nat.le_trans h.size k.size, fun i hi hn =>
    (k.block i (Nat.lt_of_lt_of_le hi h.size) (fun hm => (hG i hm).elim hn (fun h => by omega))).trans (h.block i hi hn)⟩
theorem KpF.then0 {F : Nat → Prop} {w w1 w2 : World} (h : KpF F w w1) (k : Kp [] w1 w2) : KpF F w w2 := h.then (k.toF (F := fun _ => False) (by simp)) (fun x hx => hx.elim)
theorem KpF.thenK {F : Nat → Prop} {l : List Nat} {w w1 w2 : World} (h : KpF F w w1) (k : Kp l w1 w2) (hl : ∀ x ∈ l, F x ∨ w.heap.size ≤ x) : KpF F w w2 := h.then (k.toF (F := (· ∈ l)) (fun x hx => .inl hx)) hl
theorem KpF.kp {F : Nat → Prop} {w w' : World} (h : KpF F w w') (hF : ∀ x, F x → w.heap.size ≤ x) : Kp [] w w' := ⟨h.os, h.tape, h.output, h.size, fun k hk _ => h.block k hk (fun hf => by have := hF k hf; omega)⟩
/-- A block that is not touched. -/
theorem Blk.of {w w' : World} {b : Nat} {cs : List Value} (h : Blk w b cs) (e : w'.heap[b]? = w.heap[b]?) : Blk w' b cs := by
  obtain ⟨t, fr, h, hf⟩ := h
  exact ⟨t, fr, e.trans h, hf⟩
theorem Blk.keepF {w w' : World} {b : Nat} {cs : List Value} {F : Nat → Prop} (h : Blk w b cs) (k : KpF F w w') (hn : ¬ F b) : Blk w' b cs := h.of (k.block b h.lt hn)
theorem has_of {w w' : World} {a : Addr} {xs : List Value} (h : World.has w a xs) (e : a.block < w.heap.size → w'.heap[a.block]? = w.heap[a.block]?) : World.has w' a xs := by
  intro i v hv
  have hc := h i v hv
  have hlt := World.block_lt_of_cell? w _ hc
  rw [add_block] at hlt
  rw [← hc]
  exact World.cell?_of_block (by rw [add_block]; exact e hlt)
theorem Rds.keepF {w w' : World} {sz : Nat} {s : Sl} {xs : List Value} {F : Nat → Prop} (h : Rds w sz s xs) (k : KpF F w w') (hn : ∀ x ∈ blkOf s, ¬ F x) : Rds w' sz s xs :=
  ⟨h.len, fun h0 => by obtain ⟨a, ha, hh⟩ := h.has h0; exact ⟨a, ha, has_of hh (fun hlt => k.block _ hlt (hn _ (by simp [blkOf, ha])))⟩⟩
theorem Rds.keepF0 {w w' : World} {sz : Nat} {s : Sl} {xs : List Value} {F : Nat → Prop} (h : Rds w sz s xs) (k : KpF F w w') (hn : 0 < s.len → ∀ x ∈ blkOf s, ¬ F x) : Rds w' sz s xs :=
  ⟨h.len, fun h0 => by obtain ⟨a, ha, hh⟩ := h.has h0; exact ⟨a, ha, has_of hh (fun hlt => k.block _ hlt (hn h0 _ (by simp [blkOf, ha])))⟩⟩
/-- What is read lies in blocks that are there. -/
theorem Rds.ltB {w : World} {sz : Nat} {s : Sl} {xs : List Value} (h : Rds w sz s xs) (hz : 0 < sz) (h0 : 0 < s.len) : ∀ x ∈ blkOf s, x < w.heap.size := by
  intro x hx
  obtain ⟨a, ha, hh⟩ := h.has h0
  unfold blkOf at hx
  rw [ha] at hx
  simp only [List.mem_singleton] at hx
  subst hx
  exact has_lt hh (by rw [h.len]; exact Nat.mul_pos h0 hz)
theorem Own.keepF {w w' : World} {B sz : Nat} {s : Sl} {xs : List Value} {F : Nat → Prop} (h : Own w B sz s xs) (k : KpF F w w') (hn : ∀ x ∈ blkOf s, ¬ F x) : Own w' B sz s xs := by
  refine ⟨h.len, h.lc, ?_⟩
  rcases h.is with h0 | ⟨b, rest, ha, hB, hb, hl⟩
  · exact .inl h0
  · exact .inr ⟨b, rest, ha, hB, hb.keepF k (hn b (by simp [blkOf, ha])), hl⟩
theorem RdL.keepF {α : Type} {w w' : World} {sz : Nat} {enc : α → Value} {s : Sl} {L : List α} {F : Nat → Prop} (h : RdL w sz enc s L) (k : KpF F w w') (hn : ∀ x ∈ blkOf s, ¬ F x) (hlt : ∀ x ∈ blkOf s, x < w.heap.size) : RdL w' sz enc s L :=
  ⟨h.len, fun i x hx => by
    obtain ⟨a, ha, hr⟩ := h.at_ i x hx
    have e := k.block a.block (hlt _ (by simp [blkOf, ha])) (hn _ (by simp [blkOf, ha]))
    refine ⟨a, ha, ?_⟩
    generalize enc x = v at hr
    cases v <;> first
      | exact has_of hr (fun _ => by rw [add_block]; exact e)
      | exact (World.cell?_of_block (by rw [add_block]; exact e)).trans hr⟩
/-- New blocks. -/
def New (w w' : World) (k : Nat) : Prop := w.heap.size ≤ k ∧ k < w'.heap.size

section
variable {P : Program}
theorem app_any {t ty e : TypeId} {z : Value} {sz bytes : Nat} (ht : P.underlying t = some (.slice e)) (hinfo : (P.info? e).map (fun i => (i.zero, i.size, i.bytes)) = some (some z, sz, bytes)) (hzs : z.cells.size = sz) (hpos : 0 < sz)
    {w : World} {B : Nat} {s x : Sl} {xs news : List Value} (ho : Own w B sz s xs) (hx : Rds w sz x news) (hone : ∀ v ∈ news, leafB v = true) (hB : B ≤ w.heap.size)
    (hb : (s.len + x.len) * bytes ≤ 140737488355328) (h63 : s.len + x.len ≤ 9223372036854775807) :
    ∃ q n c w1, (Builtin.append_ #[t, t] ty #[.slice s.a s.len s.cap, .slice x.a x.len x.cap]).run P w = .ok (.slice q n c) w1 ∧ n = s.len + x.len ∧ Own w1 B sz ⟨q, n, c⟩ (xs ++ news) ∧ Kp (blkOf s) w w1 ∧
      (q = s.a ∨ ((∀ k ∈ blkOf ⟨q, n, c⟩, w.heap.size ≤ k) ∧ Kp [] w w1)) := by
  cases hi : P.info? e with
  | none => rw [hi] at hinfo; cases hinfo
  | some i =>
    rw [hi] at hinfo
    simp only [Option.map_some, Option.some.injEq, Prod.mk.injEq] at hinfo
    obtain ⟨hz, rfl, rfl⟩ := hinfo
    exact app_own ht hi hz hzs hpos ho hx hone hB hb h63
/-- append of bytes onto bytes of one's own. -/
theorem app_bytes {t ty e : TypeId} (ht : P.underlying t = some (.slice e)) (hinfo : (P.info? e).map (fun i => (i.zero, i.size, i.bytes)) = some (some (.int .u8 0), 1, 1))
    {w : World} {B : Nat} {s x : Sl} {l news : Bs} (ho : OwnB w B s l) (hx : RdB w x news) (hB : B ≤ w.heap.size) (hb : l.length + news.length ≤ 140737488355328) :
    ∃ q n c w1, (Builtin.append_ #[t, t] ty #[.slice s.a s.len s.cap, .slice x.a x.len x.cap]).run P w = .ok (.slice q n c) w1 ∧ n = s.len + x.len ∧ OwnB w1 B ⟨q, n, c⟩ (l ++ news) ∧ Kp (blkOf s) w w1 ∧
      (q = s.a ∨ ((∀ k ∈ blkOf ⟨q, n, c⟩, w.heap.size ≤ k) ∧ Kp [] w w1)) := by
  have h1 := ho.rds.bsize
  have h2 := hx.bsize
  have := app_any (ty := ty) ht hinfo rfl (by decide) ho hx (bv_leaf _) hB (by omega) (by omega)
  rwa [← bv_app] at this
/-- []byte("..."). -/
theorem bytes_of_str {el : TypeId} {w : World} (l : Bs) (he : P.underlying el = some (.int .u8)) {src dst : TypeId} (hs : P.underlying src = some .string) (hd : P.underlying dst = some (.slice el)) :
    ∃ q c w1, (Conv.stringToBytes el (str l)).run P w = .ok (.slice q (str l).size c) w1 ∧ OwnB w1 w.heap.size ⟨q, l.length, c⟩ l ∧ Kp [] w w1 := by
  have h := run_bytes_of_string w src dst el (str l) hs hd he
  have hrun : (Conv.stringToBytes el (str l)).run P w = (convert src dst (.string (str l))).run P w := by simp [convert, run_underlying hs, run_underlying hd, run_underlying he]
  have hsz : (str l).size = l.length := str_size l
  have hcap := grownCap_le w l.length 0 el
  have hrow : bytesRow (str l) (grownCap w (str l).size 0 el) = (bv l ++ List.replicate (grownCap w l.length 0 el - l.length) (Value.int .u8 0)).toArray := by
    apply Array.ext'
    simp [bytesRow, str, bv, vb, ByteArray.size]
  rw [hrow] at h
  refine ⟨_, _, _, hrun.trans h, ?_, drew_alloc_kp w _⟩
  rw [hsz]
  refine ⟨by rw [bv_len, Nat.mul_one], hcap, .inr ⟨w.heap.size, List.replicate (grownCap w l.length 0 el - l.length) (Value.int .u8 0), rfl, Nat.le_refl _, ⟨el, _, heap_alloc_new w.drew _, .inr (Nat.le_of_eq (List.size_toArray).symm)⟩, ?_⟩⟩
  rw [List.length_append, bv_len, List.length_replicate]
  dsimp only
  omega
end
end Go.Eng
