/- The engine's words for memory: blocks, slices, what is kept; append. No conditions. -/
import Derived.Test.YtfgepillnemolaaEng
import Derived.Laws.Append
namespace Go.Eng
open Go.RowKit
set_option linter.unusedVariables false
set_option linter.unusedSimpArgs false

/-- Block b holds just these cells. -/
def Blk (w : World) (b : Nat) (cs : List Value) : Prop := ∃ t fr, w.heap[b]? = some (.cells cs.toArray t fr) ∧ (fr.1 = fr.2 ∨ cs.length ≤ fr.1)
theorem Kp.refl (l : List Nat) (w : World) : Kp l w w := ⟨rfl, rfl, rfl, Nat.le_refl _, fun _ _ _ => rfl⟩
theorem Kp.then {l l' : List Nat} {w w1 w2 : World} (h : Kp l w w1) (k : Kp l' w1 w2) (hl : ∀ x ∈ l', x ∈ l ∨ w.heap.size ≤ x) : Kp l w w2 :=
  ⟨k.os.trans h.os, k.tape.trans h.tape, k.output.trans h.output, Nat.le_trans h.size k.size, fun i hi hn =>
    (k.block i (Nat.lt_of_lt_of_le hi h.size) (fun hm => (hl i hm).elim hn (fun h => by omega))).trans (h.block i hi hn)⟩
theorem Kp.then0 {l : List Nat} {w w1 w2 : World} (h : Kp l w w1) (k : Kp [] w1 w2) : Kp l w w2 := h.then k (fun x hx => by cases hx)
theorem Kp.mono {l l' : List Nat} {w w' : World} (h : Kp l w w') (hl : ∀ x ∈ l, x ∈ l' ∨ w.heap.size ≤ x) : Kp l' w w' := (Kp.refl l' w).then h hl
theorem Kp.below {w w' : World} (h : Kp [] w w') : Below w.heap.size w w' := ⟨h.os, h.tape, h.output, h.size, fun k hk => h.block k hk (by simp)⟩
theorem Kp.of_below {w w' : World} (h : Below w.heap.size w w') : Kp [] w w' := ⟨h.os, h.tape, h.output, h.size, fun k hk _ => h.block k hk⟩
theorem Kp.of_grown {w w' : World} {g : Nat} (h : w.grownBy w' (some g)) : Kp [g] w w' := ⟨h.os, h.tape, h.output, h.size, fun k hk hn => h.block k hk (by intro e; injection e with e; simp [e] at hn)⟩

theorem Blk.lt {w : World} {b : Nat} {cs : List Value} (h : Blk w b cs) : b < w.heap.size := by
  obtain ⟨t, fr, h, _⟩ := h
  exact (Array.getElem?_eq_some_iff.1 h).1
theorem Blk.keep {w w' : World} {b : Nat} {cs : List Value} {l : List Nat} (h : Blk w b cs) (k : Kp l w w') (hn : b ∉ l) : Blk w' b cs := by
  have hlt := h.lt
  obtain ⟨t, fr, h, hf⟩ := h
  exact ⟨t, fr, (k.block b hlt hn).trans h, hf⟩
theorem Blk.cell {w : World} {b : Nat} {cs : List Value} (h : Blk w b cs) (i : Nat) : w.cell? ⟨b, i, none⟩ = cs[i]? := by
  obtain ⟨t, fr, h, _⟩ := h
  simp [World.cell?, h]
theorem Blk.at {w : World} {b : Nat} {cs : List Value} (h : Blk w b cs) {i : Nat} {v : Value} (hv : cs[i]? = some v) : w.cell? ⟨b, i, none⟩ = some v := (h.cell i).trans hv
theorem Blk.uniq {w : World} {b : Nat} {cs ds : List Value} (h : Blk w b cs) (k : Blk w b ds) : cs = ds := by
  obtain ⟨t, _, h, _⟩ := h
  obtain ⟨u, _, k, _⟩ := k
  rw [h] at k
  simp at k
  exact k.1
theorem Blk.fr {w : World} {b : Nat} {cs : List Value} (h : Blk w b cs) (i : Nat) (hi : i < cs.length) : w.frozen? ⟨b, i, none⟩ = false := by
  obtain ⟨t, fr, h, hf⟩ := h
  simp [World.frozen?, h]
  omega
theorem add_blk (b i j : Nat) : (Addr.add ⟨b, i, none⟩ j) = ⟨b, i + j, none⟩ := by
  unfold Addr.add
  split
  · rename_i h; subst h; rfl
  · rfl
theorem Blk.has {w : World} {b : Nat} {cs : List Value} (h : Blk w b cs) (o : Nat) (vs : List Value) (hv : ∀ i v, vs[i]? = some v → cs[o + i]? = some v) : World.has w ⟨b, o, none⟩ vs := by
  intro i v hi
  rw [add_blk]
  exact h.at (hv i v hi)
theorem Blk.rd {w : World} {b : Nat} {cs : List Value} (h : Blk w b cs) (o : Nat) (vs : Array Value) (hv : ∀ i v, vs.toList[i]? = some v → cs[o + i]? = some v) : rd w ⟨b, o, none⟩ (.agg vs) := h.has o vs.toList hv
theorem Blk.rd0 {w : World} {b : Nat} {cs : List Value} (h : Blk w b cs) : Go.Eng.rd w ⟨b, 0, none⟩ (.agg cs.toArray) := h.rd 0 _ (fun i v hi => by simpa using hi)

/-- The steps. -/
theorem Alloc.blk {w w1 : World} {b : Nat} {t : TypeId} {cs : List Value} (h : Alloc w b t cs w1) : Blk w1 b cs := by
  obtain ⟨rfl, rfl⟩ := h
  exact ⟨t, (0, 0), heap_alloc_new w _, .inl rfl⟩
theorem Alloc.kp {w w1 : World} {b : Nat} {t : TypeId} {cs : List Value} (h : Alloc w b t cs w1) : Kp [] w w1 := by
  obtain ⟨rfl, rfl⟩ := h
  exact ⟨rfl, rfl, rfl, by simp, fun k hk _ => heap_alloc_old w _ hk⟩
theorem Alloc.eq {w w1 : World} {b : Nat} {t : TypeId} {cs : List Value} (h : Alloc w b t cs w1) : b = w.heap.size ∧ w1.heap.size = w.heap.size + 1 := by
  obtain ⟨rfl, rfl⟩ := h
  exact ⟨rfl, by simp⟩
theorem AllocO.get {w w1 : World} {b : Nat} {o : Obj} (h : AllocO w b o w1) : w1.heap[b]? = some o ∧ Kp [] w w1 ∧ b = w.heap.size ∧ w1.heap.size = w.heap.size + 1 := by
  obtain ⟨rfl, rfl⟩ := h
  exact ⟨heap_alloc_new w _, ⟨rfl, rfl, rfl, by simp, fun k hk _ => heap_alloc_old w _ hk⟩, rfl, by simp⟩
theorem Marked.kp {w w1 : World} {a : Addr} (h : Marked w a w1) : Kp [a.block] w w1 ∧ w1.heap.size = w.heap.size := by
  unfold Marked at h
  subst h
  split
  · refine ⟨⟨rfl, rfl, rfl, by simp [World.freeze], fun k hk hn => ?_⟩, by simp [World.freeze]⟩
    have : ¬ a.block = k := fun e => hn (by simp [e])
    simp [World.freeze, Array.getElem?_modify, this]
  · exact ⟨Kp.refl _ _, rfl⟩
theorem Marked.blk {w w1 : World} {b o : Nat} {s : Option Nat} {cs : List Value} (h : Marked w ⟨b, o, s⟩ w1) (hb : Blk w b cs) : Blk w1 b cs := by
  obtain ⟨t, fr, hh, hf⟩ := hb
  have hs : w.shape? b = some (t, cs.length) := by simp [World.shape?, hh]
  unfold Marked at h
  rw [hs] at h
  subst h
  simp only
  refine ⟨t, (if fr.1 == fr.2 then (cs.length, cs.length + 1) else (min fr.1 cs.length, max fr.2 (cs.length + 1))), ?_, ?_⟩
  · simp [World.freeze, Array.getElem?_modify, hh]
  · by_cases e : fr.1 = fr.2
    · simp [e]
    · simp only [beq_iff_eq, e, if_false]
      right
      omega
theorem Drew.kp {w w1 : World} (h : Drew w w1) : Kp [] w w1 := by subst h; exact ⟨rfl, rfl, rfl, Nat.le_refl _, fun _ _ _ => rfl⟩
theorem Drew.sz {w w1 : World} (h : Drew w w1) : w1.heap.size = w.heap.size := by subst h; rfl

theorem setCell_size (w : World) (a : Addr) (v : Value) : (w.setCell a v).heap.size = w.heap.size := by simp [World.setCell]
theorem setCell_kp (w : World) (b i : Nat) (v : Value) : Kp [b] w (w.setCell ⟨b, i, none⟩ v) :=
  ⟨rfl, rfl, rfl, by simp [World.setCell], fun k hk hn => by
    have : ¬ b = k := fun e => hn (by simp [e])
    simp [World.setCell, Array.getElem?_modify, this]⟩
theorem setCell_blk {w : World} {b : Nat} {cs : List Value} (h : Blk w b cs) (i : Nat) (v : Value) : Blk (w.setCell ⟨b, i, none⟩ v) b (cs.set i v) := by
  obtain ⟨t, fr, h, hf⟩ := h
  refine ⟨t, fr, ?_, by simpa using hf⟩
  simp [World.setCell, Array.getElem?_modify, h]
theorem putRow_spec : ∀ (vs : List Value) (w : World) (b o i : Nat) (cs : List Value), Blk w b cs → o + i + vs.length ≤ cs.length →
    Blk (putRow w ⟨b, o, none⟩ i vs) b (cs.take (o + i) ++ vs ++ cs.drop (o + i + vs.length)) ∧ Kp [b] w (putRow w ⟨b, o, none⟩ i vs) ∧ (putRow w ⟨b, o, none⟩ i vs).heap.size = w.heap.size
  | [], w, b, o, i, cs, h, _ => by
    refine ⟨?_, Kp.refl _ _, rfl⟩
    simpa [putRow] using h
  | v :: vs, w, b, o, i, cs, h, hl => by
    simp only [List.length_cons] at hl
    have h1 := setCell_blk h (o + i) v
    have hset : cs.set (o + i) v = cs.take (o + i) ++ v :: cs.drop (o + i + 1) := by rw [List.set_eq_take_append_cons_drop, if_pos (by omega)]
    obtain ⟨k1, k2, k3⟩ := putRow_spec vs (w.setCell ⟨b, o + i, none⟩ v) b o (i + 1) _ h1 (by simp; omega)
    unfold putRow
    rw [add_blk]
    refine ⟨?_, (setCell_kp w b _ v).then k2 (fun x hx => .inl hx), k3.trans (setCell_size _ _ _)⟩
    have hlen : (cs.take (o + i)).length = o + i := by simp; omega
    rw [hset] at k1
    have e1 : (cs.take (o + i) ++ v :: cs.drop (o + i + 1)).take (o + (i + 1)) = cs.take (o + i) ++ [v] := by
      rw [List.take_append, hlen, List.take_of_length_le (by omega), show o + (i + 1) - (o + i) = 1 from by omega]; simp
    have e2 : (cs.take (o + i) ++ v :: cs.drop (o + i + 1)).drop (o + (i + 1) + vs.length) = cs.drop (o + i + (vs.length + 1)) := by
      rw [List.drop_append, hlen, List.drop_of_length_le (by omega), show o + (i + 1) + vs.length - (o + i) = vs.length + 1 from by omega]
      simp only [List.nil_append, List.drop_succ_cons, List.drop_drop]
      congr 1
      omega
    rw [e1, e2] at k1
    simpa using k1

/-- A store of one cell. -/
theorem Blk.put1 {w w1 : World} {b : Nat} {cs : List Value} (h : Blk w b cs) {i : Nat} {v : Value} (hv : leafB v = true) (e : w1 = putAt w ⟨b, i, none⟩ v) :
    Blk w1 b (cs.set i v) ∧ Kp [b] w w1 ∧ w1.heap.size = w.heap.size := by
  have : putAt w ⟨b, i, none⟩ v = w.setCell ⟨b, i, none⟩ v := by cases v <;> first | rfl | cases hv
  rw [this] at e
  subst e
  exact ⟨setCell_blk h i v, setCell_kp w b i v, setCell_size _ _ _⟩
theorem Blk.can1 {w : World} {b : Nat} {cs : List Value} (h : Blk w b cs) {i : Nat} (v : Value) (hv : leafB v = true) (hi : i < cs.length) : canPut w ⟨b, i, none⟩ v := by
  have h1 : ∃ c, w.cell? ⟨b, i, none⟩ = some c := ⟨cs[i], h.at (List.getElem?_eq_getElem hi)⟩
  cases v <;> first | exact ⟨h1, h.fr i hi⟩ | cases hv
/-- A store of an aggregate. -/
theorem Blk.putN {w w1 : World} {b : Nat} {cs : List Value} (h : Blk w b cs) {o : Nat} {vs : Array Value} (hl : o + vs.size ≤ cs.length) (e : w1 = putAt w ⟨b, o, none⟩ (.agg vs)) :
    Blk w1 b (cs.take o ++ vs.toList ++ cs.drop (o + vs.size)) ∧ Kp [b] w w1 ∧ w1.heap.size = w.heap.size := by
  subst e
  have := putRow_spec vs.toList w b o 0 cs h (by simpa using hl)
  simpa [putAt] using this
theorem Blk.canN {w : World} {b : Nat} {cs : List Value} (h : Blk w b cs) {o : Nat} (vs : Array Value) (hl : o + vs.size ≤ cs.length) : canPut w ⟨b, o, none⟩ (.agg vs) := by
  intro i hi
  rw [add_blk]
  exact ⟨⟨cs[o + i], h.at (List.getElem?_eq_getElem (by omega))⟩, h.fr _ (by omega)⟩
/-- A whole block, stored. -/
theorem Blk.putAll {w w1 : World} {b : Nat} {cs : List Value} (h : Blk w b cs) {vs : Array Value} (hl : vs.size = cs.length) (e : w1 = putAt w ⟨b, 0, none⟩ (.agg vs)) :
    Blk w1 b vs.toList ∧ Kp [b] w w1 ∧ w1.heap.size = w.heap.size := by
  have := h.putN (o := 0) (vs := vs) (by omega) e
  simpa [hl] using this

/-- A slice that reads as these cells. -/
structure Rds (w : World) (sz : Nat) (s : Sl) (xs : List Value) : Prop where
  len : xs.length = s.len * sz
  has : 0 < s.len → ∃ a, s.a = some a ∧ World.has w a xs
theorem has_keep {w w' : World} {a : Addr} {xs : List Value} {l : List Nat} (h : World.has w a xs) (k : Kp l w w') (hn : a.block ∉ l) : World.has w' a xs := by
  intro i v hv
  have hc := h i v hv
  have hb : (a.add i).block = a.block := by unfold Addr.add; split <;> rfl
  have hlt := World.block_lt_of_cell? w _ hc
  rw [hb] at hlt
  rw [← hc]
  exact World.cell?_of_block (by rw [hb]; exact k.block _ hlt hn)
theorem has_lt {w : World} {a : Addr} {xs : List Value} (h : World.has w a xs) (h0 : 0 < xs.length) : a.block < w.heap.size := by
  have := World.block_lt_of_cell? w _ (h 0 xs[0] (List.getElem?_eq_getElem h0))
  rwa [add_zero'] at this
theorem Rds.keep {w w' : World} {sz : Nat} {s : Sl} {xs : List Value} {l : List Nat} (h : Rds w sz s xs) (k : Kp l w w') (hn : ∀ a, s.a = some a → a.block ∉ l) : Rds w' sz s xs :=
  ⟨h.len, fun h0 => by obtain ⟨a, ha, hh⟩ := h.has h0; exact ⟨a, ha, has_keep hh k (hn a ha)⟩⟩
theorem Rds.keep0 {w w' : World} {sz : Nat} {s : Sl} {xs : List Value} (h : Rds w sz s xs) (k : Kp [] w w') : Rds w' sz s xs := h.keep k (fun _ _ => by simp)
/-- The element at a place. -/
theorem Rds.get {w : World} {sz : Nat} {s : Sl} {xs : List Value} (h : Rds w sz s xs) {i : Nat} (hi : i < s.len) : ∃ a, s.a = some a ∧ ∀ j, j < sz → w.cell? ((a.add (i * sz)).add j) = xs[i * sz + j]? := by
  obtain ⟨a, ha, hh⟩ := h.has (by omega)
  refine ⟨a, ha, fun j hj => ?_⟩
  have hlt : i * sz + j < xs.length := by
    rw [h.len]
    calc i * sz + j < i * sz + sz := by omega
      _ = (i + 1) * sz := by rw [Nat.add_mul, Nat.one_mul]
      _ ≤ s.len * sz := Nat.mul_le_mul_right _ hi
  have hadd : (a.add (i * sz)).add j = a.add (i * sz + j) := by
    unfold Addr.add
    by_cases h1 : i * sz = 0
    · simp [h1]
    · by_cases h2 : j = 0
      · simp [h2]
      · simp [h1, h2, Nat.add_assoc]
  rw [hadd, hh _ _ (List.getElem?_eq_getElem hlt), List.getElem?_eq_getElem hlt]

/-- A slice of the call's own, with these cells. -/
structure Own (w : World) (B sz : Nat) (s : Sl) (xs : List Value) : Prop where
  len : xs.length = s.len * sz
  lc : s.len ≤ s.cap
  is : (s.a = none ∧ s.cap = 0) ∨ ∃ b rest, s.a = some ⟨b, 0, none⟩ ∧ B ≤ b ∧ Blk w b (xs ++ rest) ∧ (xs ++ rest).length = s.cap * sz
def blkOf (s : Sl) : List Nat := match s.a with | some a => [a.block] | none => []
theorem Own.nil (w : World) (B sz : Nat) : Own w B sz ⟨none, 0, 0⟩ [] := ⟨by simp, Nat.le_refl _, .inl ⟨rfl, rfl⟩⟩
theorem Own.keep {w w' : World} {B sz : Nat} {s : Sl} {xs : List Value} {l : List Nat} (h : Own w B sz s xs) (k : Kp l w w') (hn : ∀ x ∈ blkOf s, x ∉ l) : Own w' B sz s xs := by
  refine ⟨h.len, h.lc, ?_⟩
  rcases h.is with h0 | ⟨b, rest, ha, hB, hb, hl⟩
  · exact .inl h0
  · exact .inr ⟨b, rest, ha, hB, hb.keep k (hn b (by simp [blkOf, ha])), hl⟩
theorem Own.keep0 {w w' : World} {B sz : Nat} {s : Sl} {xs : List Value} (h : Own w B sz s xs) (k : Kp [] w w') : Own w' B sz s xs := h.keep k (fun _ _ => by simp)
theorem Own.lo {w : World} {B sz : Nat} {s : Sl} {xs : List Value} (h : Own w B sz s xs) : ∀ x ∈ blkOf s, B ≤ x ∧ x < w.heap.size := by
  intro x hx
  rcases h.is with ⟨h0, _⟩ | ⟨b, rest, ha, hB, hb, hl⟩
  · simp [blkOf, h0] at hx
  · simp [blkOf, ha] at hx
    subst hx
    exact ⟨hB, hb.lt⟩
theorem Own.rds {w : World} {B sz : Nat} {s : Sl} {xs : List Value} (h : Own w B sz s xs) : Rds w sz s xs := by
  refine ⟨h.len, fun h0 => ?_⟩
  rcases h.is with ⟨_, h1⟩ | ⟨b, rest, ha, hB, hb, hl⟩
  · have := h.lc; omega
  · refine ⟨_, ha, hb.has 0 xs fun i v hi => ?_⟩
    rw [Nat.zero_add, List.getElem?_append_left (by exact (List.getElem?_eq_some_iff.1 hi).1)]
    exact hi
theorem Own.mono {w : World} {B B' sz : Nat} {s : Sl} {xs : List Value} (h : Own w B sz s xs) (hB : B' ≤ B) : Own w B' sz s xs := by
  refine ⟨h.len, h.lc, ?_⟩
  rcases h.is with h0 | ⟨b, rest, ha, hb, r⟩
  · exact .inl h0
  · exact .inr ⟨b, rest, ha, Nat.le_trans hB hb, r⟩
/-- A new row as a slice. -/
theorem Own.fresh {w w1 : World} {b : Nat} {t : TypeId} {cs : List Value} {B sz n c : Nat} (h : Alloc w b t cs w1) (hB : B ≤ w.heap.size) (hn : n ≤ c) (hc : cs.length = c * sz) :
    Own w1 B sz ⟨some ⟨b, 0, none⟩, n, c⟩ (cs.take (n * sz)) := by
  have hle : n * sz ≤ cs.length := by rw [hc]; exact Nat.mul_le_mul_right _ hn
  refine ⟨by simp [Nat.min_eq_left hle], hn, .inr ⟨b, cs.drop (n * sz), rfl, by rw [h.eq.1]; exact hB, by rw [List.take_append_drop]; exact h.blk, by rw [List.take_append_drop]; exact hc⟩⟩

section
variable {P : Program}
theorem run_grown_none (t ty e : TypeId) (i : TypeInfo) (z : Value) (ht : P.underlying t = some (.slice e)) (hi : P.info? e = some i) (hz : i.zero = some z) (w : World)
    (a : Addr) (n c : Nat) (news : List Value) (hl : news.length = n * i.size) (hnews : ∀ j v, news[j]? = some v → w.cell? (a.add j) = some v)
    (h0 : 0 < n) (h63 : (n : Int) ≤ 9223372036854775807) (h48 : n * i.bytes ≤ 281474976710656) :
    (Builtin.append_ #[t, t] ty #[.slice none 0 0, .slice (some a) n c]).run P w =
      .ok (.slice (some ⟨w.heap.size, 0, none⟩) n (grownCap w n 0 e)) (w.drew.alloc (.cells (news.toArray ++ Builtin.zeroCells z.cells (grownCap w n 0 e - n)) e)) :=
  run_append_nil w t ty e i z ht hi hz a n c news hl hnews h0 h63 h48
theorem grownCap_le (w : World) (need old : Nat) (e : TypeId) : need ≤ grownCap w need old e := by
  unfold grownCap Question.cut
  exact Nat.le_add_right _ _
theorem zeroCells_len (z : Array Value) (n : Nat) : (Builtin.zeroCells z n).toList.length = n * z.size := by simp [Builtin.zeroCells]
theorem drew_alloc_kp (w : World) (o : Obj) : Kp [] w (w.drew.alloc o) := ⟨rfl, rfl, rfl, by simp, fun k hk _ => heap_alloc_old w.drew o (by simpa using hk)⟩

/-- append onto a slice of the call's own, out of any slice. -/
theorem app_own {t ty e : TypeId} {i : TypeInfo} {z : Value} (ht : P.underlying t = some (.slice e)) (hi : P.info? e = some i) (hz : i.zero = some z) (hzs : z.cells.size = i.size) (hpos : 0 < i.size)
    {w : World} {B : Nat} {s x : Sl} {xs news : List Value} (ho : Own w B i.size s xs) (hx : Rds w i.size x news) (hone : ∀ v ∈ news, leafB v = true) (hB : B ≤ w.heap.size)
    (hb : (s.len + x.len) * i.bytes ≤ 140737488355328) (h63 : s.len + x.len ≤ 9223372036854775807) :
    ∃ q n c w1, (Builtin.append_ #[t, t] ty #[.slice s.a s.len s.cap, .slice x.a x.len x.cap]).run P w = .ok (.slice q n c) w1 ∧ n = s.len + x.len ∧ Own w1 B i.size ⟨q, n, c⟩ (xs ++ news) ∧ Kp (blkOf s) w w1 ∧
      (q = s.a ∨ ((∀ k ∈ blkOf ⟨q, n, c⟩, w.heap.size ≤ k) ∧ Kp [] w w1)) := by
  obtain ⟨hl, hlc, his⟩ := ho
  have hfirst : ∀ w' : World, World.has w' (x.a.getD default) news ∨ x.len = 0 → (Builtin.firstCells i.size x.len (.slice x.a x.len x.cap)).run P w' = .ok news.toArray w' := fun w' h => by
    rcases Nat.eq_zero_or_pos x.len with h0 | h0
    · have hn : news = [] := List.length_eq_zero_iff.1 (by rw [hx.len, h0, Nat.zero_mul])
      subst hn
      cases hxa : x.a with
      | none => simp [Builtin.firstCells]
      | some a => simp [Builtin.firstCells, h0, loadCells, loadCellsFrom]
    · obtain ⟨a, ha, _⟩ := hx.has h0
      rw [ha] at h ⊢
      exact run_firstCells_some w' i.size x.len a x.len x.cap news hx.len (h.resolve_right (by omega))
  have hxw : World.has w (x.a.getD default) news ∨ x.len = 0 := by
    rcases Nat.eq_zero_or_pos x.len with h0 | h0
    · exact .inr h0
    · obtain ⟨a, ha, hh⟩ := hx.has h0; rw [ha]; exact .inl hh
  by_cases hroom : s.len + x.len ≤ s.cap
  · -- there is room
    rcases his with ⟨h0, hc⟩ | ⟨b, rest, ha, hBb, hb', hcl⟩
    · have hx0 : x.len = 0 := by omega
      have hs0 : s.len = 0 := by omega
      have hn : news = [] := List.length_eq_zero_iff.1 (by rw [hx.len, hx0, Nat.zero_mul])
      subst hn
      refine ⟨none, 0, 0, w, ?_, by omega, ?_, Kp.refl _ _, .inl h0.symm⟩
      · have := hfirst w hxw
        rw [h0, hs0, hc]
        simp only [hx0] at this ⊢
        simp [Builtin.append_, run_underlying ht, sizeOf, typeInfo, hi, Builtin.lenOf, this]
      · have hxs : xs = [] := List.length_eq_zero_iff.1 (by rw [hl, hs0, Nat.zero_mul])
        subst hxs
        exact Own.nil w B _
    · have hfit : s.len * i.size + news.length ≤ (xs ++ rest).length := by
        rw [hcl, hx.len, ← Nat.add_mul]; exact Nat.mul_le_mul_right _ hroom
      obtain ⟨k1, k2, k3⟩ := putRow_spec news w b (s.len * i.size) 0 (xs ++ rest) hb' (by simpa using hfit)
      have hst : (storeCells ⟨b, s.len * i.size, none⟩ news).run P w = .ok () (putRow w ⟨b, s.len * i.size, none⟩ 0 news) := storeCells_run _ news w 0 hone (fun j hj => by
        rw [Nat.zero_add, add_blk]
        exact ⟨⟨_, hb'.at (List.getElem?_eq_getElem (by omega))⟩, hb'.fr _ (by omega)⟩)
      have hf := hfirst w hxw
      have hadd : (Addr.add ⟨b, 0, none⟩ (s.len * i.size)) = ⟨b, s.len * i.size, none⟩ := by rw [add_blk]; simp
      refine ⟨some ⟨b, 0, none⟩, s.len + x.len, s.cap, putRow w ⟨b, s.len * i.size, none⟩ 0 news, ?_, rfl, ⟨?_, hroom, .inr ⟨b, rest.drop news.length, rfl, hBb, ?_, ?_⟩⟩, ?_, .inl ha.symm⟩
      · rw [ha]
        simp [Builtin.append_, run_underlying ht, sizeOf, typeInfo, hi, Builtin.lenOf, hroom, hf, hadd, hst]
      · rw [List.length_append, hl, hx.len, Nat.add_mul]
      · rw [Nat.add_zero, ← hl, List.take_left, List.drop_append, List.drop_of_length_le (by omega), List.nil_append, show xs.length + news.length - xs.length = news.length from by omega] at k1
        rw [hl] at k1
        exact List.append_assoc xs news _ ▸ k1
      · rw [List.length_append] at hcl hfit
        simp only [List.length_append, List.length_drop]
        rw [← hcl]
        omega
      · simpa [blkOf, ha] using k2
  · -- it grows
    have hgt : s.cap < s.len + x.len := by omega
    have h48 : Builtin.nextslicecap (s.len + x.len) s.cap * i.bytes ≤ 281474976710656 := growslice_fits hgt hb
    have hcap := grownCap_le w (s.len + x.len) s.cap e
    have hd := hfirst w.drew (hxw.imp (fun h => has_keep h (l := []) ⟨rfl, rfl, rfl, Nat.le_refl _, fun _ _ _ => rfl⟩ (by simp)) id)
    have hold : (Builtin.firstCells i.size s.len (.slice s.a s.len s.cap)).run P w.drew = .ok xs.toArray w.drew := by
      rcases his with ⟨h0, hc⟩ | ⟨b, rest, ha, hBb, hb', hcl⟩
      · have hxs : xs = [] := List.length_eq_zero_iff.1 (by rw [hl]; have : s.len = 0 := by omega
                                                            rw [this, Nat.zero_mul])
        rw [h0, hxs]; simp [Builtin.firstCells]
      · rw [ha]
        refine run_firstCells_some w.drew i.size s.len _ _ _ xs hl fun j v hv => ?_
        have := (hb'.has 0 xs fun i v hi => by
          rw [Nat.zero_add, List.getElem?_append_left (by exact (List.getElem?_eq_some_iff.1 hi).1)]; exact hi) j v hv
        simpa using this
    have hrun : (Builtin.append_ #[t, t] ty #[.slice s.a s.len s.cap, .slice x.a x.len x.cap]).run P w =
        .ok (.slice (some ⟨w.heap.size, 0, none⟩) (s.len + x.len) (grownCap w (s.len + x.len) s.cap e)) (w.drew.alloc (.cells (xs.toArray ++ news.toArray ++ Builtin.zeroCells z.cells (grownCap w (s.len + x.len) s.cap e - (s.len + x.len))) e)) := by
      have h63' : ¬ (9223372036854775807 < ((s.len : Int) + (x.len : Int))) := by omega
      have h48' : ¬ (281474976710656 < Builtin.nextslicecap (s.len + x.len) s.cap * i.bytes) := by omega
      simp [Builtin.append_, run_underlying ht, sizeOf, typeInfo, zeroValue, hi, hz, Builtin.lenOf, hroom, h63', h48', Question.forced, hd, hold, newRow, grownCap]
      congr 2
      apply Array.ext'
      simp [List.append_assoc]
    refine ⟨_, _, _, _, hrun, rfl, ⟨?_, hcap, .inr ⟨w.heap.size, (Builtin.zeroCells z.cells (grownCap w (s.len + x.len) s.cap e - (s.len + x.len))).toList, rfl, hB, ⟨e, (0, 0), ?_, .inl rfl⟩, ?_⟩⟩, (drew_alloc_kp w _).mono (fun x hx => by cases hx), .inr ⟨fun k hk => ?_, drew_alloc_kp w _⟩⟩
    · rw [List.length_append, hl, hx.len, Nat.add_mul]
    · have := heap_alloc_new w.drew (.cells (xs.toArray ++ news.toArray ++ Builtin.zeroCells z.cells (grownCap w (s.len + x.len) s.cap e - (s.len + x.len))) e)
      simp only [World.drew] at this ⊢
      refine this.trans ?_
      congr 2
      apply Array.ext'
      simp [List.append_assoc]
    · simp only [List.length_append, zeroCells_len, hl, hx.len, hzs]
      rw [← Nat.add_mul, ← Nat.add_mul]
      congr 1
      omega
    · simp [blkOf] at hk; omega
end
end Go.Eng
