/- Maps from int to values of any kind, of the call's own. -/
import Derived.Test.YtkafemfpfbcoaaaMem
import Derived.Maps.OwnOps
namespace Go.Proofs.Ytkafemfpfbcoaaa
open Go.RowKit
set_option linter.unusedSimpArgs false

/-- An entry's key, as a number. -/
def kI (x : MapEntry) : Int := match x.key with
  | .int _ a => a
  | _ => 0
/-- The value that the first entry of a key holds. -/
def mget : List MapEntry → Int → Option Value
  | [], _ => none
  | x :: es, k => if kI x = k then some x.val else mget es k
def mkeys (es : List MapEntry) : Prop := ∀ x ∈ es, x.key = .int .i64 (kI x)

theorem findNow_none {es : List MapEntry} {k : Int} (hk : mkeys es) (h : mget es k = none) : ∀ i, Instr.findNow (.int .i64) (.int .i64 k) es i = some none := by
  induction es with
  | nil => intro i; rfl
  | cons x es ih =>
    intro i
    have ha := hk x (by simp)
    rw [mget] at h
    split at h
    · cases h
    · rename_i hne
      have hb : (k == kI x) = false := by simpa using fun e => hne e.symm
      simp [Instr.findNow, Instr.sameNow, ha, hb, ih (fun y hy => hk y (by simp [hy])) h]
theorem findNow_some {es : List MapEntry} {k : Int} {v : Value} (hk : mkeys es) (h : mget es k = some v) :
    ∃ j x, (∀ i, Instr.findNow (.int .i64) (.int .i64 k) es i = some (some (i + j, v))) ∧ es[j]? = some x ∧ kI x = k ∧ x.val = v := by
  induction es with
  | nil => simp [mget] at h
  | cons x es ih =>
    have ha := hk x (by simp)
    rw [mget] at h
    split at h
    · rename_i e
      have hv : x.val = v := by simpa using h
      exact ⟨0, x, fun i => by simp [Instr.findNow, Instr.sameNow, ha, hv, e], rfl, e, hv⟩
    · rename_i hne
      have hb : (k == kI x) = false := by simpa using fun e => hne e.symm
      obtain ⟨j, y, h1, h2, h3, h4⟩ := ih (fun y hy => hk y (by simp [hy])) h
      refine ⟨j + 1, y, fun i => ?_, by simpa using h2, h3, h4⟩
      simp only [Instr.findNow, Instr.sameNow, ha, hb, if_true, h1 (i + 1)]
      rw [show i + 1 + j = i + (j + 1) by omega]

/-- Block b is a map that holds just m. -/
def MapI (w : World) (b : Nat) (m : Int → Option Value) : Prop :=
  ∃ es clock, w.heap[b]? = some (.map es clock) ∧ mkeys es.toList ∧ es.toList.Pairwise (fun x y => kI x ≠ kI y) ∧ ∀ k, mget es.toList k = m k

theorem MapI.lt {w : World} {b : Nat} {m : Int → Option Value} (h : MapI w b m) : b < w.heap.size := by
  obtain ⟨es, c, hb, _⟩ := h
  exact (Array.getElem?_eq_some_iff.1 hb).1
theorem MapI.of_block {w w' : World} {b : Nat} {m : Int → Option Value} (h : MapI w b m) (hb : w'.heap[b]? = w.heap[b]?) : MapI w' b m := by
  obtain ⟨es, c, h1, h2⟩ := h
  exact ⟨es, c, hb.trans h1, h2⟩
theorem MapI.below {w w' : World} {b B : Nat} {m : Int → Option Value} (h : MapI w b m) (hb : Below B w w') (hB : b < B) : MapI w' b m := h.of_block (hb.block b hB)
theorem MapI.made (w : World) : MapI (w.alloc (.map #[] 0)) w.heap.size (fun _ => none) :=
  ⟨#[], 0, heap_alloc_new w _, fun x hx => by simp at hx, by simp, fun k => rfl⟩

theorem mget_push {es : List MapEntry} {x : MapEntry} {k : Int} (hx : kI x = k) (h : mget es k = none) (j : Int) : mget (es ++ [x]) j = if j = k then some x.val else mget es j := by
  induction es with
  | nil =>
    subst hx
    by_cases e : j = kI x
    · subst e; simp [mget]
    · have : ¬ kI x = j := fun e' => e e'.symm
      simp [mget, e, this]
  | cons y es ih =>
    rw [mget] at h
    split at h
    · cases h
    · rename_i hy
      show mget (y :: (es ++ [x])) j = _
      rw [mget, ih h, mget]
      by_cases e : j = k
      · subst e; simp [hy]
      · simp [e]
theorem mget_modify {es : List MapEntry} {k : Int} {f : MapEntry → MapEntry} {v : Value} (hf : ∀ x, kI x = k → kI (f x) = k ∧ (f x).val = v) (hp : es.Pairwise (fun x y => kI x ≠ kI y)) {i : Nat} {x : MapEntry} (hi : es[i]? = some x) (hx : kI x = k) (j : Int) :
    mget (es.modify i f) j = if j = k then some v else mget es j := by
  induction es generalizing i with
  | nil => simp at hi
  | cons y es ih =>
    cases i with
    | zero =>
      simp at hi
      subst hi
      obtain ⟨h1, h2⟩ := hf y hx
      by_cases e : j = k
      · subst e; simp [mget, h1, h2]
      · have : ¬ k = j := fun e' => e e'.symm
        simp [mget, hx, h1, e, this]
    | succ i =>
      have hy : ¬ kI y = k := by
        rw [← hx]
        exact (List.pairwise_cons.1 hp).1 x (List.mem_of_getElem? (by simpa using hi))
      have := ih (List.pairwise_cons.1 hp).2 (by simpa using hi)
      simp only [List.modify_succ_cons, mget, this]
      by_cases e : j = k
      · subst e; simp [hy]
      · simp [e]
theorem mget_absent {es : List MapEntry} {k : Int} (h : ∀ x ∈ es, kI x ≠ k) : mget es k = none := by
  induction es with
  | nil => rfl
  | cons z es ih => rw [mget, if_neg (h z (by simp))]; exact ih (fun u hu => h u (by simp [hu]))
theorem mget_erase {es : List MapEntry} {k : Int} (hp : es.Pairwise (fun x y => kI x ≠ kI y)) {i : Nat} {x : MapEntry} (hi : es[i]? = some x) (hx : kI x = k) (j : Int) :
    mget (es.eraseIdx i) j = if j = k then none else mget es j := by
  induction es generalizing i with
  | nil => simp at hi
  | cons y es ih =>
    cases i with
    | zero =>
      simp at hi
      subst hi
      by_cases e : j = k
      · subst e
        simp only [List.eraseIdx_cons_zero, if_true]
        exact mget_absent (fun u hu e' => (List.pairwise_cons.1 hp).1 u hu (by rw [hx, e']))
      · have : ¬ k = j := fun e' => e e'.symm
        simp [mget, hx, e, this]
    | succ i =>
      have hy : ¬ kI y = k := by
        rw [← hx]
        exact (List.pairwise_cons.1 hp).1 x (List.mem_of_getElem? (by simpa using hi))
      have := ih (List.pairwise_cons.1 hp).2 (by simpa using hi)
      simp only [List.eraseIdx_cons_succ, mget, this]
      by_cases e : j = k
      · subst e; simp [hy]
      · simp [e]
theorem mget_mem {es : List MapEntry} {k : Int} (h : mget es k = none) : ∀ x ∈ es, kI x ≠ k := by
  induction es with
  | nil => simp
  | cons y es ih =>
    rw [mget] at h
    split at h
    · cases h
    · rename_i hy
      intro x hx
      rcases List.mem_cons.1 hx with rfl | hx
      · exact hy
      · exact ih h x hx
section
variable {P : Program} {w : World} {b : Nat} {m : Int → Option Value} {t kt e : TypeId}
theorem check_int (h : P.underlying kt = some (.int .i64)) (em : Bool) (k : Int) : (Instr.checkKey em 10000 kt (.int .i64 k)).run P w = .ok () w := by
  have : ∀ n, (Instr.checkKey em (n + 1) kt (.int .i64 k)).run P w = .ok () w := fun n => by simp [Instr.checkKey, run_underlying h]
  exact this 9999
theorem MapI.look (h : MapI w b m) (ht : P.underlying t = some (.map kt e)) (hk : P.underlying kt = some (.int .i64)) {k : Int} {v : Value} (hm : m k = some v) :
    (Instr.lookup t (.map (some b)) (.int .i64 k) true).run P w = .ok (.tuple #[v, .bool true]) w := by
  obtain ⟨es, c, hb, hks, _, hg⟩ := h
  obtain ⟨j, _, h1, _⟩ := findNow_some hks ((hg k).trans hm)
  simp [Instr.lookup, run_underlying ht, MapKept.run_getObj_map hb, check_int hk, Instr.findKey, run_underlying hk, h1 0]
theorem MapI.miss (h : MapI w b m) (ht : P.underlying t = some (.map kt e)) (hk : P.underlying kt = some (.int .i64)) {k : Int} {z : Value} (hz : (zeroValue e).run P w = .ok z w) (hm : m k = none) :
    (Instr.lookup t (.map (some b)) (.int .i64 k) true).run P w = .ok (.tuple #[z, .bool false]) w := by
  obtain ⟨es, c, hb, hks, _, hg⟩ := h
  have h1 := findNow_none hks ((hg k).trans hm) 0
  simp [Instr.lookup, run_underlying ht, MapKept.run_getObj_map hb, check_int hk, Instr.findKey, run_underlying hk, h1, hz]
def mput (m : Int → Option Value) (k : Int) (v : Option Value) : Int → Option Value := fun j => if j = k then v else m j
theorem grown_setBlock {es : Array MapEntry} {c : Nat} {o : Obj} (_hb : w.heap[b]? = some (.map es c)) : w.grownBy { w with heap := w.heap.setIfInBounds b o } (some b) :=
  ⟨rfl, rfl, rfl, by simp, fun i _ hi => by
    show (w.heap.setIfInBounds b o)[i]? = _
    rw [Array.getElem?_setIfInBounds_ne (fun e => hi (by rw [e]))]⟩
theorem heap_set_same {es : Array MapEntry} {c : Nat} {o : Obj} (hb : w.heap[b]? = some (.map es c)) : ({ w with heap := w.heap.setIfInBounds b o } : World).heap[b]? = some o := by
  have := (Array.getElem?_eq_some_iff.1 hb).1
  show (w.heap.setIfInBounds b o)[b]? = _
  rw [Array.getElem?_setIfInBounds_self_of_lt this]
/-- m[k] = v -/
theorem MapI.put (h : MapI w b m) (ht : P.underlying t = some (.map kt e)) (hk : P.underlying kt = some (.int .i64)) (k : Int) (v : Value) :
    ∃ w', (Instr.mapUpdate t (.map (some b)) (.int .i64 k) v).run P w = .ok () w' ∧ MapI w' b (mput m k (some v)) ∧ w.grownBy w' (some b) := by
  obtain ⟨es, c, hb, hks, hp, hg⟩ := h
  cases hm : mget es.toList k with
  | none =>
    have h1 := findNow_none hks hm 0
    refine ⟨{ w with heap := w.heap.setIfInBounds b (.map (es.push ⟨.int .i64 k, v, c⟩) (c + 1)) }, ?_, ⟨_, _, heap_set_same hb, ?_, ?_, fun j => ?_⟩, grown_setBlock hb⟩
    · simp [Instr.mapUpdate, run_underlying ht, MapKept.run_getObj_map hb, check_int hk, Instr.findKey, run_underlying hk, h1, MapKept.run_setObj_map _ hb, Result.andThen]
    · intro x hx
      simp only [Array.toList_push, List.mem_append, List.mem_singleton] at hx
      rcases hx with hx | rfl
      · exact hks x hx
      · rfl
    · rw [Array.toList_push, List.pairwise_append]
      refine ⟨hp, by simp, fun x hx y hy => ?_⟩
      rw [List.mem_singleton.1 hy]
      exact mget_mem hm x hx
    · rw [Array.toList_push, mget_push (k := k) rfl hm, hg]; rfl
  | some v0 =>
    obtain ⟨i, x, h1, h2, h3, h4⟩ := findNow_some hks hm
    have hx := hks x (List.mem_of_getElem? h2)
    rw [h3] at hx
    have hxi : es[i]? = some x := by simpa using h2
    have hstay : (Instr.keyThatStays x.key (.int .i64 k)).run P w = .ok (.int .i64 k) w := by
      rw [hx]
      have : Instr.sameBits 10000 (.int .i64 k) (.int .i64 k) = true := by
        have h : ∀ n, Instr.sameBits (n + 1) (.int .i64 k) (.int .i64 k) = true := fun n => by simp [Instr.sameBits]
        exact h 9999
      simp [Instr.keyThatStays, this]
    refine ⟨{ w with heap := w.heap.setIfInBounds b (.map (es.modify i fun e => { e with key := .int .i64 k, val := v }) c) }, ?_, ⟨_, _, heap_set_same hb, ?_, ?_, fun j => ?_⟩, grown_setBlock hb⟩
    · have h10 := h1 0
      simp only [Nat.zero_add] at h10
      simp [Instr.mapUpdate, run_underlying ht, MapKept.run_getObj_map hb, check_int hk, Instr.findKey, run_underlying hk, h10, hxi, hstay, MapKept.run_setObj_map _ hb, Result.andThen]
    · intro y hy
      rw [Array.toList_modify] at hy
      obtain ⟨q, hq⟩ := List.getElem?_of_mem hy
      rw [List.getElem?_modify] at hq
      cases hz : es.toList[q]? with
      | none => rw [hz] at hq; simp at hq
      | some z =>
        rw [hz] at hq
        simp at hq
        subst hq
        split
        · rfl
        · exact hks z (List.mem_of_getElem? hz)
    · rw [Array.toList_modify]
      refine List.pairwise_iff_getElem.2 (fun p q hp1 hq1 hpq => ?_)
      have hpw := List.pairwise_iff_getElem.1 hp p q (by simpa using hp1) (by simpa using hq1) hpq
      have hk' : ∀ (r : Nat) (hr : r < (es.toList.modify i fun e => { e with key := .int .i64 k, val := v }).length), kI ((es.toList.modify i fun e => { e with key := .int .i64 k, val := v })[r]) = kI (es.toList[r]'(by simpa using hr)) := by
        intro r hr
        rw [List.getElem_modify]
        split
        · rename_i e
          subst e
          have : es.toList[i]'(by simpa using hr) = x := by
            have := List.getElem?_eq_some_iff.1 h2
            exact this.2
          rw [this, h3]; rfl
        · rfl
      rw [hk' p hp1, hk' q hq1]
      exact hpw
    · rw [Array.toList_modify, mget_modify (k := k) (v := v) (fun y _ => ⟨rfl, rfl⟩) hp h2 h3, hg]; rfl
/-- delete(m, k) -/
theorem MapI.del (h : MapI w b m) (ht : P.underlying t = some (.map kt e)) (hk : P.underlying kt = some (.int .i64)) (ats : Array TypeId) (hats : ats[0]? = some t) (ty : TypeId) (k : Int) :
    ∃ w', (Builtin.delete_ ats ty #[.map (some b), .int .i64 k]).run P w = .ok (.tuple #[]) w' ∧ MapI w' b (mput m k none) ∧ w.grownBy w' (some b) := by
  obtain ⟨es, c, hb, hks, hp, hg⟩ := h
  cases hm : mget es.toList k with
  | none =>
    have h1 := findNow_none hks hm 0
    refine ⟨{ w with heap := w.heap.setIfInBounds b (.map es c) }, ?_, ⟨_, _, heap_set_same hb, hks, hp, fun j => ?_⟩, grown_setBlock hb⟩
    · simp [Builtin.delete_, hats, run_underlying ht, MapKept.run_getObj_map hb, check_int hk, Instr.findKey, run_underlying hk, h1, MapKept.run_setObj_map _ hb, Result.andThen]
    · unfold mput
      split
      · rename_i e; rw [e, hm]
      · exact hg j
  | some v0 =>
    obtain ⟨i, x, h1, h2, h3, h4⟩ := findNow_some hks hm
    refine ⟨{ w with heap := w.heap.setIfInBounds b (.map (es.eraseIdxIfInBounds i) c) }, ?_, ⟨_, _, heap_set_same hb, ?_, ?_, fun j => ?_⟩, grown_setBlock hb⟩
    · have h10 := h1 0
      simp only [Nat.zero_add] at h10
      simp [Builtin.delete_, hats, run_underlying ht, MapKept.run_getObj_map hb, check_int hk, Instr.findKey, run_underlying hk, h10, MapKept.run_setObj_map _ hb, Result.andThen]
    · intro y hy
      rw [Array.toList_eraseIdxIfInBounds] at hy
      exact hks y (List.mem_of_mem_eraseIdx hy)
    · rw [Array.toList_eraseIdxIfInBounds]
      exact hp.sublist (List.eraseIdx_sublist _ _)
    · rw [Array.toList_eraseIdxIfInBounds, mget_erase hp h2 h3, hg]; rfl
/-- clear(m) -/
theorem MapI.clr (h : MapI w b m) (ht : P.underlying t = some (.map kt e)) (ats : Array TypeId) (hats : ats[0]? = some t) (ty : TypeId) :
    ∃ w', (Builtin.clear_ ats ty #[.map (some b)]).run P w = .ok (.tuple #[]) w' ∧ MapI w' b (fun _ => none) ∧ w.grownBy w' (some b) := by
  obtain ⟨es, c, hb, hks, hp, hg⟩ := h
  refine ⟨{ w with heap := w.heap.setIfInBounds b (.map #[] c) }, ?_, ⟨_, _, heap_set_same hb, fun x hx => by simp at hx, by simp, fun j => rfl⟩, grown_setBlock hb⟩
  simp [Builtin.clear_, hats, run_underlying ht, MapKept.run_getObj_map hb, MapKept.run_setObj_map _ hb, Result.andThen]
end
section
variable {w : World} {b : Nat} {m : Int → Option Value}
theorem MapI.alloc (h : MapI w b m) (o : Obj) : MapI (w.alloc o) b m := h.of_block (heap_alloc_old w o h.lt)
theorem MapI.drew (h : MapI w b m) : MapI w.drew b m := h
theorem MapI.drewN (h : MapI w b m) (n : Nat) : MapI (w.drewN n) b m := h
theorem MapI.grown {w' : World} {row : Option Nat} (h : MapI w b m) (hg : w.grownBy w' row) (hne : some b ≠ row) : MapI w' b m := h.of_block (hg.block b h.lt hne)
theorem MapI.belowS {w' : World} (h : MapI w b m) (hb : Below w.heap.size w w') : MapI w' b m := h.below hb h.lt
/-- Cells are written, no map. -/
theorem MapI.setCell (h : MapI w b m) (p : Addr) (u : Value) : MapI (w.setCell p u) b m := by
  obtain ⟨es, c, hb, r⟩ := h
  refine ⟨es, c, ?_, r⟩
  by_cases e : p.block = b
  · subst e
    simp only [World.setCell, Array.getElem?_modify, hb]
    simp
  · rw [Below.heap_setCell _ _ _ _ (fun x => e x.symm)]; exact hb
end
section
variable {P : Program} {w : World} {ops : Array Oper} {rest : List Oper} {o : Oper} {a : Act} {Q : Exit → Act → World → Prop}
theorem wpList_put (hg : o.guard = none) (mo x v : Operand) (t : TypeId) (hop : o.op = .mapUpdate t mo x v) {kt e : TypeId} (ht : P.underlying t = some (.map kt e)) (hk : P.underlying kt = some (.int .i64))
    {b : Nat} {m : Int → Option Value} (k : Int) (val : Value) (hm : a.eval mo = .map (some b)) (hx : a.eval x = .int .i64 k) (hv : a.eval v = val) (h : MapI w b m)
    (hK : ∀ w', MapI w' b (mput m k (some val)) → w.grownBy w' (some b) → wpList P ops Q rest (a.put o.dst undef) w') : wpList P ops Q (o :: rest) a w := by
  refine wpList_plain hg fun K' hK' => ?_
  obtain ⟨w', hrun, r1, r2⟩ := h.put ht hk k val
  unfold Oper.wp
  simp [execOp, hop, hm, hx, hv, hrun, Result.andThen]
  exact hK' _ _ (hK w' r1 r2)
theorem wpList_del (hg : o.guard = none) (mo x : Operand) (ats : Array TypeId) (hop : o.op = .call { callee := .builtin .delete, args := #[mo, x], argTypes := ats }) {t kt e : TypeId} (hats : ats[0]? = some t) (ht : P.underlying t = some (.map kt e)) (hk : P.underlying kt = some (.int .i64))
    {b : Nat} {m : Int → Option Value} (k : Int) (hm : a.eval mo = .map (some b)) (hx : a.eval x = .int .i64 k) (h : MapI w b m)
    (hK : ∀ w', MapI w' b (mput m k none) → w.grownBy w' (some b) → wpList P ops Q rest (a.put o.dst (.tuple #[])) w') : wpList P ops Q (o :: rest) a w := by
  refine wpList_plain hg fun K' hK' => ?_
  obtain ⟨w', hrun, r1, r2⟩ := h.del ht hk ats hats o.type k
  unfold Oper.wp execOp
  simp only [hop, resolve, invoke, builtin, Sem.run_bind, Sem.run_pure, Result.andThen_ok, List.map_toArray, List.map_cons, List.map_nil, hm, hx, hrun]
  exact hK' _ _ (hK w' r1 r2)
theorem wpList_clr (hg : o.guard = none) (mo : Operand) (ats : Array TypeId) (hop : o.op = .call { callee := .builtin .clear, args := #[mo], argTypes := ats }) {t kt e : TypeId} (hats : ats[0]? = some t) (ht : P.underlying t = some (.map kt e))
    {b : Nat} {m : Int → Option Value} (hm : a.eval mo = .map (some b)) (h : MapI w b m)
    (hK : ∀ w', MapI w' b (fun _ => none) → w.grownBy w' (some b) → wpList P ops Q rest (a.put o.dst (.tuple #[])) w') : wpList P ops Q (o :: rest) a w := by
  refine wpList_plain hg fun K' hK' => ?_
  obtain ⟨w', hrun, r1, r2⟩ := h.clr ht ats hats o.type
  unfold Oper.wp execOp
  simp only [hop, resolve, invoke, builtin, Sem.run_bind, Sem.run_pure, Result.andThen_ok, List.map_toArray, List.map_cons, List.map_nil, hm, hrun]
  exact hK' _ _ (hK w' r1 r2)
end
end Go.Proofs.Ytkafemfpfbcoaaa
