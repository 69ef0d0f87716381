/- Memory that the walks of this seat read and make: slices that read as lists, append onto a row of the call's own. -/
import Derived.Test.YtkafemfpfbcoaaaCom
import Derived.Laws.OwnMore
import Derived.Deep.AppendLies
import Derived.Maps.AppendAt
import Derived.OwnWalk
import Derived.Laws.BytesArg
import Derived.Laws.Slices
import Derived.Laws.Strings
import Derived.Deep.OwnRows
import Derived.StillTailTactics
namespace Go.Proofs.Ytkafemfpfbcoaaa
open Go.RowKit
set_option linter.unusedSimpArgs false

theorem add_add_ (a : Addr) (i j : Nat) : (a.add i).add j = a.add (i + j) := by
  unfold Addr.add
  by_cases hi : i = 0 <;> by_cases hj : j = 0 <;> simp [hi, hj, Nat.add_assoc]

/-- n elements of 'size' cells each stand at A, the cells xs; of no element no address is asked. -/
structure RdV (w : World) (size : Nat) (A : Option Addr) (n : Nat) (xs : List Value) : Prop where
  len : xs.length = n * size
  at_ : 0 < n → ∃ ad, A = some ad ∧ ∀ j u, xs[j]? = some u → w.cell? (ad.add j) = some u
section
variable {w w' : World} {size n : Nat} {A : Option Addr} {xs : List Value}
theorem RdV.below (h : RdV w size A n xs) (hb : Below w.heap.size w w') : RdV w' size A n xs :=
  ⟨h.len, fun hn => by
    obtain ⟨ad, e, hc⟩ := h.at_ hn
    exact ⟨ad, e, fun j u hu => (hb.cell (World.block_lt_of_cell? w _ (hc j u hu))).trans (hc j u hu)⟩⟩
theorem RdV.of_own {base : Nat} {e : TypeId} {c : Nat} (h : w.ownsRow base e size (.slice A n c) n xs) : RdV w size A n xs := by
  refine ⟨h.1, fun hn => ?_⟩
  obtain ⟨g, cap, hv, _, _⟩ := h.form hn
  have hA : A = some ⟨g, 0, none⟩ := by injection hv
  subst hA
  exact ⟨_, rfl, h.cells (g := g) rfl⟩
end
theorem Rd.rdV {k : IntKind} {w : World} {A : Option Addr} {l : List Int} (h : Rd k w A l) : RdV w 1 A l.length (l.map (Value.int k)) := by
  refine ⟨by simp, fun hn => ?_⟩
  obtain ⟨ad, e, hc⟩ := h.at_ hn
  refine ⟨ad, e, fun j u hu => ?_⟩
  simp only [List.getElem?_map, Option.map_eq_some_iff] at hu
  obtain ⟨x, hx, rfl⟩ := hu
  have hj : j < l.length := by
    rcases Nat.lt_or_ge j l.length with h1 | h1
    · exact h1
    · rw [List.getElem?_eq_none h1] at hx; cases hx
  rw [hc j hj]
  simp [rd, List.getD_eq_getElem?_getD, hx]
theorem rd_of_rdV {k : IntKind} {w : World} {A : Option Addr} {l : List Int} (h : RdV w 1 A l.length (l.map (Value.int k))) (hl : l.length ≤ 140737488351232) (hw : ∀ x ∈ l, (Lit.int k x).wf = true) : Rd k w A l :=
  ⟨hl, fun hn => by
    obtain ⟨ad, e, hc⟩ := h.at_ hn
    refine ⟨ad, e, fun j hj => hc j _ ?_⟩
    simp [rd, List.getD_eq_getElem?_getD, List.getElem?_eq_getElem hj], hw⟩

/-- What an owned slice looks like. -/
theorem own_form {w : World} {base n size : Nat} {e : TypeId} {v : Value} {xs : List Value} (h : w.ownsRow base e size v n xs) : ∃ A c, v = .slice A n c ∧ n ≤ c := by
  rcases h.2 with ⟨rfl, rfl⟩ | ⟨g, cap, cur, rfl, _, _, hc, _⟩
  · exact ⟨none, 0, rfl, Nat.le_refl _⟩
  · exact ⟨_, cap, rfl, hc⟩
theorem own_lo {w : World} {base n size : Nat} {e : TypeId} {v : Value} {xs : List Value} (h : w.ownsRow base e size v n xs) : ∀ k, v.ownBlock = some k → base ≤ k := by
  intro k hk
  rcases h.2 with ⟨rfl, _⟩ | ⟨g, cap, cur, rfl, hb, _⟩
  · simp [Value.ownBlock] at hk
  · have : g = k := by simpa [Value.ownBlock] using hk
    omega
theorem own_below {w w1 : World} {base n size : Nat} {e : TypeId} {v : Value} {xs : List Value} (h : w.ownsRow base e size v n xs) (hb : Below w.heap.size w w1) : w1.ownsRow base e size v n xs :=
  h.kept (row := none) ⟨hb.os, hb.tape, hb.output, hb.size, fun i hi _ => hb.block i hi⟩ (by cases v.ownBlock <;> simp)

section
variable {P : Program} {w : World}
/-- append onto a row of the call's own, whatever the source: nil, empty or not. -/
theorem run_app (base : Nat) (t ty e : TypeId) (z : Value) (size bytes : Nat) (ht : P.underlying t = some (.slice e)) (hinfo : (P.info? e).map (fun i => (i.zero, i.size, i.bytes)) = some (some z, size, bytes))
    (hzs : z.cells.size = size) (hsz : 0 < size) (v : Value) (n : Nat) (xs : List Value) (hown : w.ownsRow base e size v n xs)
    (A : Option Addr) (m c : Nat) (news : List Value) (hr : RdV w size A m news) (h1 : ∀ u ∈ news, u.oneCell' = true) (hm : n + m ≤ maxLen) (hb : (n + m) * bytes ≤ 140737488355328) (hbase : base ≤ w.heap.size) :
    ∃ v' w', (Builtin.append_ #[t, t] ty #[v, .slice A m c]).run P w = .ok v' w' ∧ w'.ownsRow base e size v' (n + m) (xs ++ news) ∧ w.grownBy w' v.ownBlock ∧ (v'.ownBlock = v.ownBlock ∨ v'.ownBlock = some w.heap.size) := by
  obtain ⟨i, hi, hh⟩ := Option.map_eq_some_iff.1 hinfo
  simp only [Prod.mk.injEq] at hh
  obtain ⟨hz, hs, hby⟩ := hh
  match A with
  | some ad =>
    have hc : ∀ j u, news[j]? = some u → w.cell? (ad.add j) = some u := by
      intro j u hu
      by_cases h0 : m = 0
      · have : news = [] := List.eq_nil_of_length_eq_zero (by rw [hr.len, h0]; simp)
        subst this; simp at hu
      · obtain ⟨ad', h, hc⟩ := hr.at_ (by omega)
        injection h with h
        subst h
        exact hc j u hu
    obtain ⟨v', w', a1, a2, a3, _, a5⟩ := run_append_own_at (P := P) w base t ty e i z size bytes ht hi hz hs hby hzs hsz v n xs hown ad m c news hr.len hc h1 hm hb hbase
    exact ⟨v', w', a1, a2, a3, a5⟩
  | none =>
    have h0 : m = 0 := by
      rcases Nat.eq_zero_or_pos m with h0 | h0
      · exact h0
      · obtain ⟨ad, h, _⟩ := hr.at_ h0
        cases h
    subst h0
    have hn : news = [] := List.eq_nil_of_length_eq_zero (by rw [hr.len]; simp)
    subst hn
    refine ⟨v, w, ?_, by simpa using hown, ⟨rfl, rfl, rfl, Nat.le_refl _, fun _ _ _ => rfl⟩, .inl rfl⟩
    rcases hown.2 with ⟨rfl, rfl⟩ | ⟨g, cap, cur, rfl, _, _, hnc, _⟩
    · simp [Builtin.append_, run_underlying ht, sizeOf, typeInfo, hi, Builtin.lenOf, Builtin.firstCells]
    · simp [Builtin.append_, run_underlying ht, sizeOf, typeInfo, hi, Builtin.lenOf, Builtin.firstCells, hnc, storeCells]
theorem wp_app {o : Oper} {a : Act} {K : Act → World → Prop} {Q : Exit → Act → World → Prop} (s x : Operand) (t : TypeId)
    (ho : o.op = .call { callee := .builtin .append, args := #[s, x], argTypes := #[t, t] })
    (base : Nat) (e : TypeId) (z : Value) (size bytes : Nat) (ht : P.underlying t = some (.slice e)) (hinfo : (P.info? e).map (fun i => (i.zero, i.size, i.bytes)) = some (some z, size, bytes))
    (hzs : z.cells.size = size) (hsz : 0 < size) (v : Value) (n : Nat) (xs : List Value) (hs : a.eval s = v) (hown : w.ownsRow base e size v n xs)
    (A : Option Addr) (m c : Nat) (news : List Value) (hx : a.eval x = .slice A m c) (hr : RdV w size A m news) (h1 : ∀ u ∈ news, u.oneCell' = true) (hm : n + m ≤ maxLen) (hb : (n + m) * bytes ≤ 140737488355328) (hbase : base ≤ w.heap.size)
    (h : ∀ v' w', w'.ownsRow base e size v' (n + m) (xs ++ news) → w.grownBy w' v.ownBlock → (v'.ownBlock = v.ownBlock ∨ v'.ownBlock = some w.heap.size) → K (a.put o.dst v') w') : o.wp P a w K Q := by
  obtain ⟨v', w', hrun, h2, h3, h4⟩ := run_app (P := P) (w := w) base t o.type e z size bytes ht hinfo hzs hsz v n xs hown A m c news hr h1 hm hb hbase
  unfold Oper.wp execOp
  simp only [ho, resolve, invoke, builtin, Sem.run_bind, Sem.run_pure, Result.andThen_ok, List.map_toArray, List.map_cons, List.map_nil, hs, hx, hrun]
  exact h v' w' h2 h3 h4
/-- The same at the operation, for the walk: 'at_builtin; refine wpList_app ..'. -/
theorem wpList_app {ops : Array Oper} {rest : List Oper} {o : Oper} {a : Act} {Q : Exit → Act → World → Prop} (hgd : o.guard = none) (s x : Operand) (t : TypeId)
    (ho : o.op = .call { callee := .builtin .append, args := #[s, x], argTypes := #[t, t] })
    (base : Nat) (e : TypeId) (z : Value) (size bytes : Nat) (ht : P.underlying t = some (.slice e)) (hinfo : (P.info? e).map (fun i => (i.zero, i.size, i.bytes)) = some (some z, size, bytes))
    (hzs : z.cells.size = size) (hsz : 0 < size) (v : Value) (n : Nat) (xs : List Value) (hs : a.eval s = v) (hown : w.ownsRow base e size v n xs)
    (A : Option Addr) (m c : Nat) (news : List Value) (hx : a.eval x = .slice A m c) (hr : RdV w size A m news) (h1 : ∀ u ∈ news, u.oneCell' = true) (hm : n + m ≤ maxLen) (hb : (n + m) * bytes ≤ 140737488355328) (hbase : base ≤ w.heap.size)
    (h : ∀ v' w', w'.ownsRow base e size v' (n + m) (xs ++ news) → w.grownBy w' v.ownBlock → (v'.ownBlock = v.ownBlock ∨ v'.ownBlock = some w.heap.size) → wpList P ops Q rest (a.put o.dst v') w') : wpList P ops Q (o :: rest) a w :=
  wpList_plain hgd fun _ hK => wp_app s x t ho base e z size bytes ht hinfo hzs hsz v n xs hs hown A m c news hx hr h1 hm hb hbase fun v' w' h2 h3 h4 => hK _ _ (h v' w' h2 h3 h4)
end
theorem one_ints {k : IntKind} (l : List Int) : ∀ u ∈ l.map (Value.int k), u.oneCell' = true := by
  intro u hu
  obtain ⟨x, _, rfl⟩ := List.mem_map.1 hu
  rfl
/-- A row that was written, made just now or already ours, lies from B on. -/
theorem below_of_grown {B : Nat} {w w1 : World} {row : Option Nat} (hg : w.grownBy w1 row) (hB : B ≤ w.heap.size) (hr : ∀ k, row = some k → B ≤ k) : Below B w w1 :=
  (Below.refl B w).grown hg hB hr

/-- A slice of whole numbers of the call's own. -/
def Own (k : IntKind) (e : TypeId) (B : Nat) (w : World) (v : Value) (l : List Int) : Prop := w.ownsRow B e 1 v l.length (l.map (Value.int k))
theorem Own.rd {k : IntKind} {e : TypeId} {B : Nat} {w : World} {v : Value} {l : List Int} (h : Own k e B w v l) (hl : l.length ≤ 140737488351232) (hw : ∀ x ∈ l, (Lit.int k x).wf = true) :
    ∃ A c, v = .slice A l.length c ∧ l.length ≤ c ∧ Rd k w A l := by
  obtain ⟨A, c, rfl, hc⟩ := own_form h
  exact ⟨A, c, rfl, hc, rd_of_rdV (RdV.of_own h) hl hw⟩

/-- A region that draws: what stands ahead of its last operations only reads. -/
theorem still_tail {P : Program} {id : Nat} {Q : Exit → Act → World → Prop} {a : Act} {w : World} {l : List Oper} (n : Nat) (hm : P.follows .mixedOrders = true) (hB : Region.lexTailB .any l.toArray n = true)
    (h : wpStill P l.toArray w.drew (fun a' => wpList P l.toArray Q (l.drop n) a' w.drew) (l.take n) a) : (Code.region id l.toArray true).wp P Q a w := wp_region_still_tail n hm hB h
/-! ### Struct variables, loaded and stored whole -/
section
variable {P : Program} {w : World}
theorem wpStill_load_row {ops : Array Oper} {rest : List Oper} {o : Oper} {a : Act} {Q : Act → Prop} (hgd : o.guard = none) (ty : TypeId) (x : Operand) (ho : o.op = .load ty x)
    (g : Nat) (hx : a.eval x = .pointer (some ⟨g, 0, none⟩)) (t : TypeId) (cs : Array Value) (fr : Nat × Nat) (d : TypeDesc) (hg : w.heap[g]? = some (.cells cs t fr))
    (hu : P.underlying ty = some d) (hd : (match d with | .struct _ | .array _ _ => true | _ => false) = true) (hi : (P.info? ty).map (·.size) = some cs.size)
    (h : wpStill P ops w Q rest (a.put o.dst (.agg cs))) : wpStill P ops w Q (o :: rest) a := by
  have hw : Region.wanted o (yielded ops a.tmps) = true := by simp [Region.wanted, hgd]
  unfold wpStill
  rw [if_pos hw]
  unfold Oper.still execOp
  simp only [ho, hx, Instr.loadAt, Instr.sureAddr, Sem.run_bind, Sem.run_pure, Result.andThen_ok, run_loadVar_row w g t ty cs fr d hg hu hd hi]
  rw [Oper.stillUpon_value]
  exact h
theorem run_storeVar_row (g : Nat) (t ty : TypeId) (old cs : Array Value) (hg : w.heap[g]? = some (.cells old t (0, 0))) (hs : old.size = cs.size) (hi : (P.info? ty).map (·.size) = some cs.size) (h1 : ∀ v ∈ cs.toList, v.oneCell' = true) :
    (storeVar ty ⟨g, 0, none⟩ (.agg cs)).run P w = .ok () (w.setRow g cs) := by
  cases hq : P.info? ty with
  | none => simp [hq] at hi
  | some i =>
    have hsz : i.size = cs.size := by simpa [hq] using hi
    have hst := run_storeCells_at P g 0 t cs.toList 0 old w hg (by simp; omega) h1
    simp only [Nat.add_zero, List.take_zero, List.nil_append, Nat.zero_add] at hst
    have : old.toList.drop cs.toList.length = [] := List.drop_eq_nil_of_le (by simp; omega)
    rw [this, List.append_nil, Array.toArray_toList] at hst
    simp [storeVar, Sem.run_bind, sizeOf, typeInfo, hq, hsz, Value.cells, hst]
theorem wpList_store_row {ops : Array Oper} {rest : List Oper} {o : Oper} {a : Act} {Q : Exit → Act → World → Prop} (hgd : o.guard = none) (ty : TypeId) (x v : Operand) (ho : o.op = .store ty x v)
    (g : Nat) (hx : a.eval x = .pointer (some ⟨g, 0, none⟩)) (t : TypeId) (old cs : Array Value) (hv : a.eval v = .agg cs) (hg : w.heap[g]? = some (.cells old t (0, 0))) (hs : old.size = cs.size) (hi : (P.info? ty).map (·.size) = some cs.size) (h1 : ∀ v ∈ cs.toList, v.oneCell' = true)
    (h : ∀ w', w'.heap[g]? = some (.cells cs t (0, 0)) → w.grownBy w' (some g) → wpList P ops Q rest (a.put o.dst undef) w') : wpList P ops Q (o :: rest) a w := by
  refine wpList_plain hgd fun K hK => ?_
  have hr := run_storeVar_row (P := P) g t ty old cs hg hs hi h1
  unfold Oper.wp execOp
  simp only [ho, hx, hv, Instr.storeAt, Instr.sureAddr, Sem.run_bind, Sem.run_pure, Result.andThen_ok, hr]
  exact hK _ _ (h _ (setRow_heap w g old cs t (0, 0) hg) ⟨rfl, rfl, rfl, by simp, fun k _ hk => setRow_other w g k _ (fun e => hk (by rw [e]))⟩)
theorem run_loadVar_part (w : World) (g off : Nat) (t ty : TypeId) (cs ps : Array Value) (fr : Nat × Nat) (d : TypeDesc) (hg : w.heap[g]? = some (.cells cs t fr)) (hp : ∀ j v, ps.toList[j]? = some v → cs[off + j]? = some v)
    (hu : P.underlying ty = some d) (hd : (match d with | .struct _ | .array _ _ => true | _ => false) = true) (hi : (P.info? ty).map (·.size) = some ps.size) :
    (loadVar ty ⟨g, off, none⟩).run P w = .ok (.agg ps) w := by
  have hl : (loadCells ⟨g, off, none⟩ ps.toList.length).run P w = .ok ps.toList.toArray w :=
    run_loadCells_list (P := P) w ⟨g, off, none⟩ ps.toList (fun j v hv => by
      have hadd : (⟨g, off, none⟩ : Addr).add j = ⟨g, off + j, none⟩ := by unfold Addr.add; split <;> simp_all
      rw [hadd, cell_of_row w g _ cs t fr hg]
      exact hp j v hv)
  cases hq : P.info? ty with
  | none => simp [hq] at hi
  | some i =>
    have hs : i.size = ps.size := by simpa [hq] using hi
    have hagg : (isAgg ty).run P w = .ok true w := by
      unfold isAgg
      rw [Sem.run_bind, run_underlying hu w]
      cases d <;> simp_all
    simp only [Array.length_toList, Array.toArray_toList] at hl
    simp [loadVar, Sem.run_bind, hagg, sizeOf, typeInfo, hq, hs, hl]
theorem wpList_load_part {ops : Array Oper} {rest : List Oper} {o : Oper} {a : Act} {Q : Exit → Act → World → Prop} (hgd : o.guard = none) (ty : TypeId) (x : Operand) (ho : o.op = .load ty x)
    (g off : Nat) (hx : a.eval x = .pointer (some ⟨g, off, none⟩)) (t : TypeId) (cs ps : Array Value) (fr : Nat × Nat) (d : TypeDesc) (hg : w.heap[g]? = some (.cells cs t fr)) (hp : ∀ j v, ps.toList[j]? = some v → cs[off + j]? = some v)
    (hu : P.underlying ty = some d) (hd : (match d with | .struct _ | .array _ _ => true | _ => false) = true) (hi : (P.info? ty).map (·.size) = some ps.size)
    (h : wpList P ops Q rest (a.put o.dst (.agg ps)) w) : wpList P ops Q (o :: rest) a w := by
  refine wpList_plain hgd fun K hK => ?_
  unfold Oper.wp execOp
  simp only [ho, hx, Instr.loadAt, Instr.sureAddr, Sem.run_bind, Sem.run_pure, Result.andThen_ok, run_loadVar_part w g off t ty cs ps fr d hg hp hu hd hi]
  exact hK _ _ h
theorem wpStill_load_part {ops : Array Oper} {rest : List Oper} {o : Oper} {a : Act} {Q : Act → Prop} (hw : Region.wanted o (yielded ops a.tmps) = true) (ty : TypeId) (x : Operand) (ho : o.op = .load ty x)
    (g off : Nat) (hx : a.eval x = .pointer (some ⟨g, off, none⟩)) (t : TypeId) (cs ps : Array Value) (fr : Nat × Nat) (d : TypeDesc) (hg : w.heap[g]? = some (.cells cs t fr)) (hp : ∀ j v, ps.toList[j]? = some v → cs[off + j]? = some v)
    (hu : P.underlying ty = some d) (hd : (match d with | .struct _ | .array _ _ => true | _ => false) = true) (hi : (P.info? ty).map (·.size) = some ps.size)
    (h : wpStill P ops w Q rest (a.put o.dst (.agg ps))) : wpStill P ops w Q (o :: rest) a := by
  unfold wpStill
  rw [if_pos hw]
  unfold Oper.still execOp
  simp only [ho, hx, Instr.loadAt, Instr.sureAddr, Sem.run_bind, Sem.run_pure, Result.andThen_ok, run_loadVar_part w g off t ty cs ps fr d hg hp hu hd hi]
  rw [Oper.stillUpon_value]
  exact h
theorem part_of {cs ps : Array Value} {off : Nat} (h : (cs.toList.drop off).take ps.toList.length = ps.toList) : ∀ j v, ps.toList[j]? = some v → cs[off + j]? = some v := by
  intro j v hj
  rw [← h, List.getElem?_take] at hj
  split at hj
  · rw [List.getElem?_drop] at hj
    simpa using hj
  · cases hj
theorem res_cell_tmp {fn : Func} {p q : Tmp} {ty : TypeId} (h : fn.results = #[.cell p ty, .tmp q]) (tmps : Array Value) (w : World) (g : Nat) (t : TypeId) (cs : Array Value) (fr : Nat × Nat) (d : TypeDesc)
    (hp : tmps.getD p undef = .pointer (some ⟨g, 0, none⟩)) (hg : w.heap[g]? = some (.cells cs t fr))
    (hu : P.underlying ty = some d) (hd : (match d with | .struct _ | .array _ _ => true | _ => false) = true) (hi : (P.info? ty).map (·.size) = some cs.size) :
    (results fn tmps).run P w = .ok (.tuple #[.agg cs, tmps.getD q undef]) w := by
  have hp' : tmps[p]?.getD undef = .pointer (some ⟨g, 0, none⟩) := by simpa using hp
  simp [results, h, hp', asAddr, run_loadVar_row w g t ty cs fr d hg hu hd hi]
end
theorem flipW {P : Program} {f : FuncId} {args : Array Value} {w : World} {r : Ending} (h : Calls P f args w fun e w' => e = r ∧ w = w') : Calls P f args w fun e w'' => e = r ∧ w'' = w :=
  h.mono fun _ _ ⟨a, b⟩ => ⟨a, b.symm⟩
theorem Rd.take {k : IntKind} {w : World} {A : Option Addr} {l : List Int} (h : Rd k w A l) (m : Nat) : Rd k w A (l.take m) := by
  have hl := List.length_take_le m l
  refine ⟨Nat.le_trans (by simp; omega) h.len, fun hn => ?_, fun x hx => h.wf x (List.mem_of_mem_take hx)⟩
  obtain ⟨ad, e, hc⟩ := h.at_ (by simp at hn; omega)
  refine ⟨ad, e, fun j hj => ?_⟩
  simp only [List.length_take] at hj
  rw [hc j (by omega)]
  simp [rd, List.getD_eq_getElem?_getD, List.getElem?_take, show j < m by omega]
theorem Rd.drop {k : IntKind} {w : World} {A : Option Addr} {l : List Int} (h : Rd k w A l) {m c : Nat} (hc : l.length ≤ c) : Rd k w (if c = m then A else A.map (·.add m)) (l.drop m) := by
  refine ⟨Nat.le_trans (by simp) h.len, fun hn => ?_, fun x hx => h.wf x (List.mem_of_mem_drop hx)⟩
  simp only [List.length_drop] at hn
  obtain ⟨ad, rfl, hcc⟩ := h.at_ (by omega)
  rw [if_neg (by omega)]
  refine ⟨ad.add m, rfl, fun j hj => ?_⟩
  simp only [List.length_drop] at hj
  rw [add_add_, hcc (m + j) (by omega)]
  simp [rd, List.getD_eq_getElem?_getD, List.getElem?_drop]
/-- At a place of an own slice: its cell, that it may be written, what is owned behind a store there. -/
theorem own_at {k : IntKind} {e : TypeId} {B : Nat} {w : World} {A : Option Addr} {n c : Nat} {l : List Int} (h : Own k e B w (.slice A n c) l) (hn : n = l.length) (j : Nat) (hj : j < n) :
    ∃ g, A = some ⟨g, 0, none⟩ ∧ B ≤ g ∧ g < w.heap.size ∧ w.cell? ⟨g, j, none⟩ = some (.int k (rd l j)) ∧ w.frozen? ⟨g, j, none⟩ = false ∧ ∀ u, Own k e B (w.setCell ⟨g, j, none⟩ (.int k u)) (.slice A n c) (l.set j u) := by
  subst hn
  obtain ⟨g, cap, hv, hB, hlt⟩ := World.ownsRow.form h (by omega)
  injection hv with hA _ hcap
  subst hA
  refine ⟨g, rfl, hB, hlt, ?_, World.ownsRow.frozenAt h j, fun u => ?_⟩
  · rw [World.ownsRow.cellAt h j (by omega)]
    simp [rd, List.getD_eq_getElem?_getD, List.getElem?_eq_getElem hj]
  · have := (World.ownsRow.stored h j (.int k u)).1
    simpa [Own, List.map_set] using this
theorem own_rd {k : IntKind} {e : TypeId} {B : Nat} {w : World} {A : Option Addr} {n c : Nat} {l : List Int} (h : Own k e B w (.slice A n c) l) (hn : n = l.length) (hl : l.length ≤ 140737488351232) (hw : ∀ x ∈ l, (Lit.int k x).wf = true) : Rd k w A l := by
  subst hn; exact rd_of_rdV (RdV.of_own h) hl hw
/-- make([]T, n) of whole numbers: laid ahead of go_enter. -/
theorem run_mk {P : Program} (t e : TypeId) (k : IntKind) (bytes : Nat) (ht : P.underlying t = some (.slice e)) (hinfo : (P.info? e).map (fun i => (i.zero, i.size, i.bytes)) = some (some (.int k 0), 1, bytes)) (hb0 : 0 < bytes) (m : Nat) (hn : m * bytes ≤ 281474976710656) :
    ∀ W : World, (Instr.makeSlice t (.int .i64 (m : Int)) (.int .i64 (m : Int))).run P W = .ok (.slice (some ⟨W.heap.size, 0, none⟩) m m) (W.alloc (.cells (madeCells #[.int k 0] m) e)) := by
  intro W
  have hm : m ≤ 281474976710656 := Nat.le_trans (Nat.le_mul_of_pos_right _ hb0) hn
  exact run_make_row' t e (.int k 0) bytes ht hinfo rfl .i64 .i64 m (by rw [Nat.mul_comm]; exact hn) (by omega) W
theorem own_make (W : World) (B : Nat) (e : TypeId) (k : IntKind) (m : Nat) (hb : B ≤ W.heap.size) (hm : m ≤ 281474976710656) :
    Own k e B (W.alloc (.cells (madeCells #[.int k 0] m) e)) (.slice (some ⟨W.heap.size, 0, none⟩) m m) (List.replicate m 0) := by
  have := World.ownsRow_lit (e := e) (size := 1) W (madeCells #[.int k 0] m) m hb (by simp only [maxLen]; omega) (by rw [← Array.length_toList, toList_madeCells_one]; simp)
  rw [toList_madeCells_one] at this
  unfold Own
  rw [List.length_replicate, List.map_replicate]
  exact this
/-! ### Bytes as a string -/
theorem run_str {P : Program} {w : World} {A : Option Addr} {l : List Int} (h : Rd .u8 w A l) (c : Nat) (src e dst : TypeId) (hs : P.underlying src = some (.slice e)) (he : P.underlying e = some (.int .u8)) (hd : P.underlying dst = some .string) :
    (convert src dst (.slice A l.length c)).run P w = .ok (.string (strOfNums l)) w := by
  match A with
  | none =>
    have h0 : l.length = 0 := by
      rcases Nat.eq_zero_or_pos l.length with h0 | h0
      · exact h0
      · obtain ⟨ad, e, _⟩ := h.at_ h0
        cases e
    obtain rfl : l = [] := List.eq_nil_of_length_eq_zero h0
    exact run_convert_bytes_nil w src e hs he 0 c dst hd
  | some ad =>
    have hc := h.rdV
    have hl : (loadCells ad l.length).run P w = .ok (l.map (Value.int .u8)).toArray w := by
      have := run_loadCells_list (P := P) w ad (l.map (Value.int .u8)) (fun j v hj => by
        by_cases h0 : l.length = 0
        · rw [List.eq_nil_of_length_eq_zero h0] at hj; simp at hj
        · obtain ⟨ad', e, hcc⟩ := hc.at_ (by omega)
          injection e with e
          subst e
          exact hcc j v hj)
      simpa using this
    rw [run_convert_bytes_string w src dst e _ l.length c hs he hd, run_bytesToString w _ l.length c l hl, foldl_push_bytes]
    simp [strOfNums, ByteArray.empty, ByteArray.emptyWithCapacity]
    rfl
theorem strOfNums_inj {a b : List Int} (ha : ∀ x ∈ a, 0 ≤ x ∧ x ≤ 255) (hb : ∀ x ∈ b, 0 ≤ x ∧ x ≤ 255) (h : strOfNums a = strOfNums b) : a = b := by
  have h1 : a.map (fun n => UInt8.ofNat n.toNat) = b.map (fun n => UInt8.ofNat n.toNat) := by
    rw [← strOfNums_data, ← strOfNums_data, h]
  induction a generalizing b with
  | nil => cases b with
    | nil => rfl
    | cons y b => simp at h1
  | cons x a ih => cases b with
    | nil => simp at h1
    | cons y b =>
      simp only [List.map_cons, List.cons.injEq] at h1
      have hx := ha x (by simp)
      have hy := hb y (by simp)
      have e : x = y := by
        have := congrArg UInt8.toNat h1.1
        simp only [UInt8.toNat_ofNat'] at this
        omega
      subst e
      rw [ih (fun z hz => ha z (by simp [hz])) (fun z hz => hb z (by simp [hz])) (by unfold strOfNums; rw [h1.2]) h1.2]
theorem str_eq {a b : List Int} (ha : ∀ x ∈ a, 0 ≤ x ∧ x ≤ 255) (hb : ∀ x ∈ b, 0 ≤ x ∧ x ≤ 255) : ((strOfNums a).toList == (strOfNums b).toList) = decide (a = b) := by
  by_cases h : a = b
  · subst h; simp
  · rw [decide_eq_false h, beq_eq_false_iff_ne]
    intro h2
    rw [ByteArray.toList_eq, ByteArray.toList_eq] at h2
    refine h (strOfNums_inj ha hb ?_)
    have : (strOfNums a).data = (strOfNums b).data := Array.toList_inj.1 h2
    cases hA : strOfNums a; cases hB : strOfNums b; simp_all
end Go.Proofs.Ytkafemfpfbcoaaa
