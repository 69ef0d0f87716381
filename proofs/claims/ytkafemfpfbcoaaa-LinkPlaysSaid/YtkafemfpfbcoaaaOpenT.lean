/- Arguments opened: slices of telegrams, telegrams; loading them. -/
import Derived.Test.YtkafemfpfbcoaaaOpenS
import Derived.Test.YtkafemfpfbcoaaaMem
import Derived.Test.YtkafemfpfbcoaaaTele
namespace Go.Proofs.Ytkafemfpfbcoaaa
open Go.RowKit Go.ChangeShapes Go.WideShapes

def tlcs (t : Tl) : List Value := [.int .i64 t.k, .int .i64 t.r, .int .i64 t.e, .int .i64 t.n, .int .i64 t.mq, .int .i64 t.md, .int .i64 t.mn, .int .i64 t.fx, .int .i64 t.fy, .bool t.fd, .int .i64 t.tx, .int .i64 t.ty, .bool t.td, .int .i64 t.ma, .int .i64 t.me, .int .i64 t.px, .int .i64 t.py, .bool t.pd, .int .i64 t.ld]
/-- A slice that reads as these telegrams (nil too). -/
structure RdT (w : World) (A : Option Addr) (l : List Tl) : Prop where
  len : l.length ≤ maxLen
  at_ : 0 < l.length → ∃ ad, A = some ad ∧ ∀ i t, l[i]? = some t → ∀ j v, (tlcs t)[j]? = some v → w.cell? (ad.add (i * 19 + j)) = some v
theorem RdT.below {w w1 : World} {A : Option Addr} {l : List Tl} (h : RdT w A l) (hb : Below w.heap.size w w1) : RdT w1 A l :=
  ⟨h.len, fun hn => by
    obtain ⟨ad, e, hc⟩ := h.at_ hn
    exact ⟨ad, e, fun i t hi j v hj => (hb.cell (World.block_lt_of_cell? w _ (hc i t hi j v hj))).trans (hc i t hi j v hj)⟩⟩
theorem RdT.get {w : World} {A : Option Addr} {l : List Tl} (h : RdT w A l) (k : Nat) (hk : k < l.length) : ∃ ad t, A = some ad ∧ l[k]? = some t ∧ ∀ j v, (tlcs t)[j]? = some v → w.cell? ((ad.add (k * 19)).add j) = some v := by
  obtain ⟨ad, e, hc⟩ := h.at_ (by omega)
  exact ⟨ad, l[k], e, List.getElem?_eq_getElem hk, fun j v hj => by rw [add_add_]; exact hc k _ (List.getElem?_eq_getElem hk) j v hj⟩
section
variable {H : Type} {enc : TypeId × Value → H} {W : World} {base : Nat} {held : Bool}
theorem tele_of_cells {cs : List Value} {x : DataW H × List MemPlace} {spare : Nat → Bool} {fuel : Nat} (h : DataW.trod enc Try.prog W base spare held fuel 35 cs = some x) : ∃ t : Tl, cs = tlcs t := by
  obtain ⟨k, r, e, n, mq, md, mn, fx, fy, fd, tx, ty, td, ma, me, px, py, pd, ld, rfl⟩ := flat_api_Tele h
  exact ⟨⟨k, r, e, n, mq, md, mn, fx, fy, fd, tx, ty, td, ma, me, px, py, pd, ld⟩, rfl⟩
theorem teles_of_trod {a : Option Addr} {len cap : Nat} {d : DataW H} {ps : List MemPlace} (h : DataW.Trod enc Try.prog W base (fun _ => true) held 22 (.slice a len cap) d ps) :
    ∃ l : List Tl, l.length = len ∧ len ≤ cap ∧ RdT W a l := by
  obtain ⟨fuel, hf⟩ := h
  rcases Go.Deep.open_slice Try.underlying22 hf with ⟨hcs, _⟩ | ⟨ad, len', cap', m, n, D, Pl, hcs, _, hl, hm, hmm, _, hx⟩
  · simp [Value.cells] at hcs
    obtain ⟨rfl, rfl, rfl⟩ := hcs
    exact ⟨[], rfl, Nat.le_refl _, ⟨by simp, fun h => by simp at h⟩⟩
  · simp [Value.cells] at hcs
    obtain ⟨rfl, rfl, rfl⟩ := hcs
    have hml : len ≤ m := by rw [hmm]; simp; exact hl
    have hx2 : ∀ i, i < len → ∃ t : Tl, ∀ j v, (tlcs t)[j]? = some v → W.cell? (ad.add (i * 19 + j)) = some v := by
      intro i hi
      obtain ⟨cs', h1, h2⟩ := hx i (by omega)
      obtain ⟨t, rfl⟩ := tele_of_cells h2
      rw [cells_35] at h1
      obtain ⟨_, _, hat⟩ := World.cells?_some h1
      refine ⟨t, fun j v hj => ?_⟩
      have hj19 : j < 19 := by
        have := (List.getElem?_eq_some_iff.1 hj).1
        simpa [tlcs] using this
      rw [← add_add_, hat j hj19]
      exact hj
    obtain ⟨f, hf⟩ : ∃ f : Nat → Tl, ∀ i, i < len → ∀ j v, (tlcs (f i))[j]? = some v → W.cell? (ad.add (i * 19 + j)) = some v :=
      ⟨fun i => if h : i < len then (hx2 i h).choose else Tl.zero, fun i hi => by simp only [hi, dite_true]; exact (hx2 i hi).choose_spec⟩
    refine ⟨(List.range len).map f, by simp, hl, ⟨by simp; omega, fun _ => ⟨ad, rfl, fun i t hi j v hj => ?_⟩⟩⟩
    simp only [List.getElem?_map, Option.map_eq_some_iff] at hi
    obtain ⟨i', hi', rfl⟩ := hi
    have hlt : i < len := by
      rcases Nat.lt_or_ge i len with h | h
      · exact h
      · rw [List.getElem?_eq_none (by simpa using h)] at hi'; cases hi'
    rw [List.getElem?_range hlt] at hi'
    injection hi' with hi'
    subst hi'
    exact hf i hlt j v hj
end
section
variable {P : Program} {w : World}
theorem run_loadVar_at (ad : Addr) (ty : TypeId) (cs : Array Value) (d : TypeDesc) (hc : ∀ j v, cs.toList[j]? = some v → w.cell? (ad.add j) = some v)
    (hu : P.underlying ty = some d) (hd : (match d with | .struct _ | .array _ _ => true | _ => false) = true) (hi : (P.info? ty).map (·.size) = some cs.size) : (loadVar ty ad).run P w = .ok (.agg cs) w := by
  have hl : (loadCells ad cs.toList.length).run P w = .ok cs.toList.toArray w := run_loadCells_list (P := P) w ad cs.toList hc
  cases hq : P.info? ty with
  | none => simp [hq] at hi
  | some i =>
    have hs : i.size = cs.size := by simpa [hq] using hi
    have hagg : (isAgg ty).run P w = .ok true w := by
      unfold isAgg
      rw [Sem.run_bind, run_underlying hu w]
      cases d <;> simp_all
    simp only [Array.length_toList, Array.toArray_toList] at hl
    simp [loadVar, Sem.run_bind, hagg, sizeOf, typeInfo, hq, hs, hl]
theorem wpList_load_at {ops : Array Oper} {rest : List Oper} {o : Oper} {a : Act} {Q : Exit → Act → World → Prop} (hgd : o.guard = none) (ty : TypeId) (x : Operand) (ho : o.op = .load ty x)
    (ad : Addr) (hx : a.eval x = .pointer (some ad)) (cs : Array Value) (d : TypeDesc) (hc : ∀ j v, cs.toList[j]? = some v → w.cell? (ad.add j) = some v)
    (hu : P.underlying ty = some d) (hd : (match d with | .struct _ | .array _ _ => true | _ => false) = true) (hi : (P.info? ty).map (·.size) = some cs.size)
    (h : wpList P ops Q rest (a.put o.dst (.agg cs)) w) : wpList P ops Q (o :: rest) a w := by
  refine wpList_plain hgd fun K hK => ?_
  unfold Oper.wp execOp
  simp only [ho, hx, Instr.loadAt, Instr.sureAddr, Sem.run_bind, Sem.run_pure, Result.andThen_ok, run_loadVar_at ad ty cs d hc hu hd hi]
  exact hK _ _ h
end
end Go.Proofs.Ytkafemfpfbcoaaa
