/- Arguments opened, in general: what reads as data is typed values. No conditions. -/
import Derived.Test.YtfgepillnemolaaAux
import Derived.SizedLaws
import Derived.ChangeArms
import Derived.ChangeSlices
import Derived.WideShapes
import Derived.Deep.Slices
namespace Go.Eng
open Go.RowKit Go.ChangeShapes Go.WideShapes
set_option linter.unusedVariables false
/-- A slice of things that stand for these. -/
structure IsL {α μ : Type} (w : World) (sz : Nat) (v : α → Value) (R : α → μ → Prop) (s : Sl) (L : List μ) : Prop where
  len : L.length = s.len
  at_ : ∀ i m, L[i]? = some m → ∃ a x, s.a = some a ∧ rd w (a.add (i * sz)) (v x) ∧ R x m
section
variable {H : Type} {enc : TypeId × Value → H} {P : Program} {w : World} {base : Nat} {spare : Nat → Bool} {held : Bool}
theorem field_trod' {t fuel : Nat} {cs : List Value} {x : DataW H × List MemPlace} {fs : Array Field}
    (ht : P.underlying t = some (.struct fs)) (h : DataW.trod enc P w base spare held fuel t cs = some x) :
    cs.length = P.cellsOf t ∧ ∀ (i : Nat) (f : Field), fs[i]? = some f → ∃ n y, DataW.trod enc P w base spare held n f.type ((cs.drop f.offset).take (P.cellsOf f.type)) = some y := by
  obtain ⟨xs, n, _, _, hl, hx, hf⟩ := DataW.trod_struct ht h
  refine ⟨hl, fun i f hi => ?_⟩
  have h1 := hf i f hi
  have hlt : i < fs.size := (Array.getElem?_eq_some_iff.1 hi).1
  rw [List.getElem?_eq_getElem (by omega)] at h1
  exact ⟨n, _, h1⟩
theorem rd_of_cells {a : Addr} {v : Value} (h : ∀ j u, v.cells.toList[j]? = some u → w.cell? (a.add j) = some u) (hv : leafB v = true ∨ ∃ cs, v = .agg cs) : rd w a v := by
  rcases hv with hv | ⟨cs, rfl⟩
  · have h0 : v.cells.toList[0]? = some v := by cases v <;> first | rfl | cases hv
    have := h 0 v h0
    rw [show a.add 0 = a by rw [Addr.add]; simp] at this
    exact leaf_rd this hv
  · exact h
theorem open_list {α μ : Type} {sz : Nat} {v : α → Value} {R : α → μ → Prop} {Q : μ → Prop} {t e : TypeId} (hu : P.underlying t = some (.slice e)) (hc : P.cellsOf e = sz)
    (hv : ∀ s, leafB (v s) = true ∨ ∃ cs, v s = .agg cs)
    (he : ∀ fuel cs x, DataW.trod enc P w base spare held fuel e cs = some x → ∃ s m, cs = (v s).cells.toList ∧ R s m ∧ Q m) (hsp : ∀ b, spare b = true)
    {fuel : Nat} {cs : List Value} {x : DataW H × List MemPlace} (h : DataW.trod enc P w base spare held fuel t cs = some x) :
    ∃ (s : Sl) (L : List μ), cs = [.slice s.a s.len s.cap] ∧ (s.len ≤ s.cap ∧ s.cap ≤ maxLen) ∧ IsL w sz v R s L ∧ ∀ m ∈ L, Q m := by
  rcases Go.Deep.open_slice hu h with ⟨rfl, _⟩ | ⟨a, len, cap, m, n, D, Pl, rfl, _, hl, hm, hmm, _, hx⟩
  · exact ⟨⟨none, 0, 0⟩, [], rfl, ⟨Nat.le_refl _, Nat.zero_le _⟩, ⟨rfl, fun i m hi => by simp at hi⟩, fun m hm => by cases hm⟩
  · have hmc : len ≤ m := by rw [hmm, if_pos (hsp _)]; exact hl
    have each : ∀ i, i < len → ∃ p : α × μ, rd w (a.add (i * sz)) (v p.1) ∧ R p.1 p.2 ∧ Q p.2 := by
      intro i hi
      obtain ⟨cs', h1, h2⟩ := hx i (by omega)
      obtain ⟨s, m, rfl, hR, hQ⟩ := he _ _ _ h2
      refine ⟨(s, m), rd_of_cells (fun j u hj => ?_) (hv s), hR, hQ⟩
      rw [hc] at h1
      obtain ⟨hlen, _, hat⟩ := World.cells?_some h1
      have hj' : j < sz := by
        have hlt : j < (v s).cells.toList.length := (List.getElem?_eq_some_iff.1 hj).1
        omega
      rw [hat j hj']
      exact hj
    by_cases h0 : len = 0
    · subst h0
      exact ⟨⟨some a, 0, cap⟩, [], rfl, ⟨hl, hm⟩, ⟨rfl, fun i m hi => by simp at hi⟩, fun m hm => by cases hm⟩
    · obtain ⟨p0, _⟩ := each 0 (by omega)
      obtain ⟨f, hf⟩ : ∃ f : Nat → α × μ, ∀ i, i < len → rd w (a.add (i * sz)) (v (f i).1) ∧ R (f i).1 (f i).2 ∧ Q (f i).2 :=
        ⟨fun i => if h : i < len then (each i h).choose else p0, fun i hi => by simp only [hi, dite_true]; exact (each i hi).choose_spec⟩
      refine ⟨⟨some a, len, cap⟩, (List.range len).map fun i => (f i).2, rfl, ⟨hl, hm⟩, ⟨by simp, fun i m hi => ?_⟩, fun m hm => ?_⟩
      · simp only [List.getElem?_map, Option.map_eq_some_iff] at hi
        obtain ⟨i', hi', rfl⟩ := hi
        have hlt : i < len := by
          rcases Nat.lt_or_ge i len with h | h
          · exact h
          · rw [List.getElem?_eq_none (by simpa using h)] at hi'; cases hi'
        rw [List.getElem?_range hlt] at hi'
        injection hi' with hi'
        subst hi'
        exact ⟨a, _, rfl, (hf i hlt).1, (hf i hlt).2.1⟩
      · simp only [List.mem_map, List.mem_range] at hm
        obtain ⟨i, hi, rfl⟩ := hm
        exact (hf i hi).2.2
end
theorem IsL.rdl {α : Type} {w : World} {sz : Nat} {v : α → Value} {s : Sl} {L : List α} (h : IsL w sz v (fun x m => x = m) s L) : RdL w sz v s L :=
  ⟨h.len, fun i m hm => by obtain ⟨a, x, ha, hr, rfl⟩ := h.at_ i m hm; exact ⟨a, ha, hr⟩⟩
theorem IsL.get {α μ : Type} {w : World} {sz : Nat} {v : α → Value} {R : α → μ → Prop} {s : Sl} {L : List μ} (h : IsL w sz v R s L) {i : Nat} (hi : i < L.length) : ∃ a x, s.a = some a ∧ rd w (a.add (i * sz)) (v x) ∧ R x L[i] := h.at_ i _ (List.getElem?_eq_getElem hi)
theorem IsL.mono {α μ : Type} {w w' : World} {sz : Nat} {v : α → Value} {R R' : α → μ → Prop} {s : Sl} {L : List μ} {l : List Nat} (h : IsL w sz v R s L) (k : Kp l w w') (hn : ∀ x ∈ blkOf s, x ∉ l) (hR : ∀ x m, m ∈ L → R x m → R' x m) : IsL w' sz v R' s L :=
  ⟨h.len, fun i m hm => by
    obtain ⟨a, x, ha, hr, h1⟩ := h.at_ i m hm
    exact ⟨a, x, ha, rd_keep hr k (by rw [add_block]; exact hn _ (by simp [blkOf, ha])), hR x m (List.mem_of_getElem? hm) h1⟩⟩
theorem wf64 {x : Int} (h : (Lit.int .i64 x).wf = true) : in64 x := by
  simp [Lit.wf, IntKind.min, IntKind.max, IntKind.signed, IntKind.bits] at h
  exact ⟨by omega, by omega⟩
theorem wf8 {x : Int} (h : (Lit.int .u8 x).wf = true) : in8 x := by
  simp [Lit.wf, IntKind.min, IntKind.max, IntKind.signed, IntKind.bits] at h
  exact ⟨by omega, by omega⟩
end Go.Eng
