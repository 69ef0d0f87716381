/- How large arguments are; the walk of Events. No conditions. -/
import Derived.Test.YtocbjadhcfjfiaaCodJ
import Derived.Test.YtocbjadhcfjfiaaCodB
import Derived.Test.YtocbjadhcfjfiaaOpen
import Derived.Test.YtocbjadhcfjfiaaOpenD
import Derived.Test.YtocbjadhcfjfiaaRows
import Derived.ChangeArms
namespace Go.Proofs.Ytocbjadhcfjfiaa
open Go.RowKit Go.Eng Go.ChangeShapes Go.WideShapes
set_option linter.unusedVariables false
theorem bulk_pos {H : Type} (d : DataW H) : 1 ≤ Rows.uptoBulk d := by
  cases d with
  | lit l => cases l <;> simp [Rows.uptoBulk]
  | _ => simp [Rows.uptoBulk]
theorem bulk_len {H : Type} : ∀ L : List (DataW H), L.length ≤ Rows.uptoBulkAll L
  | [] => Nat.zero_le _
  | d :: L => by
    rw [Rows.uptoBulkAll, List.length_cons]
    have := bulk_len L
    have := bulk_pos d
    omega
theorem bulk_mem {H : Type} {d : DataW H} : ∀ {L : List (DataW H)}, d ∈ L → Rows.uptoBulk d ≤ Rows.uptoBulkAll L
  | [], h => by cases h
  | x :: L, h => by
    rw [Rows.uptoBulkAll]
    simp only [List.mem_cons] at h
    rcases h with rfl | h
    · omega
    · have := bulk_mem h; omega
theorem bulk_app {H : Type} : ∀ (L M : List (DataW H)), Rows.uptoBulkAll L ≤ Rows.uptoBulkAll (L ++ M)
  | [], M => Nat.zero_le _
  | x :: L, M => by
    rw [List.cons_append, Rows.uptoBulkAll, Rows.uptoBulkAll]
    have := bulk_app L M
    omega
section
variable {H : Type} {enc : TypeId × Value → H} {P : Program} {w : World} {base : Nat} {spare : Nat → Bool} {held : Bool}
theorem slice_bulk {t e : TypeId} {fuel : Nat} {a : Option Addr} {len cap : Nat} {x : DataW H × List MemPlace} (ht : P.underlying t = some (.slice e)) (h : DataW.trod enc P w base spare held fuel t [.slice a len cap] = some x) : len ≤ Rows.uptoBulk x.1 := by
  rcases DataW.trod_slice ht h with ⟨h1, _⟩ | ⟨a', len', cap', elems, rest, n, _, h1, rfl, _, _, _, h2, _⟩
  · simp at h1
    omega
  · simp at h1
    obtain ⟨_, rfl, _⟩ := h1
    show len ≤ Rows.uptoBulk (.slice (elems.map (·.1)) (rest.map (·.1)))
    rw [Rows.uptoBulk]
    have := bulk_len (elems.map (·.1))
    rw [List.length_map] at this
    omega
theorem field_bulk {t : TypeId} {fuel : Nat} {cs : List Value} {x : DataW H × List MemPlace} {fs : Array Field} {i : Nat} {f : Field} (ht : P.underlying t = some (.struct fs)) (h : DataW.trod enc P w base spare held fuel t cs = some x) (hf : fs[i]? = some f) : ∃ n y, DataW.trod enc P w base spare held n f.type ((cs.drop f.offset).take (P.cellsOf f.type)) = some y ∧ Rows.uptoBulk y.1 ≤ Rows.uptoBulk x.1 := by
  obtain ⟨xs, n, _, hx0, hl, hx, hff⟩ := DataW.trod_struct ht h
  have h1 := hff i f hf
  have hlt : i < fs.size := (Array.getElem?_eq_some_iff.1 hf).1
  rw [List.getElem?_eq_getElem (by omega)] at h1
  refine ⟨n, _, h1, ?_⟩
  rw [hx0]
  show _ ≤ Rows.uptoBulk (.agg (xs.map (·.1)))
  rw [Rows.uptoBulk]
  have := bulk_mem (d := (xs[i]'(by omega)).1) (L := xs.map (·.1)) (List.mem_map.2 ⟨_, List.getElem_mem _, rfl⟩)
  omega
end
theorem rd_small {H : Type} {enc : TypeId × Value → H} {P : Program} {W : World} {base : Nat} {held : Bool} {t e : TypeId} {k : IntKind} {a : Option Addr} {len cap : Nat} {d : DataW H} {ps : List MemPlace}
    (hu : P.underlying t = some (.slice e)) (he : P.underlying e = some (.int k)) (hc : P.cellsOf e = 1) (hb : Rows.uptoBulk d ≤ 1048576)
    (h : DataW.Trod enc P W base (fun _ => true) held t (.slice a len cap) d ps) : ∃ l : List Int, l.length = len ∧ len ≤ cap ∧ len ≤ 1048576 ∧ Rd k W a l := by
  obtain ⟨fuel, hf⟩ := h
  have hlen := Nat.le_trans (slice_bulk hu hf) hb
  rcases open_ints hu he hc hf with ⟨hcs, _⟩ | ⟨x, l, c, zs, hcs, _, hl, hm, hz, hx, hcell, hwz⟩
  · simp [Value.cells] at hcs
    obtain ⟨rfl, rfl, rfl⟩ := hcs
    exact ⟨[], rfl, Nat.le_refl _, by omega, Rd.nil⟩
  · simp [Value.cells] at hcs
    obtain ⟨rfl, rfl, rfl⟩ := hcs
    have hzl : zs.length = cap := by simpa using hz
    refine ⟨zs.take len, by simp; omega, hl, hlen, ⟨by simp; omega, fun _ => ⟨x, rfl, fun i hi => ?_⟩, fun y hy => hwz y (List.mem_of_mem_take hy)⟩⟩
    simp only [List.length_take] at hi
    have := hcell i (by omega)
    simpa [rd, List.getD_eq_getElem?_getD, List.getElem?_take, show i < len by omega] using this
/-- How many moves an event has. -/
theorem event_bulk {H : Type} {enc : TypeId × Value → H} {W : World} {base : Nat} {spare : Nat → Bool} {held : Bool} {fuel : Nat} {x : DataW H × List MemPlace} {s : S.api_Event} {m : M.api_Event} (R : Is.api_Event W s m) (h : DataW.trod enc Try.prog W base spare held fuel 63 (S.api_Event.v s).cells.toList = some x) (hb : Rows.uptoBulk x.1 ≤ 1048576) : m.Moves.length ≤ 1048576 := by
  obtain ⟨n, y, h1, h2⟩ := field_bulk (i := 4) Try.underlying63 h rfl
  have h3 : DataW.trod enc Try.prog W base spare held n 61 [.slice s.Moves.a s.Moves.len s.Moves.cap] = some y := by
    simpa [cells_61, S.api_Event.v, Value.cells] using h1
  have := slice_bulk Try.underlying61 h3
  have := R.2.2.2.2.len
  omega
theorem CodecEvents_walk (e : S.api_Event) (m : M.api_Event) (a : Option Addr) (c : Nat) (l : List Int) (w : World) (R : Is.api_Event w e m) (Q : Wf.api_Event m) (hn : m.Moves.length ≤ 1048576) (h : Rd .u8 w a l) (hc : l.length ≤ c) (hl : l.length ≤ 1048576) :
    Calls Try.prog 8 #[S.api_Event.v e, .slice a l.length c] w fun e w' => e = .returned (.bool true) ∧ Below w.heap.size w w' :=
  ret_true (CodecEvents_s e m ⟨a, l.length, c⟩ ⟨⟨R.1, R.2.1, R.2.2.1, R.2.2.2.1⟩, R.2.2.2.2⟩ ⟨⟨⟨⟨Q.1, Q.2.1⟩, Q.2.2.1⟩, Q.2.2.2.1⟩, fun x hx => okMove_of (Q.2.2.2.2 x hx), by omega, by omega⟩ hn (rdb_of_rd h c) (by rw [bso_len]; exact hl))
end Go.Proofs.Ytocbjadhcfjfiaa
