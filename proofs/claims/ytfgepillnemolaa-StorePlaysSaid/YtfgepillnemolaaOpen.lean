/- Arguments opened: a slice of whole numbers that came in reads as a list, within the form's own reach. -/
import Derived.Test.YtfgepillnemolaaCom
import Derived.SizedLaws
import Derived.ChangeSlices
import Derived.WideShapes
import Derived.Carry
namespace Go.Proofs.Ytfgepillnemolaa
open Go.RowKit Go.ChangeShapes Go.WideShapes
theorem rd_of_trod {H : Type} {enc : TypeId × Value → H} {P : Program} {W : World} {base : Nat} {held : Bool} {t e : TypeId} {k : IntKind} {a : Option Addr} {len cap : Nat} {d : DataW H} {ps : List MemPlace} {ts : List TypeId} {ds : List (DataW H)} {j : Nat}
    (hsz : (DataW.weightsEach P ts ds).all (· ≤ reachBytes) = true) (ht : ts[j]? = some t) (hd : ds[j]? = some d) (hu : P.underlying t = some (.slice e)) (he : P.underlying e = some (.int k)) (hc : P.cellsOf e = 1) (hB : 0 < P.bytesOf e)
    (h : DataW.Trod enc P W base (fun _ => true) held t (.slice a len cap) d ps) : ∃ l : List Int, l.length = len ∧ len ≤ cap ∧ Rd k W a l := by
  obtain ⟨fuel, hf⟩ := h
  rcases open_ints hu he hc hf with ⟨hcs, _⟩ | ⟨x, l, c, zs, hcs, _, hl, hm, hz, hx, hcell, hwz⟩
  · simp [Value.cells] at hcs
    obtain ⟨rfl, rfl, rfl⟩ := hcs
    exact ⟨[], rfl, Nat.le_refl _, Rd.nil⟩
  · simp [Value.cells] at hcs
    obtain ⟨rfl, rfl, rfl⟩ := hcs
    obtain ⟨hx, _⟩ := Prod.mk.inj hx
    subst hx
    have z := sized_slice hsz ht hd hu
    have hzl : zs.length = cap := by simpa using hz
    have h1 : (lits (H := H) k (zs.take len)).length + (lits (H := H) k (zs.drop len)).length = zs.length := by
      simp [lits]; omega
    rw [h1] at z
    have h2 : zs.length ≤ 140737488351232 := Nat.le_trans (Nat.le_mul_of_pos_right _ hB) z
    refine ⟨zs.take len, by simp; omega, hl, ⟨by simp; omega, fun _ => ⟨x, rfl, fun i hi => ?_⟩, fun y hy => hwz y (List.mem_of_mem_take hy)⟩⟩
    simp only [List.length_take] at hi
    have := hcell i (by omega)
    simpa [rd, List.getD_eq_getElem?_getD, List.getElem?_take, show i < len by omega] using this
end Go.Proofs.Ytfgepillnemolaa
