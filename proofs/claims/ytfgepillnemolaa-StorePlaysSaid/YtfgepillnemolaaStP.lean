/- To open a store: both files are opened. No conditions. -/
import Derived.Test.YtfgepillnemolaaStO
namespace Go.Proofs.Ytfgepillnemolaa
open Go.RowKit Go.Eng
set_option linter.unusedVariables false
set_option linter.unusedSimpArgs false
theorem numbered_s (q : Sl) (w : World) : C.store_numbered q w (fun v w' => ∃ bl, v = .func (.func 65) #[] #[.pointer (PD bl)] ∧ Blk w' bl [slv q] ∧ w.heap.size ≤ bl ∧ Kp [] w w') noP := store_numbered_of (by
  unfold W.store_numbered
  intro b1 w2 hA
  exact ⟨b1, rfl, hA.blk, by have := hA.eq; omega, hA.kp⟩)
theorem numsL_mem {s : Int} {es : List Bs} {e : Bs} (h : e ∈ es) : ∃ n, entB n e ∈ numsL s es := by
  obtain ⟨k, hk, rfl⟩ := List.getElem_of_mem h
  exact ⟨s + 1 + k, List.mem_of_getElem? (numsL_get s es k hk)⟩
theorem segv {cs vs : List Value} {o : Nat} (h : (cs.drop o).take vs.length = vs) : ∀ i v, vs[i]? = some v → cs[o + i]? = some v := fun i v hi => by
  have hlt : i < vs.length := (List.getElem?_eq_some_iff.1 hi).1
  rw [← h, List.getElem?_take, if_pos hlt, List.getElem?_drop] at hi
  exact hi
theorem clr_same (m : Nat → Fm) {f : Nat} (hf : f < 2) : clr m f f = ⟨[], [], []⟩ := by
  unfold clr
  rw [syncMf_i _ hf, fup_same, cut0n m hf]
  rfl
theorem clr_ne (m : Nat → Fm) {f j : Nat} (hf : f < 2) (hj : j ≠ f) : clr m f j = m j := by
  unfold clr
  rw [syncMf_i _ hf, fup_ne _ _ hj, show (0 : Int) = ((0 : Nat) : Int) from rfl, cutMf_i m hf, fup_ne _ _ hj]
def cellH (h : S.store_head) : List Value := [.int .i64 h.g, .int .i64 h.s, slv h.snap, .bool h.ok]
/-- What stays while both files are opened. -/
structure FR (w : World) (b1 b3 b5 b7 b17 b19 : Nat) : Prop where
  f1 : Blk w b1 [.pointer none]
  f3 : Blk w b3 [.slice none 0 0]
  f5 : Blk w b5 [.slice none 0 0]
  f7 : Blk w b7 [.int .i64 0]
  f19 : Blk w b19 [.pointer (PD b17)]
theorem FR.keepF {w w' : World} {b1 b3 b5 b7 b17 b19 : Nat} {F : Nat → Prop} (h : FR w b1 b3 b5 b7 b17 b19) (k : KpF F w w') (h1 : ¬ F b1) (h3 : ¬ F b3) (h5 : ¬ F b5) (h7 : ¬ F b7) (h19 : ¬ F b19) : FR w' b1 b3 b5 b7 b17 b19 :=
  ⟨h.f1.keepF k h1, h.f3.keepF k h3, h.f5.keepF k h5, h.f7.keepF k h7, h.f19.keepF k h19⟩
theorem FR.keep {w w' : World} {b1 b3 b5 b7 b17 b19 : Nat} {l : List Nat} (h : FR w b1 b3 b5 b7 b17 b19) (k : Kp l w w') (h1 : b1 ∉ l) (h3 : b3 ∉ l) (h5 : b5 ∉ l) (h7 : b7 ∉ l) (h19 : b19 ∉ l) : FR w' b1 b3 b5 b7 b17 b19 :=
  ⟨h.f1.keep k h1, h.f3.keep k h3, h.f5.keep k h5, h.f7.keep k h7, h.f19.keep k h19⟩
/-- Behind the first file, behind the second. -/
def OP1 (w0 w : World) (n : Nat) (G G0 : Nat → Prop) (b1 b3 b5 b7 b17 b19 b22 b24 d : Nat) (m : Nat → Fm) (a : FL) (w' : World) : Prop :=
  ∃ (lg0 : Nat) (q0 s0 : Sl) (G1 : Nat → Prop), DG w0 w' G1 d (openM m 0) ∧ (∀ y, G0 y → G1 y) ∧ KG G w w' ∧ FR w' b1 b3 b5 b7 b17 b19 ∧ Blk w' b17 [.pointer (PD lg0), .pointer none, .int .i64 0, .int .i64 0, .int .i64 0, .int .i64 0] ∧ Blk w' b22 [slv q0, .slice none 0 0] ∧ Blk w' b24 (cellH (hv a s0) ++ [.int .i64 0, .int .i64 0, .slice none 0 0, .bool false]) ∧ (LogIs w' lg0 d 0 ∧ G1 lg0 ∧ n ≤ lg0) ∧ RG w' (fun y => G1 y ∧ n ≤ y) q0 (recsOf a) ∧ hq w' (fun y => G1 y ∧ n ≤ y) a s0
def OP2 (w0 w : World) (n : Nat) (G G0 : Nat → Prop) (b1 b3 b5 b7 b17 b19 b22 b24 d : Nat) (m : Nat → Fm) (a b : FL) (w' : World) : Prop :=
  ∃ (lg0 lg1 : Nat) (q0 q1 s0 s1 : Sl) (G1 : Nat → Prop), DG w0 w' G1 d (open2 m) ∧ (∀ y, G0 y → G1 y) ∧ KG G w w' ∧ FR w' b1 b3 b5 b7 b17 b19 ∧ Blk w' b17 [.pointer (PD lg0), .pointer (PD lg1), .int .i64 0, .int .i64 0, .int .i64 0, .int .i64 0] ∧ Blk w' b22 [slv q0, slv q1] ∧ Blk w' b24 (cellH (hv a s0) ++ cellH (hv b s1)) ∧ (LogIs w' lg0 d 0 ∧ G1 lg0 ∧ n ≤ lg0) ∧ (LogIs w' lg1 d 1 ∧ G1 lg1 ∧ n ≤ lg1) ∧ RG w' (fun y => G1 y ∧ n ≤ y) q0 (recsOf a) ∧ RG w' (fun y => G1 y ∧ n ≤ y) q1 (recsOf b) ∧ hq w' (fun y => G1 y ∧ n ≤ y) a s0 ∧ hq w' (fun y => G1 y ∧ n ≤ y) b s1
theorem tagL_snd (L : List Bs) : (tagL L).map (·.2) = L := by simp [tagL, Function.comp_def]
/-- One file: opened, its head read. -/
theorem one_s {w0 w : World} {G : Nat → Prop} {d : Nat} {m : Nat → Fm} {f : Nat} (hf : f < 2) (h : DG w0 w G d m) (hu : uK m) {a : FL} (ha : recs (m f).now = recsOf a) (hok : okFL a) {K : Value → World → Prop} {KP : List PanicEntry → World → Prop}
    (hk : ∀ (lg : Nat) (q : Sl) (G1 : Nat → Prop) (w1 : World), DG w0 w1 G1 d (openM m f) → KG G w w1 → (∀ y, G y → G1 y) → LogIs w1 lg d f → G1 lg → w.heap.size ≤ lg → RG w1 (fun y => G1 y ∧ w.heap.size ≤ y) q (recsOf a) → K (.tuple #[.pointer (PD lg), .slice q.a q.len q.cap, .int .i64 0]) w1) : C.wal_Open (PD d) f w K KP := by
  refine use2 (Open_h hf h hu) ?_ (fun _ _ hx => hx.elim)
  rintro _ w1 ⟨lg, q, G1, rfl, h1, k1, hG, hl, ⟨hg, hlo⟩, hS, hSG⟩
  have hSlo := hS.lo
  refine hk lg q G1 w1 h1 k1 hG hl hg hlo ?_
  have := hS.rg (G := fun y => G1 y ∧ w.heap.size ≤ y) (fun y hy => ⟨hSG y hy, (hSlo y hy).1⟩) (fun y hy => hy)
  rw [tagL_snd, ha] at this
  exact this
end Go.Proofs.Ytfgepillnemolaa
