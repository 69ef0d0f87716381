/- A Kin in memory: its runs, reckoned once. No conditions. -/
import Derived.Test.YtongkhanbpboaaaKin2
namespace Go.Proofs.Ytongkhanbpboaaa
open Go.RowKit Go.Eng
set_option linter.unusedVariables false
abbrev slv (x : Sl) : Value := .slice x.a x.len x.cap
/-- A Kin: its numbers, its runs' cells. -/
structure KinR (w : World) (kb u a v : Nat) (f : Nat → List Value) : Prop where
  is : ∃ rs, Blk w kb (.int .i64 u :: .int .i64 a :: .int .i64 v :: rs) ∧ rs.length = 68 ∧ RowsOf 4 rs 17 f
  fl : ∀ i, (f i).length = 4
theorem KinR.keep {w w' : World} {kb u a v : Nat} {f : Nat → List Value} {l : List Nat} (h : KinR w kb u a v f) (k : Kp l w w') (hn : kb ∉ l) : KinR w' kb u a v f := by
  obtain ⟨⟨rs, h1, h2, h3⟩, h4⟩ := h
  exact ⟨⟨rs, h1.keep k hn, h2, h3⟩, h4⟩
theorem KinR.lt {w : World} {kb u a v : Nat} {f : Nat → List Value} (h : KinR w kb u a v f) : kb < w.heap.size := by
  obtain ⟨⟨rs, h1, h2, h3⟩, h4⟩ := h
  exact h1.lt
theorem KinR.kc {w : World} {kb u a v : Nat} {f : Nat → List Value} (h : KinR w kb u a v f) : KC w kb u a v := by
  obtain ⟨⟨rs, h1, h2, h3⟩, h4⟩ := h
  exact ⟨h1.at rfl, h1.at rfl, h1.at rfl⟩
theorem KinR.cell {w : World} {kb u a v : Nat} {f : Nat → List Value} (h : KinR w kb u a v f) {i j : Nat} {x : Value} (hi : i < 17) (hx : (f i)[j]? = some x) : w.cell? ⟨kb, 3 + i * 4 + j, none⟩ = some x := by
  obtain ⟨⟨rs, h1, h2, h3⟩, h4⟩ := h
  refine h1.at ?_
  rw [show 3 + i * 4 + j = (i * 4 + j) + 1 + 1 + 1 by omega]
  simp only [List.getElem?_cons_succ]
  exact h3 i hi j x hx
theorem KinR.fr {w : World} {kb u a v : Nat} {f : Nat → List Value} (h : KinR w kb u a v f) {i j : Nat} (hi : i < 17) (hj : j < 4) : w.frozen? ⟨kb, 3 + i * 4 + j, none⟩ = false := by
  obtain ⟨⟨rs, h1, h2, h3⟩, h4⟩ := h
  exact h1.fr _ (by simp only [List.length_cons]; omega)
theorem KinR.can {w : World} {kb u a v : Nat} {f : Nat → List Value} (h : KinR w kb u a v f) {i j : Nat} (hi : i < 17) (hj : j < 4) (x : Value) (hx : leafB x = true) : canPut w ⟨kb, 3 + i * 4 + j, none⟩ x := by
  obtain ⟨⟨rs, h1, h2, h3⟩, h4⟩ := h
  exact h1.can1 x hx (by simp only [List.length_cons]; omega)
def fset (f : Nat → List Value) (i j : Nat) (x : Value) : Nat → List Value := fun k => if k = i then (f i).set j x else f k
theorem KinR.set {w w1 : World} {kb u a v : Nat} {f : Nat → List Value} (h : KinR w kb u a v f) {i j : Nat} (hi : i < 17) (hj : j < 4) {x : Value} (hx : leafB x = true) (e : w1 = w.setCell ⟨kb, 3 + i * 4 + j, none⟩ x) : KinR w1 kb u a v (fset f i j x) ∧ Kp [kb] w w1 ∧ w1.heap.size = w.heap.size := by
  obtain ⟨⟨rs, h1, h2, h3⟩, h4⟩ := h
  have ep : w1 = putAt w ⟨kb, 3 + i * 4 + j, none⟩ x := by rw [e]; cases x <;> first | rfl | cases hx
  obtain ⟨g1, g2, g3⟩ := h1.put1 hx ep
  refine ⟨⟨⟨rs.set (i * 4 + j) x, ?_, by simpa using h2, ?_⟩, fun k => ?_⟩, g2, g3⟩
  · rw [show 3 + i * 4 + j = (i * 4 + j) + 1 + 1 + 1 by omega] at g1
    simpa only [List.set_cons_succ] using g1
  · exact h3.cell (r := i) (k := j) hi hj (by omega) h4 (by unfold fset; rw [if_pos rfl]) (fun k _ hne => by unfold fset; rw [if_neg hne])
  · unfold fset
    split
    · rw [List.length_set]; exact h4 i
    · exact h4 k
theorem KinR.put {w w1 : World} {kb u a v : Nat} {f : Nat → List Value} (h : KinR w kb u a v f) {i j : Nat} (hi : i < 17) (hj : j < 4) {x : Value} (hx : leafB x = true) (e : w1 = putAt w ⟨kb, 3 + i * 4 + j, none⟩ x) : KinR w1 kb u a v (fset f i j x) ∧ Kp [kb] w w1 ∧ w1.heap.size = w.heap.size :=
  h.set hi hj hx (by rw [e]; cases x <;> first | rfl | cases hx)
theorem KinR.congr {w : World} {kb u a v : Nat} {f g : Nat → List Value} (h : KinR w kb u a v f) (e : ∀ i, f i = g i) : KinR w kb u a v g := by
  have : f = g := funext e
  exact this ▸ h
def rowC (d m : Int) (s : Sl) : List Value := [.int .u32 d, .int .i32 m, .int .u32 0, slv s]
def runC : Option Sl → List Value
  | none => rowC 0 0 ⟨none, 0, 0⟩
  | some s => rowC 1 0 s
theorem fset_row (f : Nat → List Value) (n : Nat) (r : List Value) (j : Nat) (x : Value) : ∀ i, fset (fun i => if i = n then r else f i) n j x i = if i = n then r.set j x else f i := by
  intro i
  unfold fset
  by_cases h : i = n
  · simp [h]
  · simp [h]
/-- The run with the number n, the others as f says. -/
abbrev withRow (f : Nat → List Value) (n : Nat) (r : List Value) : Nat → List Value := fun i => if i = n then r else f i
theorem KinR.row {w w1 : World} {kb u a v n j : Nat} {f : Nat → List Value} {r : List Value} (h : KinR w kb u a v (withRow f n r)) (hn : n < 17) (hj : j < 4) {x : Value} (hx : leafB x = true) (e : w1 = w.setCell ⟨kb, 3 + n * 4 + j, none⟩ x) : KinR w1 kb u a v (withRow f n (r.set j x)) ∧ Kp [kb] w w1 ∧ w1.heap.size = w.heap.size := by
  obtain ⟨h1, h2, h3⟩ := h.set hn hj hx e
  exact ⟨h1.congr (fset_row f n r j x), h2, h3⟩
theorem KinR.rowCell {w : World} {kb u a v n j : Nat} {f : Nat → List Value} {r : List Value} (h : KinR w kb u a v (withRow f n r)) (hn : n < 17) {x : Value} (hx : r[j]? = some x) : w.cell? ⟨kb, 3 + n * 4 + j, none⟩ = some x := h.cell hn (by unfold withRow; rw [if_pos rfl]; exact hx)
set_option maxHeartbeats 4000000 in
/-- The places of a run, reckoned. -/
theorem places1_s {w : World} {kb u a v n b1 b3 b15 : Nat} {f : Nat → List Value} (hN : Nums u a v) (hn1 : 1 ≤ n) (hn : n < 17) (hK : KinR w kb u a v (withRow f n (rowC 0 1 ⟨none, 0, 0⟩)))
    (h1 : Blk w b1 [.pointer (PK kb)]) (h3 : Blk w b3 [.int .i64 n]) (h15 : Blk w b15 [.pointer (some ⟨kb, 3 + n * 4, none⟩)]) (hd1 : b1 ≠ kb) (hd3 : b3 ≠ kb) (hd15 : b15 ≠ kb) :
    C.kinem_Kin_places_1 (PK b1) (PK b3) (PK b15) w (fun r w' => r = .tuple #[] ∧ ∃ s : Sl, KinR w' kb u a v (withRow f n (rowC 0 1 s)) ∧ Go.Eng.Own w' w.heap.size 1 s (iv (ni (prof a v (n * u)))) ∧ Kp [kb] w w') noP := kinem_Kin_places_1_of (by
  unfold W.kinem_Kin_places_1
  have hnu : n * u ≤ 16 * 1000 := Nat.mul_le_mul (by omega) hN.u2
  intro w1 hD
  have hK1 := hK.keep hD.kp (by simp)
  have kc := hK1.kc
  have x1 := h1.keep hD.kp (by simp)
  have x3 := h3.keep hD.kp (by simp)
  have x15 := h15.keep hD.kp (by simp)
  refine ⟨PK kb, ⟨rfl, x1.at rfl⟩, _, ⟨rfl, x3.at rfl⟩, PK kb, ⟨rfl, x1.at rfl⟩, _, ⟨rfl, kc.u⟩, ?_⟩
  have hw : IntKind.i64.wrap ((n : Int) * (u : Int)) = ((n * u : Nat) : Int) := by
    have : (n : Int) * (u : Int) = ((n * u : Nat) : Int) := by push_cast; rfl
    rw [this, IntKind.wrap_i64]; omega
  rw [hw]
  obtain ⟨E, hE⟩ : ∃ E, n * u = E := ⟨_, rfl⟩
  rw [hE] at hnu ⊢
  -- the steps' own cells
  have sK := hK1.lt
  have s1 := hD.sz
  have l1 := x1.lt
  have l15 := x15.lt
  refine kinem_Kin_steps_of ?_
  unfold W.kinem_Kin_steps
  intro c1 v2 g1 c3 v4 g3 c5 v6 g5 c7 v8 g7 c9 v10 g9
  have z2 := g1.eq
  have z4 := g3.eq
  have z6 := g5.eq
  have z8 := g7.eq
  have z10 := g9.eq
  have k10 : Kp [] w1 v10 := (((g1.kp.then0 g3.kp).then0 g5.kp).then0 g7.kp).then0 g9.kp
  refine ⟨_, rfl, fun D L lr w16 hS y17 hy17 => ?_⟩
  obtain ⟨eD, eL, s16, hD16, hL16, k16⟩ := hS
  have y1 := ((((g1.blk.keep g3.kp (by simp)).keep g5.kp (by simp)).keep g7.kp (by simp)).keep g9.kp (by simp)).keep k16 (by simp)
  have y3 := (((g3.blk.keep g5.kp (by simp)).keep g7.kp (by simp)).keep g9.kp (by simp)).keep k16 (by simp)
  have y5 := ((g5.blk.keep g7.kp (by simp)).keep g9.kp (by simp)).keep k16 (by simp)
  have y7 := (g7.blk.keep g9.kp (by simp)).keep k16 (by simp)
  have y9 := g9.blk.keep k16 (by simp)
  have k116 := k10.then0 k16
  have hK16 := hK1.keep k116 (by simp)
  have x15' := x15.keep k116 (by simp)
  refine ⟨by kernel_rfl, ?_⟩
  change C.kinem_Kin_steps_1 y17 (PK c1) (PK c9) (PK c5) (PK c3) (PK c7) w16 _ _
  obtain ⟨l, hl⟩ : ∃ l, prof a v E = l := ⟨_, rfl⟩
  have hrun := prof_run hN.a1 hN.v1 E
  rw [hl] at hrun ⊢
  have hlen : l.length ≤ E := by
    have key : ∀ k, k ≤ l.length → k ≤ posA 0 l k := by
      intro k
      induction k with
      | zero => intro _; exact Nat.zero_le _
      | succ k ih =>
        intro hk
        have := ih (by omega)
        have := (hrun.tick (k := k) (by omega)).2.2
        have := hrun.pos hN.a1 hN.v1 (fun h => by cases h) k (by omega)
        omega
    have := key l.length (Nat.le_refl _)
    have := hrun.end_le l.length
    omega
  refine use (steps_it (F := false) (kb := kb) (l := l) hN hrun (by omega) (Nat.zero_le _) (fun h => by cases h) y17 (fun x => x = kb ∨ x = L ∨ w16.heap.size ≤ x)
    (fun k W => ∃ s : Sl, KinR W kb u a v (withRow f n (rowC 0 1 s)) ∧ Go.Eng.Own W w16.heap.size 1 s (iv (ni (l.take k))) ∧ Blk W b15 [.pointer (some ⟨kb, 3 + n * 4, none⟩)] ∧ W.heap[L]? = some (lr .ready none) ∧ W.heap[D]? = some (.deferred (some [])) ∧ Kp [kb, L, c5, c3] w16 W) ?_ ?_ ?_ ⟨by omega, by omega, by omega, by omega, by omega⟩ ⟨by omega, by omega, by omega, by omega, by omega, by omega, by omega⟩ y1 y9 y5 y3 y7 ⟨⟨none, 0, 0⟩, hK16, Go.Eng.Own.nil _ _ _, x15', hL16, hD16, Kp.refl _ _⟩) ?_
  · rintro k W ⟨s, hR, _⟩
    exact hR.kc
  · rintro k W W' ⟨s, a1, a2, a3, a4, a5, a6⟩ kk
    have hlo := a2.lo
    exact ⟨s, a1.keep kk (by simp; omega), a2.keep kk (fun y hy => by have := hlo y hy; simp; omega), a3.keep kk (by simp; omega), heap_keep a4 kk (by simp; omega), heap_keep a5 kk (by simp; omega), a6.then kk (by simp)⟩
  · rintro k hk W ⟨s, a1, a2, a3, a4, a5, a6⟩
    have sW := a6.size
    have hlo := a2.lo
    refine hy17 _ W (fun r w' => r = .bool true ∧ (∃ s : Sl, KinR w' kb u a v (withRow f n (rowC 0 1 s)) ∧ Go.Eng.Own w' w16.heap.size 1 s (iv (ni (l.take (k + 1)))) ∧ Blk w' b15 [.pointer (some ⟨kb, 3 + n * 4, none⟩)] ∧ w'.heap[L]? = some (lr .ready none) ∧ w'.heap[D]? = some (.deferred (some [])) ∧ Kp [kb, L, c5, c3] w16 w') ∧ KpF (fun x => x = kb ∨ x = L ∨ w16.heap.size ≤ x) W w') a4 ⟨a4, fun w21 e21 w22 hD22 => ?_⟩
    have hLlt := heap_lt a4
    have k21 : Kp [L] W w21 := e21 ▸ put_kp W L _
    have u4 : w21.heap[L]? = some (lr .busy none) := e21 ▸ put_at _ hLlt
    have s21 : w21.heap.size = W.heap.size := by rw [e21, put_sz]
    clear e21
    have s22 := hD22.sz
    have k22 : Kp [L] W w22 := k21.then0 hD22.kp
    have q1 := a1.keep k22 (by simp; omega)
    have q2 := a2.keep k22 (fun y hy => by have := hlo y hy; simp; omega)
    have q3 := a3.keep k22 (by simp; omega)
    have q4 := heap_keep u4 hD22.kp (by simp)
    have q5 := heap_keep a5 k22 (by simp; omega)
    refine ⟨_, ⟨rfl, q3.at rfl⟩, _, ⟨rfl, q3.at rfl⟩, s, ⟨rfl, ?_⟩, fun b29 w30 hA => ?_⟩
    · rw [add_blk]
      exact q1.rowCell hn rfl
    have s30 := hA.eq
    have r1 := q1.keep hA.kp (by simp)
    have r3 := q3.keep hA.kp (by simp)
    obtain ⟨q31, n32, c33, w34, hrun34, hn32, ho34, k34, hqb⟩ := app_ints (ty := 33) q2 hA (by omega) (by rw [ni_len, List.length_take]; omega)
    have s34 := k34.size
    have far : ∀ y ∈ blkOf s, w16.heap.size ≤ y := fun y hy => (hlo y hy).1
    have nb : ∀ {r : Nat}, r < w16.heap.size → r ∉ blkOf s := fun h hm => by have := far _ hm; omega
    refine ⟨by rw [add_blk]; exact r1.rowCell hn rfl, r3.at rfl, r3.at rfl, q31, n32, c33, w34, hrun34, (q3.keep k34 (nb (by omega))).at rfl, ?_⟩
    have t1 := q1.keep k34 (nb (by omega))
    have t3 := q3.keep k34 (nb (by omega))
    have t4 := heap_keep q4 k34 (nb (by omega))
    have t5 := heap_keep q5 k34 (nb (by omega))
    show (_ ∧ canPut w34 (Addr.add ⟨kb, 3 + n * 4, none⟩ 3) _) ∧ ∀ w36 : World, w36 = putAt w34 (Addr.add ⟨kb, 3 + n * 4, none⟩ 3) _ → _
    rw [add_blk]
    refine ⟨⟨rfl, t1.can hn (by omega) _ rfl⟩, fun w36 e36 => ?_⟩
    obtain ⟨p1, k36, s36⟩ := t1.row hn (by omega) (x := slv ⟨q31, n32, c33⟩) rfl e36
    have hlo34 := ho34.lo
    have p2 := ho34.keep k36 (fun y hy => by have := hlo34 y hy; simp; omega)
    have p3 := t3.keep k36 (by simpa using hd15)
    have p4 := heap_keep t4 k36 (by simp; omega)
    have p5 := heap_keep t5 k36 (by simp; omega)
    refine ⟨p4, fun w37 e37 => ⟨rfl, ?_⟩⟩
    have hLlt2 := heap_lt p4
    have k37 : Kp [L] w36 w37 := e37 ▸ put_kp w36 L _
    have o4 : w37.heap[L]? = some (lr .ready none) := e37 ▸ put_at _ hLlt2
    clear e37
    have hx : posA 0 l (k + 1) = l[k] := by
      unfold posA
      rw [Nat.min_eq_left (by omega), List.getD_cons_succ]
      simp [List.getD_eq_getElem?_getD, hk]
    have hsn : ni (l.take k) ++ [((posA 0 l (k + 1) : Nat) : Int)] = ni (l.take (k + 1)) := by
      have : l.take (k + 1) = l.take k ++ [l[k]] := by rw [List.take_add_one, List.getElem?_eq_getElem hk]; rfl
      rw [hx, this]
      simp only [ni, List.map_append, List.map_cons, List.map_nil]
    rw [hsn] at p2
    refine ⟨⟨⟨q31, n32, c33⟩, p1.keep k37 (by simp; omega), p2.keep k37 (fun y hy => by have := hlo34 y hy; simp; omega), p3.keep k37 (by simp; omega), o4, heap_keep p5 k37 (by simp; omega), ?_⟩, ?_⟩
    · exact (((a6.then k22 (by simp)).then k34 (fun y hy => .inr (far y hy))).then k36 (by simp)).then k37 (by simp)
    · exact (((k22.toF (F := fun x => x = kb ∨ x = L ∨ w16.heap.size ≤ x) (by simp)).thenK k34 (fun y hy => .inl (.inr (.inr (far y hy))))).thenK k36 (by simp)).thenK k37 (by simp)
  · rintro _ w39 ⟨rfl, s, a1, a2, a3, a4, a5, a6⟩
    rw [List.take_length] at a2
    have s39 := a6.size
    have hlo := a2.lo
    refine ⟨.ready, none, a4, by simp, fun w40 e40 => ?_⟩
    have hLlt := heap_lt a4
    have k40 : Kp [L] w39 w40 := e40 ▸ put_kp w39 L _
    clear e40
    have b5 := heap_keep a5 k40 (by simp; omega)
    show w40.heap[D]? = some (.deferred (some [])) ∧ _
    refine ⟨b5, fun w41 e41 => ?_⟩
    have k41 : Kp [D] w40 w41 := e41 ▸ put_kp w40 D _
    refine ⟨rfl, s, (a1.keep k40 (by simp; omega)).keep k41 (by simp; omega), ?_, ?_⟩
    · exact ((a2.keep k40 (fun y hy => by have := hlo y hy; simp; omega)).keep k41 (fun y hy => by have := hlo y hy; simp; omega)).mono (by omega)
    · refine ((((hD.kp.then0 k116).up [kb]).then a6 ?_).then k40 ?_).then k41 ?_
      · intro x hx
        simp at hx
        rcases hx with rfl | rfl | rfl | rfl
        · exact .inl (by simp)
        · exact .inr (by omega)
        · exact .inr (by omega)
        · exact .inr (by omega)
      · simp; omega
      · simp; omega)
end Go.Proofs.Ytongkhanbpboaaa
