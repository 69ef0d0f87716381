/- How large a state's arguments and bytes are. No conditions. -/
import Derived.Test.YtocbjadhcfjfiaaCodX
import Derived.Test.YtocbjadhcfjfiaaCodK
namespace Go.Proofs.Ytocbjadhcfjfiaa
open Go.RowKit Go.Eng Go.ChangeShapes Go.WideShapes
set_option linter.unusedVariables false
set_option linter.unusedSimpArgs false
def szSt (m : M.api_State) : Nat := (m.Stacks.length + (m.Stacks.map fun x => x.Bins.length).sum) + (m.Robots.length + (m.Robots.map fun x => x.Moves.length).sum) + (m.Ports.length + (m.Ports.map fun x => x.Queue.length).sum) + m.Orders.length + m.Jobs.length
theorem bulk_all {H : Type} {μ : Type} {f : μ → Nat} : ∀ (E : List (DataW H)) (L : List μ), E.length = L.length → (∀ (i : Nat) (d : DataW H) (m : μ), E[i]? = some d → L[i]? = some m → 1 + f m ≤ Rows.uptoBulk d) → L.length + (L.map f).sum ≤ Rows.uptoBulkAll E
  | [], [], _, _ => Nat.zero_le _
  | [], _ :: _, h, _ => by cases h
  | _ :: _, [], h, _ => by cases h
  | d :: E, m :: L, h, hh => by
    have h0 := hh 0 d m rfl rfl
    have h1 := bulk_all E L (by simpa using h) (fun i d' m' hd hm => hh (i + 1) d' m' (by simpa using hd) (by simpa using hm))
    rw [Rows.uptoBulkAll, List.length_cons, List.map_cons, List.sum_cons]
    omega
section
variable {H : Type} {enc : TypeId × Value → H} {P : Program} {w : World} {base : Nat} {spare : Nat → Bool} {held : Bool}
theorem list_bulk {α μ : Type} {sz : Nat} {v : α → Value} {R : α → μ → Prop} {f : μ → Nat} {t e : TypeId} (ht : P.underlying t = some (.slice e)) (hc : P.cellsOf e = sz) (hv : ∀ x, ∃ cs, v x = .agg cs ∧ (v x).cells.toList.length = sz)
    {fuel : Nat} {s : Sl} {L : List μ} {x : DataW H × List MemPlace} (h : DataW.trod enc P w base spare held fuel t [.slice s.a s.len s.cap] = some x) (hI : IsL w sz v R s L)
    (he : ∀ (n : Nat) (y : DataW H × List MemPlace) (z : α) (m : μ), DataW.trod enc P w base spare held n e (v z).cells.toList = some y → R z m → 1 + f m ≤ Rows.uptoBulk y.1) : L.length + (L.map f).sum ≤ Rows.uptoBulk x.1 := by
  have hl := hI.len
  rcases DataW.trod_slice ht h with ⟨h1, _⟩ | ⟨a, len, cap, elems, rest, n, _, h1, rfl, _, _, _, h2, h3, _⟩
  · simp at h1
    obtain ⟨_, h1, _⟩ := h1
    have : L = [] := List.length_eq_zero_iff.1 (by omega)
    subst this
    exact Nat.zero_le _
  · simp at h1
    obtain ⟨ha, hn, _⟩ := h1
    show _ ≤ Rows.uptoBulk (.slice (elems.map (·.1)) (rest.map (·.1)))
    rw [Rows.uptoBulk]
    have key : L.length + (L.map f).sum ≤ Rows.uptoBulkAll (elems.map (·.1)) := by
      refine bulk_all _ _ (by rw [List.length_map]; omega) (fun i d m hd hm => ?_)
      obtain ⟨A, z, hA, hr, hR⟩ := hI.at_ i m hm
      rw [ha] at hA
      injection hA with hA
      subst hA
      have hi : i < len := by have := (List.getElem?_eq_some_iff.1 hm).1; omega
      have h4 := h3 i hi
      rw [List.getElem?_map, Option.map_eq_some_iff] at hd
      obtain ⟨y, hy, rfl⟩ := hd
      rw [hy, Option.bind_eq_some_iff] at h4
      obtain ⟨cs', c1, c2⟩ := h4
      rw [hc] at c1
      obtain ⟨hlen, _, hat⟩ := World.cells?_some c1
      obtain ⟨cs, ev, hvl⟩ := hv z
      have : cs' = (v z).cells.toList := by
        refine List.ext_getElem? fun j => ?_
        by_cases hj : j < sz
        · rw [← hat j hj, List.getElem?_eq_getElem (by omega)]
          rw [ev] at hr
          have hr' : Go.Eng.World.has w (a.add (i * sz)) cs.toList := hr
          refine hr' j _ ?_
          have e2 : (v z).cells.toList = cs.toList := by rw [ev]; rfl
          rw [← e2]
          exact List.getElem?_eq_getElem (by omega)
        · rw [List.getElem?_eq_none (by omega), List.getElem?_eq_none (by omega)]
      subst this
      exact he n y z m c2 hR
    omega
end
section
variable {H : Type} {enc : TypeId × Value → H} {W : World} {base : Nat} {spare : Nat → Bool} {held : Bool} {fuel : Nat} {x : DataW H × List MemPlace}
theorem field_one {fs : Array Field} {t : TypeId} {cs : List Value} {i : Nat} {f : Field} (ht : Try.prog.underlying t = some (.struct fs)) (h : DataW.trod enc Try.prog W base spare held fuel t cs = some x) (hf : fs[i]? = some f) : ∃ n y, DataW.trod enc Try.prog W base spare held n f.type ((cs.drop f.offset).take (Try.prog.cellsOf f.type)) = some y ∧ 1 + Rows.uptoBulk y.1 ≤ Rows.uptoBulk x.1 := by
  obtain ⟨xs, n, _, hx0, hl, hx, hff⟩ := DataW.trod_struct ht h
  have h1 := hff i f hf
  have hlt : i < fs.size := (Array.getElem?_eq_some_iff.1 hf).1
  rw [List.getElem?_eq_getElem (by omega)] at h1
  refine ⟨n, _, h1, ?_⟩
  rw [hx0]
  show _ ≤ Rows.uptoBulk (.agg (xs.map (·.1)))
  rw [Rows.uptoBulk]
  have := bulk_mem (d := (xs[i]'(by omega)).1) (L := xs.map (·.1)) (List.mem_map.2 ⟨_, List.getElem_mem _, rfl⟩)
  omega
set_option maxRecDepth 100000 in
theorem stack_bulk {s : S.api_Stack} {m : M.api_Stack} (h : DataW.trod enc Try.prog W base spare held fuel 110 (S.api_Stack.v s).cells.toList = some x) (R : Is.api_Stack W s m) : 1 + m.Bins.length ≤ Rows.uptoBulk x.1 := by
  obtain ⟨n, y, h1, h2⟩ := field_one (i := 1) Try.underlying110 h rfl
  have h3 : DataW.trod enc Try.prog W base spare held n 108 [.slice s.Bins.a s.Bins.len s.Bins.cap] = some y := h1
  have := slice_bulk Try.underlying108 h3
  have := R.2.len
  omega
set_option maxRecDepth 100000 in
theorem robot_bulk {s : S.api_Robot} {m : M.api_Robot} (h : DataW.trod enc Try.prog W base spare held fuel 116 (S.api_Robot.v s).cells.toList = some x) (R : Is.api_Robot W s m) : 1 + m.Moves.length ≤ Rows.uptoBulk x.1 := by
  obtain ⟨n, y, h1, h2⟩ := field_one (i := 3) Try.underlying116 h rfl
  have h3 : DataW.trod enc Try.prog W base spare held n 61 [.slice s.Moves.a s.Moves.len s.Moves.cap] = some y := h1
  have := slice_bulk Try.underlying61 h3
  have := R.2.2.2.1.len
  omega
set_option maxRecDepth 100000 in
theorem port_bulk {s : S.api_Port} {m : M.api_Port} (h : DataW.trod enc Try.prog W base spare held fuel 120 (S.api_Port.v s).cells.toList = some x) (R : Is.api_Port W s m) : 1 + m.Queue.length ≤ Rows.uptoBulk x.1 := by
  obtain ⟨n, y, h1, h2⟩ := field_one (i := 2) Try.underlying120 h rfl
  have h3 : DataW.trod enc Try.prog W base spare held n 108 [.slice s.Queue.a s.Queue.len s.Queue.cap] = some y := h1
  have := slice_bulk Try.underlying108 h3
  have := R.2.2.len
  omega
set_option maxRecDepth 100000 in
theorem state_bulk {s : S.api_State} {m : M.api_State} (R : Is.api_State W s m) (h : DataW.trod enc Try.prog W base spare held fuel 78 (S.api_State.v s).cells.toList = some x) (hb : Rows.uptoBulk x.1 ≤ 1048576) : szSt m ≤ 1048576 := by
  obtain ⟨_, _, _, R3, R4, R5, R6, R7, _⟩ := R
  obtain ⟨xs, n, _, hx0, hl, hx, hff⟩ := DataW.trod_struct Try.underlying78 h
  have hxl : xs.length = 10 := hx
  match xs, hxl with
  | [y0, y1, y2, y3, y4, y5, y6, y7, y8, y9], _ =>
    have t3 : DataW.trod enc Try.prog W base spare held n 72 [.slice s.Stacks.a s.Stacks.len s.Stacks.cap] = some y3 := hff 3 _ rfl
    have t4 : DataW.trod enc Try.prog W base spare held n 73 [.slice s.Robots.a s.Robots.len s.Robots.cap] = some y4 := hff 4 _ rfl
    have t5 : DataW.trod enc Try.prog W base spare held n 74 [.slice s.Ports.a s.Ports.len s.Ports.cap] = some y5 := hff 5 _ rfl
    have t6 : DataW.trod enc Try.prog W base spare held n 75 [.slice s.Orders.a s.Orders.len s.Orders.cap] = some y6 := hff 6 _ rfl
    have t7 : DataW.trod enc Try.prog W base spare held n 76 [.slice s.Jobs.a s.Jobs.len s.Jobs.cap] = some y7 := hff 7 _ rfl
    have b3 := list_bulk (f := fun x : M.api_Stack => x.Bins.length) Try.underlying72 (sz := 3) (by kernel_rfl) (fun _ => ⟨_, rfl, rfl⟩) t3 R3 (fun n y z m hy hR => stack_bulk hy hR)
    have b4 := list_bulk (f := fun x : M.api_Robot => x.Moves.length) Try.underlying73 (sz := 9) (by kernel_rfl) (fun _ => ⟨_, rfl, rfl⟩) t4 R4 (fun n y z m hy hR => robot_bulk hy hR)
    have b5 := list_bulk (f := fun x : M.api_Port => x.Queue.length) Try.underlying74 (sz := 3) (by kernel_rfl) (fun _ => ⟨_, rfl, rfl⟩) t5 R5 (fun n y z m hy hR => port_bulk hy hR)
    have b6 := slice_bulk Try.underlying75 t6
    have b7 := slice_bulk Try.underlying76 t7
    have e6 := R6.len
    have e7 := R7.len
    rw [hx0] at hb
    have hb' : Rows.uptoBulk (.agg ([y0, y1, y2, y3, y4, y5, y6, y7, y8, y9].map (·.1))) ≤ 1048576 := hb
    simp only [List.map_cons, List.map_nil, Rows.uptoBulk, Rows.uptoBulkAll] at hb'
    unfold szSt
    omega
end
-- bytes
theorem flatL_le {α : Type} {b : α → Bs} {f : α → Nat} {k : Nat} (h : ∀ x, (b x).length ≤ k * (1 + f x)) : ∀ L : List α, (L.flatMap b).length ≤ k * (L.length + (L.map f).sum)
  | [] => Nat.zero_le _
  | x :: L => by
    rw [List.flatMap_cons, List.length_append, List.length_cons, List.map_cons, List.sum_cons]
    have h1 := flatL_le h L
    have h2 := h x
    have h3 : k * (L.length + 1 + (f x + (L.map f).sum)) = k * (1 + f x) + k * (L.length + (L.map f).sum) := by rw [← Nat.mul_add]; congr 1; omega
    omega
theorem ints_10 : ∀ L : List Int, (L.flatMap putN).length ≤ L.length * 10
  | [] => Nat.le_refl _
  | x :: L => by
    rw [List.flatMap_cons, List.length_append, List.length_cons]
    have := ints_10 L
    have := (putN_len x).2
    omega
theorem bStack_le (m : M.api_Stack) : (bStack m).length ≤ 92 * (1 + m.Bins.length) := by
  have h1 := (putN_len m.At.X).2; have h2 := (putN_len m.At.Y).2; have h3 := (putN_len (m.Bins.length : Nat)).2; have h4 := ints_10 m.Bins
  simp only [bStack, bInts, bL, bCell, List.length_append]
  omega
theorem bPort_le (m : M.api_Port) : (bPort m).length ≤ 92 * (1 + m.Queue.length) := by
  have h1 := (putN_len m.Bin).2; have h2 := (putN_len m.Active).2; have h3 := (putN_len (m.Queue.length : Nat)).2; have h4 := ints_10 m.Queue
  simp only [bPort, bInts, bL, List.length_append]
  omega
theorem bRobot_le (m : M.api_Robot) : (bRobot m).length ≤ 92 * (1 + m.Moves.length) := by
  have h1 := (putN_len m.At.At.X).2; have h2 := (putN_len m.At.At.Y).2; have h3 := (putN_len (m.Moves.length : Nat)).2; have h4 := flat_92 m.Moves; have h5 := (putN_len m.Load).2; have h6 := (putN_len m.Job).2; have h7 := (putN_len m.Num).2
  simp only [bRobot, bMoves, bL, bPose, bCell, putF, List.length_append, List.length_cons, List.length_nil]
  omega
theorem bOrder_le (m : S.api_Order) : (bOrder m).length ≤ 92 * (1 + 0) := by
  have h1 := (putN_len m.ID).2; have h2 := (putN_len m.Bin).2; have h3 := (putN_len m.Port).2; have h4 := (putN_len m.State).2
  simp only [bOrder, List.length_append]
  omega
theorem bJob_le (m : S.api_Job) : (bJob m).length ≤ 92 * (1 + 0) := by
  have h1 := (putN_len m.ID).2; have h2 := (putN_len m.Kind).2; have h3 := (putN_len m.Order).2; have h4 := (putN_len m.Bin).2; have h5 := (putN_len m.Robot).2; have h6 := (putN_len m.From.X).2; have h7 := (putN_len m.From.Y).2; have h8 := (putN_len m.To.X).2; have h9 := (putN_len m.To.Y).2
  simp only [bJob, bCell, List.length_append]
  omega
theorem sum_zero {α : Type} (L : List α) : (L.map fun _ => 0).sum = 0 := by induction L with
  | nil => rfl
  | cons x L ih => rw [List.map_cons, List.sum_cons, ih]
theorem bState_le (m : M.api_State) : (bState m).length ≤ 92 * szSt m + 100 := by
  have h1 := (putN_len m.Seq).2; have h2 := (putN_len m.Epoch).2; have h3 := (putN_len m.NextOrder).2; have h4 := (putN_len m.NextJob).2
  have l1 := (putN_len (m.Stacks.length : Nat)).2; have l2 := (putN_len (m.Robots.length : Nat)).2; have l3 := (putN_len (m.Ports.length : Nat)).2; have l4 := (putN_len (m.Orders.length : Nat)).2; have l5 := (putN_len (m.Jobs.length : Nat)).2
  have f1 := flatL_le bStack_le m.Stacks; have f2 := flatL_le bRobot_le m.Robots; have f3 := flatL_le bPort_le m.Ports; have f4 := flatL_le (f := fun _ => 0) bOrder_le m.Orders; have f5 := flatL_le (f := fun _ => 0) bJob_le m.Jobs
  rw [sum_zero] at f4 f5
  unfold szSt
  simp only [bState, bL, putF, List.length_append, List.length_cons, List.length_nil]
  omega
theorem bState_small {m : M.api_State} (h : szSt m ≤ 1048576) : (bState m).length ≤ 98000000 := by
  have := bState_le m
  omega
theorem rd_lt {w : World} {a : Addr} {v : Value} {n : Nat} (hr : Go.Eng.rd w (a.add n) v) (hv : leafB v = true ∨ ∃ c cs, v = .agg ⟨c :: cs⟩) : a.block < w.heap.size := by
  rcases hv with hl | ⟨c, cs, e⟩
  · have := has_lt (w := w) (a := a.add n) (xs := [v]) (by
      intro i u hi
      cases i with
      | zero => simp at hi; subst hi; rw [add_add', Nat.add_zero]; exact rd_leaf hr hl
      | succ i => simp at hi) (by simp)
    rwa [add_block] at this
  · rw [e] at hr
    have hr' : Go.Eng.World.has w (a.add n) (c :: cs) := hr
    have := has_lt hr' (by simp)
    rwa [add_block] at this
theorem isl_lt {α μ : Type} {w : World} {sz : Nat} {v : α → Value} {R : α → μ → Prop} {s : Sl} {L : List μ} (h : IsL w sz v R s L) (hv : ∀ x, leafB (v x) = true ∨ ∃ c cs, v x = .agg ⟨c :: cs⟩) : 0 < L.length → ∀ y ∈ blkOf s, y < w.heap.size := fun h0 y hy => by
  obtain ⟨a, x, ha, hr, _⟩ := h.get h0
  unfold blkOf at hy
  rw [ha] at hy
  simp only [List.mem_singleton] at hy
  subst hy
  exact rd_lt hr (hv x)
theorem rdl_lt {α : Type} {w : World} {sz : Nat} {v : α → Value} {s : Sl} {L : List α} (h : RdL w sz v s L) (hv : ∀ x, leafB (v x) = true ∨ ∃ c cs, v x = .agg ⟨c :: cs⟩) : 0 < L.length → ∀ y ∈ blkOf s, y < w.heap.size := fun h0 y hy => by
  obtain ⟨a, ha, hr⟩ := h.get h0
  unfold blkOf at hy
  rw [ha] at hy
  simp only [List.mem_singleton] at hy
  subst hy
  exact rd_lt hr (hv _)
theorem rdF_of {α : Type} {w : World} {sz : Nat} {v : α → Value} {s : Sl} {L : List α} (h : RdL w sz v s L) (hv : ∀ x, leafB (v x) = true ∨ ∃ c cs, v x = .agg ⟨c :: cs⟩) : RdF w (fun y => y < w.heap.size) sz v s L := ⟨h, rdl_lt h hv⟩
/-- A state that came as an argument. -/
theorem stR_of {w : World} {s : S.api_State} {m : M.api_State} (R : Is.api_State w s m) : StR w (fun y => y < w.heap.size) s m := by
  obtain ⟨r0, r1, r2, r3, r4, r5, r6, r7, r8, r9⟩ := R
  refine ⟨⟨r0, r1, r2, r8, r9⟩, ⟨isl_monoZ r3 (Kp.refl [] w) (fun _ _ _ => by simp) (fun x m _ h => ⟨h.1, rdF_of h.2 (fun _ => .inl rfl)⟩), isl_lt r3 (fun _ => .inr ⟨_, _, rfl⟩)⟩, ⟨isl_monoZ r4 (Kp.refl [] w) (fun _ _ _ => by simp) (fun x m _ h => ⟨⟨h.1, h.2.1, h.2.2.1, h.2.2.2.2.1, h.2.2.2.2.2.1, h.2.2.2.2.2.2⟩, rdF_of h.2.2.2.1 (fun _ => .inr ⟨_, _, rfl⟩)⟩), isl_lt r4 (fun _ => .inr ⟨_, _, rfl⟩)⟩, ⟨isl_monoZ r5 (Kp.refl [] w) (fun _ _ _ => by simp) (fun x m _ h => ⟨⟨h.1, h.2.1⟩, rdF_of h.2.2 (fun _ => .inl rfl)⟩), isl_lt r5 (fun _ => .inr ⟨_, _, rfl⟩)⟩, rdF_of r6 (fun _ => .inr ⟨_, _, rfl⟩), rdF_of r7 (fun _ => .inr ⟨_, _, rfl⟩)⟩
theorem mem_sum {α : Type} {f : α → Nat} {x : α} : ∀ {L : List α}, x ∈ L → f x ≤ (L.map f).sum
  | [], h => by cases h
  | y :: L, h => by
    rw [List.map_cons, List.sum_cons]
    simp only [List.mem_cons] at h
    rcases h with rfl | h
    · omega
    · have := mem_sum (f := f) h; omega
theorem okState_of {m : M.api_State} (Q : Wf.api_State m) (hz : szSt m ≤ 1048576) : okState m := by
  obtain ⟨q0, q1, _, q3, q4, q5, q6, q7, q8, q9⟩ := Q
  unfold szSt at hz
  refine ⟨⟨⟨⟨⟨⟨⟨⟨⟨q0, q1⟩, trivial⟩, fun x hx => ?_, by omega, by omega⟩, fun x hx => ?_, by omega, by omega⟩, fun x hx => ?_, by omega, by omega⟩, fun x hx => ?_, by omega, by omega⟩, fun x hx => ?_, by omega, by omega⟩, q8⟩, q9⟩
  · have := mem_sum (f := fun x : M.api_Stack => x.Bins.length) hx
    obtain ⟨a, b⟩ := q3 x hx
    exact ⟨a, b, by omega, by omega⟩
  · have := mem_sum (f := fun x : M.api_Robot => x.Moves.length) hx
    obtain ⟨a, b, c, d, _, e, _⟩ := q4 x hx
    exact ⟨⟨⟨⟨⟨⟨⟨a.1, a.2⟩, b⟩, c⟩, fun y hy => okMove_of (d y hy), by omega, by omega⟩, trivial⟩, e⟩, trivial⟩
  · have := mem_sum (f := fun x : M.api_Port => x.Queue.length) hx
    obtain ⟨a, b, c⟩ := q5 x hx
    exact ⟨⟨a, b⟩, c, by omega, by omega⟩
  · obtain ⟨a, b, c, d⟩ := q6 x hx
    exact ⟨⟨⟨a, b⟩, c⟩, d⟩
  · obtain ⟨a, b, c, d, e, f, g⟩ := q7 x hx
    exact ⟨⟨⟨⟨⟨⟨a, b⟩, c⟩, d⟩, e⟩, f⟩, g⟩
end Go.Proofs.Ytocbjadhcfjfiaa
