/- Lists whose items have lists of their own: read, grown. No conditions. -/
import Derived.Test.YtocbjadhcfjfiaaCodT
namespace Go.Proofs.Ytocbjadhcfjfiaa
open Go.RowKit Go.Eng
set_option linter.unusedVariables false
set_option linter.unusedSimpArgs false
theorem rdl_keepZ {α : Type} {w w' : World} {sz : Nat} {enc : α → Value} {s : Sl} {L : List α} {l : List Nat} (h : RdL w sz enc s L) (k : Kp l w w') (hn : 0 < L.length → ∀ x ∈ blkOf s, x ∉ l) : RdL w' sz enc s L := by
  by_cases h0 : 0 < L.length
  · exact h.keep k (hn h0)
  · exact ⟨h.len, fun i x hx => absurd (List.getElem?_eq_some_iff.1 hx).1 (by omega)⟩
theorem isl_monoZ {α μ : Type} {w w' : World} {sz : Nat} {v : α → Value} {R R' : α → μ → Prop} {s : Sl} {L : List μ} {l : List Nat} (h : IsL w sz v R s L) (k : Kp l w w') (hn : 0 < L.length → ∀ x ∈ blkOf s, x ∉ l) (hR : ∀ x m, m ∈ L → R x m → R' x m) : IsL w' sz v R' s L := by
  by_cases h0 : 0 < L.length
  · exact h.mono k (hn h0) hR
  · exact ⟨h.len, fun i x hx => absurd (List.getElem?_eq_some_iff.1 hx).1 (by omega)⟩
/-- A list that reads, its block in F. -/
structure RdF {α : Type} (w : World) (F : Nat → Prop) (sz : Nat) (v : α → Value) (s : Sl) (L : List α) : Prop where
  rd : RdL w sz v s L
  lo : 0 < L.length → ∀ y ∈ blkOf s, F y
theorem RdF.keep {α : Type} {w w' : World} {F : Nat → Prop} {sz : Nat} {v : α → Value} {s : Sl} {L : List α} {l : List Nat} (h : RdF w F sz v s L) (k : Kp l w w') (hn : ∀ y, F y → y ∉ l) : RdF w' F sz v s L :=
  ⟨rdl_keepZ h.rd k (fun h0 y hy => hn y (h.lo h0 y hy)), h.lo⟩
theorem RdF.mono {α : Type} {w : World} {F G : Nat → Prop} {sz : Nat} {v : α → Value} {s : Sl} {L : List α} (h : RdF w F sz v s L) (hF : ∀ y, F y → G y) : RdF w G sz v s L := ⟨h.rd, fun h0 y hy => hF y (h.lo h0 y hy)⟩
structure IsF {α μ : Type} (w : World) (F : Nat → Prop) (sz : Nat) (v : α → Value) (R : α → μ → Prop) (s : Sl) (L : List μ) : Prop where
  is : IsL w sz v R s L
  lo : 0 < L.length → ∀ y ∈ blkOf s, F y
theorem IsF.keep {α μ : Type} {w w' : World} {F : Nat → Prop} {sz : Nat} {v : α → Value} {R R' : α → μ → Prop} {s : Sl} {L : List μ} {l : List Nat} (h : IsF w F sz v R s L) (k : Kp l w w') (hn : ∀ y, F y → y ∉ l) (hR : ∀ x m, m ∈ L → R x m → R' x m) : IsF w' F sz v R' s L :=
  ⟨isl_monoZ h.is k (fun h0 y hy => hn y (h.lo h0 y hy)) hR, h.lo⟩
theorem IsF.mono {α μ : Type} {w : World} {F G : Nat → Prop} {sz : Nat} {v : α → Value} {R R' : α → μ → Prop} {s : Sl} {L : List μ} (h : IsF w F sz v R s L) (hF : ∀ y, F y → G y) (hR : ∀ x m, m ∈ L → R x m → R' x m) : IsF w G sz v R' s L :=
  ⟨isl_monoZ h.is (Kp.refl [] w) (fun _ _ _ => by simp) hR, fun h0 y hy => hF y (h.lo h0 y hy)⟩
/-- What an item's own lists need: they stay, and their blocks may be more. -/
structure Stays {α μ : Type} (R : World → (Nat → Prop) → α → μ → Prop) : Prop where
  keep : ∀ {w w' : World} {F : Nat → Prop} {l : List Nat} {x : α} {m : μ}, R w F x m → Kp l w w' → (∀ y, F y → y ∉ l) → R w' F x m
  mono : ∀ {w : World} {F G : Nat → Prop} {x : α} {m : μ}, R w F x m → (∀ y, F y → G y) → R w G x m
def StkR (w : World) (F : Nat → Prop) (x : S.api_Stack) (m : M.api_Stack) : Prop := x.At = m.At ∧ RdF w F 1 (Value.int .i64) x.Bins m.Bins
def RobR (w : World) (F : Nat → Prop) (x : S.api_Robot) (m : M.api_Robot) : Prop := (x.At = m.At ∧ x.Load = m.Load ∧ x.Job = m.Job ∧ x.Out = m.Out ∧ x.Num = m.Num ∧ x.Stands = m.Stands) ∧ RdF w F 11 S.api_Move.v x.Moves m.Moves
def PrtR (w : World) (F : Nat → Prop) (x : S.api_Port) (m : M.api_Port) : Prop := (x.Bin = m.Bin ∧ x.Active = m.Active) ∧ RdF w F 1 (Value.int .i64) x.Queue m.Queue
theorem stk_stays : Stays StkR := ⟨fun h k hn => ⟨h.1, h.2.keep k hn⟩, fun h hF => ⟨h.1, h.2.mono hF⟩⟩
theorem rob_stays : Stays RobR := ⟨fun h k hn => ⟨h.1, h.2.keep k hn⟩, fun h hF => ⟨h.1, h.2.mono hF⟩⟩
theorem prt_stays : Stays PrtR := ⟨fun h k hn => ⟨h.1, h.2.keep k hn⟩, fun h hF => ⟨h.1, h.2.mono hF⟩⟩
/-- A state in memory, all its blocks in F. -/
structure StR (w : World) (F : Nat → Prop) (x : S.api_State) (m : M.api_State) : Prop where
  sc : x.Seq = m.Seq ∧ x.Epoch = m.Epoch ∧ x.Held = m.Held ∧ x.NextOrder = m.NextOrder ∧ x.NextJob = m.NextJob
  st : IsF w F 3 S.api_Stack.v (StkR w F) x.Stacks m.Stacks
  ro : IsF w F 9 S.api_Robot.v (RobR w F) x.Robots m.Robots
  po : IsF w F 3 S.api_Port.v (PrtR w F) x.Ports m.Ports
  od : RdF w F 4 S.api_Order.v x.Orders m.Orders
  jo : RdF w F 9 S.api_Job.v x.Jobs m.Jobs
theorem StR.keep {w w' : World} {F : Nat → Prop} {x : S.api_State} {m : M.api_State} {l : List Nat} (h : StR w F x m) (k : Kp l w w') (hn : ∀ y, F y → y ∉ l) : StR w' F x m :=
  ⟨h.sc, h.st.keep k hn (fun _ _ _ h => stk_stays.keep h k hn), h.ro.keep k hn (fun _ _ _ h => rob_stays.keep h k hn), h.po.keep k hn (fun _ _ _ h => prt_stays.keep h k hn), h.od.keep k hn, h.jo.keep k hn⟩
theorem StR.keep0 {w w' : World} {F : Nat → Prop} {x : S.api_State} {m : M.api_State} (h : StR w F x m) (k : Kp [] w w') : StR w' F x m := h.keep k (fun _ _ => by simp)
theorem StR.mono {w : World} {F G : Nat → Prop} {x : S.api_State} {m : M.api_State} (h : StR w F x m) (hF : ∀ y, F y → G y) : StR w G x m :=
  ⟨h.sc, h.st.mono hF (fun _ _ _ h => stk_stays.mono h hF), h.ro.mono hF (fun _ _ _ h => rob_stays.mono h hF), h.po.mono hF (fun _ _ _ h => prt_stays.mono h hF), h.od.mono hF, h.jo.mono hF⟩
/-- A list of one's own whose items have lists: what grows. -/
structure LE {α μ : Type} (w : World) (B sz : Nat) (cf : α → List Value) (R : World → (Nat → Prop) → α → μ → Prop) (s : Sl) (L : List μ) : Prop where
  ex : ∃ xs : List α, Go.Eng.Own w B sz s (xs.flatMap cf) ∧ xs.length = L.length ∧ ∀ (i : Nat) (x : α) (m : μ), xs[i]? = some x → L[i]? = some m → R w (fun y => B ≤ y ∧ y < w.heap.size ∧ y ∉ blkOf s) x m
theorem LE.nil {α μ : Type} (w : World) (B sz : Nat) (cf : α → List Value) (R : World → (Nat → Prop) → α → μ → Prop) : LE w B sz cf R ⟨none, 0, 0⟩ [] := ⟨[], Go.Eng.Own.nil w B sz, rfl, fun i x m hx => by simp at hx⟩
theorem LE.keep {α μ : Type} {w w' : World} {B sz : Nat} {cf : α → List Value} {R : World → (Nat → Prop) → α → μ → Prop} (hR : Stays R) {s : Sl} {L : List μ} {l : List Nat} (h : LE w B sz cf R s L) (k : Kp l w w') (hn : ∀ y, B ≤ y → y < w.heap.size → y ∉ l) : LE w' B sz cf R s L := by
  obtain ⟨xs, h1, h2, h3⟩ := h.ex
  have hs := k.size
  exact ⟨xs, h1.keep k (fun y hy => hn y (h1.lo y hy).1 (h1.lo y hy).2), h2, fun i x m hx hm => hR.mono (hR.keep (h3 i x m hx hm) k (fun y hy => hn y hy.1 hy.2.1)) (fun y hy => ⟨hy.1, by omega, hy.2.2⟩)⟩
theorem LE.keep0 {α μ : Type} {w w' : World} {B sz : Nat} {cf : α → List Value} {R : World → (Nat → Prop) → α → μ → Prop} (hR : Stays R) {s : Sl} {L : List μ} (h : LE w B sz cf R s L) (k : Kp [] w w') : LE w' B sz cf R s L := h.keep hR k (fun _ _ _ => by simp)
theorem LE.lo {α μ : Type} {w : World} {B sz : Nat} {cf : α → List Value} {R : World → (Nat → Prop) → α → μ → Prop} {s : Sl} {L : List μ} (h : LE w B sz cf R s L) : ∀ y ∈ blkOf s, B ≤ y ∧ y < w.heap.size := by
  obtain ⟨xs, h1, h2, h3⟩ := h.ex
  exact h1.lo
theorem LE.len {α μ : Type} {w : World} {B sz : Nat} {cf : α → List Value} {R : World → (Nat → Prop) → α → μ → Prop} {s : Sl} {L : List μ} (h : LE w B sz cf R s L) (hcf : ∀ x, (cf x).length = sz) (hz : 0 < sz) : L.length = s.len := by
  obtain ⟨xs, h1, h2, h3⟩ := h.ex
  have := h1.len
  rw [flat_len hcf] at this
  rw [← h2]
  exact Nat.eq_of_mul_eq_mul_right hz this
theorem LE.mono {α μ : Type} {w : World} {B B' sz : Nat} {cf : α → List Value} {R : World → (Nat → Prop) → α → μ → Prop} (hR : Stays R) {s : Sl} {L : List μ} (h : LE w B sz cf R s L) (hB : B' ≤ B) : LE w B' sz cf R s L := by
  obtain ⟨xs, h1, h2, h3⟩ := h.ex
  exact ⟨xs, h1.mono hB, h2, fun i x m hx hm => hR.mono (h3 i x m hx hm) (fun y hy => ⟨by omega, hy.2⟩)⟩
/-- One item more. -/
theorem LE.push {α μ : Type} {P : Program} {t ty e T : TypeId} {z : Value} {sz bytes : Nat} {cf : α → List Value} {R : World → (Nat → Prop) → α → μ → Prop} (hR : Stays R) (ht : P.underlying t = some (.slice e)) (hinfo : (P.info? e).map (fun i => (i.zero, i.size, i.bytes)) = some (some z, sz, bytes)) (hzs : z.cells.size = sz) (hpos : 0 < sz) (hb : bytes ≤ 1000)
    (hcf : ∀ x, (cf x).length = sz) (hlf : ∀ x, ∀ u ∈ cf x, leafB u = true) {w w1 : World} {B b1 : Nat} {s : Sl} {L : List μ} (h : LE w B sz cf R s L) (hB : B ≤ w.heap.size) {x : α} {m : μ} (hx : R w (fun y => B ≤ y ∧ y < w.heap.size ∧ y ∉ blkOf s) x m) (hL : L.length ≤ 1000000000)
    (hA : Alloc w b1 T (cf x) w1) :
    ∃ q n c w2, (Builtin.append_ #[t, t] ty #[.slice s.a s.len s.cap, .slice (some ⟨b1, 0, none⟩) 1 1]).run P w1 = .ok (.slice q n c) w2 ∧ LE w2 B sz cf R ⟨q, n, c⟩ (L ++ [m]) ∧ Kp (blkOf s) w w2 ∧ ∀ y ∈ blkOf ⟨q, n, c⟩, y ∈ blkOf s ∨ w.heap.size ≤ y := by
  have hlen := h.len hcf hpos
  have hslo := h.lo
  obtain ⟨xs, h1, h2, h3⟩ := h.ex
  have s1 := hA.eq
  have hr : Rds w1 sz ⟨some ⟨b1, 0, none⟩, 1, 1⟩ (cf x) := ⟨by rw [hcf]; simp, fun _ => ⟨_, rfl, hA.blk.has 0 _ (fun i u hi => by rw [Nat.zero_add]; exact hi)⟩⟩
  have hbl : s.len * bytes ≤ 1000000000 * 1000 := Nat.mul_le_mul (by omega) hb
  obtain ⟨q, n, c, w2, hrun, hn, ho, k2, hq⟩ := app_any (ty := ty) ht hinfo hzs hpos (h1.keep0 hA.kp) hr (hlf x) (by omega) (by dsimp only; rw [Nat.add_mul]; omega) (by dsimp only; omega)
  have s2 := k2.size
  have kk : Kp (blkOf s) w w2 := (hA.kp.up (blkOf s)).then k2 (fun y hy => .inl hy)
  have hqb : ∀ y ∈ blkOf ⟨q, n, c⟩, y ∈ blkOf s ∨ w.heap.size ≤ y := by
    intro y hy
    rcases hq with e | ⟨hf, _⟩
    · left; unfold blkOf at hy ⊢; rw [e] at hy; exact hy
    · exact .inr (by have := hf y hy; omega)
  have gen : ∀ (x : α) (m : μ), R w (fun y => B ≤ y ∧ y < w.heap.size ∧ y ∉ blkOf s) x m → R w2 (fun y => B ≤ y ∧ y < w2.heap.size ∧ y ∉ blkOf ⟨q, n, c⟩) x m := fun x m hm => by
    refine hR.mono (hR.keep hm kk (fun y hy => hy.2.2)) (fun y hy => ⟨hy.1, by omega, fun hq => ?_⟩)
    rcases hqb y hq with e | e
    · exact hy.2.2 e
    · omega
  refine ⟨q, n, c, w2, hrun, ⟨xs ++ [x], ?_, by simp [h2], fun i x' m' hx' hm' => ?_⟩, kk, hqb⟩
  · rw [List.flatMap_append]
    simpa using ho
  · by_cases hi : i < xs.length
    · rw [List.getElem?_append_left hi] at hx'
      rw [List.getElem?_append_left (by omega)] at hm'
      exact gen _ _ (h3 i x' m' hx' hm')
    · have e1 : i = xs.length := by
        have := (List.getElem?_eq_some_iff.1 hx').1
        simp at this
        omega
      subst e1
      simp at hx'
      rw [h2] at hm'
      simp at hm'
      subst hx' hm'
      exact gen _ _ hx
/-- What was grown is read. -/
theorem LE.isF {α μ : Type} {w : World} {B sz : Nat} {cf : α → List Value} {R : World → (Nat → Prop) → α → μ → Prop} (hR : Stays R) {s : Sl} {L : List μ} (h : LE w B sz cf R s L) (hcf : ∀ x, (cf x).length = sz) (hz : 0 < sz) {v : α → Value} (hv : ∀ x, v x = .agg (cf x).toArray) : IsF w (fun y => B ≤ y ∧ y < w.heap.size) sz v (R w (fun y => B ≤ y ∧ y < w.heap.size)) s L := by
  have hl := h.len hcf hz
  have hlo := h.lo
  obtain ⟨xs, h1, h2, h3⟩ := h.ex
  refine ⟨⟨hl, fun i m hm => ?_⟩, fun _ => hlo⟩
  have hi := (List.getElem?_eq_some_iff.1 hm).1
  obtain ⟨a, ha, hr⟩ := (Rds.rdl hcf h1.rds hv (by omega)).get (i := i) (by omega)
  exact ⟨a, _, ha, hr, hR.mono (h3 i _ m (List.getElem?_eq_getElem (by omega)) hm) (fun y hy => ⟨hy.1, hy.2.1⟩)⟩
theorem own_rdF {α : Type} {w : World} {B sz : Nat} {cf : α → List Value} {s : Sl} {L : List α} (h : Go.Eng.Own w B sz s (L.flatMap cf)) (hcf : ∀ x, (cf x).length = sz) (hz : 0 < sz) {v : α → Value} (hv : ∀ x, v x = .agg (cf x).toArray) : RdF w (fun y => B ≤ y ∧ y < w.heap.size) sz v s L := by
  have := h.len
  rw [flat_len hcf] at this
  exact ⟨Rds.rdl hcf h.rds hv (Nat.eq_of_mul_eq_mul_right hz this), fun _ => h.lo⟩
theorem own_rdI {w : World} {B : Nat} {s : Sl} {L : List Int} (h : Go.Eng.Own w B 1 s (L.flatMap nC)) : RdF w (fun y => B ≤ y ∧ y < w.heap.size) 1 (Value.int .i64) s L := by
  have e : L.flatMap nC = L.map (Value.int .i64) := by
    clear h
    induction L with
    | nil => rfl
    | cons x L ih => rw [List.flatMap_cons, ih]; rfl
  have hl := h.lo
  have hr := h.rds
  rw [e] at hr
  exact ⟨Rds.rdl1 hr (fun _ => rfl), fun _ => hl⟩
end Go.Proofs.Ytocbjadhcfjfiaa
