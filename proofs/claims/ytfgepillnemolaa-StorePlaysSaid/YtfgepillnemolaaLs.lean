/- Lists of slices of bytes. No conditions. -/
import Derived.Test.YtfgepillnemolaaBy
import Derived.Test.YtfgepillnemolaaOpenG
namespace Go.Eng
open Go.RowKit
set_option linter.unusedVariables false
abbrev slv (x : Sl) : Value := .slice x.a x.len x.cap
def cf1 (_ : Int) (x : Sl) : List Value := [slv x]
def cf2 (v : Int) (x : Sl) : List Value := [.int .i64 v, slv x]
/-- A list of the call's own, whose items lie in El. -/
structure LS (w : World) (lo : Nat) (sz : Nat) (cf : Int → Sl → List Value) (El : Nat → Prop) (s : Sl) (L : List (Int × Bs)) : Prop where
  ex : ∃ xs : List (Int × Sl), Own w lo sz s (xs.flatMap fun x => cf x.1 x.2) ∧ xs.length = L.length ∧ ∀ (i : Nat) (x : Int × Sl) (b : Int × Bs), xs[i]? = some x → L[i]? = some b → x.1 = b.1 ∧ RdB w x.2 b.2 ∧ (∀ y ∈ blkOf x.2, El y ∧ y < w.heap.size ∧ y ∉ blkOf s) ∧ x.2.len ≤ x.2.cap
theorem LS.nil (w : World) (lo sz : Nat) (cf : Int → Sl → List Value) (El : Nat → Prop) : LS w lo sz cf El ⟨none, 0, 0⟩ [] := ⟨⟨[], Own.nil w lo sz, rfl, fun i x b hx => by simp at hx⟩⟩
theorem LS.keepF {w w' : World} {lo sz : Nat} {cf : Int → Sl → List Value} {El F : Nat → Prop} {s : Sl} {L : List (Int × Bs)} (h : LS w lo sz cf El s L) (k : KpF F w w') (hs : ∀ y ∈ blkOf s, ¬ F y) (hE : ∀ y, El y → y < w.heap.size → ¬ F y) : LS w' lo sz cf El s L := by
  obtain ⟨xs, h1, h2, h3⟩ := h.ex
  refine ⟨⟨xs, h1.keepF k hs, h2, fun i x b hx hb => ?_⟩⟩
  obtain ⟨e1, e2, e3, e4⟩ := h3 i x b hx hb
  exact ⟨e1, e2.keepF k (fun y hy => hE y (e3 y hy).1 (e3 y hy).2.1), fun y hy => ⟨(e3 y hy).1, Nat.lt_of_lt_of_le (e3 y hy).2.1 k.size, (e3 y hy).2.2⟩, e4⟩
theorem LS.keep0 {w w' : World} {lo sz : Nat} {cf : Int → Sl → List Value} {El : Nat → Prop} {s : Sl} {L : List (Int × Bs)} (h : LS w lo sz cf El s L) (k : Kp [] w w') : LS w' lo sz cf El s L :=
  h.keepF (k.toF (F := fun _ => False) (by simp)) (fun _ _ h => h) (fun _ _ _ h => h)
theorem LS.mono {w : World} {lo sz : Nat} {cf : Int → Sl → List Value} {El El' : Nat → Prop} {s : Sl} {L : List (Int × Bs)} (h : LS w lo sz cf El s L) (hE : ∀ y, El y → El' y) : LS w lo sz cf El' s L := by
  obtain ⟨xs, h1, h2, h3⟩ := h.ex
  exact ⟨⟨xs, h1, h2, fun i x b hx hb => ⟨(h3 i x b hx hb).1, (h3 i x b hx hb).2.1, fun y hy => ⟨hE y ((h3 i x b hx hb).2.2.1 y hy).1, ((h3 i x b hx hb).2.2.1 y hy).2⟩, (h3 i x b hx hb).2.2.2⟩⟩⟩
theorem LS.mono2 {w : World} {lo lo' sz : Nat} {cf : Int → Sl → List Value} {El El' : Nat → Prop} {s : Sl} {L : List (Int × Bs)} (h : LS w lo sz cf El s L) (hl : lo' ≤ lo) (hE : ∀ y, El y → y < w.heap.size → El' y) : LS w lo' sz cf El' s L := by
  obtain ⟨xs, h1, h2, h3⟩ := h.ex
  exact ⟨⟨xs, h1.mono hl, h2, fun i x b hx hb => ⟨(h3 i x b hx hb).1, (h3 i x b hx hb).2.1, fun y hy => ⟨hE y ((h3 i x b hx hb).2.2.1 y hy).1 ((h3 i x b hx hb).2.2.1 y hy).2.1, ((h3 i x b hx hb).2.2.1 y hy).2⟩, (h3 i x b hx hb).2.2.2⟩⟩⟩
theorem LS.lo {w : World} {lo sz : Nat} {cf : Int → Sl → List Value} {El : Nat → Prop} {s : Sl} {L : List (Int × Bs)} (h : LS w lo sz cf El s L) : ∀ y ∈ blkOf s, lo ≤ y ∧ y < w.heap.size := by
  obtain ⟨xs, h1, h2, h3⟩ := h.ex
  exact h1.lo
theorem flatP_len {sz : Nat} {cf : Int → Sl → List Value} (hcf : ∀ v x, (cf v x).length = sz) (xs : List (Int × Sl)) : (xs.flatMap fun x => cf x.1 x.2).length = xs.length * sz := flat_len (fun x => hcf x.1 x.2) xs
theorem LS.len {w : World} {lo sz : Nat} {cf : Int → Sl → List Value} {El : Nat → Prop} {s : Sl} {L : List (Int × Bs)} (h : LS w lo sz cf El s L) (hcf : ∀ v x, (cf v x).length = sz) (hz : 0 < sz) : L.length = s.len := by
  obtain ⟨xs, h1, h2, h3⟩ := h.ex
  have := h1.len
  rw [flatP_len hcf] at this
  rw [← h2]
  exact Nat.eq_of_mul_eq_mul_right hz this
/-- One item more. -/
theorem LS.push {P : Program} {t ty e T : TypeId} {z : Value} {sz bytes : Nat} {cf : Int → Sl → List Value} (ht : P.underlying t = some (.slice e)) (hinfo : (P.info? e).map (fun i => (i.zero, i.size, i.bytes)) = some (some z, sz, bytes)) (hzs : z.cells.size = sz) (hpos : 0 < sz) (hb : bytes ≤ 1000)
    (hcf : ∀ v x, (cf v x).length = sz) (hlf : ∀ v x, ∀ u ∈ cf v x, leafB u = true) {w w1 : World} {lo b1 : Nat} {El : Nat → Prop} {s : Sl} {L : List (Int × Bs)} (h : LS w lo sz cf El s L) (hlo : lo ≤ w.heap.size) (v : Int) {x : Sl} {b : Bs} (hx : RdB w x b) (hxb : ∀ y ∈ blkOf x, El y ∧ y < w.heap.size ∧ y ∉ blkOf s) (hxc : x.len ≤ x.cap) (hL : L.length ≤ 1000000000)
    (hA : Alloc w b1 T (cf v x) w1) :
    ∃ q n c w2, (Builtin.append_ #[t, t] ty #[.slice s.a s.len s.cap, .slice (some ⟨b1, 0, none⟩) 1 1]).run P w1 = .ok (.slice q n c) w2 ∧ n = s.len + 1 ∧ LS w2 lo sz cf El ⟨q, n, c⟩ (L ++ [(v, b)]) ∧ Kp (blkOf s) w w2 ∧ ∀ y ∈ blkOf ⟨q, n, c⟩, y ∈ blkOf s ∨ w.heap.size ≤ y := by
  have hlen := h.len hcf hpos
  have hslo := h.lo
  obtain ⟨xs, h1, h2, h3⟩ := h.ex
  have s1 := hA.eq
  have hr : Rds w1 sz ⟨some ⟨b1, 0, none⟩, 1, 1⟩ (cf v x) := ⟨by rw [hcf]; simp, fun _ => ⟨_, rfl, hA.blk.has 0 _ (fun i u hi => by rw [Nat.zero_add]; exact hi)⟩⟩
  have hbl : s.len * bytes ≤ 1000000000 * 1000 := Nat.mul_le_mul (by omega) hb
  obtain ⟨q, n, c, w2, hrun, hn, ho, k2, hq⟩ := app_any (ty := ty) ht hinfo hzs hpos (h1.keep0 hA.kp) hr (hlf v x) (by omega) (by dsimp only; rw [Nat.add_mul]; omega) (by dsimp only; omega)
  have s2 := k2.size
  have hqb : ∀ y ∈ blkOf ⟨q, n, c⟩, y ∈ blkOf s ∨ w.heap.size ≤ y := by
    intro y hy
    rcases hq with e | ⟨hf, _⟩
    · left; unfold blkOf at hy ⊢; rw [e] at hy; exact hy
    · exact .inr (by have := hf y hy; omega)
  refine ⟨q, n, c, w2, hrun, hn, ⟨⟨xs ++ [(v, x)], ?_, by simp [h2], fun i x' b' hx' hb' => ?_⟩⟩, ?_, hqb⟩
  · rw [List.flatMap_append]
    simpa using ho
  · have kk : Kp (blkOf s) w w2 := (hA.kp.up (blkOf s)).then k2 (fun y hy => .inl hy)
    have gen : ∀ (t : Sl) (bb : Bs), RdB w t bb → (∀ y ∈ blkOf t, El y ∧ y < w.heap.size ∧ y ∉ blkOf s) → RdB w2 t bb ∧ ∀ y ∈ blkOf t, El y ∧ y < w2.heap.size ∧ y ∉ blkOf ⟨q, n, c⟩ := fun t bb hr hb => by
      refine ⟨hr.keep kk (fun a ha => (hb _ (mem_blk ha)).2.2), fun y hy => ?_⟩
      have := hb y hy
      refine ⟨this.1, by omega, fun h => ?_⟩
      rcases hqb y h with h | h
      · exact this.2.2 h
      · omega
    by_cases hi : i < xs.length
    · rw [List.getElem?_append_left hi] at hx'
      rw [List.getElem?_append_left (by omega)] at hb'
      obtain ⟨e1, e2, e3, e4⟩ := h3 i x' b' hx' hb'
      exact ⟨e1, (gen _ _ e2 e3).1, (gen _ _ e2 e3).2, e4⟩
    · have e1 : i = xs.length := by
        have := (List.getElem?_eq_some_iff.1 hx').1
        simp at this
        omega
      subst e1
      simp at hx'
      rw [h2] at hb'
      simp at hb'
      subst hx' hb'
      exact ⟨rfl, (gen _ _ hx hxb).1, (gen _ _ hx hxb).2, hxc⟩
  · exact (hA.kp.up (blkOf s)).then k2 (fun y hy => .inl hy)
theorem LS.get {w : World} {lo sz : Nat} {cf : Int → Sl → List Value} {El : Nat → Prop} {s : Sl} {L : List (Int × Bs)} (h : LS w lo sz cf El s L) (hcf : ∀ v x, (cf v x).length = sz) (hz : 0 < sz) {i : Nat} (hi : i < L.length) :
    ∃ a x, s.a = some a ∧ (∀ j u, (cf L[i].1 x)[j]? = some u → w.cell? ((a.add (i * sz)).add j) = some u) ∧ RdB w x L[i].2 ∧ (∀ y ∈ blkOf x, El y ∧ y < w.heap.size ∧ y ∉ blkOf s) ∧ x.len ≤ x.cap := by
  have hlen := h.len hcf hz
  obtain ⟨xs, h1, h2, h3⟩ := h.ex
  obtain ⟨a, ha, hh⟩ := h1.rds.has (by omega)
  obtain ⟨e1, e2, e3, e4⟩ := h3 i xs[i] L[i] (List.getElem?_eq_getElem (by omega)) (List.getElem?_eq_getElem hi)
  refine ⟨a, xs[i].2, ha, fun j u hj => ?_, e2, e3, e4⟩
  rw [add_add']
  refine hh _ _ ?_
  have hj' : j < sz := by
    have := (List.getElem?_eq_some_iff.1 hj).1
    rwa [hcf] at this
  rw [flat_get (n := sz) (f := fun x : Int × Sl => cf x.1 x.2) (fun x => hcf x.1 x.2) xs i j hj', List.getElem?_eq_getElem (by omega)]
  simp only [Option.bind_some]
  rw [e1]
  exact hj
/-- A list of slices of bytes that is read. -/
structure RL (w : World) (s : Sl) (L : List Bs) : Prop where
  ex : ∃ xs : List Sl, Rds w 1 s (xs.map slv) ∧ xs.length = L.length ∧ ∀ (i : Nat) (x : Sl) (b : Bs), xs[i]? = some x → L[i]? = some b → RdB w x b
theorem RL.len {w : World} {s : Sl} {L : List Bs} (h : RL w s L) : L.length = s.len := by
  obtain ⟨xs, h1, h2, h3⟩ := h.ex
  have := h1.len
  rw [List.length_map] at this
  omega
theorem RL.keep0 {w w' : World} {s : Sl} {L : List Bs} (h : RL w s L) (k : Kp [] w w') : RL w' s L := by
  obtain ⟨xs, h1, h2, h3⟩ := h.ex
  exact ⟨⟨xs, h1.keep0 k, h2, fun i x b hx hb => (h3 i x b hx hb).keep0 k⟩⟩
theorem RL.nil (w : World) : RL w ⟨none, 0, 0⟩ [] := ⟨⟨[], (Own.nil w 0 1).rds, rfl, fun i x b hx => by simp at hx⟩⟩
theorem RL.get {w : World} {s : Sl} {L : List Bs} (h : RL w s L) {i : Nat} (hi : i < L.length) : ∃ a x, s.a = some a ∧ w.cell? (a.add (i * 1)) = some (.slice x.a x.len x.cap) ∧ RdB w x L[i] := by
  have hlen := h.len
  obtain ⟨xs, h1, h2, h3⟩ := h.ex
  obtain ⟨a, ha, hh⟩ := h1.has (by omega)
  refine ⟨a, xs[i], ha, ?_, h3 i xs[i] L[i] (List.getElem?_eq_getElem (by omega)) (List.getElem?_eq_getElem hi)⟩
  rw [Nat.mul_one]
  exact hh i _ (by rw [List.getElem?_map, List.getElem?_eq_getElem (by omega)]; rfl)
theorem cf1_flat (xs : List (Int × Sl)) : (xs.flatMap fun x => cf1 x.1 x.2) = (xs.map (·.2)).map slv := by
  induction xs with
  | nil => rfl
  | cons x r ih => rw [List.flatMap_cons, ih]; rfl
theorem LS.rl {w : World} {lo : Nat} {El : Nat → Prop} {s : Sl} {L : List (Int × Bs)} (h : LS w lo 1 cf1 El s L) : RL w s (L.map (·.2)) := by
  obtain ⟨xs, h1, h2, h3⟩ := h.ex
  rw [cf1_flat] at h1
  refine ⟨⟨xs.map (·.2), h1.rds, by simp [h2], fun i x b hx hb => ?_⟩⟩
  rw [List.getElem?_map, Option.map_eq_some_iff] at hx hb
  obtain ⟨x', hx', rfl⟩ := hx
  obtain ⟨b', hb', rfl⟩ := hb
  exact (h3 i x' b' hx' hb').2.1
theorem RL.take {w : World} {s : Sl} {L : List Bs} (h : RL w s L) {n : Nat} (hn : n ≤ s.len) (c : Nat) : RL w ⟨s.a, n, c⟩ (L.take n) := by
  have hlen := h.len
  obtain ⟨xs, h1, h2, h3⟩ := h.ex
  refine ⟨⟨xs.take n, ⟨by rw [List.length_map, List.length_take]; dsimp only; omega, fun h0 => ?_⟩, by simp [h2], fun i x b hx hb => ?_⟩⟩
  · dsimp only at h0
    obtain ⟨a, ha, hh⟩ := h1.has (by omega)
    refine ⟨a, ha, fun i v hi => hh i v ?_⟩
    rw [List.map_take, List.getElem?_take] at hi
    split at hi
    · exact hi
    · cases hi
  · rw [List.getElem?_take] at hx hb
    split at hx
    · rename_i hi
      rw [if_pos hi] at hb
      exact h3 i x b hx hb
    · cases hx
/-- A list of slices that is read, every block of it in G. -/
structure RG (w : World) (G : Nat → Prop) (s : Sl) (L : List Bs) : Prop where
  ex : ∃ xs : List Sl, Rds w 1 s (xs.map slv) ∧ xs.length = L.length ∧ ∀ (i : Nat) (x : Sl) (b : Bs), xs[i]? = some x → L[i]? = some b → RdB w x b ∧ x.len ≤ x.cap ∧ ∀ y ∈ blkOf x, G y
  lc : s.len ≤ s.cap
  g : ∀ y ∈ blkOf s, G y
theorem RG.len {w : World} {G : Nat → Prop} {s : Sl} {L : List Bs} (h : RG w G s L) : L.length = s.len := by
  obtain ⟨xs, h1, h2, h3⟩ := h.ex
  have := h1.len
  rw [List.length_map] at this
  omega
theorem RG.keepF {w w' : World} {G F : Nat → Prop} {s : Sl} {L : List Bs} (h : RG w G s L) (k : KpF F w w') (hF : ∀ y, G y → ¬ F y) : RG w' G s L := by
  obtain ⟨xs, h1, h2, h3⟩ := h.ex
  exact ⟨⟨xs, h1.keepF k (fun y hy => hF y (h.g y hy)), h2, fun i x b hx hb => ⟨(h3 i x b hx hb).1.keepF k (fun y hy => hF y ((h3 i x b hx hb).2.2 y hy)), (h3 i x b hx hb).2⟩⟩, h.lc, h.g⟩
theorem RG.keep0 {w w' : World} {G : Nat → Prop} {s : Sl} {L : List Bs} (h : RG w G s L) (k : Kp [] w w') : RG w' G s L := h.keepF (k.toF (F := fun _ => False) (by simp)) (fun _ _ h => h)
theorem RG.mono {w : World} {G G' : Nat → Prop} {s : Sl} {L : List Bs} (h : RG w G s L) (hG : ∀ y, G y → G' y) : RG w G' s L := by
  obtain ⟨xs, h1, h2, h3⟩ := h.ex
  exact ⟨⟨xs, h1, h2, fun i x b hx hb => ⟨(h3 i x b hx hb).1, (h3 i x b hx hb).2.1, fun y hy => hG y ((h3 i x b hx hb).2.2 y hy)⟩⟩, h.lc, fun y hy => hG y (h.g y hy)⟩
theorem RG.rl {w : World} {G : Nat → Prop} {s : Sl} {L : List Bs} (h : RG w G s L) : RL w s L := by
  obtain ⟨xs, h1, h2, h3⟩ := h.ex
  exact ⟨⟨xs, h1, h2, fun i x b hx hb => (h3 i x b hx hb).1⟩⟩
theorem RG.nil (w : World) (G : Nat → Prop) : RG w G ⟨none, 0, 0⟩ [] := ⟨⟨[], (Own.nil w 0 1).rds, rfl, fun i x b hx => by simp at hx⟩, Nat.le_refl _, by simp [blkOf]⟩
theorem RG.get {w : World} {G : Nat → Prop} {s : Sl} {L : List Bs} (h : RG w G s L) {i : Nat} (hi : i < L.length) : ∃ a x, s.a = some a ∧ w.cell? (a.add (i * 1)) = some (.slice x.a x.len x.cap) ∧ RdB w x L[i] ∧ x.len ≤ x.cap ∧ ∀ y ∈ blkOf x, G y := by
  have hlen := h.len
  obtain ⟨xs, h1, h2, h3⟩ := h.ex
  obtain ⟨a, ha, hh⟩ := h1.has (by omega)
  refine ⟨a, xs[i], ha, ?_, h3 i xs[i] L[i] (List.getElem?_eq_getElem (by omega)) (List.getElem?_eq_getElem hi)⟩
  rw [Nat.mul_one]
  exact hh i _ (by rw [List.getElem?_map, List.getElem?_eq_getElem (by omega)]; rfl)
/-- The items behind the first. -/
theorem RG.tail {w : World} {G : Nat → Prop} {s : Sl} {b : Bs} {L : List Bs} (h : RG w G s (b :: L)) : RG w G ⟨if s.cap = 1 then s.a else s.a.map (fun x => Addr.add x (1 * 1)), s.len - 1, s.cap - 1⟩ L := by
  have hlen := h.len
  rw [List.length_cons] at hlen
  have hlc := h.lc
  have hg := h.g
  obtain ⟨xs, h1, h2, h3⟩ := h.ex
  rw [List.length_cons] at h2
  obtain ⟨x0, xr, rfl⟩ : ∃ x0 xr, xs = x0 :: xr := by cases xs with
    | nil => simp at h2
    | cons a b => exact ⟨a, b, rfl⟩
  have hblk : ∀ y ∈ blkOf ⟨if s.cap = 1 then s.a else s.a.map (fun x => Addr.add x (1 * 1)), s.len - 1, s.cap - 1⟩, y ∈ blkOf s := by
    intro y hy
    unfold blkOf at hy ⊢
    cases hs : s.a with
    | none => rw [hs] at hy; split at hy <;> simp_all
    | some a =>
      rw [hs] at hy
      split at hy
      · rename_i a' ha'
        split at ha'
        · injection ha' with ha'; subst ha'; exact hy
        · simp at ha'
          subst ha'
          rw [add_block] at hy
          exact hy
      · cases hy
  refine ⟨⟨xr, ⟨?_, fun h0 => ?_⟩, by simpa using h2, fun i x b hx hb => h3 (i + 1) x b (by simpa using hx) (by simpa using hb)⟩, by dsimp only; omega, fun y hy => hg y (hblk y hy)⟩
  · rw [List.length_map]; simp at h2; dsimp only; omega
  · dsimp only at h0
    obtain ⟨a, ha, hh⟩ := h1.has (by omega)
    refine ⟨a.add 1, by rw [if_neg (by omega), ha]; rfl, fun i v hi => ?_⟩
    rw [add_add']
    refine hh (1 + i) v ?_
    rw [List.map_cons, Nat.add_comm 1 i, List.getElem?_cons_succ]
    exact hi
theorem LS.rg {w : World} {lo : Nat} {El : Nat → Prop} {s : Sl} {L : List (Int × Bs)} {G : Nat → Prop} (h : LS w lo 1 cf1 El s L) (hs : ∀ y ∈ blkOf s, G y) (hE : ∀ y, El y → G y) : RG w G s (L.map (·.2)) := by
  obtain ⟨xs, h1, h2, h3⟩ := h.ex
  have hlc := h1.lc
  rw [cf1_flat] at h1
  refine ⟨⟨xs.map (·.2), h1.rds, by simp [h2], fun i x b hx hb => ?_⟩, hlc, hs⟩
  rw [List.getElem?_map, Option.map_eq_some_iff] at hx hb
  obtain ⟨x', hx', rfl⟩ := hx
  obtain ⟨b', hb', rfl⟩ := hb
  obtain ⟨_, e2, e3, e4⟩ := h3 i x' b' hx' hb'
  exact ⟨e2, e4, fun y hy => hE y (e3 y hy).1⟩
end Go.Eng
namespace Go.Proofs.Ytfgepillnemolaa
open Go.RowKit Go.Eng
set_option linter.unusedVariables false
theorem rl_of_isL {w : World} {s : Sl} {L : List (List Int)} (h : IsL w 1 (fun s : Sl => Value.slice s.a s.len s.cap) (RdL w 1 (Value.int .u8)) s L) (hq : ∀ m ∈ L, ∀ x ∈ m, in8 x) : RL w s (L.map bso) := by
  have hlen := h.len
  have each : ∀ i, i < L.length → ∃ x : Sl, ∃ a, s.a = some a ∧ w.cell? (a.add i) = some (slv x) ∧ RdB w x ((L.map bso).getD i []) := by
    intro i hi
    obtain ⟨a, x, ha, hr, hR⟩ := h.get hi
    rw [Nat.mul_one] at hr
    refine ⟨x, a, ha, rd_leaf hr rfl, ?_⟩
    have := rdb_of_rdl hR (hq _ (List.getElem_mem hi))
    simpa [List.getD_eq_getElem?_getD, hi] using this
  obtain ⟨f, hf⟩ : ∃ f : Nat → Sl, ∀ i, i < L.length → ∃ a, s.a = some a ∧ w.cell? (a.add i) = some (slv (f i)) ∧ RdB w (f i) ((L.map bso).getD i []) :=
    ⟨fun i => if h : i < L.length then (each i h).choose else ⟨none, 0, 0⟩, fun i hi => by simp only [hi, dite_true]; exact (each i hi).choose_spec⟩
  refine ⟨⟨(List.range L.length).map f, ⟨by simp; omega, fun h0 => ?_⟩, by simp, fun i x b hx hb => ?_⟩⟩
  · obtain ⟨a, ha, _⟩ := hf 0 (by omega)
    refine ⟨a, ha, fun i v hi => ?_⟩
    have hi' : i < L.length := by have := (List.getElem?_eq_some_iff.1 hi).1; simpa using this
    obtain ⟨a', ha', hc, _⟩ := hf i hi'
    rw [ha] at ha'
    injection ha' with ha'
    subst ha'
    simp [hi'] at hi
    rw [← hi]
    exact hc
  · have hi' : i < L.length := by have := (List.getElem?_eq_some_iff.1 hx).1; simpa using this
    obtain ⟨a', ha', _, hr⟩ := hf i hi'
    simp [hi'] at hx
    subst hx
    rw [List.getD_eq_getElem?_getD, hb] at hr
    exact hr
end Go.Proofs.Ytfgepillnemolaa
