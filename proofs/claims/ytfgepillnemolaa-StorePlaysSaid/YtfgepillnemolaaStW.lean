/- The law StoreKeeps. No conditions. -/
import Derived.Test.YtfgepillnemolaaStV
namespace Go.Proofs.Ytfgepillnemolaa
open Go.RowKit Go.Eng
set_option linter.unusedVariables false
set_option linter.unusedSimpArgs false
/-- All entries so far: a list of the call's own, of slices that came in. -/
structure AL (w w0 : World) (G : Nat → Prop) (st : Nat) (s : Sl) (All : List Bs) : Prop where
  ex : ∃ xs : List Sl, Go.Eng.Own w w0.heap.size 1 s (xs.map slv) ∧ xs.length = All.length ∧ ∀ (i : Nat) (x : Sl) (b : Bs), xs[i]? = some x → All[i]? = some b → RdB w0 x b
  nil : s.len = 0 → s.a = none
  g : ∀ y ∈ blkOf s, G y ∧ y ≠ st
theorem AL.nil0 (w w0 : World) (G : Nat → Prop) (st : Nat) : AL w w0 G st ⟨none, 0, 0⟩ [] := ⟨⟨[], Go.Eng.Own.nil _ _ _, rfl, fun i x b hx => by simp at hx⟩, fun _ => rfl, by simp [blkOf]⟩
theorem AL.len {w w0 : World} {G : Nat → Prop} {st : Nat} {s : Sl} {All : List Bs} (h : AL w w0 G st s All) : All.length = s.len ∧ s.len ≤ s.cap := by
  obtain ⟨xs, h1, h2, h3⟩ := h.ex
  have := h1.len
  rw [List.length_map] at this
  exact ⟨by omega, h1.lc⟩
theorem AL.keepS {w w' w0 : World} {G : Nat → Prop} {st : Nat} {s : Sl} {All : List Bs} (h : AL w w0 G st s All) (k : KS G st w w') : AL w' w0 G st s All := by
  obtain ⟨xs, h1, h2, h3⟩ := h.ex
  refine ⟨⟨xs, h1.keepF k (fun y hy hn => ?_), h2, h3⟩, h.nil, h.g⟩
  rcases hn with hn | hn
  · exact hn (h.g y hy).1
  · exact (h.g y hy).2 hn
theorem AL.keep0 {w w' w0 : World} {G : Nat → Prop} {st : Nat} {s : Sl} {All : List Bs} (h : AL w w0 G st s All) (k : Kp [] w w') : AL w' w0 G st s All := by
  obtain ⟨xs, h1, h2, h3⟩ := h.ex
  exact ⟨⟨xs, h1.keep0 k, h2, h3⟩, h.nil, h.g⟩
theorem AL.rl {w w0 : World} {G : Nat → Prop} {st : Nat} {s : Sl} {All : List Bs} (h : AL w w0 G st s All) (k : Kp [] w0 w) : RL w s All := by
  obtain ⟨xs, h1, h2, h3⟩ := h.ex
  exact ⟨⟨xs, h1.rds, h2, fun i x b hx hb => (h3 i x b hx hb).keep0 k⟩⟩
/-- A row of slices is no store and no log. -/
theorem AL.not {w w0 : World} {G : Nat → Prop} {st : Nat} {s : Sl} {All : List Bs} (h : AL w w0 G st s All) {b : Nat} {p : Option Addr} {cs : List Value} (hb : Blk w b (.pointer p :: cs)) : b ∉ blkOf s := by
  intro hm
  obtain ⟨xs, h1, h2, h3⟩ := h.ex
  have hl := h1.len
  rw [List.length_map] at hl
  rcases h1.is with ⟨h0, _⟩ | ⟨b', rest, ha, _, hb', _⟩
  · simp [blkOf, h0] at hm
  · simp [blkOf, ha] at hm
    subst hm
    have e := hb.uniq hb'
    cases xs with
    | nil =>
      have := h.nil (by simp at hl; omega)
      rw [ha] at this
      cases this
    | cons x r => simp at e
/-- One more. -/
theorem AL.push {ty T : TypeId} {w w1 w0 : World} {G : Nat → Prop} {st d f j b1 : Nat} {x : Lg} {s : Sl} {All : List Bs} (h : AL w w0 G st s All) (hK : SK w0 w G st d f x j) {y : Sl} {b : Bs} (hy : RdB w0 y b) (hl : All.length ≤ 1000000000) (hA : Alloc w b1 T [slv y] w1) :
    ∃ q n c w2, (Builtin.append_ #[22, 22] ty #[.slice s.a s.len s.cap, .slice (some ⟨b1, 0, none⟩) 1 1]).run Try.prog w1 = .ok (.slice q n c) w2 ∧ AL w2 w0 (fun z => G z ∨ New w w2 z) st ⟨q, n, c⟩ (All ++ [b]) ∧ SK w0 w2 (fun z => G z ∨ New w w2 z) st d f x j ∧ (∀ z, G z → (fun z => G z ∨ New w w2 z) z) := by
  have hlen := h.len
  obtain ⟨m, L, hS, hki⟩ := hK.ex
  have hkp := hK.kp.size
  obtain ⟨xs, h1, h2, h3⟩ := h.ex
  have h1l := h1.len
  rw [List.length_map] at h1l
  have s1 := hA.eq
  obtain ⟨q, n, c, w2, hrun, hn, ho, k2, hq⟩ := app_any (ty := ty) Try.underlying22 sl_inf rfl (by decide) (h1.keep0 hA.kp) (show Rds w1 1 ⟨some ⟨b1, 0, none⟩, 1, 1⟩ [slv y] from ⟨rfl, fun _ => ⟨_, rfl, hA.blk.has 0 _ (fun i u hi => by rw [Nat.zero_add]; exact hi)⟩⟩) (fun v hv => by simp at hv; subst hv; rfl) (by omega) (by dsimp only; omega) (by dsimp only; omega)
  have kk : Kp (blkOf s) w w2 := (hA.kp.up _).then k2 (fun y hy => .inl hy)
  have hlo := h1.lo
  have s2 := k2.size
  have hn1 : n = s.len + 1 := hn
  have hI := hS.is
  have hst := h.not hI.b
  refine ⟨q, n, c, w2, hrun, ⟨⟨xs ++ [y], by rw [List.map_append]; exact ho, by simp [h2], fun i x' b' hx' hb' => ?_⟩, fun h0 => by dsimp only at h0; omega, fun z hz => ?_⟩, ⟨m, L, hS.wgrow kk (fun z hz => ⟨(h.g z hz).1, (hlo z hz).1⟩) hst (fun lg hlg => ?_), hki⟩, fun z hz => .inl hz⟩
  · by_cases hi : i < xs.length
    · rw [List.getElem?_append_left hi] at hx'
      rw [List.getElem?_append_left (by omega)] at hb'
      exact h3 i x' b' hx' hb'
    · have e1 : i = xs.length := by
        have := (List.getElem?_eq_some_iff.1 hx').1
        simp at this
        omega
      subst e1
      simp at hx'
      rw [h2] at hb'
      simp at hb'
      subst hx' hb'
      exact hy
  · have hlt := ho.lo z hz
    have hstlt := hK.lt st hK.gst.1
    rcases hq with e | ⟨hf, _⟩
    · have hz' : z ∈ blkOf s := by unfold blkOf at hz ⊢; rw [e] at hz; exact hz
      exact ⟨.inl (h.g z hz').1, (h.g z hz').2⟩
    · have := hf z hz
      exact ⟨.inr ⟨by omega, hlt.2⟩, by omega⟩
  · rcases hlg with hlg | hlg <;> exact h.not hlg
theorem lg_end (x : Lg) (h : ∀ b ∈ x.es, b.length ≤ 500) : endL x.recs ≤ 28 + x.snap.length + 518 * x.es.length := by
  have := ends_le x.s x.es h
  have p1 := (putN_len x.g).2
  have p2 := (putN_len x.s).2
  have e2 : x.recs = [hdB x.g x.s x.snap] ++ numsL x.s x.es := rfl
  rw [e2, endL_app]
  simp only [endL, hdB, List.length_append]
  omega
/-- What a store and all its entries have to do with each other. -/
structure Fit (x : Lg) (All : List Bs) (i n : Nat) : Prop where
  s0 : 0 ≤ x.s
  len : (All.length : Int) = x.s + x.es.length
  es : x.es = All.drop x.s.toNat
  g : 1 ≤ x.g ∧ x.g ≤ 1 + i
  l : All.length ≤ n
  b : ∀ b ∈ All, b.length ≤ 500
  sn : x.snap.length ≤ 500
theorem Fit.eb {x : Lg} {All : List Bs} {i n : Nat} (h : Fit x All i n) : ∀ b ∈ x.es, b.length ≤ 500 := fun b hb => by
  rw [h.es] at hb
  exact h.b b (List.mem_of_mem_drop hb)
theorem Fit.end {x : Lg} {All : List Bs} {i n : Nat} (h : Fit x All i n) (hn : n ≤ 100) : endL x.recs ≤ 100000 := by
  have h1 := lg_end x h.eb
  have h2 := h.sn
  have h3 := h.len
  have h4 := h.l
  have h5 := h.s0
  omega
theorem Fit.add {x : Lg} {All : List Bs} {i n : Nat} (h : Fit x All i n) {b : Bs} (hb : b.length ≤ 500) : Fit (x.add b) (All ++ [b]) i (n + 1) := by
  have h3 := h.len
  have h5 := h.s0
  refine ⟨h.s0, by simp [Lg.add]; omega, ?_, h.g, by have := h.l; simp; omega, fun y hy => ?_, h.sn⟩
  · show x.es ++ [b] = (All ++ [b]).drop x.s.toNat
    rw [List.drop_append_of_le_length (by omega), ← h.es]
  · rcases List.mem_append.1 hy with hy | hy
    · exact h.b y hy
    · simp at hy; rw [hy]; exact hb
theorem Fit.check {x : Lg} {All : List Bs} {i n : Nat} (h : Fit x All i n) {b : Bs} (hb : b.length ≤ 500) : Fit ⟨x.g + 1, x.s + x.es.length, b, []⟩ All (i + 1) n := by
  have h3 := h.len
  have h5 := h.s0
  have h6 := h.g
  refine ⟨by show 0 ≤ x.s + x.es.length; omega, by show (All.length : Int) = x.s + x.es.length + ([] : List Bs).length; simp; omega, ?_, ⟨by show 1 ≤ x.g + 1; omega, by show x.g + 1 ≤ 1 + ((i + 1 : Nat) : Int); omega⟩, h.l, h.b, hb⟩
  show [] = All.drop (x.s + x.es.length).toNat
  rw [List.drop_eq_nil_of_le (by omega)]
theorem Fit.more {x : Lg} {All : List Bs} {i i' n n' : Nat} (h : Fit x All i n) (hi : i ≤ i') (hn : n ≤ n') : Fit x All i' n' := ⟨h.s0, h.len, h.es, ⟨h.g.1, by have := h.g.2; omega⟩, by have := h.l; omega, h.b, h.sn⟩
/-- The rest of a list of slices. -/
theorem rl_from {w : World} {s : Sl} {L : List Bs} (h : RL w s L) (hc : s.len ≤ s.cap) {n m : Nat} (hn : n ≤ m) (hm : m ≤ s.len) (c : Nat) : RL w ⟨if s.cap = n then s.a else s.a.map (fun x => Addr.add x (n * 1)), m - n, c⟩ ((L.drop n).take (m - n)) := by
  have hlen := h.len
  obtain ⟨xs, h1, h2, h3⟩ := h.ex
  refine ⟨(xs.drop n).take (m - n), ⟨by simp; omega, fun h0 => ?_⟩, by simp [h2], fun i x b hx hb => ?_⟩
  · dsimp only at h0
    obtain ⟨a, ha, hh⟩ := h1.has (by omega)
    refine ⟨a.add n, by rw [if_neg (by omega), ha, Nat.mul_one]; rfl, fun i v hi => ?_⟩
    rw [add_add']
    refine hh (n + i) v ?_
    rw [List.map_take, List.map_drop, List.getElem?_take] at hi
    split at hi
    · rwa [List.getElem?_drop] at hi
    · cases hi
  · rw [List.getElem?_take] at hx hb
    split at hx
    · rename_i hi
      rw [if_pos hi] at hb
      rw [List.getElem?_drop] at hx hb
      exact h3 _ x b hx hb
    · cases hx
end Go.Proofs.Ytfgepillnemolaa
