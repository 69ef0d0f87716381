/- Crashes; what an opened store tells. Printed by gen_stk.py. No conditions. -/
import Derived.Test.YtfgepillnemolaaStU
import Derived.Test.YtfgepillnemolaaOpenD
namespace Go.Proofs.Ytfgepillnemolaa
open Go.RowKit Go.Eng
set_option linter.unusedVariables false
set_option linter.unusedSimpArgs false
theorem crash_apps : ∀ (L : List Bs) (x : Bs) (n : Nat), crashB x (L.map fun s => .app (recB s)) n = x ++ (flatR L).take n
  | [], x, n => by simp [crashB, flatR]
  | s :: L, x, n => by
    have e : flatR (s :: L) = recB s ++ flatR L := by simp [flatR]
    rw [List.map_cons, crashB, e]
    split
    · rename_i h
      rw [List.take_append_of_le_length (by omega)]
    · rename_i h
      rw [crash_apps L, List.take_append, List.take_of_length_le (l := recB s) (by omega), List.append_assoc]
theorem same6_s (a b : Sl) {A B : List Bs} {w : World} (ha : RL w a A) (hb : RL w b B) (hA : A.length ≤ 1000000000) : C.skeplaw06_same a b w (fun v w' => v = .bool (decide (A = B)) ∧ Kp [] w w') noP := skeplaw06_same_of (by
  unfold W.skeplaw06_same
  have h1 := ha.len
  have h2 := hb.len
  refine cond_n (fun h => ⟨by
    rw [decide_eq_false]
    intro e
    rw [e] at h1
    omega, Kp.refl _ _⟩) (fun h => ?_)
  refine ⟨fun v w' => ∃ k : Nat, v = k ∧ k ≤ A.length ∧ A.take k = B.take k ∧ Kp [] w w', fun v _ => A.length - v.toNat, ⟨_, rfl, 0, rfl, by omega, rfl, Kp.refl _ _⟩, fun e0 v w5 hI => ?_⟩
  obtain ⟨k, rfl, hk, ht, k5⟩ := hI
  refine cond_d (fun h3 w6 hD => ?_) (fun h3 => ?_)
  · have k6 := k5.then0 hD.kp
    obtain ⟨x, s, ex, hx, hs⟩ := (ha.keep0 k6).get (i := k) (by omega)
    obtain ⟨y, t, ey, hy, hbt⟩ := (hb.keep0 k6).get (i := k) (by omega)
    rw [ex, ey, Int.toNat_natCast]
    refine ⟨⟨by omega, h3⟩, s, ⟨rfl, hx⟩, str _, hs.str, ⟨by omega, by omega⟩, t, ⟨rfl, hy⟩, str _, hbt.str, ?_⟩
    rw [strEq_str, wlk k (by omega)]
    by_cases e : A[k]'(by omega) = B[k]'(by omega)
    · refine cond_f (by simp [e]) ⟨_, rfl, ⟨k + 1, rfl, by omega, ?_, k6⟩, by simp only [Int.toNat_natCast]; omega⟩
      rw [List.take_add_one, List.take_add_one, ht, List.getElem?_eq_getElem (by omega), List.getElem?_eq_getElem (by omega), e]
    · refine cond_t (by simp [e]) ⟨?_, k6⟩
      rw [decide_eq_false]
      intro he
      subst he
      exact e rfl
  · have e1 : k = A.length := by omega
    subst e1
    rw [List.take_length, List.take_of_length_le (by omega)] at ht
    exact ⟨by rw [ht]; simp, k5⟩)
theorem numsL_take : ∀ (s : Int) (es : List Bs) (i : Nat), (numsL s es).take i = numsL s (es.take i)
  | _, _, 0 => rfl
  | _, [], _ + 1 => rfl
  | s, e :: r, i + 1 => by rw [numsL, List.take_succ_cons, List.take_succ_cons, numsL, numsL_take]
theorem Lg.cut_more (x : Lg) {j i : Nat} (hj : j ≤ x.es.length) : (x.cut j).recs ++ (numsL (x.s + j) (x.es.drop j)).take i = (x.cut (j + i)).recs := by
  simp only [Lg.recs, Lg.cut, List.cons_append]
  rw [numsL_take, List.take_add, numsL_app, List.length_take, Nat.min_eq_left hj]
theorem KI.crash {m : Nat → Fm} {f j : Nat} {x : Lg} (h : KI m f x j) (a p : Int) : ∃ k, j ≤ k ∧ k ≤ x.es.length ∧ (∃ t, crashM m a p f = ⟨t, t, []⟩ ∧ recs t = (x.cut k).recs) ∧ crashM m a p (1 - f) = ⟨[], [], []⟩ := by
  have hR : ∀ s ∈ numsL (x.s + j) (x.es.drop j), okR s := fun s hs => h.ok s (by rw [x.recs_cut' h.jle]; exact List.mem_append_right _ hs)
  have hA : ∀ s ∈ (x.cut j).recs, okR s := fun s hs => h.ok s (by rw [x.recs_cut' h.jle]; exact List.mem_append_left _ hs)
  obtain ⟨n, hn⟩ : ∃ n : Nat, (if f = 0 then a else p).toNat = n := ⟨_, rfl⟩
  obtain ⟨i, hi, ei⟩ := recs_torn _ hR n
  rw [numsL_len, List.length_drop] at hi
  refine ⟨j + i, by omega, by have := h.jle; omega, ⟨flatR (x.cut j).recs ++ (flatR (numsL (x.s + j) (x.es.drop j))).take n, ?_, ?_⟩, ?_⟩
  · unfold crashM crashF
    rw [hn, h.mf]
    dsimp only
    rw [crash_apps]
  · rw [recs_flat _ _ hA, ei, x.cut_more h.jle]
  · unfold crashM crashF
    rw [h.mo]
    rfl
def flA (f : Nat) (y : Lg) : FL := if f = 0 then some y else none
def flB (f : Nat) (y : Lg) : FL := if f = 1 then some y else none
theorem openM_at {m : Nat → Fm} {i : Nat} (hi : i < 2) {t : Bs} (h : m i = ⟨t, t, []⟩) : openM m i i = ⟨flatR (recs t), flatR (recs t), []⟩ := by
  by_cases c : endL (recs (m i).now) < (m i).now.length
  · have := openM_cut m hi c
    rw [h] at this
    exact this
  · rw [openM_whole m c, h]
    rw [h] at c
    dsimp only at c
    have := recs_take t
    rw [List.take_of_length_le (by omega)] at this
    rw [← this]
theorem open2_at {m : Nat → Fm} {t0 t1 : Bs} (h0 : m 0 = ⟨t0, t0, []⟩) (h1 : m 1 = ⟨t1, t1, []⟩) : open2 m 0 = ⟨flatR (recs t0), flatR (recs t0), []⟩ ∧ open2 m 1 = ⟨flatR (recs t1), flatR (recs t1), []⟩ := by
  refine ⟨?_, ?_⟩
  · unfold open2
    rw [openM_ne _ (by omega) (by omega), openM_at (by omega) h0]
  · unfold open2
    rw [openM_at (t := t1) (by omega) (by rw [openM_ne _ (by omega) (by omega)]; exact h1)]
theorem KI.reopen {m : Nat → Fm} {f : Nat} {y : Lg} {t : Bs} (hf : f < 2) (h1 : m f = ⟨t, t, []⟩) (hr : recs t = y.recs) (h2 : m (1 - f) = ⟨[], [], []⟩) (ok : ∀ s ∈ y.recs, okR s) (s0 : 0 ≤ y.s) :
    KI (openK m (flA f y) (flB f y)) f y y.es.length ∧ openS (flA f y) (flB f y) = smOf f y ∧ openT (flA f y) (flB f y) = (y.snap, y.es) ∧ recs (m 0).now = recsOf (flA f y) ∧ recs (m 1).now = recsOf (flB f y) := by
  have h01 : f = 0 ∨ f = 1 := by omega
  rcases h01 with rfl | rfl
  · have hp : pick (flA 0 y) (flB 0 y) = some (0, y) := rfl
    obtain ⟨o0, o1⟩ := open2_at h1 h2
    rw [hr] at o0
    have ek : openK m (flA 0 y) (flB 0 y) = open2 m := by
      unfold openK
      rw [hp]
      dsimp only
      rw [if_neg]
      rw [show 1 - 0 = 1 from rfl, o1, recs_nil]
      simp [flatR]
    refine ⟨⟨by omega, Nat.le_refl _, ?_, ?_, ok, s0⟩, by unfold openS; rw [hp]; rfl, by unfold openT; rw [hp], ?_, ?_⟩
    · rw [ek, o0, y.cut_all]
      simp [numsL]
    · rw [ek, show 1 - 0 = 1 from rfl, o1, recs_nil]
      simp [flatR]
    · rw [h1]; exact hr
    · rw [show (1 : Nat) = 1 - 0 from rfl, h2]; rfl
  · have hp : pick (flA 1 y) (flB 1 y) = some (1, y) := rfl
    obtain ⟨o0, o1⟩ := open2_at (m := m) h2 h1
    rw [hr] at o1
    have ek : openK m (flA 1 y) (flB 1 y) = open2 m := by
      unfold openK
      rw [hp]
      dsimp only
      rw [if_neg]
      rw [show 1 - 1 = 0 from rfl, o0, recs_nil]
      simp [flatR]
    refine ⟨⟨by omega, Nat.le_refl _, ?_, ?_, ok, s0⟩, by unfold openS; rw [hp]; rfl, by unfold openT; rw [hp], ?_, ?_⟩
    · rw [ek, o1, y.cut_all]
      simp [numsL]
    · rw [ek, show 1 - 1 = 0 from rfl, o0, recs_nil]
      simp [flatR]
    · rw [show (0 : Nat) = 1 - 1 from rfl, h2]; rfl
    · rw [h1]; exact hr
theorem okFL_A {f : Nat} {y : Lg} (h : okLg y) : okFL (flA f y) ∧ okFL (flB f y) := by
  unfold flA flB
  refine ⟨?_, ?_⟩
  · split
    · exact h
    · trivial
  · split
    · exact h
    · trivial
/-- The crash of a store's disk; what is opened then. -/
theorem stold_s {w0 w : World} {G : Nat → Prop} {d : Nat} {m : Nat → Fm} {f : Nat} {y : Lg} {t : Bs} (h : DG w0 w G d m) (hu : ∀ i, i < 2 → unitsL (m i).pend ≤ 500000000) (hf : f < 2) (h1 : m f = ⟨t, t, []⟩) (hr : recs t = y.recs) (h2 : m (1 - f) = ⟨[], [], []⟩) (ok : ∀ s ∈ y.recs, okR s) (hy : okLg y) :
    C.skeplaw06_told (PD d) w (fun v w' => ∃ (st : Nat) (q1 q2 : Sl) (G' : Nat → Prop), v = .tuple #[.slice q1.a q1.len q1.cap, .slice q2.a q2.len q2.cap, .int .i64 y.s, .bool true] ∧ SK w0 w' G' st d f y y.es.length ∧ KG G w w' ∧ (∀ k, G k → G' k) ∧ RdB w' q1 y.snap ∧ (∀ z ∈ blkOf q1, G' z ∧ z ≠ st) ∧ RG w' (fun z => G' z ∧ z ≠ st) q2 y.es) noP := skeplaw06_told_of (by
  unfold W.skeplaw06_told
  obtain ⟨hki, e1, e2, r0, r1⟩ := KI.reopen hf h1 hr h2 ok hy.2.1.1
  obtain ⟨oa, ob⟩ := okFL_A (f := f) hy
  refine use (Open_k h hu r0 r1 oa ob) ?_
  rintro _ w1 ⟨st, q1, q2, G', L, rfl, hS, k1, hG, hst, hq1, hq1G, hq2, _, _⟩
  rw [e1] at hS
  rw [e2] at hq1 hq2
  have hK : SK w0 w1 G' st d f y y.es.length := ⟨_, L, hS, hki⟩
  have hql := hq2.len
  dsimp only at hql
  obtain ⟨⟨y1, y2⟩, ⟨y3, y4⟩, y5⟩ := hy
  refine ⟨(PD st, q1, q2, 0), rfl, cond_f rfl (cond_f rfl ?_)⟩
  refine use hK.from ?_
  rintro _ _ ⟨rfl, rfl⟩
  refine ⟨_, rfl, use hK.last ?_⟩
  rintro _ _ ⟨rfl, rfl⟩
  refine ⟨_, rfl, use hK.from ?_⟩
  rintro _ _ ⟨rfl, rfl⟩
  refine ⟨_, rfl, st, q1, q2, G', ?_, hK, k1, hG, hq1, hq1G, hq2⟩
  have : ((y.s + (y.es.length : Int)) == IntKind.i64.wrap (y.s + (q2.len : Int))) = true := beq_t (by rw [IntKind.wrap_i64]; omega)
  rw [this])
end Go.Proofs.Ytfgepillnemolaa
