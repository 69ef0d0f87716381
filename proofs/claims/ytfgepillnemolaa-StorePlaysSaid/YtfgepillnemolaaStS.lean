/- A store between its calls; awake; the law StoreOnce. No conditions. -/
import Derived.Test.YtfgepillnemolaaStR
namespace Go.Proofs.Ytfgepillnemolaa
open Go.RowKit Go.Eng
set_option linter.unusedVariables false
set_option linter.unusedSimpArgs false
theorem u00 : ∀ i, i < 2 → unitsL (m00 i).pend ≤ 500000000 := fun i _ => Nat.zero_le _
theorem alloc_marked {w w1 w2 : World} {b : Nat} {t : TypeId} {cs : List Value} (h : Alloc w b t cs w1) (hm : Marked w1 ⟨b, 0, none⟩ w2) : Kp [] w w2 := by
  have := h.eq
  exact h.kp.then hm.kp.1 (by simp; omega)
structure SK (w0 w : World) (G : Nat → Prop) (st d f : Nat) (x : Lg) (j : Nat) : Prop where
  ex : ∃ m L, SW w0 w G st d L (smOf f x) m ∧ KI m f x j
theorem SK.keep {w0 w w' : World} {G : Nat → Prop} {st d f j : Nat} {x : Lg} (h : SK w0 w G st d f x j) (k : Kp [] w w') : SK w0 w' G st d f x j := by
  obtain ⟨m, L, h1, h2⟩ := h.ex
  exact ⟨m, L, h1.keep k, h2⟩
theorem SK.grow {w0 w w' : World} {G : Nat → Prop} {st d f j : Nat} {x : Lg} (h : SK w0 w G st d f x j) (k : Kp [] w w') : SK w0 w' (fun x => G x ∨ New w w' x) st d f x j := by
  obtain ⟨m, L, h1, h2⟩ := h.ex
  exact ⟨m, L, h1.grow k, h2⟩
theorem SK.kp {w0 w : World} {G : Nat → Prop} {st d f j : Nat} {x : Lg} (h : SK w0 w G st d f x j) : Kp [] w0 w := by
  obtain ⟨m, L, h1, h2⟩ := h.ex
  exact h1.dg.kp
theorem SK.gst {w0 w : World} {G : Nat → Prop} {st d f j : Nat} {x : Lg} (h : SK w0 w G st d f x j) : G st ∧ w0.heap.size ≤ st := by
  obtain ⟨m, L, h1, h2⟩ := h.ex
  exact ⟨h1.is.g.1, h1.lo⟩
theorem SK.lt {w0 w : World} {G : Nat → Prop} {st d f j : Nat} {x : Lg} (h : SK w0 w G st d f x j) : ∀ y, G y → y < w.heap.size := by
  obtain ⟨m, L, h1, h2⟩ := h.ex
  exact h1.dg.lt
theorem ent_len (n : Int) (b : Bs) : 1 + b.length ≤ (entB n b).length ∧ (entB n b).length ≤ 10 + b.length := by
  have := putN_len n
  simp only [entB, List.length_append]
  omega
theorem SK.app {w0 w : World} {G : Nat → Prop} {st d f j : Nat} {x : Lg} (h : SK w0 w G st d f x j) {n : Int} (hn : n = x.s + x.es.length + 1) {p : Sl} {b : Bs} (hp : RdB w p b) (hb : b.length ≤ 60000) (hs : x.s + x.es.length ≤ 1000000000) (hfit : endL x.recs ≤ 16000000) :
    C.store_Store_Append (PD st) n p w (fun v w' => v = .int .i64 0 ∧ SK w0 w' G st d f (x.add b) j ∧ KS G st w w') noP := by
  subst hn
  obtain ⟨m, L, h1, h2⟩ := h.ex
  have h3 := h2.s0
  have h4 := ent_len (x.s + x.es.length + 1) b
  obtain ⟨m', e, hk⟩ := h2.app b ⟨by omega, by omega⟩ (by omega)
  refine use (SAppend_s h1 (x.s + x.es.length + 1) ⟨by omega, by omega⟩ hp (by omega) (fun i hi => by have := h2.units i hi; omega)) ?_
  rintro _ w1 ⟨rfl, hw, k1⟩
  rw [e] at hw ⊢
  exact ⟨rfl, ⟨m', L, hw, hk⟩, k1⟩
/-- A number that is not the next. -/
theorem SK.noapp {w0 w : World} {G : Nat → Prop} {st d f j : Nat} {x : Lg} (h : SK w0 w G st d f x j) {n : Int} (hi : in64 n) (hn : n ≠ x.s + x.es.length + 1) {p : Sl} {b : Bs} (hp : RdB w p b) (hb : b.length ≤ 60000) (hfit : endL x.recs ≤ 16000000) :
    C.store_Store_Append (PD st) n p w (fun v w' => v = .int .i64 (if 1 ≤ n ∧ n ≤ x.s + x.es.length then 0 else 8) ∧ SK w0 w' G st d f x j ∧ KS G st w w') noP := by
  obtain ⟨m, L, h1, h2⟩ := h.ex
  have h3 := h2.s0
  have e : appS (smOf f x) m n b = ((if 1 ≤ n ∧ n ≤ x.s + x.es.length then 0 else 8), smOf f x, m) := by
    unfold appS smOf
    dsimp only
    by_cases c1 : n < 1 ∨ x.s + x.es.length < n - 1
    · rw [if_pos c1, if_neg (by omega)]
    · rw [if_neg c1, if_pos (by omega), if_pos (by omega)]
  refine use (SAppend_s h1 n hi hp (by omega) (fun i hi => by have := h2.units i hi; omega)) ?_
  rintro _ w1 ⟨rfl, hw, k1⟩
  rw [e] at hw ⊢
  exact ⟨rfl, ⟨m, L, hw, h2⟩, k1⟩
theorem SK.sync {w0 w : World} {G : Nat → Prop} {st d f j : Nat} {x : Lg} (h : SK w0 w G st d f x j) :
    C.store_Store_Sync (PD st) w (fun v w' => v = .int .i64 0 ∧ SK w0 w' G st d f x x.es.length ∧ KS G st w w') noP := by
  obtain ⟨m, L, h1, h2⟩ := h.ex
  refine use (SSync_s h1) ?_
  rintro _ w1 ⟨rfl, hw, k1⟩
  exact ⟨rfl, ⟨_, L, hw, h2.sync⟩, KS.of k1⟩
theorem SK.check {w0 w : World} {G : Nat → Prop} {st d f j : Nat} {x : Lg} (h : SK w0 w G st d f x j) {p : Sl} {b : Bs} (hp : RdB w p b) (hb : b.length ≤ 60000) (hg : 0 ≤ x.g ∧ x.g ≤ 1000000000) (hs : x.s + x.es.length ≤ 1000000000) (hfit : endL x.recs ≤ 16777216) :
    C.store_Store_Check (PD st) p w (fun v w' => v = .int .i64 0 ∧ SK w0 w' G st d (1 - f) ⟨x.g + 1, x.s + x.es.length, b, []⟩ 0 ∧ KS G st w w') noP := by
  obtain ⟨m, L, h1, h2⟩ := h.ex
  have h3 := h2.s0
  have p1 := putN_len (x.g + 1)
  have p2 := putN_len (x.s + x.es.length)
  obtain ⟨m', e, hk⟩ := h2.check b (by simp only [hdB, List.length_append]; omega)
  refine use (SCheck_s h1 hp (by omega) ⟨by show -9223372036854775808 ≤ x.g + 1; omega, by show x.g + 1 ≤ 9223372036854775807; omega⟩ ⟨by show -9223372036854775808 ≤ x.s + x.es.length; omega, by show x.s + x.es.length ≤ 9223372036854775807; omega⟩ (fun i hi => by have := h2.units i hi; omega)) ?_
  rintro _ w1 ⟨rfl, hw, k1⟩
  rw [e] at hw ⊢
  exact ⟨rfl, ⟨m', L, hw, hk⟩, k1⟩
theorem SK.last {w0 w : World} {G : Nat → Prop} {st d f j : Nat} {x : Lg} (h : SK w0 w G st d f x j) : C.store_Store_Last (PD st) w (fun v w' => v = .int .i64 (x.s + x.es.length) ∧ w = w') noP := by
  obtain ⟨m, L, h1, h2⟩ := h.ex
  exact Last_s h1
theorem SK.from {w0 w : World} {G : Nat → Prop} {st d f j : Nat} {x : Lg} (h : SK w0 w G st d f x j) : C.store_Store_From (PD st) w (fun v w' => v = .int .i64 x.s ∧ w = w') noP := by
  obtain ⟨m, L, h1, h2⟩ := h.ex
  exact From_s h1
theorem SK.size {w0 w : World} {G : Nat → Prop} {st d f j : Nat} {x : Lg} (h : SK w0 w G st d f x j) : C.store_Store_Size (PD st) w (fun v w' => v = .int .i64 (endL x.recs : Nat) ∧ Kp [] w w') noP := by
  obtain ⟨m, L, h1, h2⟩ := h.ex
  refine use (SSize_s h1) ?_
  rintro _ w1 ⟨rfl, k1⟩
  rw [show (smOf f x).1 = f from rfl, h2.size]
  exact ⟨rfl, k1⟩
theorem SK.read {w0 w : World} {G : Nat → Prop} {st d j : Nat} {f : Nat} {x : Lg} (h : SK w0 w G st d f x j) : C.disk_Disk_Read (PD d) f w (fun v w' => ∃ q : Sl, v = .slice q.a q.len q.cap ∧ OwnB w' w.heap.size q (flatR x.recs) ∧ Kp [] w w') noP := by
  obtain ⟨m, L, h1, h2⟩ := h.ex
  refine use (Read_g (f : Int) h1.dg) ?_
  rintro _ w1 ⟨q, rfl, ho, k1⟩
  rw [readF_i m h2.f2, h2.mf] at ho
  exact ⟨q, rfl, ho, k1⟩
theorem SK.dsize {w0 w : World} {G : Nat → Prop} {st d j : Nat} {f : Nat} {x : Lg} (h : SK w0 w G st d f x j) (i : Nat) (hi : i < 2) : C.disk_Disk_Size (PD d) i w (fun v w' => v = .int .i64 ((if i = f then endL x.recs else 0 : Nat) : Int) ∧ w = w') noP := by
  obtain ⟨m, L, h1, h2⟩ := h.ex
  refine use (Size_g (i : Int) h1.dg) ?_
  rintro _ w1 ⟨rfl, rfl⟩
  rw [readF_i m hi]
  refine ⟨?_, rfl⟩
  rcases i01 hi h2.f2 with rfl | rfl
  · rw [if_pos rfl, h2.size]
  · have := h2.f2
    rw [if_neg (by omega), h2.mo]
    rfl
/-- A new disk, opened. -/
theorem Start_k {w0 w : World} {G : Nat → Prop} {d : Nat} (h : DG w0 w G d m00) : C.store_Open (PD d) w (fun v w' => ∃ (st : Nat) (q1 q2 : Sl) (G' : Nat → Prop), v = .tuple #[.pointer (PD st), .slice q1.a q1.len q1.cap, .slice q2.a q2.len q2.cap, .int .i64 0] ∧ SK w0 w' G' st d 0 x0 0 ∧ KG G w w' ∧ (∀ k, G k → G' k) ∧ w.heap.size ≤ st ∧ q1.len = 0 ∧ q2.len = 0) noP := by
  refine use (Open_k h u00 (a := none) (b := none) rfl rfl trivial trivial) ?_
  rintro _ w1 ⟨st, q1, q2, G', L, rfl, hS, k1, hG, ⟨hst, _, _⟩, r1, _, r2, _, _⟩
  exact ⟨st, q1, q2, G', rfl, ⟨_, L, hS, KI.fresh⟩, k1, hG, hst, r1.bsize.symm, r2.len.symm⟩
theorem x0_end : endL x0.recs = 10 := by decide
set_option maxHeartbeats 1000000 in
theorem awake_s (w : World) : C.skeplaw06_awake w (fun v w' => v = .bool true ∧ Kp [] w w') noP := skeplaw06_awake_of (by
  unfold W.skeplaw06_awake
  refine use (New_g w w (Kp.refl _ _)) ?_
  rintro _ w1 ⟨d, rfl, hD, k1⟩
  refine ⟨PD d, rfl, use (Start_k hD) ?_⟩
  rintro _ w4 ⟨st, q1, q2, G, rfl, hS, k4, -, hst, h1, h2⟩
  refine ⟨(PD st, q1, q2, 0), rfl, cond_f rfl (cond_f rfl (cond_f (by dsimp only; rw [h1, h2]; rfl) (fun b7 w8 hA w9 hM => ?_)))⟩
  have k49 := alloc_marked hA hM
  have hb : RdB w9 ⟨some ⟨b7, 0, none⟩, 1, 1⟩ [97] := Blk.rdb (hM.blk hA.blk) rfl 1 1 rfl
  refine use ((hS.keep k49).app (by simp [x0]) hb (by decide) (by simp [x0]) (by rw [x0_end]; omega)) ?_
  rintro _ w10 ⟨rfl, hS1, k10⟩
  refine ⟨0, rfl, cond_f rfl (fun b13 w14 hA2 w15 hM2 => ?_)⟩
  have k1015 := alloc_marked hA2 hM2
  have hb2 : RdB w15 ⟨some ⟨b13, 0, none⟩, 1, 1⟩ [98] := Blk.rdb (hM2.blk hA2.blk) rfl 1 1 rfl
  have e1 : endL (x0.add [97]).recs = 20 := by decide
  refine use ((hS1.keep k1015).noapp (n := 1) ⟨by decide, by decide⟩ (by simp [x0, Lg.add]) hb2 (by decide) (by rw [e1]; omega)) ?_
  rintro _ w16 ⟨rfl, hS2, k16⟩
  refine ⟨_, rfl, cond_f (by simp [x0, Lg.add]) ?_⟩
  refine use (hS2.noapp (n := 3) (p := ⟨none, 0, 0⟩) (b := []) ⟨by decide, by decide⟩ (by simp [x0, Lg.add]) (Go.Eng.Own.nil w16 0 1).rds (by decide) (by rw [e1]; omega)) ?_
  rintro _ w19 ⟨rfl, hS3, k19⟩
  refine ⟨_, rfl, cond_f (by simp [x0, Lg.add]) ?_⟩
  refine use hS3.last ?_
  rintro _ _ ⟨rfl, rfl⟩
  refine ⟨_, rfl, cond_t (by simp [x0, Lg.add]) ?_⟩
  refine use hS3.from ?_
  rintro _ _ ⟨rfl, rfl⟩
  refine ⟨_, rfl, cond_t (by simp [x0, Lg.add]) ?_⟩
  refine use (hS3.dsize 0 (by omega)) ?_
  rintro _ _ ⟨rfl, rfl⟩
  refine ⟨_, rfl, cond_t (by rw [if_pos rfl, e1]; rfl) ?_⟩
  refine use hS3.size ?_
  rintro _ w31 ⟨rfl, k31⟩
  exact ⟨_, rfl, by rw [e1]; rfl, hS3.kp.then0 k31⟩)
theorem aw6 {w0 w : World} (k : Kp [] w0 w) : C.skeplaw06_awake w (fun r w' => ∃ p : Bool, r = .bool p ∧ ((.bool p : Value) = .bool true ∧ Kp [] w0 w')) noP := by
  refine use (awake_s w) ?_
  rintro _ w1 ⟨rfl, k1⟩
  exact ⟨_, rfl, rfl, k.then0 k1⟩
end Go.Proofs.Ytfgepillnemolaa
