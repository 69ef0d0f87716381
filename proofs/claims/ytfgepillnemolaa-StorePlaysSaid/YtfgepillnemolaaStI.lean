/- The document's store is opened. No conditions. -/
import Derived.Test.YtfgepillnemolaaStH
import Derived.Test.YtfgepillnemolaaWal3
namespace Go.Proofs.Ytfgepillnemolaa
open Go.RowKit Go.Eng
set_option linter.unusedVariables false
set_option linter.unusedSimpArgs false
theorem blk_drop {p : Sl} {c n k l' c' : Nat} : ∀ y ∈ blkOf ⟨if c = n then p.a else p.a.map (fun x => Addr.add x k), l', c'⟩, y ∈ blkOf p := by
  intro y hy
  unfold blkOf at hy ⊢
  cases hs : p.a with
  | none => rw [hs] at hy; split at hy <;> simp_all
  | some a =>
    rw [hs] at hy
    split at hy
    · rename_i a' ha'
      split at ha'
      · injection ha' with ha'; subst ha'; exact hy
      · simp at ha'
        subst ha'
        rw [add_block] at hy
        exact hy
    · cases hy
theorem rec_get {w : World} {lo : Nat} {El : Nat → Prop} {q : Sl} {R : List Bs} (h : LS w lo 2 cf2 El q (pos 0 R)) {i : Nat} (hi : i < R.length) :
    ∃ a x, q.a = some a ∧ w.cell? ((a.add (i * 2)).add 1) = some (.slice x.a x.len x.cap) ∧ RdB w x R[i] ∧ (∀ y ∈ blkOf x, El y ∧ y < w.heap.size ∧ y ∉ blkOf q) ∧ x.len ≤ x.cap := by
  have hi' : i < (pos 0 R).length := by rw [pos_len]; exact hi
  obtain ⟨a, x, h1, h2, h3, h4, h5⟩ := h.get (fun _ _ => rfl) (by decide) hi'
  refine ⟨a, x, h1, h2 1 _ rfl, ?_, h4, h5⟩
  rw [pos_get R 0 i hi] at h3
  exact h3
theorem rec_len {w : World} {lo : Nat} {El : Nat → Prop} {q : Sl} {R : List Bs} (h : LS w lo 2 cf2 El q (pos 0 R)) : R.length = q.len := by
  have := h.len (fun _ _ => rfl) (by decide)
  rwa [pos_len] at this
/-- What was told of a file: nothing that the disk may touch. -/
structure QJ (w : World) (lo : Nat) (H : Nat → Prop) (q : Sl) (R : List Bs) : Prop where
  ls : LS w lo 2 cf2 (fun y => lo ≤ y ∧ ¬ H y) q (pos 0 R)
  n : ∀ y ∈ blkOf q, ¬ H y
theorem QJ.lo' {w : World} {lo : Nat} {H : Nat → Prop} {q : Sl} {R : List Bs} (h : QJ w lo H q R) : ∀ y ∈ blkOf q, lo ≤ y ∧ y < w.heap.size := h.ls.lo
theorem QJ.re {w w' : World} {lo rd : Nat} {H H' : Nat → Prop} {m : Nat → Fm} {q : Sl} {R : List Bs} (h : QJ w lo H q R) (r : RE w w' H H' rd m) : QJ w' lo H' q R := by
  have hn : ∀ y, ¬ H y → y < w.heap.size → ¬ H' y := fun y hy hl hy' => (r.ev y hy').elim hy (fun h => by have := h.1; omega)
  have s := r.k.size
  refine ⟨?_, fun y hy => hn y (h.n y hy) (h.ls.lo y hy).2⟩
  obtain ⟨xs, h1, h2, h3⟩ := h.ls.ex
  have h1l := h.ls.lo
  refine ⟨⟨xs, h1.keepF r.k h.n, h2, fun i x b hx hb => ?_⟩⟩
  obtain ⟨e1, e2, e3, e4⟩ := h3 i x b hx hb
  exact ⟨e1, e2.keepF r.k (fun y hy => (e3 y hy).1.2), fun y hy => ⟨⟨(e3 y hy).1.1, hn y (e3 y hy).1.2 (e3 y hy).2.1⟩, by have := (e3 y hy).2.1; omega, (e3 y hy).2.2⟩, e4⟩
theorem QJ.keepL {w w' : World} {lo : Nat} {H : Nat → Prop} {q : Sl} {R : List Bs} {l : List Nat} (h : QJ w lo H q R) (k : Kp l w w') (hl : ∀ x ∈ l, x < lo ∨ w.heap.size ≤ x) : QJ w' lo H q R := by
  refine ⟨?_, h.n⟩
  have kf : KpF (fun x => x ∈ l) w w' := k.toF (fun x hx => .inl hx)
  exact h.ls.keepF kf (fun y hy hm => by have := h.ls.lo y hy; rcases hl y hm with h | h <;> omega) (fun y hy hlt hm => by have := hy.1; rcases hl y hm with h | h <;> omega)
set_option maxHeartbeats 1000000 in
theorem rLog_s {H : Nat → Prop} {rd : Nat} {m : Nat → Fm} {f : Nat} (hf : f < 2) {w : World} (h : RDiskIs w H rd (rofs m)) (l : LeadsM m) (hu : ∀ i, i < 2 → unitsL (m i).pend ≤ 900000000) :
    C.skepref06_log (PD rd) f w (fun v w' => ∃ (q : Sl) (H' : Nat → Prop), v = .slice q.a q.len q.cap ∧ QJ w' w.heap.size H' q (recs (m f).now) ∧ RE w w' H H' rd (openM m f)) noP := skepref06_log_of (by
  unfold W.skepref06_log
  refine use (rRead_b (f : Int) h l (fun i hi => by have := hu i hi; omega)) ?_
  rintro _ w1 ⟨p, rfl, o1, k1⟩
  rw [readF_i m hf] at o1
  have hsm := small_now (l f hf)
  have hpl := o1.rds.bsize
  refine ⟨p, rfl, use (rRecords_s p o1.rds o1.lc (by omega)) ?_⟩
  rintro _ w4 ⟨q, rfl, hS, k4⟩
  have k04 := k1.then0 k4
  have hlt := h.lt
  have z1 := k1.size
  have z4 := k4.size
  have hSlo := hS.lo
  have hQ : QJ w4 w.heap.size H q (recs (m f).now) := ⟨hS.mono2 z1 (fun y hy _ => ⟨by omega, fun hH => by have := hlt y hH; omega⟩), fun y hy hH => by have := hSlo y hy; have := hlt y hH; omega⟩
  have r4 := RE.kp h l k04
  refine ⟨(q, endL (recs (m f).now)), rfl, cond_d (fun c1 => ?_) (fun c1 => ?_)⟩
  · dsimp only at c1
    have em : openM m f = syncMf (cutMf m f (endL (recs (m f).now))) f := by unfold openM; rw [if_pos (by omega)]
    rw [em]
    refine use (rCut_e (f : Int) ((endL (recs (m f).now) : Nat) : Int) r4.is l (fun i hi => by have := hu i hi; omega)) ?_
    rintro _ w7 ⟨rfl, H1, h1⟩
    refine ⟨_, rfl, use (rSync_e (f : Int) h1.is h1.l (fun i hi => by have := cutMf_at m (f : Int) ((endL (recs (m f).now) : Nat) : Int) i; have := hu i hi; omega)) ?_⟩
    rintro _ w10 ⟨rfl, H2, h2⟩
    exact ⟨_, rfl, q, H2, rfl, hQ.re (h1.trans h2), (r4.trans h1).trans h2⟩
  · dsimp only at c1
    rw [openM_whole m (by omega)]
    exact ⟨q, H, rfl, hQ, r4⟩)
set_option maxHeartbeats 1000000 in
theorem rHead_s {p : Sl} {x : Lg} (hx : okLg x) {w : World} (hp : RdB w p (hdB x.g x.s x.snap)) (hc : p.len ≤ p.cap) (hl : (hdB x.g x.s x.snap).length ≤ 100000) :
    C.skepref06_head p w (fun v w' => ∃ q : Sl, v = .tuple #[.int .i64 x.g, .int .i64 x.s, .slice q.a q.len q.cap, .bool true] ∧ RdB w' q x.snap ∧ (∀ y ∈ blkOf q, y ∈ blkOf p) ∧ Kp [] w w') noP := skepref06_head_of (by
  unfold W.skepref06_head
  intro b1 w2 hA
  have s2 := hA.eq
  have hpl := hp.bsize
  obtain ⟨i1, i2⟩ := in64_s hx
  obtain ⟨⟨x1, x2⟩, ⟨x3, x4⟩, x5⟩ := hx
  have hR : RsR w2 b1 p (hdB x.g x.s x.snap) (some 0) := ⟨⟨0, false, hA.blk, rfl, rfl, Nat.zero_le _⟩, hp.keep0 hA.kp, fun h0 hb => by have := hp.ltB (by decide) h0 b1 hb; omega, by omega⟩
  refine use (R_Number_p b1 w2 p _ _ hR) ?_
  rintro _ w3 ⟨v1, st1, rfl, hr1, hR1, k3⟩
  have en1 : num ((hdB x.g x.s x.snap).drop 0) = some (x.g, putN x.s ++ x.snap) := by rw [List.drop_zero]; exact num_put i1 _
  obtain ⟨k1, rfl, rfl, hd1⟩ : ∃ k1, st1 = some k1 ∧ v1 = x.g ∧ (hdB x.g x.s x.snap).drop k1 = putN x.s ++ x.snap := by
    rcases hr1 with ⟨k, k', e1, e2, e3⟩ | ⟨e1, e2⟩
    · injection e1 with e1
      subst e1
      rw [en1] at e3
      injection e3 with e3
      injection e3 with e3 e4
      exact ⟨k', e2, e3.symm, e4.symm⟩
    · have := e2 0 rfl
      rw [en1] at this
      cases this
  refine ⟨_, rfl, use (R_Number_p b1 w3 p _ _ hR1) ?_⟩
  rintro _ w6 ⟨v2, st2, rfl, hr2, hR2, k6⟩
  have en2 : num ((hdB x.g x.s x.snap).drop k1) = some (x.s, x.snap) := by rw [hd1]; exact num_put i2 _
  obtain ⟨k2, rfl, rfl, hd2⟩ : ∃ k2, st2 = some k2 ∧ v2 = x.s ∧ (hdB x.g x.s x.snap).drop k2 = x.snap := by
    rcases hr2 with ⟨k, k', e1, e2, e3⟩ | ⟨e1, e2⟩
    · injection e1 with e1
      subst e1
      rw [en2] at e3
      injection e3 with e3
      injection e3 with e3 e4
      exact ⟨k', e2, e3.symm, e4.symm⟩
    · have := e2 k1 rfl
      rw [en2] at this
      cases this
  obtain ⟨⟨at2, bad2, hB2, rfl, rfl, hk2⟩, hd, _, _⟩ := hR2
  refine ⟨_, rfl, false, ⟨rfl, hB2.at rfl⟩, cond_f rfl (cond_d (fun hc => absurd hc (by omega)) (fun _ => cond_d (fun hc => absurd hc (by omega)) (fun _ => cond_d (fun hc => absurd hc (by omega)) (fun _ => cond_d (fun hc => absurd hc (by omega)) (fun _ w10 hD => ?_)))))⟩
  have kk : Kp [] w w10 := ((hA.kp.then k3 (by simp; omega)).then k6 (by simp; omega)).then0 hD.kp
  refine ⟨_, ⟨rfl, (hB2.keep hD.kp (by simp)).at (i := 1) rfl⟩, ⟨by omega, by omega⟩, ?_⟩
  rw [Int.toNat_natCast]
  have := (hp.keep0 kk).bdrop hc (n := k2) (by omega) (p.len - k2) (p.cap - k2) rfl
  rw [hd2] at this
  exact ⟨⟨_, p.len - k2, p.cap - k2⟩, rfl, this, blk_drop, kk⟩)
end Go.Proofs.Ytfgepillnemolaa
