/- The store's heads, what goes through its entries. No conditions. -/
import Derived.Test.YtfgepillnemolaaStB
namespace Go.Proofs.Ytfgepillnemolaa
open Go.RowKit Go.Eng
set_option linter.unusedVariables false
set_option linter.unusedSimpArgs false
def hv (a : FL) (q : Sl) : S.store_head := match a with
  | none => ⟨0, 0, ⟨none, 0, 0⟩, false⟩
  | some x => ⟨x.g, x.s, q, true⟩
def hq (w : World) (G : Nat → Prop) (a : FL) (q : Sl) : Prop := match a with
  | none => q = ⟨none, 0, 0⟩
  | some x => RdB w q x.snap ∧ ∀ y ∈ blkOf q, G y
theorem hq.keepF {w w' : World} {G F : Nat → Prop} {a : FL} {q : Sl} (h : hq w G a q) (k : KpF F w w') (hF : ∀ y, G y → ¬ F y) : hq w' G a q := by
  cases a with
  | none => exact h
  | some x => exact ⟨h.1.keepF k (fun y hy => hF y (h.2 y hy)), h.2⟩
theorem hq.keep0 {w w' : World} {G : Nat → Prop} {a : FL} {q : Sl} (h : hq w G a q) (k : Kp [] w w') : hq w' G a q := h.keepF (k.toF (F := fun _ => False) (by simp)) (fun _ _ h => h)
theorem hq.mono {w : World} {G G' : Nat → Prop} {a : FL} {q : Sl} (h : hq w G a q) (hG : ∀ y, G y → G' y) : hq w G' a q := by
  cases a with
  | none => exact h
  | some x => exact ⟨h.1, fun y hy => hG y (h.2 y hy)⟩
set_option maxHeartbeats 1000000 in
theorem heads_s {l : Sl} {G : Nat → Prop} {a : FL} {w : World} (hok : okFL a) (hl : RG w G l (recsOf a)) (hsz : ∀ s ∈ recsOf a, s.length ≤ 65536) : C.store_heads l w (fun v w' => ∃ q : Sl, v = S.store_head.v (hv a q) ∧ hq w' G a q ∧ Kp [] w w') noP := store_heads_of (by
  unfold W.store_heads
  have hlen := hl.len
  intro b1 w2 hA
  have s2 := hA.eq
  cases a with
  | none =>
    simp only [recsOf, List.length_nil] at hlen
    refine cond_e (fun _ => ⟨⟨rfl, hA.blk.canN _ (Nat.le_refl _)⟩, fun w3 e3 => ?_⟩) (fun hc => absurd (by omega) hc)
    obtain ⟨g1, k3, _⟩ := hA.blk.putAll (vs := #[.int .i64 0, .int .i64 0, .slice none 0 0, .bool false]) rfl e3
    exact ⟨⟨0, 0, ⟨none, 0, 0⟩, false⟩, ⟨rfl, g1.rd0⟩, ⟨none, 0, 0⟩, rfl, rfl, hA.kp.then k3 (by simp; omega)⟩
  | some x =>
    obtain ⟨⟨x1, x2⟩, ⟨x3, x4⟩, x5⟩ : okLg x := hok
    obtain ⟨i1, i2⟩ := in64_s (x := x) ⟨⟨x1, x2⟩, ⟨x3, x4⟩, x5⟩
    simp only [recsOf, Lg.recs, List.length_cons] at hlen
    refine cond_e (fun hc => absurd hc (by omega)) (fun _ => ⟨⟨by omega, by omega⟩, ?_⟩)
    obtain ⟨A, y, hAa, hc, hy, hyc, hyG⟩ := hl.get (i := 0) (by simp [recsOf, Lg.recs])
    have e0 : (recsOf (some x))[0]'(by simp [recsOf, Lg.recs]) = hdB x.g x.s x.snap := rfl
    rw [e0] at hy
    have hyw := hy
    have hyl := hy.bsize
    replace hy := hy.keep0 hA.kp
    replace hc := cell_keep hc hA.kp (by simp)
    have hyz : (hdB x.g x.s x.snap).length ≤ 65536 := hsz _ (by simp [recsOf, Lg.recs])
    rw [Nat.zero_mul, show A.add 0 = A by rw [Addr.add]; simp] at hc
    refine ws hAa ⟨y, ⟨rfl, hc⟩, use (GetNumber_s 0 (by constructor <;> decide) hy (by omega)) ?_⟩
    rintro _ _ ⟨rfl, rfl⟩
    have g1 : getN (hdB x.g x.s x.snap) 0 = (x.g, ((putN x.g).length : Int), true) := getN_put i1 _
    have g2 : getN (hdB x.g x.s x.snap) ((putN x.g).length : Int) = (x.s, (((putN x.g).length + (putN x.s).length : Nat) : Int), true) := getN_put2 i2 _
    rw [g1]
    have pl1 := putN_len x.g
    have pl2 := putN_len x.s
    have hdl : (hdB x.g x.s x.snap).length = (putN x.g).length + ((putN x.s).length + x.snap.length) := by simp [hdB]
    refine ⟨(x.g, ((putN x.g).length : Int), true), rfl, ⟨by omega, by omega⟩, ws hAa ⟨y, ⟨rfl, hc⟩, use (GetNumber_s _ ⟨by dsimp only; omega, by dsimp only; omega⟩ hy (by omega)) ?_⟩⟩
    rintro _ _ ⟨rfl, rfl⟩
    dsimp only
    rw [g2]
    refine ⟨(x.s, (((putN x.g).length + (putN x.s).length : Nat) : Int), true), rfl, cond_f rfl (cond_f rfl (cond_d (fun hc => absurd hc (by omega)) (fun _ => cond_d (fun hc => absurd hc (by omega)) (fun _ => cond_d (fun hc => absurd hc (by omega)) (fun _ => cond_d (fun hc => absurd hc (by omega)) (fun _ => ⟨⟨by omega, by omega⟩, ws hAa ⟨y, ⟨rfl, hc⟩, ⟨by dsimp only; omega, by dsimp only; omega⟩, ⟨rfl, hA.blk.canN _ (Nat.le_refl _)⟩, fun w29 e29 => ?_⟩⟩))))))⟩
    dsimp only at e29
    rw [Int.toNat_natCast] at e29
    obtain ⟨P, hP⟩ : ∃ P, (putN x.g).length + (putN x.s).length = P := ⟨_, rfl⟩
    rw [hP] at e29
    obtain ⟨g3, k29, _⟩ := hA.blk.putAll (vs := #[.int .i64 x.g, .int .i64 x.s, .slice (if y.cap = P then y.a else Option.map (fun x => Addr.add x (P * 1)) y.a) (y.len - P) (y.cap - P), .bool true]) rfl e29
    have hdr := hy.bdrop hyc (n := P) (by omega) (y.len - P) (y.cap - P) rfl
    have e3 : (hdB x.g x.s x.snap).drop P = x.snap := by
      unfold hdB
      rw [← List.append_assoc, List.drop_left' (by rw [List.length_append]; exact hP)]
    rw [e3] at hdr
    have hblk := blk_drop y P (y.len - P) (y.cap - P) (P * 1)
    refine ⟨⟨x.g, x.s, ⟨if y.cap = P then y.a else Option.map (fun x => Addr.add x (P * 1)) y.a, y.len - P, y.cap - P⟩, true⟩, ⟨rfl, g3.rd0⟩, _, rfl, ⟨Rds.keepZ hdr k29 (fun h0 z hz hm => ?_), fun z hz => hyG z (hblk z hz)⟩, hA.kp.then k29 (by simp; omega)⟩
    have h0y : 0 < y.len := by dsimp only at h0; omega
    have := hyw.ltB (by omega) h0y z (hblk z hz)
    simp at hm
    omega)
/-- What goes through the entries. -/
theorem nums_it {bl : Nat} {q : Sl} {G : Nat → Prop} {s : Int} {es : List Bs} (hs : 0 ≤ s ∧ s ≤ 1125899906842624) (hel : es.length ≤ 1000000000) (hsz : ∀ e ∈ es, e.length ≤ 65536) (yield : Value) (J : Nat → World → Prop) (Q : World → Prop)
    (hJ : ∀ k w, J k w → Blk w bl [slv q] ∧ RG w G q (numsL s es))
    (hy : ∀ k (hk : k < es.length) w (x : Sl), J k w → RdB w x es[k] → x.len ≤ x.cap → (∀ y ∈ blkOf x, G y) → callV Try.prog yield [.int .i64 (s + 1 + k), .slice x.a x.len x.cap] w (Ret (fun v w' => ∃ p : Bool, v = .bool p ∧ cond p (J (k + 1) w') (Q w')) noP))
    {w : World} (h0 : J 0 w) : C.store_numbered_1 yield (PD bl) w (fun v w' => v = .tuple #[] ∧ (J es.length w' ∨ Q w')) noP := store_numbered_1_of (by
  unfold W.store_numbered_1
  obtain ⟨hb, hr⟩ := hJ 0 w h0
  have hlen := hr.len
  rw [numsL_len] at hlen
  refine ⟨q, ⟨rfl, hb.at rfl⟩, fun v w' => ∃ k : Nat, k ≤ es.length ∧ v = k ∧ J k w', fun v _ => es.length - v.toNat, ⟨_, rfl, 0, Nat.zero_le _, rfl, h0⟩, ?_⟩
  rintro e0 _ w7 ⟨k, hk, rfl, hj⟩
  refine cond_d (fun hc => ?_) (fun hc => ⟨rfl, .inl ?_⟩)
  · have hk2 : k < es.length := by omega
    obtain ⟨_, hr7⟩ := hJ k w7 hj
    obtain ⟨A, y, hA, hcell, hyb, hyc, hyG⟩ := hr7.get (i := k) (by rw [numsL_len]; exact hk2)
    have eg : (numsL s es)[k]'(by rw [numsL_len]; exact hk2) = entB (s + 1 + k) es[k] := by
      have := numsL_get s es k hk2
      rw [List.getElem?_eq_getElem (by rw [numsL_len]; exact hk2)] at this
      injection this
    rw [eg] at hyb
    have i1 : in64 (s + 1 + k) := ⟨by omega, by omega⟩
    have hyl := hyb.bsize
    have hes := hsz _ (List.getElem_mem hk2)
    have pl := putN_len (s + 1 + k)
    have hdl : (entB (s + 1 + k) es[k]).length = (putN (s + 1 + k)).length + es[k].length := by simp [entB]
    rw [Int.toNat_natCast, wr1 k (by omega)]
    refine ⟨⟨by omega, hc⟩, ws hA ⟨y, ⟨rfl, hcell⟩, use (GetNumber_s 0 (by constructor <;> decide) hyb (by omega)) ?_⟩⟩
    rintro _ _ ⟨rfl, rfl⟩
    have g1 : getN (entB (s + 1 + k) es[k]) 0 = (s + 1 + k, ((putN (s + 1 + k)).length : Int), true) := getN_put i1 _
    rw [g1]
    refine ⟨(s + 1 + k, ((putN (s + 1 + k)).length : Int), true), rfl, cond_f rfl ⟨⟨by dsimp only; omega, by dsimp only; omega⟩, ?_⟩⟩
    dsimp only
    rw [Int.toNat_natCast]
    obtain ⟨P, hP⟩ : ∃ P, (putN (s + 1 + k)).length = P := ⟨_, rfl⟩
    rw [hP]
    have hdr := hyb.bdrop hyc (n := P) (by omega) (y.len - P) (y.cap - P) rfl
    have e3 : (entB (s + 1 + k) es[k]).drop P = es[k] := by unfold entB; rw [List.drop_left' hP]
    rw [e3] at hdr
    have hblk := blk_drop y P (y.len - P) (y.cap - P) (P * 1)
    refine callV_mono (hy k hk2 w7 ⟨if y.cap = P then y.a else Option.map (fun x => Addr.add x (P * 1)) y.a, y.len - P, y.cap - P⟩ hj hdr (by dsimp only; omega) (fun z hz => hyG z (hblk z hz))) ?_
    rintro v w16 ⟨p, rfl, hp⟩
    refine ⟨p, rfl, ?_⟩
    cases p with
    | false => exact cond_t rfl ⟨rfl, .inr hp⟩
    | true => exact cond_f rfl ⟨_, rfl, ⟨k + 1, hk2, rfl, hp⟩, by simp only [Int.toNat_natCast]; omega⟩
  · have : k = es.length := by omega
    subst this
    exact hj)
end Go.Proofs.Ytfgepillnemolaa
