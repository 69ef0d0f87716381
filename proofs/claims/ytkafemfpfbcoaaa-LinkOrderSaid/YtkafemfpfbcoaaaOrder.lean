/- The law LinkOrder, by my engine. No conditions. -/
import Derived.Test.YtkafemfpfbcoaaaLast
namespace Go.Proofs.Ytkafemfpfbcoaaa
open Go.RowKit Go.Eng Go.Proofs.Ytkafemfpfbcoaaa.K
set_option linter.unusedVariables false
theorem Rows19.set {cs : List Value} {n : Nat} {f g : Nat → Tl} (h : Rows19 cs n f) {r : Nat} (hr : r < n) (hl : n * 19 ≤ cs.length) (hg : ∀ i, i < n → i ≠ r → g i = f i) :
    Rows19 (cs.take (r * 19) ++ tlcs (g r) ++ cs.drop (r * 19 + 19)) n g := by
  intro i hi j v hj
  have hj19 : j < 19 := by have := (List.getElem?_eq_some_iff.1 hj).1; rwa [tlcs_len] at this
  have hr19 : r * 19 + 19 ≤ n * 19 := by have := Nat.mul_le_mul_right 19 hr; omega
  rw [set_get (tlcs_len _) (by omega)]
  rcases Nat.lt_trichotomy i r with e | e | e
  · rw [if_pos (by omega)]
    exact h i hi j v (by rw [← hg i hi (by omega)]; exact hj)
  · subst e
    rw [if_neg (by omega), if_pos (by omega), show i * 19 + j - i * 19 = j by omega]
    exact hj
  · rw [if_neg (by omega), if_neg (by omega)]
    exact h i hi j v (by rw [← hg i hi (by omega)]; exact hj)
theorem due_len_le (m : Mp) (re now : Int) : ∀ (n k : Nat), k ≤ n → (dueList m re now k).length ≤ (dueList m re now n).length
  | 0, k, h => by have : k = 0 := by omega
                  subst this; exact Nat.le_refl _
  | n + 1, k, h => by
    by_cases e : k = n + 1
    · subst e; exact Nat.le_refl _
    · have := due_len_le m re now n k (by omega)
      rw [dueList]
      split
      · rw [List.length_append]; omega
      · exact this
theorem due_get (m : Mp) (re now : Int) : ∀ (n k : Nat), k < n → isDue m re now k = true → (dueList m re now n)[(dueList m re now k).length]? = some (found m k).1
  | 0, k, h, _ => by omega
  | n + 1, k, h, hd => by
    by_cases e : k = n
    · subst e
      rw [show dueList m re now (k + 1) = dueList m re now k ++ [(found m k).1] by rw [dueList, if_pos hd]]
      simp
    · have ih := due_get m re now n k (by omega) hd
      rw [dueList]
      split
      · rw [List.getElem?_append_left (by exact (List.getElem?_eq_some_iff.1 ih).1)]; exact ih
      · exact ih
/-- What the law's own array holds of the link's map. -/
def Good (m : Mp) (now : Int) : Prop := ∀ i t x, m i = some (t, x) → x = now ∧ (t.k = 1 ∨ t.k = 2)
theorem Good.none (now : Int) : Good (fun _ => none) now := fun i t x h => by cases h
theorem Good.upd {m : Mp} {now : Int} (h : Good m now) (r : Int) {t : Tl} (ht : t.k = 1 ∨ t.k = 2) : Good (upd m r (some (t, now))) now := by
  intro i u x hx
  unfold K.upd at hx
  split at hx
  · cases hx; exact ⟨rfl, ht⟩
  · exact h i u x hx
theorem Good.zero {m : Mp} {now : Int} (h : Good m now) {i : Int} (hz : (found m i).1.k = 0) : (found m i).2 = false := by
  unfold found at hz ⊢
  cases hm : m i with
  | none => rfl
  | some p =>
    rw [hm] at hz
    have := (h i p.1 p.2 hm).2
    simp only at hz
    omega
theorem Good.one {m : Mp} {now : Int} (h : Good m now) {i : Int} (hz : (found m i).1.k ≠ 0) (h0 : 0 ≤ now) (h1 : now < 1000) : isDue m 5 (now + 5) i = true := by
  unfold isDue
  unfold found at hz ⊢
  unfold foundAt
  cases hm : m i with
  | none => rw [hm] at hz; exact absurd rfl hz
  | some p =>
    have := (h i p.1 p.2 hm).1
    simp only [this, Bool.true_and, decide_eq_true_eq]
    unfold T.less T.cut
    omega
theorem telesL {w : World} {s : Sl} {L : List Tl} (h : Rds w 19 s (L.flatMap tlc)) (hl : s.len = L.length) : RdL w 19 (fun t => S.api_Tele.v (ofT t)) s L :=
  h.rdl (fun _ => rfl) (fun _ => rfl) hl.symm
set_option maxHeartbeats 1000000 in
theorem LinkOrder_s (l : Sl) (L : List Tl) (now : Int) (w : World) (hr : RdT w l.a L) (hl : l.len = L.length) :
    C.skeplaw17_LinkOrder l now w (fun v w' => v = .bool true ∧ Kp [] w w') noP := skeplaw17_LinkOrder_of (by
  unfold W.skeplaw17_LinkOrder
  refine use (Place_s now 1000 w (by omega) (by omega)) ?_
  rintro _ _ ⟨rfl, rfl⟩
  refine ⟨_, rfl, ?_⟩
  have hp0 : 0 ≤ now % 1000 := by omega
  have hp1 : now % 1000 < 1000 := by omega
  obtain ⟨p2, hp2⟩ : ∃ p, now % 1000 = p := ⟨_, rfl⟩
  rw [hp2] at hp0 hp1 ⊢
  clear hp2
  refine use (New_s 8 5 w (by omega) (by omega) (by omega)) ?_
  rintro _ w4 ⟨b, bm, rfl, hL, k4, hb0, hbm0⟩
  refine ⟨(some ⟨b, 0, none⟩, 0), rfl, ?_⟩
  refine cond_f rfl (cond_f rfl ?_)
  intro b7 w8 hA7
  have hB7 := hA7.blk
  have s8 := hA7.eq
  have hlt := hL.lts
  (replace hL := hL.keep (hA7.kp) (by first | (simp; done) | (simp; omega) | omega))
  have k08 := k4.then0 hA7.kp
  have s4 := k4.size
  refine ⟨fun w' => ∃ m cs, LinkIs w' b bm 8 5 m ∧ Good m p2 ∧ Blk w' b7 cs ∧ cs.length = 152 ∧ Rows19 cs 8 (fun i => (found m i).1) ∧ Kp [bm, b7] w8 w', ?_, ?_⟩
  · refine ⟨fun v w' => ∃ (k : Nat) (m : Mp) (cs : List Value), v = k ∧ LinkIs w' b bm 8 5 m ∧ Good m p2 ∧ Blk w' b7 cs ∧ cs.length = 152 ∧ Rows19 cs 8 (fun i => (found m i).1) ∧ Kp [bm, b7] w8 w', fun v _ => 40 - v.toNat,
      ⟨_, rfl, 0, _, _, rfl, hL, Good.none _, hB7, rfl, ?_, Kp.refl _ _⟩, fun e0 v w14 hI => ?_⟩
    · intro i hi j v hj
      have hj19 : j < 19 := by have := (List.getElem?_eq_some_iff.1 hj).1; rwa [tlcs_len] at this
      rw [← hj]
      have h8 : i = 0 ∨ i = 1 ∨ i = 2 ∨ i = 3 ∨ i = 4 ∨ i = 5 ∨ i = 6 ∨ i = 7 := by omega
      rcases h8 with rfl | rfl | rfl | rfl | rfl | rfl | rfl | rfl <;>
        (have h19 : j = 0 ∨ j = 1 ∨ j = 2 ∨ j = 3 ∨ j = 4 ∨ j = 5 ∨ j = 6 ∨ j = 7 ∨ j = 8 ∨ j = 9 ∨ j = 10 ∨ j = 11 ∨ j = 12 ∨ j = 13 ∨ j = 14 ∨ j = 15 ∨ j = 16 ∨ j = 17 ∨ j = 18 := by omega
         rcases h19 with rfl | rfl | rfl | rfl | rfl | rfl | rfl | rfl | rfl | rfl | rfl | rfl | rfl | rfl | rfl | rfl | rfl | rfl | rfl <;> rfl)
    obtain ⟨k, m, cs, rfl, hm, hG, hB7, hcl, hcs, hk⟩ := hI
    refine cond_d (fun h1 => cond_d (fun h2 => ?_) (fun h2 => ⟨m, cs, hm, hG, hB7, hcl, hcs, hk⟩)) (fun h1 => ⟨m, cs, hm, hG, hB7, hcl, hcs, hk⟩)
    refine ⟨⟨by omega, h1⟩, ?_⟩
    have kw : Kp [] w w14 := k08.then hk (by simp; omega)
    obtain ⟨ad, y, ha, hy⟩ := (hr.keep kw).at (k := k) (by omega)
    rw [ha]
    refine ⟨ofT y, ⟨rfl, hy⟩, fun b17 w18 hA => ?_⟩
    have hB := hA.blk
    have s18 := hA.eq
    have hlt' := hm.lts
    have s14 := hk.size
    refine ⟨⟨rfl, hB.canN _ (Nat.le_refl _)⟩, fun w19 e19 => ?_⟩
    obtain ⟨hB, k19, s19⟩ := hB.putAll (by rfl) e19
    refine ⟨y.r, ⟨rfl, hB.at rfl⟩, ?_⟩
    refine use (Place_s y.r 8 w19 (by omega) (by omega)) ?_
    rintro _ _ ⟨rfl, rfl⟩
    refine ⟨_, rfl, ?_⟩
    refine ⟨⟨rfl, hB.can1 _ rfl (Nat.le_of_ble_eq_true rfl)⟩, fun w24 e24 => ?_⟩
    obtain ⟨hB, k24, s24⟩ := hB.put1 rfl e24
    refine ⟨y.k, ⟨rfl, hB.at rfl⟩, ?_⟩
    refine use (Place_s y.k 2 w24 (by omega) (by omega)) ?_
    rintro _ _ ⟨rfl, rfl⟩
    refine ⟨_, rfl, ?_⟩
    have hw2 : IntKind.i64.wrap (1 + y.k % 2) = 1 + y.k % 2 := by rw [IntKind.wrap_i64]; omega
    rw [hw2]
    refine ⟨⟨rfl, hB.can1 _ rfl (Nat.le_of_ble_eq_true rfl)⟩, fun w29 e29 => ?_⟩
    obtain ⟨hB, k29, s29⟩ := hB.put1 rfl e29
    have h0 : 0 ≤ y.r % 8 := by omega
    have h8 : y.r % 8 < 8 := by omega
    have hk12 : 1 + y.k % 2 = 1 ∨ 1 + y.k % 2 = 2 := by omega
    obtain ⟨z, hz⟩ : ∃ z : Tl, z = { y with r := y.r % 8, k := 1 + y.k % 2 } := ⟨_, rfl⟩
    have hzr : z.r = y.r % 8 := by rw [hz]
    have hzk : z.k = 1 ∨ z.k = 2 := by rw [hz]; exact hk12
    replace hB : Blk w29 b17 (tlcs z) := by rw [hz]; exact hB
    clear hz
    rw [← hzr] at h0 h8
    refine ⟨ofT z, ⟨rfl, hB.rd0⟩, ?_⟩
    have kk : Kp [b17] w18 w29 := (k19.then k24 (by simp)).then k29 (by simp)
    have kk' : Kp [] w14 w29 := hA.kp.then kk (by simp; omega)
    have hlt7 := hB7.lt
    (replace hm := hm.keep (kk') (by first | (simp; done) | (simp; omega) | omega); replace hB7 := hB7.keep (kk') (by first | (simp; done) | (simp; omega) | omega))
    refine use (Send_s (ofT z) p2 hm h0 h8 hzk) ?_
    rintro _ w31 ⟨rfl, hm, k31⟩
    refine ⟨(_, 0), rfl, ?_⟩
    dsimp only
    intro b34 w35 hA34
    have hB34 := hA34.blk
    have s35 := hA34.eq
    have s31 := k31.size
    refine ⟨⟨rfl, hB34.canN _ (Nat.le_refl _)⟩, fun w36 e36 => ?_⟩
    obtain ⟨hB34, k36, s36⟩ := hB34.putAll (by rfl) e36
    refine cond_f rfl ?_
    have k3136 : Kp [] w31 w36 := hA34.kp.then k36 (by simp; omega)
    have k2936 : Kp [bm] w29 w36 := k31.then0 k3136
    (replace hB := hB.keep (k2936) (by first | (simp; done) | (simp; omega) | omega); replace hB7 := hB7.keep (k2936) (by first | (simp; done) | (simp; omega) | omega))
    (replace hm := hm.keep (k3136) (by first | (simp; done) | (simp; omega) | omega))
    refine ⟨z.r, ⟨rfl, hB.at rfl⟩, ofT z, ⟨rfl, hB.rd0⟩, ⟨h0, h8⟩, ?_⟩
    rw [add_blk, Nat.zero_add]
    have hr8 : z.r.toNat < 8 := by omega
    have h19 : z.r.toNat * 19 + 19 ≤ cs.length := by rw [hcl]; omega
    refine ⟨⟨rfl, hB7.canN _ h19⟩, fun w39 e39 => ?_⟩
    obtain ⟨hB7, k39, s39⟩ := hB7.putN h19 e39
    (replace hm := hm.keep (k39) (by first | (simp; done) | (simp; omega) | omega))
    have hw : IntKind.i64.wrap ((k : Int) + 1) = (k + 1 : Nat) := by rw [IntKind.wrap_i64]; omega
    refine ⟨_, rfl, ⟨k + 1, _, _, hw, hm, hG.upd _ hzk, hB7, ?_, ?_, ((hk.then kk' (by simp)).then k2936 (by simp)).then k39 (by simp)⟩, ?_⟩
    · show (cs.take (z.r.toNat * 19) ++ tlcs z ++ cs.drop (z.r.toNat * 19 + 19)).length = 152
      simp [tlcs_len]; omega
    · have hg := hcs.set (r := z.r.toNat) (g := fun i => (found (upd m z.r (some (z, p2))) i).1) hr8 (by omega) (fun i hi hne => by
        show (found _ _).1 = (found _ _).1
        rw [found_upd, if_neg (by omega)])
      have hz : (found (upd m z.r (some (z, p2))) (z.r.toNat : Int)).1 = z := by
        rw [found_upd, if_pos (by omega)]
      rw [hz] at hg
      exact hg
    · simp only [hw]; omega
  · rintro e0 w41 ⟨m, cs, hm, hG, hB7, hcl, hcs, hk⟩
    have hw5 : IntKind.i64.wrap (p2 + 5) = p2 + 5 := by rw [IntKind.wrap_i64]; omega
    rw [hw5]
    have kw41 : Kp [] w w41 := k08.then hk (by simp; omega)
    have hlt' := hm.lts
    have s41 := hk.size
    refine use (Due_s (n := 8) (p2 + 5) (by omega) hm) ?_
    rintro _ w42 ⟨s, rfl, hsl, hrd, hm, k42⟩
    refine ⟨s, rfl, ?_⟩
    replace hrd := telesL hrd hsl
    (replace hB7 := hB7.keep (k42) (by first | (simp; done) | (simp; omega) | omega))
    have kw42 := kw41.then k42 (by simp; omega)
    refine ⟨fun a i w' => ∃ (k : Nat), i = k ∧ k ≤ 8 ∧ a = ((dueList m 5 (p2 + 5) k).length : Nat) ∧ Kp [] w42 w', fun _ i _ => 8 - i.toNat, ⟨_, rfl, _, rfl, 0, rfl, by omega, rfl, Kp.refl _ _⟩, fun e0 a i w51 hI => ?_⟩
    obtain ⟨k, rfl, hk8, rfl, k51⟩ := hI
    refine cond_d (fun h1 => ?_) (fun h1 => ?_)
    · have hB := hB7.keep k51 (by simp)
      have hr51 := hrd.keep0 k51
      have hc := Rows19.rd hB hcs (i := k) (by omega)
      have hc0 : w51.cell? (Addr.add ⟨b7, 0, none⟩ (k * 19)) = some (.int .i64 (found m k).1.k) := by
        have := hc 0 _ rfl
        rw [add_add', Nat.add_zero] at this
        exact this
      have hw : IntKind.i64.wrap ((k : Int) + 1) = (k + 1 : Nat) := by rw [IntKind.wrap_i64]; omega
      refine ⟨⟨by omega, by omega⟩, _, ⟨rfl, by rw [Int.toNat_natCast]; exact hc0⟩, ?_⟩
      refine cond_e (fun hz => ?_) (fun hz => ?_)
      · have hd : isDue m 5 (p2 + 5) k = false := by unfold isDue; rw [hG.zero hz]; rfl
        refine ⟨_, rfl, _, rfl, ⟨k + 1, hw, by omega, by rw [dueList, if_neg (by rw [hd]; simp)], k51⟩, by simp only [hw]; omega⟩
      · have hd : isDue m 5 (p2 + 5) k = true := hG.one hz hp0 hp1
        intro w55 hD
        have hk := due_get m 5 (p2 + 5) 8 k (by omega) hd
        have hlen : (dueList m 5 (p2 + 5) k).length < (dueList m 5 (p2 + 5) 8).length := (List.getElem?_eq_some_iff.1 hk).1
        obtain ⟨ad, ha, hrow⟩ := (hr51.keep0 hD.kp).at_ _ _ hk
        replace hc := rd_keep hc hD.kp (by simp)
        have h8 := dueList_len m 5 (p2 + 5) k
        refine cond_f (by simp; omega) ⟨⟨by omega, by omega⟩, ?_⟩
        rw [ha]
        refine ⟨ofT (found m k).1, ⟨rfl, by rw [Int.toNat_natCast]; exact hrow⟩, ⟨by omega, by omega⟩, ofT (found m k).1, ⟨rfl, by rw [Int.toNat_natCast]; exact hc⟩, ?_⟩
        refine cond_f (by simp) ?_
        refine ⟨_, rfl, _, rfl, ⟨k + 1, hw, by omega, ?_, k51.then0 hD.kp⟩, by simp only [hw]; omega⟩
        rw [dueList, if_pos hd, List.length_append]
        show IntKind.i64.wrap _ = _
        rw [IntKind.wrap_i64]
        simp only [List.length_cons, List.length_nil]
        omega
    · have hk8' : k = 8 := by omega
      subst hk8'
      refine cond_t (by simp [hsl]) ?_
      refine use (awake_s w51) ?_
      rintro _ w61 ⟨rfl, k61⟩
      exact ⟨_, rfl, rfl, (kw42.then0 k51).then0 k61⟩)
theorem LinkOrder_walk (A : Option Addr) (c : Nat) (l : List Tl) (now : Int) (w : World) (h : RdT w A l) :
    Calls Try.prog 3 #[.slice A l.length c, .int .i64 now] w fun e w' => e = .returned (.bool true) ∧ Below w.heap.size w w' :=
  ret_true (LinkOrder_s ⟨A, l.length, c⟩ l now w h rfl)
end Go.Proofs.Ytkafemfpfbcoaaa
