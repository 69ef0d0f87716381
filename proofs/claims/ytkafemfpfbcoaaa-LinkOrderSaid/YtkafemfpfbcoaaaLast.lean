/- The law LinkLast, by my engine. No conditions. -/
import Derived.Test.YtkafemfpfbcoaaaELink
namespace Go.Proofs.Ytkafemfpfbcoaaa
open Go.RowKit Go.Eng Go.Proofs.Ytkafemfpfbcoaaa.K
set_option linter.unusedVariables false
/-- So many rows of telegrams in cells. -/
def Rows19 (cs : List Value) (n : Nat) (f : Nat → Tl) : Prop := ∀ i, i < n → ∀ j v, (tlcs (f i))[j]? = some v → cs[i * 19 + j]? = some v
theorem tlcs_len (t : Tl) : (tlcs t).length = 19 := rfl
theorem Rows19.put {cs : List Value} {n : Nat} {f : Nat → Tl} (h : Rows19 cs n f) (hl : n * 19 + 19 ≤ cs.length) : Rows19 (cs.take (n * 19) ++ tlcs (f n) ++ cs.drop (n * 19 + 19)) (n + 1) f := by
  intro i hi j v hj
  have hj19 : j < 19 := by have := (List.getElem?_eq_some_iff.1 hj).1; rwa [tlcs_len] at this
  rw [set_get (tlcs_len _) hl]
  by_cases e : i = n
  · subst e
    rw [if_neg (by omega), if_pos (by omega)]
    have : i * 19 + j - i * 19 = j := by omega
    rw [this]; exact hj
  · rw [if_pos (by omega)]
    exact h i (by omega) j v hj
theorem Rows19.rd {w : World} {b : Nat} {cs : List Value} (hb : Blk w b cs) {n : Nat} {f : Nat → Tl} (h : Rows19 cs n f) {i : Nat} (hi : i < n) : Go.Eng.rd w (Addr.add ⟨b, 0, none⟩ (i * 19)) (S.api_Tele.v (ofT (f i))) := by
  rw [add_blk, Nat.zero_add]
  exact hb.rd _ _ (fun j v hj => h i hi j v hj)
theorem found_upd (m : Mp) (k : Int) (t : Tl) (x j : Int) : found (upd m k (some (t, x))) j = if j = k then (t, true) else found m j := by
  unfold found upd
  by_cases h : j = k <;> simp [h]
theorem found_del (m : Mp) (k : Int) : (found (upd m k none) k).2 = false := by unfold found upd; simp
set_option maxHeartbeats 1000000 in
theorem LinkLast_s (l : Sl) (L : List Tl) (t : S.api_Tele) (now : Int) (w : World) (hr : RdT w l.a L) (hl : l.len = L.length) :
    C.skeplaw17_LinkLast l t now w (fun v w' => v = .bool true ∧ Kp [] w w') noP := skeplaw17_LinkLast_of (by
  unfold W.skeplaw17_LinkLast
  intro b1 w2 hA1
  have hB1 := hA1.blk
  have k2 := hA1.kp
  have s2 := hA1.eq
  refine use (Place_s now 1000 w2 (by omega) (by omega)) ?_
  rintro _ _ ⟨rfl, rfl⟩
  refine ⟨_, rfl, ?_⟩
  have hp0 : 0 ≤ now % 1000 := by omega
  have hp1 : now % 1000 < 1000 := by omega
  obtain ⟨p4, hp4⟩ : ∃ p, now % 1000 = p := ⟨_, rfl⟩
  rw [hp4] at hp0 hp1 ⊢
  clear hp4
  refine use (New_s 8 7 w2 (by omega) (by omega) (by omega)) ?_
  rintro _ w6 ⟨b, bm, rfl, hL, k6, hb0, hbm0⟩
  refine ⟨(some ⟨b, 0, none⟩, 0), rfl, ?_⟩
  refine cond_f rfl (cond_f rfl ?_)
  (replace hB1 := hB1.keep (k6) (by first | (simp; done) | (simp; omega) | omega))
  have s6 := k6.size
  have k06 := k2.then0 k6
  clear k2 k6 hA1
  refine ⟨fun w' => ∃ m, LinkIs w' b bm 8 7 m ∧ Kp [bm] w6 w', ?_, ?_⟩
  · refine ⟨fun v w' => ∃ (k : Nat) (m : Mp), v = k ∧ LinkIs w' b bm 8 7 m ∧ Kp [bm] w6 w', fun v _ => 30 - v.toNat, ⟨_, rfl, 0, _, rfl, hL, Kp.refl _ _⟩, fun e0 v w7 hI => ?_⟩
    obtain ⟨k, m, rfl, hm, hk⟩ := hI
    refine cond_d (fun h1 => cond_d (fun h2 => ?_) (fun h2 => ⟨m, hm, hk⟩)) (fun h1 => ⟨m, hm, hk⟩)
    refine ⟨⟨by omega, h1⟩, ?_⟩
    have kw : Kp [] w w7 := k06.then hk (by simp; omega)
    obtain ⟨ad, y, ha, hy⟩ := (hr.keep kw).at (k := k) (by omega)
    rw [ha]
    refine ⟨ofT y, ⟨rfl, hy⟩, fun b17 w18 hA => ?_⟩
    have hB := hA.blk
    have s18 := hA.eq
    have hlt := hm.lts
    have s7 := hk.size
    refine ⟨⟨rfl, hB.canN _ (Nat.le_refl _)⟩, fun w19 e19 => ?_⟩
    obtain ⟨hB, k19, s19⟩ := hB.putAll (by rfl) e19
    refine ⟨y.r, ⟨rfl, hB.at rfl⟩, ?_⟩
    refine use (Place_s y.r 8 w19 (by omega) (by omega)) ?_
    rintro _ _ ⟨rfl, rfl⟩
    refine ⟨_, rfl, ?_⟩
    refine ⟨⟨rfl, hB.can1 _ rfl (Nat.le_of_ble_eq_true rfl)⟩, fun w24 e24 => ?_⟩
    obtain ⟨hB, k24, s24⟩ := hB.put1 rfl e24
    refine ⟨⟨rfl, hB.can1 _ rfl (Nat.le_of_ble_eq_true rfl)⟩, fun w25 e25 => ?_⟩
    obtain ⟨hB, k25, s25⟩ := hB.put1 rfl e25
    refine ⟨{ ofT y with Kind := 1, Robot := y.r % 8 }, ⟨rfl, hB.rd0⟩, ?_⟩
    have kk : Kp [b17] w18 w25 := (k19.then k24 (by simp)).then k25 (by simp)
    replace hm := (hm.keep hA.kp (by simp)).keep kk (by simp; omega)
    have kk' : Kp [] w7 w25 := hA.kp.then kk (by simp; omega)
    refine use (Send_s _ p4 hm (by show 0 ≤ y.r % 8; omega) (by show y.r % 8 < 8; omega) (.inl rfl)) ?_
    rintro _ w27 ⟨rfl, hm, k27⟩
    refine ⟨(_, 0), rfl, ?_⟩
    have hw : IntKind.i64.wrap ((k : Int) + 1) = (k + 1 : Nat) := by rw [IntKind.wrap_i64]; omega
    refine ⟨_, rfl, ⟨k + 1, _, hw, hm, (hk.then kk' (by simp)).then k27 (by simp)⟩, ?_⟩
    simp only [hw]
    omega
  · rintro e0 w31 ⟨m, hm, k31⟩
    (replace hB1 := hB1.keep (k31) (by first | (simp; done) | (simp; omega) | omega))
    have s31 := k31.size
    have hlt := hm.lts
    have kw31 : Kp [] w w31 := k06.then k31 (by simp; omega)
    clear k31 hL k06
    intro b32 w33 hA32 b34 w35 hA34
    have hB32 := hA32.blk.keep hA34.kp (by simp)
    have hB34 := hA34.blk
    have s33 := hA32.eq
    have s35 := hA34.eq
    have k35 := hA32.kp.then0 hA34.kp
    (replace hB1 := hB1.keep (k35) (by first | (simp; done) | (simp; omega) | omega); replace hm := hm.keep (k35) (by first | (simp; done) | (simp; omega) | omega))
    have kw35 := kw31.then0 k35
    have hb1 : b1 < w31.heap.size ∧ b1 ≠ b ∧ b1 ≠ bm := by omega
    refine ⟨fun v w' => ∃ (k : Nat) (cs ds : List Value), v = k ∧ k ≤ 8 ∧ Blk w' b32 cs ∧ cs.length = 152 ∧ Rows19 cs k (fun i => (found m i).1) ∧ Blk w' b34 ds ∧ ds.length = 8 ∧ (∀ i : Nat, i < k → ds[i]? = some (.bool (found m i).2)) ∧ Kp [b32, b34] w35 w', fun v _ => 8 - v.toNat,
      ⟨_, rfl, 0, _, _, rfl, by omega, hB32, rfl, (fun i hi => by omega), hB34, rfl, (fun i hi => by omega), Kp.refl _ _⟩, fun e0 v w40 hI => ?_⟩
    obtain ⟨k, cs, ds, rfl, hk8, hb32, hcl, hcs, hb34, hdl, hds, hk⟩ := hI
    have s40 := hk.size
    have hm40 := hm.keep hk (by simp; omega)
    have hB40 := hB1.keep hk (by simp; omega)
    refine cond_d (fun h1 => ?_) (fun h1 => ?_)
    · refine use (Waits_s k hm40) ?_
      rintro _ w41 ⟨rfl, k41⟩
      refine ⟨(_, _), rfl, ⟨by omega, by omega⟩, ?_⟩
      dsimp only
      (replace hb32 := hb32.keep (k41) (by first | (simp; done) | (simp; omega) | omega); replace hb34 := hb34.keep (k41) (by first | (simp; done) | (simp; omega) | omega))
      rw [Int.toNat_natCast, add_blk, Nat.zero_add]
      refine ⟨⟨rfl, hb32.canN _ (by show k * 19 + 19 ≤ _; omega)⟩, fun w44 e44 => ?_⟩
      obtain ⟨hb32, k44, s44⟩ := hb32.putN (by show k * 19 + 19 ≤ _; omega) e44
      replace hcs := hcs.put (by omega)
      replace hb34 := hb34.keep k44 (by simp; omega)
      refine ⟨⟨by omega, by omega⟩, ?_⟩
      rw [add_blk, Nat.zero_add, Nat.mul_one]
      refine ⟨⟨rfl, hb34.can1 _ rfl (by omega)⟩, fun w45 e45 => ?_⟩
      obtain ⟨hb34, k45, s45⟩ := hb34.put1 rfl e45
      replace hb32 := hb32.keep k45 (by simp; omega)
      have hw : IntKind.i64.wrap ((k : Int) + 1) = (k + 1 : Nat) := by rw [IntKind.wrap_i64]; omega
      refine ⟨_, rfl, ⟨k + 1, _, _, hw, by omega, hb32, ?_, hcs, hb34, by simpa using hdl, ?_, ((hk.then k41 (by simp)).then k44 (by simp)).then k45 (by simp)⟩, ?_⟩
      · show (cs.take (k * 19) ++ tlcs _ ++ cs.drop (k * 19 + 19)).length = 152
        simp [tlcs_len]; omega
      · intro i hi
        rw [List.getElem?_set]
        split
        · rename_i e; subst e; rw [if_pos (by omega)]
        · exact hds i (by omega)
      · simp only [hw]; omega
    · have hk8' : k = 8 := by omega
      subst hk8'
      replace kw35 := kw35.then hk (by simp; omega)
      clear hB32 hB34 hB1 hm hk hk8 h1
      refine ⟨t.Robot, ⟨rfl, hB40.at rfl⟩, ?_⟩
      refine use (Place_s t.Robot 8 w40 (by omega) (by omega)) ?_
      rintro _ _ ⟨rfl, rfl⟩
      refine ⟨_, rfl, ?_⟩
      have hr0 : 0 ≤ t.Robot % 8 := by omega
      have hr8 : t.Robot % 8 < 8 := by omega
      obtain ⟨r, hr⟩ : ∃ r, t.Robot % 8 = r := ⟨_, rfl⟩
      rw [hr] at hr0 hr8 ⊢
      clear hr
      refine ⟨⟨rfl, hB40.can1 _ rfl (Nat.le_of_ble_eq_true rfl)⟩, fun w51 e51 => ?_⟩
      obtain ⟨hB, k51, s51⟩ := hB40.put1 rfl e51
      refine ⟨⟨rfl, hB.can1 _ rfl (Nat.le_of_ble_eq_true rfl)⟩, fun w52 e52 => ?_⟩
      obtain ⟨hB, k52, s52⟩ := hB.put1 rfl e52
      have k52' : Kp [b1] w40 w52 := k51.then k52 (by simp)
      replace kw35 := kw35.then k52' (by simp; omega)
      obtain ⟨y, hy⟩ : ∃ y : S.api_Tele, y = { t with Kind := 2, Robot := r } := ⟨_, rfl⟩
      have hyr : y.Robot = r := by rw [hy]
      have hyk : y.Kind = 2 := by rw [hy]
      refine ⟨y, ⟨rfl, by rw [hy]; exact hB.rd0⟩, ?_⟩
      replace hB : Blk w52 b1 (S.api_Tele.v y).cells.toList := by rw [hy]; exact hB
      clear hy
      have hm52 := hm40.keep k52' (by simp; omega)
      replace hb32 := hb32.keep k52' (by simp; omega)
      replace hb34 := hb34.keep k52' (by simp; omega)
      refine use (Send_s y _ hm52 (by omega) (by omega) (.inr hyk)) ?_
      rintro _ w54 ⟨rfl, hm54, k54⟩
      refine ⟨(y, 0), rfl, ?_⟩
      intro b57 w58 hA57
      have hB57 := hA57.blk
      have s58 := hA57.eq
      have s54 := k54.size
      refine ⟨⟨rfl, hB57.canN _ (Nat.le_refl _)⟩, fun w59 e59 => ?_⟩
      obtain ⟨hB57, k59, s59⟩ := hB57.putAll (by rfl) e59
      refine cond_f rfl ?_
      have k59' : Kp [bm] w52 w59 := (k54.then0 hA57.kp).then k59 (by simp; omega)
      have k5459 : Kp [] w54 w59 := hA57.kp.then k59 (by simp; omega)
      replace kw35 := kw35.then k59' (by simp; omega)
      (replace hB := hB.keep (k59') (by first | (simp; done) | (simp; omega) | omega); replace hb32 := hb32.keep (k59') (by first | (simp; done) | (simp; omega) | omega); replace hb34 := hb34.keep (k59') (by first | (simp; done) | (simp; omega) | omega))
      (replace hm54 := hm54.keep (k5459) (by first | (simp; done) | (simp; omega) | omega))
      have slast := k59'.size
      have l1 := hB.lt
      have l2 := hb32.lt
      have l3 := hb34.lt
      have l4 := hm54.lts
      rw [hyr] at hm54
      refine ⟨y, ⟨rfl, hB57.rd0⟩, y, ⟨rfl, hB.rd0⟩, ?_⟩
      refine cond_f (by simp) ?_
      clear hm40 hm52 hB40 k59 k59' k5459 k54 hA57
      refine ⟨fun v w' => ∃ (k : Nat), v = k ∧ k ≤ 8 ∧ Kp [] w59 w', fun v _ => 8 - v.toNat, ⟨_, rfl, 0, rfl, by omega, Kp.refl _ _⟩, fun e0 v w66 hI => ?_⟩
      obtain ⟨k, rfl, hk8, k66⟩ := hI
      have hm66 := hm54.keep k66 (by simp)
      have hB66 := hB.keep k66 (by simp)
      refine cond_d (fun h1 => ?_) (fun h1 => ?_)
      · have hb32' := hb32.keep k66 (by simp)
        have hb34' := hb34.keep k66 (by simp)
        refine use (Waits_s k hm66) ?_
        rintro _ w67 ⟨rfl, k67⟩
        refine ⟨(_, _), rfl, ?_⟩
        dsimp only
        intro b70 w71 hA70
        have hB70 := hA70.blk
        have s71 := hA70.eq
        have s67 := k67.size
        have s66 := k66.size
        refine ⟨⟨rfl, hB70.canN _ (Nat.le_refl _)⟩, fun w72 e72 w73 hD => ?_⟩
        obtain ⟨hB70, k72, s72⟩ := hB70.putAll (by rfl) e72
        have k73 : Kp [] w66 w73 := ((k67.then0 hA70.kp).then k72 (by simp; omega)).then0 hD.kp
        (replace hB70 := hB70.keep (hD.kp) (by first | (simp; done) | (simp; omega) | omega))
        (replace hB66 := hB66.keep (k73) (by first | (simp; done) | (simp; omega) | omega); replace hb32' := hb32'.keep (k73) (by first | (simp; done) | (simp; omega) | omega); replace hb34' := hb34'.keep (k73) (by first | (simp; done) | (simp; omega) | omega))
        have hw : IntKind.i64.wrap ((k : Int) + 1) = (k + 1 : Nat) := by rw [IntKind.wrap_i64]; omega
        have fin : ∃ u81 : Int, (.int .i64 (IntKind.i64.wrap ((k : Int) + 1)) : Value) = .int .i64 u81 ∧ ((∃ (k : Nat), u81 = k ∧ k ≤ 8 ∧ Kp [] w59 w73) ∧ 8 - u81.toNat < 8 - (k : Int).toNat) :=
          ⟨_, rfl, ⟨k + 1, hw, by omega, k66.then0 k73⟩, by simp only [hw]; omega⟩
        refine ⟨r, ⟨rfl, hB66.at (by rw [← hyr]; rfl)⟩, ?_⟩
        rw [found_upd] at hB70 ⊢
        refine cond_e (fun e => ?_) (fun e => ?_)
        · rw [if_pos e] at hB70 ⊢
          refine ⟨_, ⟨rfl, hB70.rd0⟩, y, ⟨rfl, hB66.rd0⟩, ?_⟩
          refine cond_f (by simp [toT]) (cond_f rfl ?_)
          refine ⟨r, ⟨rfl, hB66.at (by rw [← hyr]; rfl)⟩, ?_⟩
          refine cond_f (by simp [e]) fin
        · rw [if_neg e] at hB70 ⊢
          refine ⟨r, ⟨rfl, hB66.at (by rw [← hyr]; rfl)⟩, ?_⟩
          refine cond_t (by simp [e]) ?_
          refine ⟨_, ⟨rfl, hB70.rd0⟩, ⟨by omega, by omega⟩, ?_⟩
          rw [Int.toNat_natCast]
          refine ⟨_, ⟨rfl, Rows19.rd hb32' hcs (i := k) (by omega)⟩, ?_⟩
          refine cond_f (by simp [ofT]) ⟨⟨by omega, by omega⟩, ?_⟩
          rw [add_blk, Nat.zero_add, Nat.mul_one]
          refine ⟨_, ⟨rfl, hb34'.at (hds k (by omega))⟩, ?_⟩
          refine cond_f (by simp) fin
      · refine ⟨r, ⟨rfl, hB66.at (by rw [← hyr]; rfl)⟩, ?_⟩
        refine use (Got_s r hm66) ?_
        rintro _ w90 ⟨rfl, hm90, k90⟩
        have hf : (found (upd m r (some (toT y, IntKind.i64.wrap (p4 + 3)))) r).2 = true := by rw [found_upd]; simp
        rw [hf] at hm90 ⊢
        refine ⟨_, rfl, cond_t rfl ?_⟩
        have s66 := k66.size
        (replace hB66 := hB66.keep (k90) (by first | (simp; done) | (simp; omega) | omega))
        refine ⟨r, ⟨rfl, hB66.at (by rw [← hyr]; rfl)⟩, ?_⟩
        refine use (Got_s r hm90) ?_
        rintro _ w94 ⟨rfl, hm94, k94⟩
        rw [if_pos rfl, found_del] at ⊢
        refine ⟨_, rfl, cond_t rfl ?_⟩
        refine use (awake_s w94) ?_
        rintro _ w97 ⟨rfl, k97⟩
        refine ⟨_, rfl, rfl, ?_⟩
        exact (((kw35.then0 k66).then k90 (by simp; omega)).then k94 (by simp; omega)).then0 k97)
theorem LinkLast_walk (A : Option Addr) (c : Nat) (l : List Tl) (t : Tl) (now : Int) (w : World) (h : RdT w A l) :
    Calls Try.prog 6 #[.slice A l.length c, .agg (tlcs t).toArray, .int .i64 now] w fun e w' => e = .returned (.bool true) ∧ Below w.heap.size w w' :=
  ret_true (LinkLast_s ⟨A, l.length, c⟩ l (ofT t) now w h rfl)
end Go.Proofs.Ytkafemfpfbcoaaa
