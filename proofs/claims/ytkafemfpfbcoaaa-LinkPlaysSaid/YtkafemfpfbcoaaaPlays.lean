/- The law LinkPlays, by my engine. No conditions. -/
import Derived.Test.YtkafemfpfbcoaaaRef
import Derived.Test.YtkafemfpfbcoaaaOpenD
namespace Go.Proofs.Ytkafemfpfbcoaaa
open Go.RowKit Go.Eng Go.Proofs.Ytkafemfpfbcoaaa.K
set_option linter.unusedVariables false
theorem Blk.rds1 {w : World} {b : Nat} {cs : List Value} (h : Blk w b cs) : Rds w cs.length ⟨some ⟨b, 0, none⟩, 1, 1⟩ cs :=
  ⟨by simp, fun _ => ⟨_, rfl, h.has 0 cs (fun i v hi => by rw [Nat.zero_add]; exact hi)⟩⟩
theorem app_tele {w : World} {B : Nat} {s x : Sl} {xs news : List Value} (ho : Go.Eng.Own w B 19 s xs) (hx : Rds w 19 x news) (hone : ∀ v ∈ news, leafB v = true) (hB : B ≤ w.heap.size) (hb : s.len + x.len ≤ 100000) :
    ∃ q n c w1, (Builtin.append_ #[22, 22] 22 #[.slice s.a s.len s.cap, .slice x.a x.len x.cap]).run Try.prog w = .ok (.slice q n c) w1 ∧ n = s.len + x.len ∧ Go.Eng.Own w1 B 19 ⟨q, n, c⟩ (xs ++ news) ∧ Kp (blkOf s) w w1 ∧
      (blkOf ⟨q, n, c⟩ = blkOf s ∨ ∀ k ∈ blkOf ⟨q, n, c⟩, w.heap.size ≤ k) := by
  have hinfo := tele_info
  cases hi : Try.prog.info? 35 with
  | none => rw [hi] at hinfo; cases hinfo
  | some i =>
    rw [hi] at hinfo
    simp only [Option.map_some, Option.some.injEq, Prod.mk.injEq] at hinfo
    obtain ⟨hz, hs, hby⟩ := hinfo
    rw [← hs] at ho hx ⊢
    exact app_own Try.underlying22 hi hz (by rw [hs]; rfl) (by rw [hs]; decide) ho hx hone hB (by rw [hby]; omega) (by omega)
theorem tlc_leaf (t : Tl) : ∀ v ∈ tlc t, leafB v = true := by
  intro v hv
  simp only [tlc, List.mem_cons, List.not_mem_nil, or_false] at hv
  rcases hv with rfl | rfl | rfl | rfl | rfl | rfl | rfl | rfl | rfl | rfl | rfl | rfl | rfl | rfl | rfl | rfl | rfl | rfl | rfl <;> rfl
/-- When it was sent last. -/
theorem RefIs.time {w w1 : World} {b bl n : Nat} {re : Int} {m : Mp} (h : RefIs w b bl n re m) {r : Nat} (hr : r < n) (hf : (found m r).2 = true) (now : Int) (e : w1 = putAt w ⟨bl, r * 21 + 20, none⟩ (.int .i64 now)) :
    RefIs w1 b bl n re (upd m r (some ((found m r).1, now))) ∧ Kp [bl] w w1 ∧ w1.heap.size = w.heap.size := by
  obtain ⟨h1, ⟨cs, h2, hl, h4⟩, h3⟩ := h
  obtain ⟨h2', k, s⟩ := h2.put1 rfl e
  refine ⟨⟨h1.keep k (by simp; exact h3), ⟨_, h2', by simpa using hl, h4.cell (g := wc (upd m r _)) hr (by omega) (by omega) (fun i => wc_len m i) ?_ (fun i _ hne => wc_upd_ne m r _ i (by omega))⟩, h3⟩, k, s⟩
  rw [wc_some]
  unfold wc
  rw [hf]
  rfl
theorem RefIs.canT {w : World} {b bl n : Nat} {re : Int} {m : Mp} (h : RefIs w b bl n re m) {r : Nat} (hr : r < n) (now : Int) : canPut w ⟨bl, r * 21 + 20, none⟩ (.int .i64 now) := by
  obtain ⟨h1, ⟨cs, h2, hl, h4⟩, h3⟩ := h
  have h21 := row_le (sz := 21) hr
  exact h2.can1 _ rfl (by omega)
set_option maxHeartbeats 1000000 in
theorem rDue_s {b bl n : Nat} {re : Int} {m : Mp} (now : Int) {w : World} (hn : n ≤ 8) (h : RefIs w b bl n re m) :
    C.skepref17_Link_Due (some ⟨b, 0, none⟩) now w (fun v w' => ∃ s : Sl, v = .slice s.a s.len s.cap ∧ s.len = (dueList m re now n).length ∧ Rds w' 19 s ((dueList m re now n).flatMap tlc) ∧ RefIs w' b bl n re (dueMap m re now n) ∧ Kp [bl] w w') noP := skepref17_Link_Due_of (by
  unfold W.skepref17_Link_Due
  have hlt := h.lts
  refine ⟨fun s v w' => ∃ k : Nat, v = k ∧ k ≤ n ∧ s.len = (dueList m re now k).length ∧ Go.Eng.Own w' w.heap.size 19 s ((dueList m re now k).flatMap tlc) ∧ RefIs w' b bl n re (dueMap m re now k) ∧ Kp [bl] w w', fun _ v _ => 8 - v.toNat,
    ⟨⟨none, 0, 0⟩, rfl, _, rfl, 0, rfl, by omega, rfl, Go.Eng.Own.nil _ _ _, h, Kp.refl _ _⟩, fun e0 s v w7 hI => ?_⟩
  obtain ⟨k, rfl, hkn, hsl, ho, hR, hk⟩ := hI
  have s7 := hk.size
  refine ⟨⟨_, n, n⟩, ⟨rfl, hR.hd.at rfl⟩, cond_d (fun h1 => ?_) (fun h1 => ?_)⟩
  · dsimp only at h1
    intro w10 hD
    (replace hR := hR.keep (hD.kp) (by first | (simp; done) | (simp; omega) | omega))
    replace ho := ho.keep0 hD.kp
    have k10 := hk.then0 hD.kp
    have s10 := k10.size
    have hkn' : k < n := by omega
    have hw : IntKind.i64.wrap ((k : Int) + 1) = (k + 1 : Nat) := by rw [IntKind.wrap_i64]; omega
    have hc := hR.cell hkn' (j := 0) rfl
    have hc20 := hR.cell hkn' (j := 20) rfl
    rw [(due_found m re now k).1] at hc
    rw [(due_found m re now k).2] at hc20
    refine ⟨⟨_, n, n⟩, ⟨rfl, hR.hd.at rfl⟩, ⟨by omega, h1⟩, ?_⟩
    dsimp only [withSome]
    rw [add_blk, Nat.zero_add]
    refine ⟨_, ⟨rfl, hc⟩, cond_i (fun hf => ?_) (fun hf => ?_)⟩
    · refine ⟨⟨_, n, n⟩, ⟨rfl, hR.hd.at rfl⟩, ⟨by omega, h1⟩, ?_⟩
      dsimp only [withSome]
      rw [add_blk, Nat.zero_add, add_blk]
      refine ⟨_, ⟨rfl, hc20⟩, re, ⟨rfl, hR.hd.at rfl⟩, ?_⟩
      refine use (K := fun r w' => r = .int .i64 (T.less now (foundAt m k)) ∧ w10 = w') ((T.rless_calls now (foundAt m k) w10).mono (by rintro e w' ⟨rfl, rfl⟩; exact ⟨rfl, rfl⟩)) ?_
      rintro _ _ ⟨rfl, rfl⟩
      refine ⟨_, rfl, hR.hd.at rfl, cond_d (fun hd => ?_) (fun hd => ?_)⟩
      · have hdue : isDue m re now k = true := by unfold isDue; rw [hf]; simp; omega
        refine ⟨⟨_, n, n⟩, ⟨rfl, hR.hd.at rfl⟩, ⟨by omega, h1⟩, ?_⟩
        dsimp only [withSome]
        rw [add_blk, Nat.zero_add, add_blk]
        refine ⟨⟨rfl, hR.canT hkn' _⟩, fun w27 e27 => ?_⟩
        obtain ⟨hR, k27, s27⟩ := hR.time hkn' (by rw [(due_found m re now k).1]; exact hf) now e27
        rw [(due_found m re now k).1] at hR
        have ht := hR.tele hkn'
        rw [show (found (upd (dueMap m re now k) k (some ((found m k).1, now))) k).1 = (found m k).1 by rw [found_upd]; simp] at ht
        refine ⟨⟨_, n, n⟩, ⟨rfl, hR.hd.at rfl⟩, ⟨by omega, h1⟩, ?_⟩
        dsimp only [withSome]
        rw [add_blk, Nat.zero_add, add_blk]
        refine ⟨ofT (found m k).1, ⟨rfl, ht⟩, fun b32 w33 hA => ?_⟩
        have hB : Blk w33 b32 (tlc (found m k).1) := hA.blk
        have s33 := hA.eq
        have hlo := ho.lo
        replace ho := (ho.keep k27 (by intro x hx; have := hlo x hx; simp; omega)).keep0 hA.kp
        obtain ⟨q, n', c, w37, hrun, hn', ho', k37, hb'⟩ := app_tele ho (show Rds w33 19 ⟨some ⟨b32, 0, none⟩, 1, 1⟩ (tlc (found m k).1) from Blk.rds1 hB) (tlc_leaf _) (by omega) (by have := dueList_len m re now k; dsimp only; omega)
        (replace hR := hR.keep (hA.kp) (by first | (simp; done) | (simp; omega) | omega))
        have hR' := hR.keep k37 (by
          constructor
          · intro hx; have := hlo _ hx; omega
          · intro hx; have := hlo _ hx; omega)
        refine ⟨q, n', c, w37, hrun, ⟨q, n', c⟩, rfl, _, rfl, ⟨k + 1, hw, by omega, ?_, ?_, ?_, ((k10.then k27 (by simp)).then0 hA.kp).then k37 (fun x hx => .inr (by have := hlo x hx; omega))⟩, by simp only [hw]; omega⟩
        · dsimp only at hn'
          rw [dueList, if_pos hdue, List.length_append]
          dsimp only
          simp only [List.length_cons, List.length_nil]
          omega
        · rw [dueList, if_pos hdue, List.flatMap_append]
          simpa using ho'
        · rw [dueMap, if_pos hdue]; exact hR'
      · have hdue : ¬ isDue m re now k = true := by unfold isDue; rw [hf]; simp; omega
        exact ⟨s, rfl, _, rfl, ⟨k + 1, hw, by omega, by rw [dueList, if_neg hdue]; exact hsl, by rw [dueList, if_neg hdue]; exact ho, by rw [dueMap, if_neg hdue]; exact hR, k10⟩, by simp only [hw]; omega⟩
    · have hdue : ¬ isDue m re now k = true := by unfold isDue; rw [hf]; simp
      exact ⟨s, rfl, _, rfl, ⟨k + 1, hw, by omega, by rw [dueList, if_neg hdue]; exact hsl, by rw [dueList, if_neg hdue]; exact ho, by rw [dueMap, if_neg hdue]; exact hR, k10⟩, by simp only [hw]; omega⟩
  · dsimp only at h1
    have : k = n := by omega
    subst this
    exact ⟨s, rfl, hsl, ho.rds, hR, hk⟩)
theorem rClear_s {b bl n : Nat} {re : Int} {m : Mp} {w : World} (hn : n ≤ 8) (h : RefIs w b bl n re m) :
    C.skepref17_Link_Clear (some ⟨b, 0, none⟩) w (fun v w' => v = .tuple #[] ∧ ∃ bl', RefIs w' b bl' n re (fun _ => none) ∧ Kp [b] w w' ∧ w.heap.size ≤ bl') noP := skepref17_Link_Clear_of (by
  unfold W.skepref17_Link_Clear
  have hlt := h.lts
  refine ⟨⟨_, n, n⟩, ⟨rfl, h.hd.at rfl⟩, ⟨by dsimp only; omega, by dsimp only; omega, by dsimp only; omega, by dsimp only; omega⟩, fun b3 w4 hA => ?_⟩
  have s4 := hA.eq
  have hB := hA.blk
  have hd := h.hd.keep hA.kp (by simp)
  dsimp only [withSome]
  refine ⟨⟨rfl, hd.can1 _ rfl (Nat.le_of_ble_eq_true rfl)⟩, fun w6 e6 => ?_⟩
  obtain ⟨hd, k6, s6⟩ := hd.put1 rfl e6
  replace hB := hB.keep k6 (by simp; omega)
  refine ⟨rfl, b3, ⟨hd, ⟨_, hB, ?_, ?_⟩, by omega⟩, (hA.kp.up [b]).then k6 (by simp), by omega⟩
  · rw [made_len]; rfl
  · intro i hi j v hj
    have hj21 : j < 21 := by have := (List.getElem?_eq_some_iff.1 hj).1; rwa [wc_len] at this
    rw [← hj]
    exact zeros_get n (i * 21 + j) (by omega) i j rfl hj21)
theorem SameTeles_s (a p : Sl) (L : List Tl) {w : World} (ha : RdL w 19 (fun t => S.api_Tele.v (ofT t)) a L) (hp : RdL w 19 (fun t => S.api_Tele.v (ofT t)) p L) (h8 : L.length ≤ 1000) :
    C.skeplaw00_SameTeles a p w (fun v w' => v = .bool true ∧ Kp [] w w') noP := skeplaw00_SameTeles_of (by
  unfold W.skeplaw00_SameTeles
  have h1 := ha.len
  have h2 := hp.len
  refine cond_f (by simp; omega) ⟨fun v w' => ∃ k : Nat, v = k ∧ k ≤ L.length ∧ Kp [] w w', fun v _ => 1000 - v.toNat, ⟨_, rfl, 0, rfl, by omega, Kp.refl _ _⟩, fun e0 v w5 hI => ?_⟩
  obtain ⟨k, rfl, hk, k5⟩ := hI
  refine cond_d (fun h3 => ?_) (fun h3 => ⟨rfl, k5⟩)
  intro w6 hD
  have k6 := k5.then0 hD.kp
  obtain ⟨x, ex, hx⟩ := (ha.keep0 k6).get (i := k) (by omega)
  obtain ⟨y, ey, hy⟩ := (hp.keep0 k6).get (i := k) (by omega)
  rw [ex, ey]
  rw [Int.toNat_natCast]
  have hw : IntKind.i64.wrap ((k : Int) + 1) = (k + 1 : Nat) := by rw [IntKind.wrap_i64]; omega
  refine ⟨⟨by omega, h3⟩, _, ⟨rfl, hx⟩, ⟨by omega, by omega⟩, _, ⟨rfl, hy⟩, cond_f (by simp) ⟨_, rfl, ⟨k + 1, hw, by omega, k6⟩, by simp only [hw]; omega⟩⟩)
theorem New_n (ro re : Int) (w : World) (h : ro < 0 ∨ 8 < ro ∨ re < 1) : C.link_New ro re w (fun r w' => r = .tuple #[.pointer none, .int .i64 1] ∧ Kp [] w w') noP :=
  (new_no ro re w h).mono (by rintro e w' ⟨rfl, rfl⟩; exact ⟨rfl, Kp.refl _ _⟩)
theorem Clear_s {b bm : Nat} {ro re : Int} {m : Mp} {w : World} (h : LinkIs w b bm ro re m) :
    C.link_Link_Clear (some ⟨b, 0, none⟩) w (fun v w' => v = .tuple #[] ∧ LinkIs w' b bm ro re (fun _ => none) ∧ Kp [bm] w w') noP :=
  (clear_calls b bm ro re m w h).mono (by rintro e w' ⟨rfl, h, hb⟩; exact ⟨rfl, h, Kp.of_grown hb⟩)
/-- What Send answers, what waits then. -/
def okT (n : Nat) (t : S.api_Tele) : Prop := 0 ≤ t.Robot ∧ t.Robot < n ∧ (t.Kind = 1 ∨ t.Kind = 2)
instance (n : Nat) (t : S.api_Tele) : Decidable (okT n t) := by unfold okT; infer_instance
def sendT (n : Nat) (t : S.api_Tele) : S.api_Tele := if okT n t then t else ofT Tl.zero
def sendE (n : Nat) (t : S.api_Tele) : Int := if okT n t then 0 else 1
def sendM (n : Nat) (m : Mp) (t : S.api_Tele) (now : Int) : Mp := if okT n t then upd m t.Robot (some (toT t, now)) else m
theorem Send_b {b bm n : Nat} {re : Int} {m : Mp} (t : S.api_Tele) (now : Int) {w : World} (h : LinkIs w b bm n re m) :
    C.link_Link_Send (some ⟨b, 0, none⟩) t now w (fun r w' => r = .tuple #[S.api_Tele.v (sendT n t), .int .i64 (sendE n t)] ∧ LinkIs w' b bm n re (sendM n m t now) ∧ Kp [bm] w w') noP := by
  unfold sendT sendE sendM
  by_cases hk : okT n t
  · rw [if_pos hk, if_pos hk, if_pos hk]
    exact Send_s t now h hk.1 hk.2.1 hk.2.2
  · rw [if_neg hk, if_neg hk, if_neg hk]
    unfold okT at hk
    refine (send_no b bm n re m (toT t) now w h (by show t.Robot < 0 ∨ (n : Int) ≤ t.Robot ∨ (t.Kind ≠ 1 ∧ t.Kind ≠ 2); omega)).mono ?_
    rintro e w' ⟨rfl, hb⟩
    exact ⟨rfl, h.keep (Kp.of_below hb) (by simp), (Kp.of_below hb).up _⟩
theorem rSend_b {b bl n : Nat} {re : Int} {m : Mp} (t : S.api_Tele) (now : Int) {w : World} (h : RefIs w b bl n re m) :
    C.skepref17_Link_Send (some ⟨b, 0, none⟩) t now w (fun r w' => r = .tuple #[S.api_Tele.v (sendT n t), .int .i64 (sendE n t)] ∧ RefIs w' b bl n re (sendM n m t now) ∧ Kp [bl] w w') noP := by
  unfold sendT sendE sendM
  by_cases hk : okT n t
  · rw [if_pos hk, if_pos hk, if_pos hk]
    exact rSend_s t now h hk.1 hk.2.1 hk.2.2
  · rw [if_neg hk, if_neg hk, if_neg hk]
    unfold okT at hk
    refine use (rSend_n t now h (by omega)) ?_
    rintro r w' ⟨rfl, hb⟩
    exact ⟨rfl, h.keep hb (by simp), hb.up _⟩
theorem sendM_sup {n : Nat} {m : Mp} (h : Sup n m) (t : S.api_Tele) (now : Int) : Sup n (sendM n m t now) := by
  unfold sendM
  split
  · rename_i hk; exact h.upd hk.1 hk.2.1 _
  · exact h
theorem Sup.del {n : Nat} {m : Mp} (h : Sup n m) (r : Int) : Sup n (if (K.found m r).2 then K.upd m r Option.none else m) := by
  split
  · intro k hk
    unfold K.upd
    split
    · rfl
    · exact h k hk
  · exact h
theorem Sup.due {n : Nat} {m : Mp} (h : Sup n m) (re now : Int) : ∀ k, k ≤ n → Sup n (dueMap m re now k)
  | 0, _ => h
  | k + 1, hk => by
    rw [dueMap]
    split
    · exact (h.due re now k (by omega)).upd (by omega) (by omega) _
    · exact h.due re now k (by omega)
/-- Both links, as one thing. -/
structure Both (w0 w : World) (b bm rb bl n : Nat) (re : Int) (m : Mp) : Prop where
  lk : LinkIs w b bm n re m
  rf : RefIs w rb bl n re m
  sp : Sup n m
  ne : rb ≠ b ∧ rb ≠ bm ∧ bl ≠ b ∧ bl ≠ bm
  lo : w0.heap.size ≤ b ∧ w0.heap.size ≤ bm ∧ w0.heap.size ≤ rb ∧ w0.heap.size ≤ bl
  kp : Kp [] w0 w
theorem Both.keep {w0 w w1 : World} {b bm rb bl n : Nat} {re : Int} {m : Mp} (h : Both w0 w b bm rb bl n re m) (k : Kp [] w w1) : Both w0 w1 b bm rb bl n re m :=
  ⟨h.lk.keep k (by simp), h.rf.keep k (by simp), h.sp, h.ne, h.lo, h.kp.then0 k⟩
theorem Both.lts {w0 w : World} {b bm rb bl n : Nat} {re : Int} {m : Mp} (h : Both w0 w b bm rb bl n re m) : b < w.heap.size ∧ bm < w.heap.size ∧ rb < w.heap.size ∧ bl < w.heap.size := ⟨h.lk.lts.1, h.lk.lts.2.1, h.rf.lts.1, h.rf.lts.2.1⟩
set_option maxHeartbeats 2000000 in
theorem LinkPlays_s (ro re : Int) (s : Sl) (L : List S.skeplaw17_Op) (w : World) (hr : RdL w 22 S.skeplaw17_Op.v s L) :
    C.skeplaw17_LinkPlays ro re s w (fun v w' => v = .bool true ∧ Kp [] w w') noP := skeplaw17_LinkPlays_of (by
  unfold W.skeplaw17_LinkPlays
  have hlen := hr.len
  by_cases hok : ro < 0 ∨ 8 < ro ∨ re < 1
  · refine use (New_n ro re w hok) ?_
    rintro _ w1 ⟨rfl, k1⟩
    refine ⟨(none, 1), rfl, ?_⟩
    refine use (rNew_n ro re w1 hok) ?_
    rintro _ w4 ⟨rfl, k4⟩
    refine ⟨none, rfl, cond_t rfl (cond_t rfl (cond_t rfl ?_))⟩
    refine use (awake_s w4) ?_
    rintro _ w7 ⟨rfl, k7⟩
    exact ⟨_, rfl, rfl, (k1.then0 k4).then0 k7⟩
  · obtain ⟨n, rfl⟩ : ∃ n : Nat, ro = n := ⟨ro.toNat, by omega⟩
    have hn8 : n ≤ 8 := by omega
    refine use (New_s n re w (by omega) (by omega) (by omega)) ?_
    rintro _ w1 ⟨b, bm, rfl, hL, k1, hb0, hbm0⟩
    refine ⟨(some ⟨b, 0, none⟩, 0), rfl, ?_⟩
    refine use (rNew_s n re w1 hn8 (by omega)) ?_
    rintro _ w4 ⟨rb, bl0, rfl, hR, k4, hrb0, hbl0⟩
    refine ⟨some ⟨rb, 0, none⟩, rfl, cond_f rfl (cond_f rfl (cond_f rfl ?_))⟩
    have lts := hL.lts
    have s1 := k1.size
    have hB0 : Both w w4 b bm rb bl0 n re (fun _ => none) := ⟨hL.keep k4 (by simp), hR, Sup.none n, by omega, by omega, k1.then0 k4⟩
    clear hL hR k1 k4
    refine ⟨fun v w' => ∃ (k : Nat) (m : Mp) (bl : Nat), v = k ∧ Both w w' b bm rb bl n re m, fun v _ => 80 - v.toNat, ⟨_, rfl, 0, _, _, rfl, hB0⟩, fun e0 v w14 hI => ?_⟩
    obtain ⟨k, m, bl, rfl, hB⟩ := hI
    have awk : C.skeplaw17_awake w14 (fun r w' => ∃ p : Bool, r = .bool p ∧ ((.bool p : Value) = .bool true ∧ Kp [] w w')) noP := by
      refine use (awake_s w14) ?_
      rintro _ w7 ⟨rfl, k7⟩
      exact ⟨_, rfl, rfl, hB.kp.then0 k7⟩
    refine cond_d (fun h1 => cond_d (fun h2 => ?_) (fun h2 => awk)) (fun h1 => awk)
    clear awk
    obtain ⟨ad, ha, hx⟩ := (hr.keep0 hB.kp).get (i := k) (by omega)
    obtain ⟨x, ex⟩ : ∃ x, L[k] = x := ⟨_, rfl⟩
    rw [ex] at hx
    rw [ha, Int.toNat_natCast]
    refine ⟨⟨by omega, h1⟩, x, ⟨rfl, hx⟩, fun b17 w18 hA => ?_⟩
    have hX := hA.blk
    have s18 := hA.eq
    have s14 := hB.kp.size
    have lts := hB.lts
    refine ⟨⟨rfl, hX.canN _ (Nat.le_refl _)⟩, fun w19 e19 => ?_⟩
    obtain ⟨hX, k19, s19⟩ := hX.putAll (by rfl) e19
    replace hB := hB.keep (hA.kp.then k19 (by simp; omega))
    clear hA k19 e19
    have hX : Blk w19 b17 (S.skeplaw17_Op.v x).cells.toList := hX
    refine ⟨fun w' => ∃ m bl, Both w w' b bm rb bl n re m ∧ Blk w' b17 (S.skeplaw17_Op.v x).cells.toList, ?_, ?_⟩
    · refine ⟨_, ⟨rfl, hX.at rfl⟩, ?_⟩
      refine use (Place_s x.Kind 5 w19 (by omega) (by omega)) ?_
      rintro _ _ ⟨rfl, rfl⟩
      refine ⟨_, rfl, ?_⟩
      obtain ⟨kd, hkd⟩ : ∃ kd, x.Kind % 5 = kd := ⟨_, rfl⟩
      rw [hkd]
      clear hkd
      refine cond_e (fun h => cond_t (by simp [h]) ?a) (fun h0 => cond_e (fun h => ?b) (fun h1 => ?c))
      case a | b =>
        have hT : Go.Eng.rd w19 ⟨b17, 3, none⟩ (S.api_Tele.v x.T) := hX.rd 3 _ (fun i v hv => by
          rw [← hv]
          show _ = _
          rw [Nat.add_comm]
          rfl)
        have lts := hB.lts
        have ne := hB.ne
        have lo := hB.lo
        refine ⟨x.T, ⟨rfl, hT⟩, x.Now, ⟨rfl, hX.at rfl⟩, ?_⟩
        refine use (Send_b x.T x.Now hB.lk) ?_
        rintro _ w27 ⟨rfl, hL, k27⟩
        refine ⟨(_, _), rfl, ?_⟩
        dsimp only
        intro b30 w31 hA30
        have hRf := hB.rf.keep k27 (by simp; omega)
        (replace hX := hX.keep (k27) (by first | (simp; done) | (simp; omega) | omega))
        have s27 := k27.size
        have s31 := hA30.eq
        have hB30 := hA30.blk
        refine ⟨⟨rfl, hB30.canN _ (Nat.le_refl _)⟩, fun w32 e32 => ?_⟩
        obtain ⟨hB30, k32, s32⟩ := hB30.putAll (by rfl) e32
        have k2732 : Kp [] w27 w32 := hA30.kp.then k32 (by simp; omega)
        (replace hL := hL.keep (k2732) (by first | (simp; done) | (simp; omega) | omega); replace hRf := hRf.keep (k2732) (by first | (simp; done) | (simp; omega) | omega); replace hX := hX.keep (k2732) (by first | (simp; done) | (simp; omega) | omega))
        refine ⟨x.T, ⟨rfl, hX.rd 3 _ (fun i v hv => by
          rw [← hv]
          show _ = _
          rw [Nat.add_comm]
          rfl)⟩, x.Now, ⟨rfl, hX.at rfl⟩, ?_⟩
        refine use (rSend_b x.T x.Now hRf) ?_
        rintro _ w35 ⟨rfl, hRf, k35⟩
        refine ⟨(_, _), rfl, ?_⟩
        dsimp only
        intro b38 w39 hA38
        have s35 := k35.size
        have s39 := hA38.eq
        have hB38 := hA38.blk
        (replace hL := hL.keep (k35) (by first | (simp; done) | (simp; omega) | omega); replace hX := hX.keep (k35) (by first | (simp; done) | (simp; omega) | omega); replace hB30 := hB30.keep (k35) (by first | (simp; done) | (simp; omega) | omega))
        refine ⟨⟨rfl, hB38.canN _ (Nat.le_refl _)⟩, fun w40 e40 => ?_⟩
        obtain ⟨hB38, k40, s40⟩ := hB38.putAll (by rfl) e40
        have k3540 : Kp [] w35 w40 := hA38.kp.then k40 (by simp; omega)
        (replace hL := hL.keep (k3540) (by first | (simp; done) | (simp; omega) | omega); replace hRf := hRf.keep (k3540) (by first | (simp; done) | (simp; omega) | omega); replace hX := hX.keep (k3540) (by first | (simp; done) | (simp; omega) | omega); replace hB30 := hB30.keep (k3540) (by first | (simp; done) | (simp; omega) | omega))
        refine ⟨_, ⟨rfl, hB30.rd0⟩, _, ⟨rfl, hB38.rd0⟩, cond_f (by simp) (cond_f (by simp) ⟨_, bl, ⟨hL, hRf, sendM_sup hB.sp _ _, ne, lo, ?_⟩, hX⟩)⟩
        exact (((hB.kp.then k27 (by simp; omega)).then0 k2732).then k35 (by simp; omega)).then0 k3540
      case c =>
        have lts := hB.lts
        have ne := hB.ne
        have lo := hB.lo
        refine cond_e (fun h => ?got) (fun h2 => cond_e (fun h => ?due) (fun h3 => cond_e (fun h => ?clear) (fun h4 => ⟨m, bl, hB, hX⟩)))
        case got =>
          intro w43 hD
          replace hB := hB.keep hD.kp
          (replace hX := hX.keep (hD.kp) (by first | (simp; done) | (simp; omega) | omega))
          refine ⟨x.Robot, ⟨rfl, hX.at rfl⟩, x.Robot, ⟨rfl, hX.at rfl⟩, ?_⟩
          refine use (Got_s x.Robot hB.lk) ?_
          rintro _ w46 ⟨rfl, hL, k46⟩
          have hRf := hB.rf.keep k46 (by simp; omega)
          (replace hX := hX.keep (k46) (by first | (simp; done) | (simp; omega) | omega))
          refine ⟨_, rfl, hX.at rfl, ?_⟩
          refine use (rGot_s x.Robot hRf hB.sp) ?_
          rintro _ w49 ⟨rfl, hRf, k49⟩
          (replace hL := hL.keep (k49) (by first | (simp; done) | (simp; omega) | omega); replace hX := hX.keep (k49) (by first | (simp; done) | (simp; omega) | omega))
          refine ⟨_, rfl, cond_f (by simp) ⟨_, bl, ⟨hL, hRf, hB.sp.del _, ne, lo, ?_⟩, hX⟩⟩
          exact (hB.kp.then k46 (by simp; omega)).then k49 (by simp; omega)
        case due =>
          intro w52 hD
          replace hB := hB.keep hD.kp
          (replace hX := hX.keep (hD.kp) (by first | (simp; done) | (simp; omega) | omega))
          refine ⟨x.Now, ⟨rfl, hX.at rfl⟩, x.Now, ⟨rfl, hX.at rfl⟩, ?_⟩
          refine use (Due_s x.Now hn8 hB.lk) ?_
          rintro _ w55 ⟨p, rfl, hpl, hp, hL, k55, hpb⟩
          have hRf := hB.rf.keep k55 (by simp; omega)
          (replace hX := hX.keep (k55) (by first | (simp; done) | (simp; omega) | omega))
          have s55 := k55.size
          refine ⟨p, rfl, hX.at rfl, ?_⟩
          refine use (rDue_s x.Now hn8 hRf) ?_
          rintro _ w58 ⟨q, rfl, hql, hq, hRf, k58⟩
          (replace hL := hL.keep (k58) (by first | (simp; done) | (simp; omega) | omega); replace hX := hX.keep (k58) (by first | (simp; done) | (simp; omega) | omega))
          have sup := hB.sp.due re x.Now n (Nat.le_refl _)
          have lts2 := hB.lts
          have hp' := (telesL hp hpl).keep k58 (by
            intro y hy
            have := hpb y hy
            simp
            omega)
          refine ⟨q, rfl, ?_⟩
          refine use (SameTeles_s p q _ hp' (telesL hq hql) (by have := dueList_len m re x.Now n; omega)) ?_
          rintro _ w61 ⟨rfl, k61⟩
          refine ⟨_, rfl, cond_f rfl ⟨dueMap m re x.Now n, bl, ?_, hX.keep k61 (by simp)⟩⟩
          exact (Both.mk (w0 := w) hL hRf sup ne lo ((hB.kp.then k55 (by simp; omega)).then k58 (by simp; omega))).keep k61
        case clear =>
          refine use (Clear_s hB.lk) ?_
          rintro _ w64 ⟨rfl, hL, k64⟩
          have hRf := hB.rf.keep k64 (by simp; omega)
          (replace hX := hX.keep (k64) (by first | (simp; done) | (simp; omega) | omega))
          have s64 := k64.size
          refine ⟨(), rfl, ?_⟩
          refine use (rClear_s hn8 hRf) ?_
          rintro _ w67 ⟨rfl, bl', hRf, k67, hbl'⟩
          (replace hL := hL.keep (k67) (by first | (simp; done) | (simp; omega) | omega); replace hX := hX.keep (k67) (by first | (simp; done) | (simp; omega) | omega))
          refine ⟨(), rfl, _, bl', ⟨hL, hRf, Sup.none n, by omega, by omega, ?_⟩, hX⟩
          exact (hB.kp.then k64 (by simp; omega)).then k67 (by simp; omega)
    · rintro e0 w115 ⟨m, bl, hB, hX⟩
      refine ⟨x.Robot, ⟨rfl, hX.at rfl⟩, ?_⟩
      refine use (Waits_s x.Robot hB.lk) ?_
      rintro _ w117 ⟨rfl, k117⟩
      refine ⟨(_, _), rfl, ?_⟩
      dsimp only
      intro b120 w121 hA
      have hB120 := hA.blk
      have s121 := hA.eq
      refine ⟨⟨rfl, hB120.canN _ (Nat.le_refl _)⟩, fun w122 e122 => ?_⟩
      obtain ⟨hB120, k122, s122⟩ := hB120.putAll (by rfl) e122
      have kk : Kp [] w115 w122 := k117.then0 (hA.kp.then k122 (by simp; omega))
      replace hB := hB.keep kk
      (replace hX := hX.keep (kk) (by first | (simp; done) | (simp; omega) | omega))
      refine ⟨x.Robot, ⟨rfl, hX.at rfl⟩, ?_⟩
      refine use (rWaits_s x.Robot hB.rf hB.sp) ?_
      rintro _ w124 ⟨rfl, k124⟩
      refine ⟨(_, _), rfl, ?_⟩
      dsimp only
      intro b127 w128 hA2
      have hB127 := hA2.blk
      have s128 := hA2.eq
      (replace hB120 := hB120.keep (k124) (by first | (simp; done) | (simp; omega) | omega))
      refine ⟨⟨rfl, hB127.canN _ (Nat.le_refl _)⟩, fun w129 e129 => ?_⟩
      obtain ⟨hB127, k129, s129⟩ := hB127.putAll (by rfl) e129
      have k2 : Kp [] w124 w129 := hA2.kp.then k129 (by simp; omega)
      (replace hB120 := hB120.keep (k2) (by first | (simp; done) | (simp; omega) | omega))
      have hw : IntKind.i64.wrap ((k : Int) + 1) = (k + 1 : Nat) := by rw [IntKind.wrap_i64]; omega
      refine ⟨_, ⟨rfl, hB120.rd0⟩, _, ⟨rfl, hB127.rd0⟩, cond_f (by simp) (cond_f (by simp) ⟨_, rfl, ⟨k + 1, m, bl, hw, hB.keep (k124.then0 k2)⟩, by simp only [hw]; omega⟩)⟩)
theorem LinkPlays_walk (ro re : Int) (s : Sl) (L : List S.skeplaw17_Op) (w : World) (h : RdL w 22 S.skeplaw17_Op.v s L) :
    Calls Try.prog 7 #[.int .i64 ro, .int .i64 re, .slice s.a s.len s.cap] w fun e w' => e = .returned (.bool true) ∧ Below w.heap.size w w' :=
  ret_true (LinkPlays_s ro re s L w h)
end Go.Proofs.Ytkafemfpfbcoaaa
