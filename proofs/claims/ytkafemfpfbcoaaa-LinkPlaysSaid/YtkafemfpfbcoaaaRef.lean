/- The document's link (skepref17): its contracts. No conditions. -/
import Derived.Test.YtkafemfpfbcoaaaELink
namespace Go.Proofs.Ytkafemfpfbcoaaa
open Go.RowKit Go.Eng Go.Proofs.Ytkafemfpfbcoaaa.K
set_option linter.unusedVariables false
/-- So many rows of cells. -/
def RowsOf (sz : Nat) (cs : List Value) (n : Nat) (f : Nat → List Value) : Prop := ∀ i, i < n → ∀ j v, (f i)[j]? = some v → cs[i * sz + j]? = some v
theorem row_le {i n sz : Nat} (h : i < n) : i * sz + sz ≤ n * sz := by
  have := Nat.mul_le_mul_right sz h
  rw [Nat.succ_mul] at this
  exact this
theorem row_apart {i r sz : Nat} (h : i < r) : i * sz + sz ≤ r * sz := row_le h
theorem RowsOf.set {sz : Nat} {cs : List Value} {n : Nat} {f g : Nat → List Value} (h : RowsOf sz cs n f) {r : Nat} (hr : r < n) (hl : n * sz ≤ cs.length) (hlf : ∀ i, (f i).length = sz) (hgr : (g r).length = sz) (hg : ∀ i, i < n → i ≠ r → g i = f i) :
    RowsOf sz (cs.take (r * sz) ++ g r ++ cs.drop (r * sz + sz)) n g := by
  intro i hi j v hj
  have hj19 : j < sz := by
    have := (List.getElem?_eq_some_iff.1 hj).1
    by_cases e : i = r
    · subst e; omega
    · rw [hg i hi e, hlf] at this; exact this
  have hr19 := row_le (sz := sz) hr
  rw [set_get hgr (by omega)]
  rcases Nat.lt_trichotomy i r with e | e | e
  · have := row_apart (sz := sz) e
    rw [if_pos (by omega)]
    exact h i hi j v (by rw [← hg i hi (by omega)]; exact hj)
  · subst e
    rw [if_neg (by omega), if_pos (by omega), show i * sz + j - i * sz = j by omega]
    exact hj
  · have := row_apart (sz := sz) e
    rw [if_neg (by omega), if_neg (by omega)]
    exact h i hi j v (by rw [← hg i hi (by omega)]; exact hj)
theorem set_cell_get {cs : List Value} {k : Nat} {v : Value} {j : Nat} (h : j ≠ k) : (cs.set k v)[j]? = cs[j]? := by rw [List.getElem?_set_ne (Ne.symm h)]
/-- One cell of a row. -/
theorem RowsOf.cell {sz : Nat} {cs : List Value} {n : Nat} {f g : Nat → List Value} (h : RowsOf sz cs n f) {r k : Nat} {u : Value} (hr : r < n) (hk : k < sz) (hl : n * sz ≤ cs.length) (hlf : ∀ i, (f i).length = sz) (hgr : g r = (f r).set k u) (hg : ∀ i, i < n → i ≠ r → g i = f i) :
    RowsOf sz (cs.set (r * sz + k) u) n g := by
  intro i hi j v hj
  have hr19 := row_le (sz := sz) hr
  by_cases e : i = r
  · subst e
    rw [hgr] at hj
    by_cases e2 : j = k
    · subst e2
      rw [List.getElem?_set_self (by omega)]
      rw [List.getElem?_set_self (by rw [hlf]; exact hk)] at hj
      exact hj
    · rw [set_cell_get (by omega)]
      rw [set_cell_get e2] at hj
      exact h i hi j v hj
  · have hj19 : j < sz := by
      have := (List.getElem?_eq_some_iff.1 hj).1
      rw [hg i hi e, hlf] at this
      exact this
    rw [set_cell_get (by
      rcases Nat.lt_or_gt_of_ne e with e | e
      · have := row_apart (sz := sz) e; omega
      · have := row_apart (sz := sz) e; omega)]
    exact h i hi j v (by rw [← hg i hi e]; exact hj)
def wc (m : Mp) (i : Nat) : List Value := .bool (found m i).2 :: (tlcs (found m i).1 ++ [.int .i64 (foundAt m i)])
theorem wc_len (m : Mp) (i : Nat) : (wc m i).length = 21 := rfl
/-- The document's link: block b, its row of n things that wait: block bl; they are m. -/
structure RefIs (w : World) (b bl n : Nat) (re : Int) (m : Mp) : Prop where
  hd : Blk w b [.slice (some ⟨bl, 0, none⟩) n n, .int .i64 re]
  ar : ∃ cs, Blk w bl cs ∧ cs.length = n * 21 ∧ RowsOf 21 cs n (wc m)
  ne : b ≠ bl
theorem RefIs.lts {w : World} {b bl n : Nat} {re : Int} {m : Mp} (h : RefIs w b bl n re m) : b < w.heap.size ∧ bl < w.heap.size ∧ b ≠ bl := by
  obtain ⟨h1, ⟨cs, h2, _⟩, h3⟩ := h
  exact ⟨h1.lt, h2.lt, h3⟩
theorem RefIs.keep {w w' : World} {b bl n : Nat} {re : Int} {m : Mp} {l : List Nat} (h : RefIs w b bl n re m) (k : Kp l w w') (hn : b ∉ l ∧ bl ∉ l) : RefIs w' b bl n re m := by
  obtain ⟨h1, ⟨cs, h2, h4⟩, h3⟩ := h
  exact ⟨h1.keep k hn.1, ⟨cs, h2.keep k hn.2, h4⟩, h3⟩
/-- Nothing waits for robots that there are not. -/
def Sup (n : Nat) (m : Mp) : Prop := ∀ k, ¬ (0 ≤ k ∧ k < (n : Int)) → m k = none
theorem Sup.none (n : Nat) : Sup n (fun _ => none) := fun _ _ => rfl
theorem Sup.upd {n : Nat} {m : Mp} (h : Sup n m) {r : Int} (h0 : 0 ≤ r) (h1 : r < n) (x : Option (Tl × Int)) : Sup n (upd m r x) := by
  intro k hk
  unfold K.upd
  rw [if_neg (by omega)]
  exact h k hk
theorem Sup.found {n : Nat} {m : Mp} (h : Sup n m) {r : Int} (hr : ¬ (0 ≤ r ∧ r < (n : Int))) : found m r = (Tl.zero, false) := by
  unfold K.found
  rw [h r hr]
theorem zeros_get (n j : Nat) (h : j < n * 21) : ∀ i k, i * 21 + k = j → k < 21 → (madeCells #[.bool false, .int .i64 0, .int .i64 0, .int .i64 0, .int .i64 0, .int .i64 0, .int .i64 0, .int .i64 0, .int .i64 0, .int .i64 0, .bool false, .int .i64 0, .int .i64 0, .bool false, .int .i64 0, .int .i64 0, .int .i64 0, .int .i64 0, .bool false, .int .i64 0, .int .i64 0] (n * 21)).toList[j]? = (wc (fun _ => none) i)[k]? := by
  intro i k e hk
  subst e
  rw [made_get _ h]
  have hm : (i * 21 + k) % (#[.bool false, .int .i64 0, .int .i64 0, .int .i64 0, .int .i64 0, .int .i64 0, .int .i64 0, .int .i64 0, .int .i64 0, .int .i64 0, .bool false, .int .i64 0, .int .i64 0, .bool false, .int .i64 0, .int .i64 0, .int .i64 0, .int .i64 0, .bool false, .int .i64 0, .int .i64 0] : Array Value).size = k := by
    show (i * 21 + k) % 21 = k
    omega
  rw [hm]
  have h19 : k = 0 ∨ k = 1 ∨ k = 2 ∨ k = 3 ∨ k = 4 ∨ k = 5 ∨ k = 6 ∨ k = 7 ∨ k = 8 ∨ k = 9 ∨ k = 10 ∨ k = 11 ∨ k = 12 ∨ k = 13 ∨ k = 14 ∨ k = 15 ∨ k = 16 ∨ k = 17 ∨ k = 18 ∨ k = 19 ∨ k = 20 := by omega
  rcases h19 with rfl | rfl | rfl | rfl | rfl | rfl | rfl | rfl | rfl | rfl | rfl | rfl | rfl | rfl | rfl | rfl | rfl | rfl | rfl | rfl | rfl <;> rfl
theorem rNew_s (n : Nat) (re : Int) (w : World) (h1 : n ≤ 8) (h2 : 1 ≤ re) : C.skepref17_New n re w (fun r w' => ∃ b bl, r = .pointer (some ⟨b, 0, none⟩) ∧ RefIs w' b bl n re (fun _ => none) ∧ Kp [] w w' ∧ w.heap.size ≤ b ∧ w.heap.size ≤ bl) noP := skepref17_New_of (by
  unfold W.skepref17_New
  refine cond_d (fun h => by (try dsimp only at *); omega) fun _ => cond_d (fun h => by (try dsimp only at *); omega) fun _ => cond_d (fun h => by (try dsimp only at *); omega) fun _ => ⟨⟨by (try dsimp only at *); omega, by (try dsimp only at *); omega, by (try dsimp only at *); omega, by (try dsimp only at *); omega⟩, ?_⟩
  intro b1 w2 hA b3 w4 hB
  have s1 := hA.eq
  have s2 := hB.eq
  refine ⟨b3, b1, rfl, ⟨hB.blk, ⟨_, hA.blk.keep hB.kp (by simp), ?_, ?_⟩, by (try dsimp only at *); omega⟩, hA.kp.then0 hB.kp, by (try dsimp only at *); omega, by (try dsimp only at *); omega⟩
  · rw [made_len]; rfl
  · intro i hi j v hj
    have hj21 : j < 21 := by have := (List.getElem?_eq_some_iff.1 hj).1; rwa [wc_len] at this
    rw [← hj]
    exact zeros_get n (i * 21 + j) (by (try dsimp only at *); omega) i j rfl hj21)
theorem rNew_n (ro re : Int) (w : World) (h : ro < 0 ∨ 8 < ro ∨ re < 1) : C.skepref17_New ro re w (fun r w' => r = .pointer none ∧ Kp [] w w') noP := skepref17_New_of (by
  unfold W.skepref17_New
  exact cond_d (fun h => ⟨rfl, Kp.refl _ _⟩) fun _ => cond_d (fun h => ⟨rfl, Kp.refl _ _⟩) fun _ => cond_d (fun h => ⟨rfl, Kp.refl _ _⟩) fun _ => by (try dsimp only at *); omega)
theorem wc_upd_ne (m : Mp) (r : Int) (x : Option (Tl × Int)) (i : Nat) (h : (i : Int) ≠ r) : wc (upd m r x) i = wc m i := by
  unfold wc found foundAt upd
  simp only [if_neg h]
theorem wc_some (m : Mp) (r : Nat) (t : Tl) (x : Int) : wc (upd m r (some (t, x))) r = .bool true :: (tlcs t ++ [.int .i64 x]) := by
  unfold wc found foundAt upd
  simp
theorem wc_none (m : Mp) (r : Nat) : wc (upd m r none) r = .bool false :: (tlcs Tl.zero ++ [.int .i64 0]) := by
  unfold wc found foundAt upd
  simp
/-- The row of a robot is written whole. -/
theorem RefIs.row {w w1 : World} {b bl n : Nat} {re : Int} {m : Mp} (h : RefIs w b bl n re m) {r : Nat} (hr : r < n) (x : Option (Tl × Int)) (e : w1 = putAt w ⟨bl, r * 21, none⟩ (.agg (wc (upd m r x) r).toArray)) :
    RefIs w1 b bl n re (upd m r x) ∧ Kp [bl] w w1 ∧ w1.heap.size = w.heap.size := by
  obtain ⟨h1, ⟨cs, h2, hl, h4⟩, h3⟩ := h
  have h21 := row_le (sz := 21) hr
  obtain ⟨h2', k, s⟩ := h2.putN (vs := (wc (upd m r x) r).toArray) (by show r * 21 + 21 ≤ _; omega) e
  refine ⟨⟨h1.keep k (by simp; exact h3), ⟨_, h2', ?_, h4.set (g := wc (upd m r x)) hr (by (try dsimp only at *); omega) (fun i => wc_len m i) (wc_len _ _) (fun i _ hne => wc_upd_ne m r x i (by (try dsimp only at *); omega))⟩, h3⟩, k, s⟩
  show (cs.take (r * 21) ++ wc (upd m r x) r ++ cs.drop (r * 21 + 21)).length = n * 21
  simp [wc_len]; omega
theorem RefIs.can {w : World} {b bl n : Nat} {re : Int} {m : Mp} (h : RefIs w b bl n re m) {r : Nat} (hr : r < n) (vs : Array Value) (hv : vs.size = 21) : canPut w ⟨bl, r * 21, none⟩ (.agg vs) := by
  obtain ⟨h1, ⟨cs, h2, hl, h4⟩, h3⟩ := h
  have h21 := row_le (sz := 21) hr
  exact h2.canN vs (by rw [hv]; omega)
theorem RefIs.cell {w : World} {b bl n : Nat} {re : Int} {m : Mp} (h : RefIs w b bl n re m) {r : Nat} (hr : r < n) {j : Nat} {v : Value} (hv : (wc m r)[j]? = some v) : w.cell? ⟨bl, r * 21 + j, none⟩ = some v := by
  obtain ⟨h1, ⟨cs, h2, hl, h4⟩, h3⟩ := h
  exact h2.at (h4 r hr j v hv)
theorem RefIs.tele {w : World} {b bl n : Nat} {re : Int} {m : Mp} (h : RefIs w b bl n re m) {r : Nat} (hr : r < n) : Go.Eng.rd w ⟨bl, r * 21 + 1, none⟩ (S.api_Tele.v (ofT (found m r).1)) := by
  obtain ⟨h1, ⟨cs, h2, hl, h4⟩, h3⟩ := h
  refine h2.rd _ _ (fun j v hj => ?_)
  rw [Nat.add_assoc]
  refine h4 r hr (1 + j) v ?_
  rw [Nat.add_comm 1 j]
  show (tlcs (found m r).1 ++ [Value.int .i64 (foundAt m r)])[j]? = _
  rw [List.getElem?_append_left (by exact (List.getElem?_eq_some_iff.1 hj).1)]
  exact hj
set_option maxHeartbeats 1000000 in
theorem rSend_s {b bl n : Nat} {re : Int} {m : Mp} (t : S.api_Tele) (now : Int) {w : World} (h : RefIs w b bl n re m) (h0 : 0 ≤ t.Robot) (h1 : t.Robot < n) (h2 : t.Kind = 1 ∨ t.Kind = 2) :
    C.skepref17_Link_Send (some ⟨b, 0, none⟩) t now w (fun r w' => r = .tuple #[S.api_Tele.v t, .int .i64 0] ∧ RefIs w' b bl n re (upd m t.Robot (some (toT t, now))) ∧ Kp [bl] w w') noP := skepref17_Link_Send_of (by
  unfold W.skepref17_Link_Send
  intro b1 w2 hA b3 w4 hA3
  have hB := hA.blk.keep hA3.kp (by simp)
  have hB3 := hA3.blk
  have s1 := hA.eq
  have s3 := hA3.eq
  have hlt := h.lts
  have k4 := hA.kp.then0 hA3.kp
  (replace h := h.keep (k4) (by first | (simp; done) | (simp; omega) | omega))
  refine ⟨fun w' => Kp [] w4 w', ?_, ?_⟩
  · intro w6 hD
    have k6 := hD.kp
    (replace h := h.keep (k6) (by first | (simp; done) | (simp; omega) | omega); replace hB := hB.keep (k6) (by first | (simp; done) | (simp; omega) | omega))
    refine ⟨_, ⟨rfl, hB.at rfl⟩, cond_d (fun h => by (try dsimp only at *); omega) fun _ => ⟨_, ⟨rfl, hB.at rfl⟩, ⟨⟨_, n, n⟩, ⟨rfl, h.hd.at rfl⟩, cond_d (fun h => by (try dsimp only at *); omega) fun _ => ⟨_, ⟨rfl, hB.at rfl⟩, cond_n (fun hk => ⟨_, ⟨rfl, hB.at rfl⟩, cond_n (fun hk2 => by (try dsimp only at *); omega) fun _ => k6⟩) fun _ => k6⟩⟩⟩⟩
  · intro e0 w19 k19 w20 hD
    have k20 := k19.then0 hD.kp
    (replace h := h.keep (k20) (by first | (simp; done) | (simp; omega) | omega); replace hB := hB.keep (k20) (by first | (simp; done) | (simp; omega) | omega); replace hB3 := hB3.keep (k20) (by first | (simp; done) | (simp; omega) | omega))
    have s20 := k20.size
    refine ⟨⟨_, n, n⟩, ⟨rfl, h.hd.at rfl⟩, _, ⟨rfl, hB.at rfl⟩, t, ⟨rfl, hB.rd0⟩, ⟨h0, h1⟩, ?_⟩
    dsimp only [withSome]
    rw [add_blk, Nat.zero_add]
    have hr : t.Robot.toNat < n := by (try dsimp only at *); omega
    have hrr : ((t.Robot.toNat : Nat) : Int) = t.Robot := by (try dsimp only at *); omega
    refine ⟨⟨rfl, h.can hr _ rfl⟩, fun w26 e26 => ?_⟩
    obtain ⟨h, k26, s26⟩ := h.row (w1 := w26) hr (some (toT t, now)) (by rw [wc_some]; exact e26)
    rw [hrr] at h
    (replace hB := hB.keep (k26) (by first | (simp; done) | (simp; omega) | omega); replace hB3 := hB3.keep (k26) (by first | (simp; done) | (simp; omega) | omega))
    refine ⟨t, ⟨rfl, hB.rd0⟩, ⟨rfl, hB3.canN _ (Nat.le_refl _)⟩, fun w28 e28 => ?_⟩
    obtain ⟨hB3, k28, s28⟩ := hB3.putAll (by rfl) e28
    (replace h := h.keep (k28) (by first | (simp; done) | (simp; omega) | omega))
    refine ⟨t, ⟨rfl, hB3.rd0⟩, rfl, h, (((k4.then0 k20).up [bl]).then k26 (by simp)).then k28 (by simp; omega)⟩)
set_option maxHeartbeats 1000000 in
theorem rSend_n {b bl n : Nat} {re : Int} {m : Mp} (t : S.api_Tele) (now : Int) {w : World} (h : RefIs w b bl n re m) (h1 : t.Robot < 0 ∨ (n : Int) ≤ t.Robot ∨ (t.Kind ≠ 1 ∧ t.Kind ≠ 2)) :
    C.skepref17_Link_Send (some ⟨b, 0, none⟩) t now w (fun r w' => r = .tuple #[S.api_Tele.v (ofT Tl.zero), .int .i64 1] ∧ Kp [] w w') noP := skepref17_Link_Send_of (by
  unfold W.skepref17_Link_Send
  intro b1 w2 hA b3 w4 hA3
  have hB := hA.blk.keep hA3.kp (by simp)
  have hB3 := hA3.blk
  have s1 := hA.eq
  have s3 := hA3.eq
  have hlt := h.lts
  have k4 := hA.kp.then0 hA3.kp
  (replace h := h.keep (k4) (by first | (simp; done) | (simp; omega) | omega))
  refine ⟨fun w' => False, ?_, fun _ _ h => h.elim⟩
  intro w6 hD
  have k6 := hD.kp
  have s6 := k6.size
  (replace h := h.keep (k6) (by first | (simp; done) | (simp; omega) | omega); replace hB := hB.keep (k6) (by first | (simp; done) | (simp; omega) | omega); replace hB3 := hB3.keep (k6) (by first | (simp; done) | (simp; omega) | omega))
  have fin : (okVal true 19 (S.api_Tele.v (ofT Tl.zero)) = true ∧ canPut w6 ⟨b3, 0, none⟩ (S.api_Tele.v (ofT Tl.zero))) ∧ ∀ w8 : World, w8 = putAt w6 ⟨b3, 0, none⟩ (S.api_Tele.v (ofT Tl.zero)) →
      ∃ y9 : S.api_Tele, (okVal true 19 (S.api_Tele.v y9) = true ∧ Go.Eng.rd w8 ⟨b3, 0, none⟩ (S.api_Tele.v y9)) ∧ ((.tuple #[S.api_Tele.v y9, .int .i64 1] : Value) = .tuple #[S.api_Tele.v (ofT Tl.zero), .int .i64 1] ∧ Kp [] w w8) := by
    refine ⟨⟨rfl, hB3.canN _ (Nat.le_refl _)⟩, fun w28 e28 => ?_⟩
    obtain ⟨hB3, k28, s28⟩ := hB3.putAll (by rfl) e28
    exact ⟨ofT Tl.zero, ⟨rfl, hB3.rd0⟩, rfl, (k4.then0 k6).then k28 (by simp; omega)⟩
  refine ⟨_, ⟨rfl, hB.at rfl⟩, cond_d (fun h => fin) fun _ => ⟨_, ⟨rfl, hB.at rfl⟩, ⟨⟨_, n, n⟩, ⟨rfl, h.hd.at rfl⟩, cond_d (fun h => fin) fun _ => ⟨_, ⟨rfl, hB.at rfl⟩, cond_n (fun hk => ⟨_, ⟨rfl, hB.at rfl⟩, cond_n (fun hk2 => fin) fun _ => by (try dsimp only at *); omega⟩) fun _ => by (try dsimp only at *); omega⟩⟩⟩⟩)
theorem rGot_s {b bl n : Nat} {re : Int} {m : Mp} (r : Int) {w : World} (h : RefIs w b bl n re m) (hs : Sup n m) :
    C.skepref17_Link_Got (some ⟨b, 0, none⟩) r w (fun v w' => v = .bool (found m r).2 ∧ RefIs w' b bl n re (if (found m r).2 then upd m r none else m) ∧ Kp [bl] w w') noP := skepref17_Link_Got_of (by
  unfold W.skepref17_Link_Got
  have out : ¬ (0 ≤ r ∧ r < (n : Int)) → (.bool false : Value) = .bool (found m r).2 ∧ RefIs w b bl n re (if (found m r).2 then upd m r none else m) ∧ Kp [bl] w w := fun ho => by
    rw [hs.found ho]
    exact ⟨rfl, h, Kp.refl _ _⟩
  refine cond_d (fun h => out (by (try dsimp only at *); omega)) fun h0 => ⟨⟨_, n, n⟩, ⟨rfl, h.hd.at rfl⟩, cond_d (fun h => out (by (try dsimp only at *); omega)) fun h1 => ⟨⟨_, n, n⟩, ⟨rfl, h.hd.at rfl⟩, ⟨by (try dsimp only at *); omega, by (try dsimp only at *); omega⟩, ?_⟩⟩
  have hr : r.toNat < n := by (try dsimp only at *); omega
  have hrr : ((r.toNat : Nat) : Int) = r := by (try dsimp only at *); omega
  have hc := h.cell hr (j := 0) rfl
  rw [hrr] at hc
  dsimp only [withSome]
  rw [add_blk, Nat.zero_add]
  refine ⟨_, ⟨rfl, hc⟩, cond_i (fun hf => ?_) (fun hf => ?_)⟩
  · have hf' : (found m r).2 = false := by simpa using hf
    rw [hf']
    exact ⟨rfl, h, Kp.refl _ _⟩
  · have hf' : (found m r).2 = true := by simpa using hf
    rw [hf']
    refine ⟨⟨_, n, n⟩, ⟨rfl, h.hd.at rfl⟩, ⟨by (try dsimp only at *); omega, by (try dsimp only at *); omega⟩, ?_⟩
    dsimp only [withSome]
    rw [add_blk, Nat.zero_add]
    refine ⟨⟨rfl, h.can hr _ rfl⟩, fun w10 e10 => ?_⟩
    obtain ⟨h, k, s⟩ := h.row (w1 := w10) hr none (by rw [wc_none]; exact e10)
    rw [hrr] at h
    exact ⟨rfl, h, k⟩)
set_option maxHeartbeats 1000000 in
theorem rWaits_s {b bl n : Nat} {re : Int} {m : Mp} (r : Int) {w : World} (h : RefIs w b bl n re m) (hs : Sup n m) :
    C.skepref17_Link_Waits (some ⟨b, 0, none⟩) r w (fun v w' => v = .tuple #[S.api_Tele.v (ofT (found m r).1), .bool (found m r).2] ∧ Kp [] w w') noP := skepref17_Link_Waits_of (by
  unfold W.skepref17_Link_Waits
  intro b1 w2 hA
  have hB := hA.blk
  have s1 := hA.eq
  have hlt := h.lts
  have k2 := hA.kp
  (replace h := h.keep (k2) (by first | (simp; done) | (simp; omega) | omega))
  have fin : ¬ (0 ≤ r ∧ r < (n : Int)) → (okVal true 19 (S.api_Tele.v (ofT Tl.zero)) = true ∧ canPut w2 ⟨b1, 0, none⟩ (S.api_Tele.v (ofT Tl.zero))) ∧ ∀ w8 : World, w8 = putAt w2 ⟨b1, 0, none⟩ (S.api_Tele.v (ofT Tl.zero)) →
      ∃ y9 : S.api_Tele, (okVal true 19 (S.api_Tele.v y9) = true ∧ Go.Eng.rd w8 ⟨b1, 0, none⟩ (S.api_Tele.v y9)) ∧ ((.tuple #[S.api_Tele.v y9, .bool false] : Value) = .tuple #[S.api_Tele.v (ofT (found m r).1), .bool (found m r).2] ∧ Kp [] w w8) := fun ho => by
    refine ⟨⟨rfl, hB.canN _ (Nat.le_refl _)⟩, fun w28 e28 => ?_⟩
    obtain ⟨hB, k28, s28⟩ := hB.putAll (by rfl) e28
    refine ⟨ofT Tl.zero, ⟨rfl, hB.rd0⟩, by rw [hs.found ho], k2.then k28 (by simp; omega)⟩
  refine cond_d (fun h => fin (by (try dsimp only at *); omega)) fun h0 => ⟨⟨_, n, n⟩, ⟨rfl, h.hd.at rfl⟩, cond_d (fun h => fin (by (try dsimp only at *); omega)) fun h1 => ?_⟩
  intro w9 hD
  (replace h := h.keep (hD.kp) (by first | (simp; done) | (simp; omega) | omega); replace hB := hB.keep (hD.kp) (by first | (simp; done) | (simp; omega) | omega))
  have hr : r.toNat < n := by (try dsimp only at *); omega
  have hrr : ((r.toNat : Nat) : Int) = r := by (try dsimp only at *); omega
  have hc := h.cell hr (j := 0) rfl
  have ht := h.tele hr
  rw [hrr] at hc ht
  refine ⟨⟨_, n, n⟩, ⟨rfl, h.hd.at rfl⟩, ⟨by (try dsimp only at *); omega, by (try dsimp only at *); omega⟩, ?_⟩
  dsimp only [withSome]
  rw [add_blk, Nat.zero_add, add_blk]
  refine ⟨_, ⟨rfl, ht⟩, ⟨_, n, n⟩, ⟨rfl, h.hd.at rfl⟩, ⟨by (try dsimp only at *); omega, by (try dsimp only at *); omega⟩, ?_⟩
  dsimp only [withSome]
  rw [add_blk, Nat.zero_add]
  refine ⟨_, ⟨rfl, hc⟩, ⟨rfl, hB.canN _ (Nat.le_refl _)⟩, fun w18 e18 => ?_⟩
  obtain ⟨hB, k18, s18⟩ := hB.putAll (by rfl) e18
  (replace h := h.keep (k18) (by first | (simp; done) | (simp; omega) | omega))
  have hc := h.cell hr (j := 0) rfl
  rw [hrr] at hc
  exact ⟨hc, h.hd.at rfl, _, ⟨rfl, hB.rd0⟩, rfl, (k2.then0 hD.kp).then k18 (by simp; omega)⟩)
end Go.Proofs.Ytkafemfpfbcoaaa
