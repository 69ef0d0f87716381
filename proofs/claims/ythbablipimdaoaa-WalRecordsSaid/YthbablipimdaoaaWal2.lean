/- What the laws of the log share; the document's records. No conditions. -/
import Derived.Test.YthbablipimdaoaaWal1
import Derived.Test.YthbablipimdaoaaLs
namespace Go.Proofs.Ythbablipimdaoaa
open Go.RowKit Go.Eng
set_option linter.unusedVariables false
theorem wlk (k : Nat) (h : k ≤ 1000000000000) : IntKind.i64.wrap ((k : Int) + 1) = (k + 1 : Nat) := by rw [IntKind.wrap_i64]; omega
theorem sl_info : (Try.prog.info? 22).map (fun i => (i.zero, i.size, i.bytes)) = some (some (.slice none 0 0), 1, 24) := by kernel_rfl
theorem cf1_len (v : Int) (x : Sl) : (cf1 v x).length = 1 := rfl
theorem cf1_leaf (v : Int) (x : Sl) : ∀ u ∈ cf1 v x, leafB u = true := by simp [cf1, leafB]
theorem cf2_len (v : Int) (x : Sl) : (cf2 v x).length = 2 := rfl
theorem cf2_leaf (v : Int) (x : Sl) : ∀ u ∈ cf2 v x, leafB u = true := by simp [cf2, leafB]
theorem push1 {ty T : TypeId} {w w1 : World} {lo b1 : Nat} {El : Nat → Prop} {s : Sl} {L : List (Int × Bs)} (h : LS w lo 1 cf1 El s L) (hlo : lo ≤ w.heap.size) {x : Sl} {b : Bs} (hx : RdB w x b) (hxb : ∀ y ∈ blkOf x, El y ∧ y < w.heap.size ∧ y ∉ blkOf s) (hL : L.length ≤ 1000000000) (hA : Alloc w b1 T [slv x] w1) :
    ∃ q n c w2, (Builtin.append_ #[27, 27] ty #[.slice s.a s.len s.cap, .slice (some ⟨b1, 0, none⟩) 1 1]).run Try.prog w1 = .ok (.slice q n c) w2 ∧ n = s.len + 1 ∧ LS w2 lo 1 cf1 El ⟨q, n, c⟩ (L ++ [(0, b)]) ∧ Kp (blkOf s) w w2 ∧ ∀ y ∈ blkOf ⟨q, n, c⟩, y ∈ blkOf s ∨ w.heap.size ≤ y :=
  LS.push Try.underlying27 sl_info rfl (by decide) (by decide) cf1_len cf1_leaf h hlo 0 hx hxb hL hA
def tag (L : List Bs) : List (Int × Bs) := L.map fun b => (0, b)
theorem tag_len (L : List Bs) : (tag L).length = L.length := by simp [tag]
theorem tag_snd (L : List Bs) : (tag L).map (·.2) = L := by simp [tag, Function.comp_def]
theorem tag_app (a b : List Bs) : tag (a ++ b) = tag a ++ tag b := by simp [tag]
theorem LS.rlt {w : World} {lo : Nat} {El : Nat → Prop} {s : Sl} {L : List Bs} (h : LS w lo 1 cf1 El s (tag L)) : RL w s L := by
  have := h.rl
  rwa [tag_snd] at this
theorem lsame_s (a b : Sl) {A B : List Bs} {w : World} (ha : RL w a A) (hb : RL w b B) (hA : A.length ≤ 1000000000) : C.skeplaw04_same a b w (fun v w' => v = .bool (decide (A = B)) ∧ Kp [] w w') noP := skeplaw04_same_of (by
  unfold W.skeplaw04_same
  have h1 := ha.len
  have h2 := hb.len
  refine cond_n (fun h => ⟨by
    rw [decide_eq_false]
    intro e
    rw [e] at h1
    omega, Kp.refl _ _⟩) (fun h => ?_)
  refine ⟨fun v w' => ∃ k : Nat, v = k ∧ k ≤ A.length ∧ A.take k = B.take k ∧ Kp [] w w', fun v _ => A.length - v.toNat, ⟨_, rfl, 0, rfl, by omega, rfl, Kp.refl _ _⟩, fun e0 v w5 hI => ?_⟩
  obtain ⟨k, rfl, hk, ht, k5⟩ := hI
  refine cond_d (fun h3 w6 hD => ?_) (fun h3 => ?_)
  · have k6 := k5.then0 hD.kp
    obtain ⟨x, s, ex, hx, hs⟩ := (ha.keep0 k6).get (i := k) (by omega)
    obtain ⟨y, t, ey, hy, hbt⟩ := (hb.keep0 k6).get (i := k) (by omega)
    rw [ex, ey, Int.toNat_natCast]
    refine ⟨⟨by omega, h3⟩, s, ⟨rfl, hx⟩, str _, hs.str, ⟨by omega, by omega⟩, t, ⟨rfl, hy⟩, str _, hbt.str, ?_⟩
    rw [strEq_str, wlk k (by omega)]
    by_cases e : A[k]'(by omega) = B[k]'(by omega)
    · refine cond_f (by simp [e]) ⟨_, rfl, ⟨k + 1, rfl, by omega, ?_, k6⟩, by simp only [Int.toNat_natCast]; omega⟩
      rw [List.take_add_one, List.take_add_one, ht, List.getElem?_eq_getElem (by omega), List.getElem?_eq_getElem (by omega), e]
    · refine cond_t (by simp [e]) ⟨?_, k6⟩
      rw [decide_eq_false]
      intro he
      subst he
      exact e rfl
  · have e1 : k = A.length := by omega
    subst e1
    rw [List.take_length, List.take_of_length_le (by omega)] at ht
    exact ⟨by rw [ht]; simp, k5⟩)
def sayL (L : List Bs) : List Bs := (L.take 40).filter fun b => decide (0 < b.length ∧ b.length < 3000)
theorem sayL_ok (L : List Bs) : ∀ s ∈ sayL L, 1 ≤ s.length ∧ s.length < 3000 := by
  intro s hs
  simp only [sayL, List.mem_filter, decide_eq_true_eq] at hs
  omega
theorem sayL_len (L : List Bs) : (sayL L).length ≤ 40 := by
  have := List.length_filter_le (fun b : Bs => decide (0 < b.length ∧ b.length < 3000)) (L.take 40)
  unfold sayL
  rw [List.length_take] at this
  omega
set_option maxHeartbeats 1000000 in
set_option maxRecDepth 20000 in
theorem say_sc (l : Sl) {L : List Bs} {w : World} (hl : RL w l L) : C.skeplaw04_say l w (fun v w' => ∃ q : Sl, v = .slice q.a q.len q.cap ∧ RL w' q (sayL L) ∧ Kp [] w w' ∧ q.len ≤ q.cap) noP := skeplaw04_say_of (by
  unfold W.skeplaw04_say
  have h1 := hl.len
  refine ⟨fun s v w' => ∃ k : Nat, v = k ∧ k ≤ L.length ∧ k ≤ 40 ∧ LS w' w.heap.size 1 cf1 (fun y => y < w.heap.size) s (tag ((L.take k).filter fun b => decide (0 < b.length ∧ b.length < 3000))) ∧ Kp [] w w', fun _ v _ => 40 - v.toNat,
    ⟨⟨none, 0, 0⟩, rfl, _, rfl, 0, rfl, by omega, by omega, LS.nil _ _ _ _ _, Kp.refl _ _⟩, fun e0 s v w7 hI => ?_⟩
  obtain ⟨k, rfl, hk, hk40, hS, k7⟩ := hI
  have hdone : ¬ ((k : Int) < l.len ∧ (k : Int) < 40) → ∃ q : Sl, (Value.slice s.a s.len s.cap) = .slice q.a q.len q.cap ∧ RL w7 q (sayL L) ∧ Kp [] w w7 ∧ q.len ≤ q.cap := fun h => by
    have e : L.take k = L.take 40 := by
      by_cases h40 : k = 40
      · rw [h40]
      · rw [List.take_of_length_le (by omega), List.take_of_length_le (by omega)]
    rw [e] at hS
    have hlc := hS
    obtain ⟨xs, ho, _, _⟩ := hlc.ex
    exact ⟨s, rfl, LS.rlt hS, k7, ho.lc⟩
  refine cond_d (fun h2 => cond_d (fun h3 => ?_) (fun h3 => hdone (by omega))) (fun h2 => hdone (by omega))
  clear hdone
  obtain ⟨a, x, ea, hx, hb⟩ := (hl.keep0 k7).get (i := k) (by omega)
  have hbl := hb.bsize
  rw [ea, wlk k (by omega)]
  simp only [Int.toNat_natCast]
  have hkL : k < L.length := by omega
  have htk : L.take (k + 1) = L.take k ++ [L[k]] := by rw [List.take_add_one, List.getElem?_eq_getElem hkL]; rfl
  have skip : ¬ (0 < L[k].length ∧ L[k].length < 3000) → (L.take (k + 1)).filter (fun b => decide (0 < b.length ∧ b.length < 3000)) = (L.take k).filter (fun b => decide (0 < b.length ∧ b.length < 3000)) := fun h => by
    rw [htk, List.filter_append]
    simp [h]
  have stay : ¬ (0 < L[k].length ∧ L[k].length < 3000) → ∃ u22 : Sl, (.slice s.a s.len s.cap : Value) = .slice u22.a u22.len u22.cap ∧ ∃ u23 : Int, (.int .i64 ((k + 1 : Nat) : Int) : Value) = .int .i64 u23 ∧ ((∃ k' : Nat, u23 = k' ∧ k' ≤ L.length ∧ k' ≤ 40 ∧ LS w7 w.heap.size 1 cf1 (fun y => y < w.heap.size) u22 (tag ((L.take k').filter fun b => decide (0 < b.length ∧ b.length < 3000))) ∧ Kp [] w w7) ∧ 40 - u23.toNat < 40 - ((k : Int)).toNat) := fun h =>
    ⟨s, rfl, _, rfl, ⟨k + 1, rfl, by omega, by omega, by rw [skip h]; exact hS, k7⟩, by simp only [Int.toNat_natCast]; omega⟩
  refine ⟨⟨by omega, h2⟩, x, ⟨rfl, hx⟩, ?_⟩
  refine cond_d (fun h4 => ?_) (fun h4 => stay (by omega))
  refine ⟨⟨by omega, h2⟩, x, ⟨rfl, hx⟩, ?_⟩
  refine cond_i (fun h5 => ?_) (fun h5 => stay (by have := of_decide_eq_false h5; omega))
  replace h5 := of_decide_eq_true h5
  refine ⟨⟨by omega, h2⟩, x, ⟨rfl, hx⟩, fun b14 w15 hA => ?_⟩
  clear stay
  have hlo := hS.lo
  have hlt := ((hl.get (i := k) hkL))
  obtain ⟨_, x0, ea0, hx0, hb0⟩ := hlt
  have hbl0 := hb0.bsize
  have e0 : x0 = x := by
    rw [ea] at ea0
    injection ea0 with ea0
    subst ea0
    have := cell_keep hx0 k7 (by simp)
    rw [hx] at this
    injection this with this
    injection this with t1 t2 t3
    cases x0; cases x; simp_all
  subst e0
  have hlt := hb0.ltB (by decide) (by omega)
  have hfl : ((L.take k).filter fun b => decide (0 < b.length ∧ b.length < 3000)).length ≤ 40 := by
    have := List.length_filter_le (fun b : Bs => decide (0 < b.length ∧ b.length < 3000)) (L.take k)
    rw [List.length_take] at this
    omega
  have s7 := k7.size
  obtain ⟨q, n, c, w19, hrun, hn, hS2, k19, hq⟩ := push1 (ty := 27) hS s7 hb (fun y hy => ⟨hlt y hy, by have := hlt y hy; omega, fun h => by have := hlo y h; have := hlt y hy; omega⟩) (by rw [tag_len]; omega) hA
  refine ⟨q, n, c, w19, hrun, ⟨q, n, c⟩, rfl, _, rfl, ⟨k + 1, rfl, by omega, by omega, ?_, k7.then k19 (fun y hy => .inr (hlo y hy).1)⟩, by simp only [Int.toNat_natCast]; omega⟩
  rw [htk, List.filter_append, tag_app]
  have : [L[k]].filter (fun b => decide (0 < b.length ∧ b.length < 3000)) = [L[k]] := by
    have h7 : 0 < L[k].length ∧ L[k].length < 3000 := by omega
    simp only [List.filter_cons, List.filter_nil, h7, and_self, decide_true, if_true]
  rw [this]
  exact hS2)
theorem say_s (l : Sl) {L : List Bs} {w : World} (hl : RL w l L) : C.skeplaw04_say l w (fun v w' => ∃ q : Sl, v = .slice q.a q.len q.cap ∧ RL w' q (sayL L) ∧ Kp [] w w') noP := by
  refine use (say_sc l hl) ?_
  rintro _ w' ⟨q, rfl, h1, h2, _⟩
  exact ⟨q, rfl, h1, h2⟩
set_option maxHeartbeats 1000000 in
theorem said_s (l : Sl) {lo : Nat} {El : Nat → Prop} {L : List (Int × Bs)} {w : World} (hl : LS w lo 2 cf2 El l L) (hL : L.length ≤ 1000000) : C.skeplaw04_said l w (fun v w' => ∃ q : Sl, v = .slice q.a q.len q.cap ∧ RL w' q (L.map (·.2)) ∧ Kp [] w w') noP := skeplaw04_said_of (by
  unfold W.skeplaw04_said
  have h1 := hl.len cf2_len (by decide)
  refine ⟨fun s v w' => ∃ k : Nat, v = k ∧ k ≤ L.length ∧ LS w' w.heap.size 1 cf1 (fun y => y < w.heap.size) s (tag ((L.take k).map (·.2))) ∧ Kp [] w w', fun _ v _ => L.length - v.toNat,
    ⟨⟨none, 0, 0⟩, rfl, _, rfl, 0, rfl, by omega, LS.nil _ _ _ _ _, Kp.refl _ _⟩, fun e0 s v w7 hI => ?_⟩
  obtain ⟨k, rfl, hk, hS, k7⟩ := hI
  refine cond_d (fun h2 => ?_) (fun h2 => ?_)
  · have hkL : k < L.length := by omega
    obtain ⟨a, x, ea, hx, hb, hlt⟩ := (hl.get cf2_len (by decide) hkL)
    have hc := cell_keep (hx 1 (slv x) rfl) k7 (by simp)
    rw [ea, wlk k (by omega), Int.toNat_natCast]
    have s7 := k7.size
    have hlo := hS.lo
    refine ⟨⟨by omega, h2⟩, x, ⟨rfl, hc⟩, fun b10 w11 hA => ?_⟩
    obtain ⟨q, n, c, w15, hrun, hn, hS2, k15, hq⟩ := push1 (ty := 27) hS s7 (hb.keep0 k7) (fun y hy => ⟨(hlt y hy).2.1, by have := (hlt y hy).2.1; omega, fun h => by have := hlo y h; have := (hlt y hy).2.1; omega⟩) (by rw [tag_len]; simp; omega) hA
    refine ⟨q, n, c, w15, hrun, ⟨q, n, c⟩, rfl, _, rfl, ⟨k + 1, rfl, by omega, ?_, k7.then k15 (fun y hy => .inr (hlo y hy).1)⟩, by simp only [Int.toNat_natCast]; omega⟩
    rw [List.take_add_one, List.getElem?_eq_getElem hkL, List.map_append, tag_app]
    exact hS2
  · have : k = L.length := by omega
    subst this
    rw [List.take_length] at hS
    exact ⟨s, rfl, LS.rlt hS, k7⟩)
set_option maxHeartbeats 1000000 in
theorem rRecord_s (p : Sl) {s : Bs} {w : World} (hp : RdB w p s) (hl : s.length ≤ 1000000) : C.skepref04_Record p w (fun v w' => ∃ q : Sl, v = .slice q.a q.len q.cap ∧ OwnB w' w.heap.size q (recB s) ∧ Kp [] w w') noP := skepref04_Record_of (by
  unfold W.skepref04_Record
  have hpl := hp.bsize
  have hw : IntKind.u32.wrap (p.len : Int) = (s.length : Nat) := by rw [IntKind.wrap_u32]; omega
  rw [hw]
  refine use (rFour_s s.length (by omega) w) ?_
  rintro _ w1 ⟨q2, rfl, ho2, k1⟩
  refine ⟨q2, rfl, ?_⟩
  have s1 := k1.size
  have h2lo := ho2.lo
  obtain ⟨q4, n5, c6, w7, hrun7, hn7, ho4, k7, _⟩ := app_bytes (l := []) (s := ⟨none, 0, 0⟩) (ty := 22) Try.underlying22 byte_inf (Go.Eng.Own.nil w1 w1.heap.size 1) ho2.rds (Nat.le_refl _) (by simp [fourB_len])
  rw [List.nil_append] at ho4
  have k17 : Kp [] w1 w7 := k7
  have s7 := k7.size
  refine ⟨q4, n5, c6, w7, hrun7, ?_⟩
  obtain ⟨q8, n9, c10, w11, hrun11, hn11, ho8, k11, _⟩ := app_bytes (ty := 22) Try.underlying22 byte_inf ho4 ((hp.keep0 k1).keep0 k17) (by omega) (by rw [fourB_len]; omega)
  have k111 : Kp [] w1 w11 := k17.then k11 (fun y hy => .inr (ho4.lo y hy).1)
  have s11 := k111.size
  refine ⟨q8, n9, c10, w11, hrun11, ?_⟩
  refine use (rOf_s _ ho8.rds (by rw [List.length_append, fourB_len]; omega)) ?_
  rintro _ _ ⟨rfl, rfl⟩
  refine ⟨_, rfl, ?_⟩
  obtain ⟨q15, n16, c17, w18, hrun18, hn18, ho15, k18, _⟩ := app_bytes (l := []) (s := ⟨none, 0, 0⟩) (ty := 22) Try.underlying22 byte_inf (Go.Eng.Own.nil w11 w11.heap.size 1) (ho2.keep0 k111).rds (Nat.le_refl _) (by simp [fourB_len])
  rw [List.nil_append] at ho15
  have k1118 : Kp [] w11 w18 := k18
  have s18 := k18.size
  refine ⟨q15, n16, c17, w18, hrun18, ?_⟩
  refine use (rFour_s _ (sumB_lt _) w18) ?_
  rintro _ w19 ⟨q20, rfl, ho20, k19⟩
  refine ⟨q20, rfl, ?_⟩
  have s19 := k19.size
  obtain ⟨q22, n23, c24, w25, hrun25, hn25, ho22, k25, _⟩ := app_bytes (ty := 22) Try.underlying22 byte_inf (ho15.keep0 k19) ho20.rds (by omega) (by simp [fourB_len])
  refine ⟨q22, n23, c24, w25, hrun25, ?_⟩
  have k1125 : Kp [] w11 w25 := (k1118.then0 k19).then k25 (fun y hy => .inr (ho15.lo y hy).1)
  have kw25 := (k1.then0 k111).then0 k1125
  have s25 := k1125.size
  obtain ⟨q26, n27, c28, w29, hrun29, hn29, ho26, k29, _⟩ := app_bytes (ty := 22) Try.underlying22 byte_inf ho22 (hp.keep0 kw25) (by omega) (by rw [List.length_append, fourB_len, fourB_len]; omega)
  refine ⟨q26, n27, c28, w29, hrun29, ⟨q26, n27, c28⟩, rfl, ?_, kw25.then k29 (fun y hy => .inr (by have := (ho22.lo y hy).1; omega))⟩
  have e : recB s = fourB s.length ++ fourB (sumB (fourB s.length ++ s)) ++ s := by unfold recB; rw [List.append_assoc]
  rw [e]
  exact ho26.mono (by omega))
end Go.Proofs.Ythbablipimdaoaa
