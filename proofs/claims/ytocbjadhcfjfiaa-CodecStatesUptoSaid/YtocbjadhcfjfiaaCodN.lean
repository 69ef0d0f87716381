/- Lists of numbers: written, read. Printed by gen_ints.py. No conditions. -/
import Derived.Test.YtocbjadhcfjfiaaCodF
import Derived.Test.YtocbjadhcfjfiaaV1
namespace Go.Proofs.Ytocbjadhcfjfiaa
open Go.RowKit Go.Eng
set_option linter.unusedVariables false
set_option linter.unusedSimpArgs false
theorem putN_1 (v : Int) : 1 ≤ (putN v).length := (putN_len v).1
abbrev pInts := pL num
abbrev bInts (L : List Int) := bL putN L
def nC (m : Int) : List Value := [.int .i64 m]
theorem nC_len (m : Int) : (nC m).length = 1 := rfl
theorem n_info : (Try.prog.info? 3).map (fun i => (i.zero, i.size, i.bytes)) = some (some (.int .i64 0), 1, 8) := by kernel_rfl
theorem n_leaf (L : List Int) : ∀ v ∈ L.flatMap nC, leafB v = true := by
  intro v hv
  rw [List.mem_flatMap] at hv
  obtain ⟨m, _, hv⟩ := hv
  simp only [nC, List.mem_cons, List.not_mem_nil, or_false] at hv
  subst hv
  rfl
theorem bInts_take {L : List Int} {i : Nat} (hi : i < L.length) : (L.take (i + 1)).flatMap putN = (L.take i).flatMap putN ++ putN L[i] := by
  have : L.take (i + 1) = L.take i ++ [L[i]] := by rw [List.take_add_one, List.getElem?_eq_getElem hi]; rfl
  rw [this, List.flatMap_append]
  simp
theorem takeN_le {L : List Int} {i : Nat} : ((L.take i).flatMap putN).length ≤ (L.flatMap putN).length := by
  have h : L.flatMap putN = (L.take i).flatMap putN ++ (L.drop i).flatMap putN := by rw [← List.flatMap_append, List.take_append_drop]
  rw [h, List.length_append]
  omega
set_option maxHeartbeats 1000000 in
theorem putsN_a {s ls : Sl} {L : List Int} (hok : ∀ x ∈ L, in64 x) {w : World} {B : Nat} {l : Bs} (ho : OwnB w B s l) (hB : B ≤ w.heap.size) (hl : l.length + (bInts L).length ≤ 1000000000) (hR : RdL w 1 (Value.int .i64) ls L) (hd : 0 < L.length → ∀ y ∈ blkOf ls, y < w.heap.size ∧ y ∉ blkOf s) :
    C.codec_puts_int s ls (.func (.func 39) #[] #[]) w (fun r w' => ∃ s' : Sl, r = slv s' ∧ OwnB w' B s' (l ++ bInts L) ∧ Kp (blkOf s) w w' ∧ ∀ y ∈ blkOf s', y ∈ blkOf s ∨ w.heap.size ≤ y) noP := codec_puts_int_of (by
  unfold W.codec_puts_int
  have hlen := hR.len
  have hfl := flat_len_le putN_1 L
  simp only [bInts, bL, List.length_append] at hl
  have a0 := Acc.start ho
  rw [← hlen]
  refine use (a0.apd (number_a s (L.length : Nat) ⟨by omega, by omega⟩) (by omega) (by omega)) ?_
  rintro _ w1 ⟨p2, rfl, o1, k1, b1⟩
  have a1 := a0.more o1 k1 b1
  refine ⟨p2, rfl, fun v i w' => ∃ j : Nat, i = j ∧ j ≤ L.length ∧ Acc w B s w' v (l ++ putN (L.length : Nat) ++ (L.take j).flatMap putN), fun _ i _ => L.length - i.toNat, ⟨p2, rfl, _, rfl, 0, rfl, by omega, by simpa using a1⟩, ?_⟩
  rintro e0 v _ w10 ⟨j, rfl, hj, ac⟩
  have ht := takeN_le (L := L) (i := j)
  refine cond_d (fun hc => ?_) (fun hc => ?_)
  · have hj2 : j < L.length := by omega
    have hne : ∀ y ∈ blkOf ls, y ∉ blkOf v := fun y hy => ac.ne (hd (by omega) y hy).1 (hd (by omega) y hy).2
    have hne0 : ∀ y ∈ blkOf ls, y ∉ blkOf s := fun y hy => (hd (by omega) y hy).2
    obtain ⟨A, hA, hr⟩ := (hR.keep ac.kp hne0).get hj2
    rw [hA, Int.toNat_natCast, show IntKind.i64.wrap ((j : Int) + 1) = ((j + 1 : Nat) : Int) by rw [IntKind.wrap_i64]; omega]
    have hf := bInts_take hj2
    have hf2 := takeN_le (L := L) (i := j + 1)
    rw [hf, List.length_append] at hf2
    refine ⟨⟨by omega, by omega⟩, L[j], ⟨rfl, hr⟩, ⟨by kernel_rfl, ?_⟩⟩
    refine use (ac.apd (number_a v L[j] (hok _ (List.getElem_mem hj2))) (by omega) (by simp only [List.length_append]; omega)) ?_
    rintro _ w17 ⟨p18, rfl, o17, k17, b17⟩
    have ac17 := ac.more o17 k17 b17
    rw [List.append_assoc, ← hf] at ac17
    exact ⟨p18, rfl, p18, rfl, _, rfl, ⟨j + 1, rfl, by omega, ac17⟩, by simp only [Int.toNat_natCast]; omega⟩
  · have : j = L.length := by omega
    subst this
    rw [List.take_length] at ac
    exact ⟨v, rfl, ac.fin (Kp.refl _ _) (by simp [bInts, bL])⟩)
set_option maxHeartbeats 1000000 in
theorem numbers_a {s ls : Sl} {L : List Int} (hok : ∀ x ∈ L, in64 x) {w : World} {B : Nat} {l : Bs} (ho : OwnB w B s l) (hB : B ≤ w.heap.size) (hl : l.length + (bInts L).length ≤ 1000000000) (hR : RdL w 1 (Value.int .i64) ls L) (hd : 0 < L.length → ∀ y ∈ blkOf ls, y < w.heap.size ∧ y ∉ blkOf s) :
    C.skepref05_numbers s ls w (fun r w' => ∃ s' : Sl, r = slv s' ∧ OwnB w' B s' (l ++ bInts L) ∧ Kp (blkOf s) w w' ∧ ∀ y ∈ blkOf s', y ∈ blkOf s ∨ w.heap.size ≤ y) noP := skepref05_numbers_of (by
  unfold W.skepref05_numbers
  have hlen := hR.len
  have hfl := flat_len_le putN_1 L
  simp only [bInts, bL, List.length_append] at hl
  have a0 := Acc.start ho
  rw [← hlen]
  refine use (a0.apd (rnum_a s (L.length : Nat) ⟨by omega, by omega⟩) (by omega) (by omega)) ?_
  rintro _ w1 ⟨p2, rfl, o1, k1, b1⟩
  have a1 := a0.more o1 k1 b1
  refine ⟨p2, rfl, fun v i w' => ∃ j : Nat, i = j ∧ j ≤ L.length ∧ Acc w B s w' v (l ++ putN (L.length : Nat) ++ (L.take j).flatMap putN), fun _ i _ => L.length - i.toNat, ⟨p2, rfl, _, rfl, 0, rfl, by omega, by simpa using a1⟩, ?_⟩
  rintro e0 v _ w10 ⟨j, rfl, hj, ac⟩
  refine cond_d (fun hc => ?_) (fun hc => ?_)
  · have hj2 : j < L.length := by omega
    have hne0 : ∀ y ∈ blkOf ls, y ∉ blkOf s := fun y hy => (hd (by omega) y hy).2
    obtain ⟨A, hA, hr⟩ := (hR.keep ac.kp hne0).get hj2
    rw [hA, Int.toNat_natCast, show IntKind.i64.wrap ((j : Int) + 1) = ((j + 1 : Nat) : Int) by rw [IntKind.wrap_i64]; omega]
    have hf := bInts_take hj2
    have hf2 := takeN_le (L := L) (i := j + 1)
    rw [hf, List.length_append] at hf2
    refine ⟨⟨by omega, by omega⟩, L[j], ⟨rfl, hr⟩, use (ac.apd (rnum_a v L[j] (hok _ (List.getElem_mem hj2))) (by omega) (by simp only [List.length_append]; omega)) ?_⟩
    rintro _ w17 ⟨p18, rfl, o17, k17, b17⟩
    have ac17 := ac.more o17 k17 b17
    rw [List.append_assoc, ← hf] at ac17
    exact ⟨p18, rfl, p18, rfl, _, rfl, ⟨j + 1, rfl, by omega, ac17⟩, by simp only [Int.toNat_natCast]; omega⟩
  · have : j = L.length := by omega
    subst this
    rw [List.take_length] at ac
    exact ⟨v, rfl, ac.fin (Kp.refl _ _) (by simp [bInts, bL])⟩)
theorem n_flat : ∀ L : List Int, (L.flatMap nC).length = L.length * 1
  | [] => rfl
  | x :: L => by rw [List.flatMap_cons, List.length_append, nC_len, n_flat L, List.length_cons]; omega
theorem app_num {ty : TypeId} {w : World} {B b : Nat} {s : Sl} {L : List Int} {m : Int} {w1 : World} (ho : Go.Eng.Own w B 1 s (L.flatMap nC)) (hA : Alloc w b 3 (nC m) w1) (hB : B ≤ w.heap.size) (hb : L.length ≤ 1000000000) :
    ∃ q n c w2, (Builtin.append_ #[108, 108] ty #[.slice s.a s.len s.cap, .slice (some ⟨b, 0, none⟩) 1 1]).run Try.prog w1 = .ok (.slice q n c) w2 ∧ Go.Eng.Own w2 B 1 ⟨q, n, c⟩ ((L ++ [m]).flatMap nC) ∧ Kp (blkOf s) w w2 ∧ ∀ y ∈ blkOf ⟨q, n, c⟩, y ∈ blkOf s ∨ w.heap.size ≤ y := by
  have h1 := ho.len
  rw [n_flat] at h1
  have s1 := hA.eq
  have hl : s.len = L.length := by omega
  obtain ⟨q, n, c, w2, hrun, hn, ho1, k1, hq⟩ := app_any (ty := ty) Try.underlying108 n_info rfl (by decide) (ho.keep0 hA.kp) (show Rds w1 1 ⟨some ⟨b, 0, none⟩, 1, 1⟩ (nC m) from ⟨rfl, fun _ => ⟨_, rfl, hA.blk.has 0 _ (fun i u hi => by rw [Nat.zero_add]; exact hi)⟩⟩) (fun u hu => n_leaf [m] u (by simpa using hu)) (by omega) (by dsimp only; omega) (by dsimp only; omega)
  have e : L.flatMap nC ++ nC m = (L ++ [m]).flatMap nC := by simp
  rw [e] at ho1
  refine ⟨q, n, c, w2, hrun, ho1, (hA.kp.up _).then k1 (fun y hy => .inl hy), fun y hy => ?_⟩
  rcases hq with e | ⟨hf, _⟩
  · left; unfold blkOf at hy ⊢; rw [e] at hy; exact hy
  · exact .inr (by have := hf y hy; omega)
set_option maxHeartbeats 2000000 in
theorem listN_p (r : Nat) {w : World} {s : Sl} {l : Bs} {k : Nat} (h : RdR w r s l k) (hl : l.length ≤ 100000000) :
    C.codec_list_int (PK r) (.func (.func 42) #[.pointer (PK r)] #[]) w (fun v w' => ∃ (s' : Sl) (L : List Int) (k' : Nat), v = slv s' ∧ pInts (l.drop k) = some (L, l.drop k') ∧ Go.Eng.Own w' w.heap.size 1 s' (L.flatMap nC) ∧ RdR w' r s l k' ∧ Kp [r] w w') (fun c w' => pInts (l.drop k) = none ∧ c = noneE ∧ Kp [r] w w') := codec_list_int_of (by
  unfold W.codec_list_int
  refine use2 (reader_number_p r w s l k h) ?_ (fun c w' ⟨h1, h2, h3⟩ => ⟨by simp [pInts, pL, h1], h2, h3⟩)
  rintro _ w1 ⟨n, k1, e1, rfl, h1, m1⟩
  have hle1 := h1.le
  have hsz := h1.d.bsize
  have hdl : (l.drop k1).length = l.length - k1 := List.length_drop
  refine ⟨n, rfl, fun w' => (0 ≤ n ∧ n ≤ ((l.length - k1 : Nat) : Int)) ∧ Kp [] w1 w', fun w5 hD => ?_, ?_⟩
  · have h5 := h1.keep0 hD.kp
    refine cond_d (fun hc => ⟨?_, rfl, m1.then0 hD.kp⟩) (fun hc => ⟨s, ⟨rfl, h5.b.at rfl⟩, _, ⟨rfl, h5.b.at rfl⟩, ?_⟩)
    · simp only [pInts, pL, e1, Option.bind_some]
      rw [if_pos (.inl hc)]
    have ew : IntKind.i64.wrap ((s.len : Int) - (k1 : Int)) = ((l.length - k1 : Nat) : Int) := by rw [IntKind.wrap_i64]; omega
    rw [ew]
    refine cond_d (fun hc2 => ⟨?_, rfl, m1.then0 hD.kp⟩) (fun hc2 => ⟨⟨by omega, by omega⟩, hD.kp⟩)
    simp only [pInts, pL, e1, Option.bind_some]
    rw [if_pos (.inr (by rw [hdl]; exact hc2))]
  rintro e0 w10 ⟨⟨hn0, hn1⟩, k10⟩
  obtain ⟨N, rfl⟩ : ∃ N : Nat, n = N := ⟨n.toNat, by omega⟩
  have hp : pInts (l.drop k) = rep num N (l.drop k1) := by
    simp only [pInts, pL, e1, Option.bind_some]
    rw [if_neg (by rw [hdl]; omega), Int.toNat_natCast]
  rw [hp]
  refine ⟨fun v i w' => ∃ (j : Nat) (L : List Int) (k2 : Nat), i = j ∧ j ≤ N ∧ L.length = j ∧ Go.Eng.Own w' w.heap.size 1 v (L.flatMap nC) ∧ RdR w' r s l k2 ∧ Kp [r] w w' ∧ rep num N (l.drop k1) = (rep num (N - j) (l.drop k2)).map (fun q => (L ++ q.1, q.2)), fun _ i _ => N - i.toNat, ⟨⟨none, 0, 0⟩, rfl, _, rfl, 0, [], k1, rfl, by omega, rfl, Go.Eng.Own.nil _ _ _, h1.keep0 k10, m1.then0 k10, by simp⟩, ?_⟩
  rintro e2 v _ w17 ⟨j, L, k2, rfl, hj, hLj, ho, h17, k17, hrep⟩
  refine cond_d (fun hc => ?_) (fun hc => ?_)
  · have hj2 : j < N := by omega
    rw [show IntKind.i64.wrap ((j : Int) + 1) = ((j + 1 : Nat) : Int) by rw [IntKind.wrap_i64]; omega]
    refine ⟨by kernel_rfl, use2 (reader_number_p r w17 s l k2 h17) ?_ (fun c w' ⟨g1, g2, g3⟩ => ⟨rep_bad hj2 hrep g1, g2, k17.then g3 (by simp)⟩)⟩
    rintro _ w18 ⟨x, k3, ex, rfl, h18, m18⟩
    have hlo := ho.lo
    have hr := h.b.lt
    have ho18 := ho.keep m18 (fun y hy => by have := hlo y hy; simp; omega)
    have s17 := k17.size
    have s18 := m18.size
    refine ⟨x, rfl, fun b21 w22 hA => ?_⟩
    obtain ⟨q, n, c, w26, hrun, ho26, k26, hq⟩ := app_num (ty := 108) ho18 (m := x) hA (by omega) (by omega)
    exact ⟨q, n, c, w26, hrun, ⟨q, n, c⟩, rfl, _, rfl, ⟨j + 1, L ++ [x], k3, rfl, by omega, by simp [hLj], ho26, h.fresh h18 k26 (fun y hy => (hlo y hy).1), (k17.then m18 (by simp)).then k26 (fun y hy => .inr (hlo y hy).1), rep_step hj2 hrep ex⟩, by simp only [Int.toNat_natCast]; omega⟩
  · have : j = N := by omega
    subst this
    rw [Nat.sub_self, rep] at hrep
    exact ⟨v, L, k2, rfl, by rw [hrep]; simp, ho, h17, k17⟩)
set_option maxHeartbeats 2000000 in
theorem R_numbers_p (r : Nat) {w : World} {s : Sl} {l : Bs} {st : Option Nat} (h : RsR w r s l st) (hl : l.length ≤ 100000000) :
    C.skepref05_R_numbers (PK r) w (fun v w' => ∃ (s' : Sl) (L : List Int) (st' : Option Nat), v = slv s' ∧ Res pInts l st L st' ∧ Go.Eng.Own w' w.heap.size 1 s' (L.flatMap nC) ∧ RsR w' r s l st' ∧ Kp [r] w w') noP := skepref05_R_numbers_of (by
  unfold W.skepref05_R_numbers
  refine use (R_Count_p r h) ?_
  rintro _ w1 ⟨n, t1, rfl, e1, hz, h1, m1⟩
  refine ⟨n, rfl, ?_⟩
  have hr := h.lt
  rcases e1 with ⟨a, b, rfl, rfl, e1⟩ | ⟨rfl, e1⟩
  · have hN : 0 ≤ n ∧ n ≤ ((l.drop b).length : Int) := by
      unfold pCnt at e1
      rw [Option.bind_eq_some_iff] at e1
      obtain ⟨q, g1, g2⟩ := e1
      split at g2
      · cases g2
      · injection g2 with g2
        subst g2
        dsimp only at *
        omega
    have hdl : (l.drop b).length = l.length - b := List.length_drop
    obtain ⟨N, rfl⟩ : ∃ N : Nat, n = N := ⟨n.toNat, by omega⟩
    have hp : pInts (l.drop a) = rep num N (l.drop b) := by
      rw [pInts, pL_cnt, e1, Option.bind_some, Int.toNat_natCast]
    refine ⟨fun v i w' => ∃ (j : Nat) (L : List Int) (t : Option Nat), i = j ∧ j ≤ N ∧ L.length = j ∧ Go.Eng.Own w' w.heap.size 1 v (L.flatMap nC) ∧ RsR w' r s l t ∧ Kp [r] w w' ∧ ((t = none ∧ rep num N (l.drop b) = none) ∨ ∃ k2, t = some k2 ∧ rep num N (l.drop b) = (rep num (N - j) (l.drop k2)).map (fun q => (L ++ q.1, q.2))), fun _ i _ => N - i.toNat, ⟨⟨none, 0, 0⟩, rfl, _, rfl, 0, [], some b, rfl, by omega, rfl, Go.Eng.Own.nil _ _ _, h1, m1, .inr ⟨b, rfl, by simp⟩⟩, ?_⟩
    rintro e2 v _ w10 ⟨j, L, t, rfl, hj, hLj, ho, h10, k10, hrep⟩
    have fin0 : ((t = none ∧ rep num N (l.drop b) = none) ∨ j = N) → ∃ (s' : Sl) (L : List Int) (st' : Option Nat), slv v = slv s' ∧ Res pInts l (some a) L st' ∧ Go.Eng.Own w10 w.heap.size 1 s' (L.flatMap nC) ∧ RsR w10 r s l st' ∧ Kp [r] w w10 := fun hx => by
      refine ⟨v, L, t, rfl, ?_, ho, h10, k10⟩
      rcases hrep with ⟨rfl, g⟩ | ⟨k2, rfl, g⟩
      · exact .inr ⟨rfl, fun k hk => by injection hk with hk; subst hk; rw [hp, g]⟩
      · rcases hx with ⟨g2, _⟩ | rfl
        · cases g2
        · rw [Nat.sub_self, rep] at g
          exact .inl ⟨a, k2, rfl, rfl, by rw [hp, g]; simp⟩
    refine cond_d (fun hc => ?_) (fun hc => fin0 (.inr (by omega)))
    have hj2 : j < N := by omega
    rw [show IntKind.i64.wrap ((j : Int) + 1) = ((j + 1 : Nat) : Int) by rw [IntKind.wrap_i64]; omega]
    have h10' := h10
    obtain ⟨⟨at0, bad0, hB, hst⟩, _⟩ := h10
    refine ⟨bad0, ⟨rfl, hB.at rfl⟩, ?_⟩
    cases t with
    | none =>
      subst hst
      refine cond_f rfl (fin0 (.inl ⟨rfl, ?_⟩))
      rcases hrep with ⟨_, g⟩ | ⟨k2, g, _⟩
      · exact g
      · cases g
    | some k2 =>
      obtain ⟨rfl, rfl, hk2⟩ := hst
      have hrep2 : rep num N (l.drop b) = (rep num (N - j) (l.drop k2)).map (fun q => (L ++ q.1, q.2)) := by
        rcases hrep with ⟨g, _⟩ | ⟨k2', g, g2⟩
        · cases g
        · injection g with g; subst g; exact g2
      refine cond_t rfl (use (R_Number_p r w10 s l (some k2) h10') ?_)
      rintro _ w13 ⟨x, t3, rfl, ex, h13, m13⟩
      have hlo := ho.lo
      have s10 := k10.size
      have ho13 := ho.keep m13 (fun y hy => by have := hlo y hy; simp; omega)
      have s13 := m13.size
      refine ⟨x, rfl, fun b20 w21 hA20 => ?_⟩
      obtain ⟨q, n, c, w25, hrun, ho25, k25, hq⟩ := app_num (ty := 108) ho13 (m := x) hA20 (by omega) (by omega)
      refine ⟨q, n, c, w25, hrun, ⟨q, n, c⟩, rfl, _, rfl, ⟨j + 1, L ++ [x], t3, rfl, by omega, by simp [hLj], ho25, h.fresh h13 k25 (fun y hy => (hlo y hy).1), (k10.then m13 (by simp)).then k25 (fun y hy => .inr (hlo y hy).1), ?_⟩, by simp only [Int.toNat_natCast]; omega⟩
      rcases ex with ⟨c1, c2, g, rfl, ex⟩ | ⟨rfl, ex⟩
      · injection g with g
        subst g
        exact .inr ⟨c2, rfl, rep_step hj2 hrep2 ex⟩
      · exact .inl ⟨rfl, rep_bad hj2 hrep2 (ex k2 rfl)⟩
  · have := hz rfl
    subst this
    refine ⟨fun v i w' => i = 0 ∧ v = ⟨none, 0, 0⟩ ∧ w1 = w', fun _ _ _ => 0, ⟨⟨none, 0, 0⟩, rfl, _, rfl, rfl, rfl, rfl⟩, ?_⟩
    rintro e2 v _ _ ⟨rfl, rfl, rfl⟩
    refine cond_f rfl ⟨⟨none, 0, 0⟩, [], none, rfl, .inr ⟨rfl, fun k hk => ?_⟩, Go.Eng.Own.nil _ _ _, h1, m1⟩
    rw [pInts, pL_cnt, e1 k hk]
    rfl)
end Go.Proofs.Ytocbjadhcfjfiaa
