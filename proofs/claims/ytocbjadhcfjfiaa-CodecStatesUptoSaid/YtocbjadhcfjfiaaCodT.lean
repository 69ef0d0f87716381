/- Orders, jobs and their lists, written by the code. Printed by gen_puts.py. No conditions. -/
import Derived.Test.YtocbjadhcfjfiaaCodR
namespace Go.Proofs.Ytocbjadhcfjfiaa
open Go.RowKit Go.Eng
set_option linter.unusedVariables false
set_option linter.unusedSimpArgs false
set_option maxHeartbeats 1000000 in
theorem order_a (s : Sl) (m : S.api_Order) (hm : okOrder m) : Apd (fun w K KP => C.codec_PutState_4 s m w K KP) s (bOrder m) := fun w B l ho hB hl => codec_PutState_4_of (by
  unfold W.codec_PutState_4
  obtain ⟨⟨⟨m1, m2⟩, m3⟩, m4⟩ := hm
  simp only [bOrder, List.length_append] at hl
  intro b1 w2 hA w3 hD
  have s2 := hA.eq
  have s3 := hD.sz
  have kA := hA.kp.then0 hD.kp
  have n1 : b1 ∉ blkOf s := fun h => by have := ho.lo _ h; omega
  have l3 : b1 < w3.heap.size := by omega
  have hB1 : Blk w3 b1 [.int .i64 m.ID, .int .i64 m.Bin, .int .i64 m.Port, .int .i64 m.State] := hA.blk.keep hD.kp (by simp)
  have a0 := Acc.start (ho.keep0 kA)
  refine ⟨_, ⟨rfl, hB1.at rfl⟩, _, ⟨rfl, hB1.at rfl⟩, _, ⟨rfl, hB1.at rfl⟩, _, ⟨rfl, hB1.at rfl⟩, use (a0.apd (number_a s m.ID m1) (by omega) (by omega)) ?_⟩
  rintro _ w10 ⟨p1, rfl, o1, k1, b1'⟩
  have a1 := a0.more o1 k1 b1'
  replace hB1 := hB1.keep k1 (n1)
  refine ⟨p1, rfl, hB1.at rfl, hB1.at rfl, hB1.at rfl, use (a1.apd (number_a p1 m.Bin m2) (by omega) (by simp only [List.length_append]; omega)) ?_⟩
  rintro _ w20 ⟨p2, rfl, o2, k2, b2'⟩
  have a2 := a1.more o2 k2 b2'
  replace hB1 := hB1.keep k2 ((a1.ne l3 n1))
  refine ⟨p2, rfl, hB1.at rfl, hB1.at rfl, use (a2.apd (number_a p2 m.Port m3) (by omega) (by simp only [List.length_append]; omega)) ?_⟩
  rintro _ w30 ⟨p3, rfl, o3, k3, b3'⟩
  have a3 := a2.more o3 k3 b3'
  replace hB1 := hB1.keep k3 ((a2.ne l3 n1))
  refine ⟨p3, rfl, hB1.at rfl, use (a3.apd (number_a p3 m.State m4) (by omega) (by simp only [List.length_append]; omega)) ?_⟩
  rintro _ w40 ⟨p4, rfl, o4, k4, b4'⟩
  have a4 := a3.more o4 k4 b4'
  replace hB1 := hB1.keep k4 ((a3.ne l3 n1))
  exact ⟨p4, rfl, p4, rfl, a4.fin kA (by simp [bOrder])⟩)
set_option maxHeartbeats 1000000 in
theorem job_a (s : Sl) (m : S.api_Job) (hm : okJob m) : Apd (fun w K KP => C.codec_PutState_5 s m w K KP) s (bJob m) := fun w B l ho hB hl => codec_PutState_5_of (by
  unfold W.codec_PutState_5
  obtain ⟨⟨⟨⟨⟨⟨m1, m2⟩, m3⟩, m4⟩, m5⟩, m6⟩, m7⟩ := hm
  simp only [bJob, List.length_append] at hl
  intro b1 w2 hA w3 hD
  have s2 := hA.eq
  have s3 := hD.sz
  have kA := hA.kp.then0 hD.kp
  have n1 : b1 ∉ blkOf s := fun h => by have := ho.lo _ h; omega
  have l3 : b1 < w3.heap.size := by omega
  have hB1 : Blk w3 b1 [.int .i64 m.ID, .int .i64 m.Kind, .int .i64 m.Order, .int .i64 m.Bin, .int .i64 m.From.X, .int .i64 m.From.Y, .int .i64 m.To.X, .int .i64 m.To.Y, .int .i64 m.Robot] := hA.blk.keep hD.kp (by simp)
  have a0 := Acc.start (ho.keep0 kA)
  refine ⟨_, ⟨rfl, hB1.at rfl⟩, _, ⟨rfl, hB1.at rfl⟩, _, ⟨rfl, hB1.at rfl⟩, _, ⟨rfl, hB1.at rfl⟩, use (a0.apd (number_a s m.ID m1) (by omega) (by omega)) ?_⟩
  rintro _ w10 ⟨p1, rfl, o1, k1, b1'⟩
  have a1 := a0.more o1 k1 b1'
  replace hB1 := hB1.keep k1 (n1)
  refine ⟨p1, rfl, hB1.at rfl, hB1.at rfl, hB1.at rfl, use (a1.apd (number_a p1 m.Kind m2) (by omega) (by simp only [List.length_append]; omega)) ?_⟩
  rintro _ w20 ⟨p2, rfl, o2, k2, b2'⟩
  have a2 := a1.more o2 k2 b2'
  replace hB1 := hB1.keep k2 ((a1.ne l3 n1))
  refine ⟨p2, rfl, hB1.at rfl, hB1.at rfl, use (a2.apd (number_a p2 m.Order m3) (by omega) (by simp only [List.length_append]; omega)) ?_⟩
  rintro _ w30 ⟨p3, rfl, o3, k3, b3'⟩
  have a3 := a2.more o3 k3 b3'
  replace hB1 := hB1.keep k3 ((a2.ne l3 n1))
  refine ⟨p3, rfl, hB1.at rfl, use (a3.apd (number_a p3 m.Bin m4) (by omega) (by simp only [List.length_append]; omega)) ?_⟩
  rintro _ w40 ⟨p4, rfl, o4, k4, b4'⟩
  have a4 := a3.more o4 k4 b4'
  replace hB1 := hB1.keep k4 ((a3.ne l3 n1))
  refine ⟨p4, rfl, fun w45 hD45 => ?_⟩
  replace a4 := a4.keep0 hD45.kp
  replace hB1 := hB1.keep hD45.kp (by simp)
  refine ⟨m.From, ⟨rfl, hB1.rd 4 #[.int .i64 m.From.X, .int .i64 m.From.Y] (seg rfl)⟩, m.To, ⟨rfl, hB1.rd 6 #[.int .i64 m.To.X, .int .i64 m.To.Y] (seg rfl)⟩, _, ⟨rfl, hB1.at rfl⟩, use (a4.apd (cell_a p4 m.From m5) (by omega) (by simp only [List.length_append]; omega)) ?_⟩
  rintro _ w50 ⟨p5, rfl, o5, k5, b5'⟩
  have a5 := a4.more o5 k5 b5'
  replace hB1 := hB1.keep k5 (a4.ne l3 n1)
  refine ⟨p5, rfl, hB1.at rfl, hB1.rd 6 #[.int .i64 m.To.X, .int .i64 m.To.Y] (seg rfl), use (a5.apd (cell_a p5 m.To m6) (by omega) (by simp only [List.length_append]; omega)) ?_⟩
  rintro _ w60 ⟨p6, rfl, o6, k6, b6'⟩
  have a6 := a5.more o6 k6 b6'
  replace hB1 := hB1.keep k6 (a5.ne l3 n1)
  refine ⟨p6, rfl, hB1.at rfl, use (a6.apd (number_a p6 m.Robot m7) (by omega) (by simp only [List.length_append]; omega)) ?_⟩
  rintro _ w70 ⟨p7, rfl, o7, k7, b7'⟩
  exact ⟨p7, rfl, p7, rfl, (a6.more o7 k7 b7').fin kA (by simp [bJob])⟩)
theorem bOrders_take {L : List S.api_Order} {i : Nat} (hi : i < L.length) : (L.take (i + 1)).flatMap bOrder = (L.take i).flatMap bOrder ++ bOrder L[i] := by
  have : L.take (i + 1) = L.take i ++ [L[i]] := by rw [List.take_add_one, List.getElem?_eq_getElem hi]; rfl
  rw [this, List.flatMap_append]
  simp
theorem takeOrder_le {L : List S.api_Order} {i : Nat} : ((L.take i).flatMap bOrder).length ≤ (L.flatMap bOrder).length := by
  have h : L.flatMap bOrder = (L.take i).flatMap bOrder ++ (L.drop i).flatMap bOrder := by rw [← List.flatMap_append, List.take_append_drop]
  rw [h, List.length_append]
  omega
set_option maxHeartbeats 1000000 in
theorem putsOrder_a {s ls : Sl} {L : List S.api_Order} (hok : ∀ x ∈ L, okOrder x) {w : World} {B : Nat} {l : Bs} (ho : OwnB w B s l) (hB : B ≤ w.heap.size) (hl : l.length + (bL bOrder L).length ≤ 1000000000) (hR : RdL w 4 S.api_Order.v ls L) (hd : 0 < L.length → ∀ y ∈ blkOf ls, y < w.heap.size ∧ y ∉ blkOf s) :
    C.codec_puts_api_Order s ls (.func (.func 72) #[] #[]) w (fun r w' => ∃ s' : Sl, r = slv s' ∧ OwnB w' B s' (l ++ bL bOrder L) ∧ Kp (blkOf s) w w' ∧ ∀ y ∈ blkOf s', y ∈ blkOf s ∨ w.heap.size ≤ y) noP := codec_puts_api_Order_of (by
  unfold W.codec_puts_api_Order
  have hlen := hR.len
  have hfl := flat_len_le bOrder_1 L
  simp only [bL, List.length_append] at hl
  have a0 := Acc.start ho
  rw [← hlen]
  refine use (a0.apd (number_a s (L.length : Nat) ⟨by omega, by omega⟩) (by omega) (by omega)) ?_
  rintro _ w1 ⟨p2, rfl, o1, k1, b1⟩
  have a1 := a0.more o1 k1 b1
  refine ⟨p2, rfl, fun v i w' => ∃ j : Nat, i = j ∧ j ≤ L.length ∧ Acc w B s w' v (l ++ putN (L.length : Nat) ++ (L.take j).flatMap bOrder), fun _ i _ => L.length - i.toNat, ⟨p2, rfl, _, rfl, 0, rfl, by omega, by simpa using a1⟩, ?_⟩
  rintro e0 v _ w10 ⟨j, rfl, hj, ac⟩
  have ht := takeOrder_le (L := L) (i := j)
  refine cond_d (fun hc => ?_) (fun hc => ?_)
  · have hj2 : j < L.length := by omega
    have hne : ∀ y ∈ blkOf ls, y ∉ blkOf v := fun y hy => ac.ne (hd (by omega) y hy).1 (hd (by omega) y hy).2
    have hne0 : ∀ y ∈ blkOf ls, y ∉ blkOf s := fun y hy => (hd (by omega) y hy).2
    obtain ⟨A, hA, hr⟩ := (hR.keep ac.kp hne0).get hj2
    rw [hA, Int.toNat_natCast, show IntKind.i64.wrap ((j : Int) + 1) = ((j + 1 : Nat) : Int) by rw [IntKind.wrap_i64]; omega]
    refine ⟨⟨by omega, by omega⟩, L[j], ⟨rfl, hr⟩, fun b13 w14 hA13 => ⟨⟨rfl, hA13.blk.canN _ (Nat.le_refl _)⟩, fun w15 e15 => ?_⟩⟩
    obtain ⟨g1, g2, _⟩ := hA13.blk.putAll (vs := (oC L[j]).toArray) rfl e15
    have s14 := hA13.eq
    have k15 : Kp [] w10 w15 := hA13.kp.then g2 (by simp; omega)
    have ac15 := ac.keep0 k15
    have hf := bOrders_take hj2
    have hf2 := takeOrder_le (L := L) (i := j + 1)
    rw [hf, List.length_append] at hf2
    refine ⟨L[j], ⟨rfl, g1.rd0⟩, ⟨by kernel_rfl, ?_⟩⟩
    refine use (ac15.apd (order_a v L[j] (hok _ (List.getElem_mem hj2))) (by omega) (by simp only [List.length_append]; omega)) ?_
    rintro _ w17 ⟨p18, rfl, o17, k17, b17⟩
    have ac17 := ac15.more o17 k17 b17
    rw [List.append_assoc, ← hf] at ac17
    exact ⟨p18, rfl, p18, rfl, _, rfl, ⟨j + 1, rfl, by omega, ac17⟩, by simp only [Int.toNat_natCast]; omega⟩
  · have : j = L.length := by omega
    subst this
    rw [List.take_length] at ac
    exact ⟨v, rfl, ac.fin (Kp.refl _ _) (by simp [bL])⟩)
theorem bJobs_take {L : List S.api_Job} {i : Nat} (hi : i < L.length) : (L.take (i + 1)).flatMap bJob = (L.take i).flatMap bJob ++ bJob L[i] := by
  have : L.take (i + 1) = L.take i ++ [L[i]] := by rw [List.take_add_one, List.getElem?_eq_getElem hi]; rfl
  rw [this, List.flatMap_append]
  simp
theorem takeJob_le {L : List S.api_Job} {i : Nat} : ((L.take i).flatMap bJob).length ≤ (L.flatMap bJob).length := by
  have h : L.flatMap bJob = (L.take i).flatMap bJob ++ (L.drop i).flatMap bJob := by rw [← List.flatMap_append, List.take_append_drop]
  rw [h, List.length_append]
  omega
set_option maxHeartbeats 1000000 in
theorem putsJob_a {s ls : Sl} {L : List S.api_Job} (hok : ∀ x ∈ L, okJob x) {w : World} {B : Nat} {l : Bs} (ho : OwnB w B s l) (hB : B ≤ w.heap.size) (hl : l.length + (bL bJob L).length ≤ 1000000000) (hR : RdL w 9 S.api_Job.v ls L) (hd : 0 < L.length → ∀ y ∈ blkOf ls, y < w.heap.size ∧ y ∉ blkOf s) :
    C.codec_puts_api_Job s ls (.func (.func 74) #[] #[]) w (fun r w' => ∃ s' : Sl, r = slv s' ∧ OwnB w' B s' (l ++ bL bJob L) ∧ Kp (blkOf s) w w' ∧ ∀ y ∈ blkOf s', y ∈ blkOf s ∨ w.heap.size ≤ y) noP := codec_puts_api_Job_of (by
  unfold W.codec_puts_api_Job
  have hlen := hR.len
  have hfl := flat_len_le bJob_1 L
  simp only [bL, List.length_append] at hl
  have a0 := Acc.start ho
  rw [← hlen]
  refine use (a0.apd (number_a s (L.length : Nat) ⟨by omega, by omega⟩) (by omega) (by omega)) ?_
  rintro _ w1 ⟨p2, rfl, o1, k1, b1⟩
  have a1 := a0.more o1 k1 b1
  refine ⟨p2, rfl, fun v i w' => ∃ j : Nat, i = j ∧ j ≤ L.length ∧ Acc w B s w' v (l ++ putN (L.length : Nat) ++ (L.take j).flatMap bJob), fun _ i _ => L.length - i.toNat, ⟨p2, rfl, _, rfl, 0, rfl, by omega, by simpa using a1⟩, ?_⟩
  rintro e0 v _ w10 ⟨j, rfl, hj, ac⟩
  have ht := takeJob_le (L := L) (i := j)
  refine cond_d (fun hc => ?_) (fun hc => ?_)
  · have hj2 : j < L.length := by omega
    have hne : ∀ y ∈ blkOf ls, y ∉ blkOf v := fun y hy => ac.ne (hd (by omega) y hy).1 (hd (by omega) y hy).2
    have hne0 : ∀ y ∈ blkOf ls, y ∉ blkOf s := fun y hy => (hd (by omega) y hy).2
    obtain ⟨A, hA, hr⟩ := (hR.keep ac.kp hne0).get hj2
    rw [hA, Int.toNat_natCast, show IntKind.i64.wrap ((j : Int) + 1) = ((j + 1 : Nat) : Int) by rw [IntKind.wrap_i64]; omega]
    refine ⟨⟨by omega, by omega⟩, L[j], ⟨rfl, hr⟩, fun b13 w14 hA13 => ⟨⟨rfl, hA13.blk.canN _ (Nat.le_refl _)⟩, fun w15 e15 => ?_⟩⟩
    obtain ⟨g1, g2, _⟩ := hA13.blk.putAll (vs := (jC L[j]).toArray) rfl e15
    have s14 := hA13.eq
    have k15 : Kp [] w10 w15 := hA13.kp.then g2 (by simp; omega)
    have ac15 := ac.keep0 k15
    have hf := bJobs_take hj2
    have hf2 := takeJob_le (L := L) (i := j + 1)
    rw [hf, List.length_append] at hf2
    refine ⟨L[j], ⟨rfl, g1.rd0⟩, ⟨by kernel_rfl, ?_⟩⟩
    refine use (ac15.apd (job_a v L[j] (hok _ (List.getElem_mem hj2))) (by omega) (by simp only [List.length_append]; omega)) ?_
    rintro _ w17 ⟨p18, rfl, o17, k17, b17⟩
    have ac17 := ac15.more o17 k17 b17
    rw [List.append_assoc, ← hf] at ac17
    exact ⟨p18, rfl, p18, rfl, _, rfl, ⟨j + 1, rfl, by omega, ac17⟩, by simp only [Int.toNat_natCast]; omega⟩
  · have : j = L.length := by omega
    subst this
    rw [List.take_length] at ac
    exact ⟨v, rfl, ac.fin (Kp.refl _ _) (by simp [bL])⟩)
end Go.Proofs.Ytocbjadhcfjfiaa
