/- Stacks, robots, ports and their lists, written by the code. Printed by gen_nest.py. No conditions. -/
import Derived.Test.YtocbjadhcfjfiaaCodU
namespace Go.Proofs.Ytocbjadhcfjfiaa
open Go.RowKit Go.Eng
set_option linter.unusedVariables false
set_option linter.unusedSimpArgs false
set_option maxHeartbeats 1000000 in
theorem stack_a {s : Sl} {x : S.api_Stack} {m : M.api_Stack} (hm : okStack m) {w : World} {B : Nat} {l : Bs} (ho : OwnB w B s l) (hB : B ≤ w.heap.size) (hl : l.length + (bStack m).length ≤ 1000000000) {F : Nat → Prop} (hR : StkR w F x m) (hF : ∀ y, F y → y < w.heap.size ∧ y ∉ blkOf s) :
    C.codec_PutState_1 s x w (fun r w' => ∃ s' : Sl, r = slv s' ∧ OwnB w' B s' (l ++ bStack m) ∧ Kp (blkOf s) w w' ∧ ∀ y ∈ blkOf s', y ∈ blkOf s ∨ w.heap.size ≤ y) noP := codec_PutState_1_of (by
  unfold W.codec_PutState_1
  obtain ⟨m1, m2, m3⟩ := hm
  obtain ⟨h1, h2⟩ := hR
  simp only [bStack, List.length_append] at hl
  intro b1 w2 hA w3 hD
  have s2 := hA.eq
  have s3 := hD.sz
  have kA := hA.kp.then0 hD.kp
  have n1 : b1 ∉ blkOf s := fun h => by have := ho.lo _ h; omega
  have l3 : b1 < w3.heap.size := by omega
  have hB1 : Blk w3 b1 [.int .i64 x.At.X, .int .i64 x.At.Y, slv x.Bins] := hA.blk.keep hD.kp (by simp)
  have a0 := Acc.start (ho.keep0 kA)
  have hr3 := h2.keep kA (fun _ _ => by simp)
  refine ⟨x.At, ⟨rfl, hB1.rd 0 #[.int .i64 x.At.X, .int .i64 x.At.Y] (seg rfl)⟩, x.Bins, ⟨rfl, hB1.at rfl⟩, use (a0.apd (cell_a s x.At (h1 ▸ m1)) (by omega) (by rw [h1]; omega)) ?_⟩
  rintro _ w10 ⟨p1, rfl, o1, k1, b1'⟩
  rw [h1] at o1
  have a1 := a0.more o1 k1 b1'
  replace hB1 := hB1.keep k1 n1
  have s10 := k1.size
  refine ⟨p1, rfl, hB1.at rfl, use (putsN_a m2 a1.own (by omega) (by simp only [List.length_append]; omega) (hr3.keep k1 (fun y hy => (hF y hy).2)).rd (fun h0 y hy => ?_)) ?_⟩
  · have := hF y (h2.lo h0 y hy)
    exact ⟨by omega, a1.ne (by omega) this.2⟩
  rintro _ w20 ⟨p2, rfl, o2, k2, b2'⟩
  exact ⟨p2, rfl, p2, rfl, (a1.more o2 k2 b2').fin kA (by simp [bStack])⟩)
set_option maxHeartbeats 1000000 in
theorem port_a {s : Sl} {x : S.api_Port} {m : M.api_Port} (hm : okPort m) {w : World} {B : Nat} {l : Bs} (ho : OwnB w B s l) (hB : B ≤ w.heap.size) (hl : l.length + (bPort m).length ≤ 1000000000) {F : Nat → Prop} (hR : PrtR w F x m) (hF : ∀ y, F y → y < w.heap.size ∧ y ∉ blkOf s) :
    C.codec_PutState_3 s x w (fun r w' => ∃ s' : Sl, r = slv s' ∧ OwnB w' B s' (l ++ bPort m) ∧ Kp (blkOf s) w w' ∧ ∀ y ∈ blkOf s', y ∈ blkOf s ∨ w.heap.size ≤ y) noP := codec_PutState_3_of (by
  unfold W.codec_PutState_3
  obtain ⟨⟨m1, m2⟩, m3, m4⟩ := hm
  obtain ⟨⟨g1, g2⟩, h2⟩ := hR
  simp only [bPort, List.length_append] at hl
  intro b1 w2 hA w3 hD
  have s2 := hA.eq
  have s3 := hD.sz
  have kA := hA.kp.then0 hD.kp
  have n1 : b1 ∉ blkOf s := fun h => by have := ho.lo _ h; omega
  have l3 : b1 < w3.heap.size := by omega
  have hB1 : Blk w3 b1 [.int .i64 x.Bin, .int .i64 x.Active, slv x.Queue] := hA.blk.keep hD.kp (by simp)
  have a0 := Acc.start (ho.keep0 kA)
  have hr3 := h2.keep kA (fun _ _ => by simp)
  refine ⟨_, ⟨rfl, hB1.at rfl⟩, _, ⟨rfl, hB1.at rfl⟩, x.Queue, ⟨rfl, hB1.at rfl⟩, use (a0.apd (number_a s x.Bin (g1 ▸ m1)) (by omega) (by rw [g1]; omega)) ?_⟩
  rintro _ w10 ⟨p1, rfl, o1, k1, b1'⟩
  rw [g1] at o1
  have a1 := a0.more o1 k1 b1'
  replace hB1 := hB1.keep k1 n1
  refine ⟨p1, rfl, hB1.at rfl, hB1.at rfl, use (a1.apd (number_a p1 x.Active (g2 ▸ m2)) (by omega) (by rw [g2]; simp only [List.length_append]; omega)) ?_⟩
  rintro _ w20 ⟨p2, rfl, o2, k2, b2'⟩
  rw [g2] at o2
  have a2 := a1.more o2 k2 b2'
  replace hB1 := hB1.keep k2 (a1.ne l3 n1)
  have s20 := a2.kp.size
  refine ⟨p2, rfl, hB1.at rfl, use (putsN_a m3 a2.own (by omega) (by simp only [List.length_append]; omega) (hr3.keep a2.kp (fun y hy => (hF y hy).2)).rd (fun h0 y hy => ?_)) ?_⟩
  · have := hF y (h2.lo h0 y hy)
    exact ⟨by omega, a2.ne (by omega) this.2⟩
  rintro _ w30 ⟨p3, rfl, o3, k3, b3'⟩
  exact ⟨p3, rfl, p3, rfl, (a2.more o3 k3 b3').fin kA (by simp [bPort])⟩)
set_option maxHeartbeats 2000000 in
theorem robot_a {s : Sl} {x : S.api_Robot} {m : M.api_Robot} (hm : okRobot m) {w : World} {B : Nat} {l : Bs} (ho : OwnB w B s l) (hB : B ≤ w.heap.size) (hl : l.length + (bRobot m).length ≤ 1000000000) {F : Nat → Prop} (hR : RobR w F x m) (hF : ∀ y, F y → y < w.heap.size ∧ y ∉ blkOf s) :
    C.codec_PutState_2 s x w (fun r w' => ∃ s' : Sl, r = slv s' ∧ OwnB w' B s' (l ++ bRobot m) ∧ Kp (blkOf s) w w' ∧ ∀ y ∈ blkOf s', y ∈ blkOf s ∨ w.heap.size ≤ y) noP := codec_PutState_2_of (by
  unfold W.codec_PutState_2
  obtain ⟨⟨⟨⟨⟨⟨m1, m2⟩, m3⟩, m4, m5⟩, _⟩, m6⟩, _⟩ := hm
  obtain ⟨⟨g1, g2, g3, g4, g5, g6⟩, h2⟩ := hR
  simp only [bRobot, List.length_append] at hl
  intro b1 w2 hA w3 hD
  have s2 := hA.eq
  have s3 := hD.sz
  have kA := hA.kp.then0 hD.kp
  have n1 : b1 ∉ blkOf s := fun h => by have := ho.lo _ h; omega
  have l3 : b1 < w3.heap.size := by omega
  have hB1 : Blk w3 b1 [.int .i64 x.At.At.X, .int .i64 x.At.At.Y, .bool x.At.Down, .int .i64 x.Load, .int .i64 x.Job, slv x.Moves, .bool x.Out, .int .i64 x.Num, .bool x.Stands] := hA.blk.keep hD.kp (by simp)
  have a0 := Acc.start (ho.keep0 kA)
  have hr3 := h2.keep kA (fun _ _ => by simp)
  refine ⟨x.At, ⟨rfl, hB1.rd 0 #[.int .i64 x.At.At.X, .int .i64 x.At.At.Y, .bool x.At.Down] (seg rfl)⟩, _, ⟨rfl, hB1.at rfl⟩, _, ⟨rfl, hB1.at rfl⟩, use (a0.apd (pose_a s x.At (g1 ▸ m1)) (by omega) (by rw [g1]; omega)) ?_⟩
  rintro _ w10 ⟨p1, rfl, o1, k1, b1'⟩
  rw [g1] at o1
  have a1 := a0.more o1 k1 b1'
  replace hB1 := hB1.keep k1 n1
  refine ⟨p1, rfl, hB1.at rfl, hB1.at rfl, use (a1.apd (number_a p1 x.Load (g2 ▸ m2)) (by omega) (by rw [g2]; simp only [List.length_append]; omega)) ?_⟩
  rintro _ w20 ⟨p2, rfl, o2, k2, b2'⟩
  rw [g2] at o2
  have a2 := a1.more o2 k2 b2'
  replace hB1 := hB1.keep k2 (a1.ne l3 n1)
  refine ⟨p2, rfl, hB1.at rfl, use (a2.apd (number_a p2 x.Job (g3 ▸ m3)) (by omega) (by rw [g3]; simp only [List.length_append]; omega)) ?_⟩
  rintro _ w30 ⟨p3, rfl, o3, k3, b3'⟩
  rw [g3] at o3
  have a3 := a2.more o3 k3 b3'
  replace hB1 := hB1.keep k3 (a2.ne l3 n1)
  refine ⟨p3, rfl, fun w35 hD35 => ?_⟩
  replace a3 := a3.keep0 hD35.kp
  replace hB1 := hB1.keep hD35.kp (by simp)
  have s35 := a3.kp.size
  refine ⟨x.Moves, ⟨rfl, hB1.at rfl⟩, _, ⟨rfl, hB1.at rfl⟩, use (puts_a m4 a3.own (by omega) (by simp only [List.length_append]; omega) (hr3.keep a3.kp (fun y hy => (hF y hy).2)).rd (fun h0 y hy => ?_)) ?_⟩
  · have := hF y (h2.lo h0 y hy)
    exact ⟨by omega, a3.ne (by omega) this.2⟩
  rintro _ w40 ⟨p4, rfl, o4, k4, b4'⟩
  have a4 := a3.more o4 k4 b4'
  replace hB1 := hB1.keep k4 (a3.ne l3 n1)
  refine ⟨p4, rfl, hB1.at rfl, use (a4.apd (flag_a p4 x.Out) (by omega) (by rw [g4]; simp only [List.length_append]; omega)) ?_⟩
  rintro _ w50 ⟨p5, rfl, o5, k5, b5'⟩
  rw [g4] at o5
  have a5 := a4.more o5 k5 b5'
  replace hB1 := hB1.keep k5 (a4.ne l3 n1)
  refine ⟨p5, rfl, fun w55 hD55 => ?_⟩
  replace a5 := a5.keep0 hD55.kp
  replace hB1 := hB1.keep hD55.kp (by simp)
  refine ⟨_, ⟨rfl, hB1.at rfl⟩, _, ⟨rfl, hB1.at rfl⟩, use (a5.apd (number_a p5 x.Num (g5 ▸ m6)) (by omega) (by rw [g5]; simp only [List.length_append]; omega)) ?_⟩
  rintro _ w60 ⟨p6, rfl, o6, k6, b6'⟩
  rw [g5] at o6
  have a6 := a5.more o6 k6 b6'
  replace hB1 := hB1.keep k6 (a5.ne l3 n1)
  refine ⟨p6, rfl, hB1.at rfl, use (a6.apd (flag_a p6 x.Stands) (by omega) (by rw [g6]; simp only [List.length_append]; omega)) ?_⟩
  rintro _ w70 ⟨p7, rfl, o7, k7, b7'⟩
  rw [g6] at o7
  exact ⟨p7, rfl, p7, rfl, (a6.more o7 k7 b7').fin kA (by simp [bRobot])⟩)
theorem bStacks_take {L : List M.api_Stack} {i : Nat} (hi : i < L.length) : (L.take (i + 1)).flatMap bStack = (L.take i).flatMap bStack ++ bStack L[i] := by
  have : L.take (i + 1) = L.take i ++ [L[i]] := by rw [List.take_add_one, List.getElem?_eq_getElem hi]; rfl
  rw [this, List.flatMap_append]
  simp
theorem takeStack_le {L : List M.api_Stack} {i : Nat} : ((L.take i).flatMap bStack).length ≤ (L.flatMap bStack).length := by
  have h : L.flatMap bStack = (L.take i).flatMap bStack ++ (L.drop i).flatMap bStack := by rw [← List.flatMap_append, List.take_append_drop]
  rw [h, List.length_append]
  omega
def cStack (m : S.api_Stack) : List Value := [.int .i64 m.At.X, .int .i64 m.At.Y, slv m.Bins]
theorem cStack_len (m : S.api_Stack) : (cStack m).length = 3 := rfl
theorem cStack_leaf (m : S.api_Stack) : ∀ u ∈ cStack m, leafB u = true := by
  intro v hv
  simp only [cStack, List.mem_cons, List.not_mem_nil, or_false] at hv
  rcases hv with rfl | rfl | rfl <;> rfl
set_option maxHeartbeats 1000000 in
theorem putsStack_a {s ls : Sl} {L : List M.api_Stack} (hok : ∀ x ∈ L, okStack x) {w : World} {B : Nat} {l : Bs} (ho : OwnB w B s l) (hB : B ≤ w.heap.size) (hl : l.length + (bL bStack L).length ≤ 1000000000) {F : Nat → Prop} (hR : IsF w F 3 S.api_Stack.v (StkR w F) ls L) (hF : ∀ y, F y → y < w.heap.size ∧ y ∉ blkOf s) :
    C.codec_puts_api_Stack s ls (.func (.func 64) #[] #[]) w (fun r w' => ∃ s' : Sl, r = slv s' ∧ OwnB w' B s' (l ++ bL bStack L) ∧ Kp (blkOf s) w w' ∧ ∀ y ∈ blkOf s', y ∈ blkOf s ∨ w.heap.size ≤ y) noP := codec_puts_api_Stack_of (by
  unfold W.codec_puts_api_Stack
  have hlen := hR.is.len
  have hfl := flat_len_le bStack_1 L
  simp only [bL, List.length_append] at hl
  have a0 := Acc.start ho
  rw [← hlen]
  refine use (a0.apd (number_a s (L.length : Nat) ⟨by omega, by omega⟩) (by omega) (by omega)) ?_
  rintro _ w1 ⟨p2, rfl, o1, k1, b1⟩
  have a1 := a0.more o1 k1 b1
  refine ⟨p2, rfl, fun v i w' => ∃ j : Nat, i = j ∧ j ≤ L.length ∧ Acc w B s w' v (l ++ putN (L.length : Nat) ++ (L.take j).flatMap bStack), fun _ i _ => L.length - i.toNat, ⟨p2, rfl, _, rfl, 0, rfl, by omega, by simpa using a1⟩, ?_⟩
  rintro e0 v _ w10 ⟨j, rfl, hj, ac⟩
  have ht := takeStack_le (L := L) (i := j)
  refine cond_d (fun hc => ?_) (fun hc => ?_)
  · have hj2 : j < L.length := by omega
    have s10 := ac.kp.size
    obtain ⟨A, x, hA, hr, hx⟩ := (hR.keep ac.kp (fun y hy => (hF y hy).2) (R' := StkR w10 F) (fun _ _ _ h => stk_stays.keep h ac.kp (fun y hy => (hF y hy).2))).is.get hj2
    rw [hA, Int.toNat_natCast, show IntKind.i64.wrap ((j : Int) + 1) = ((j + 1 : Nat) : Int) by rw [IntKind.wrap_i64]; omega]
    refine ⟨⟨by omega, by omega⟩, x, ⟨rfl, hr⟩, fun b13 w14 hA13 => ⟨⟨rfl, hA13.blk.canN _ (Nat.le_refl _)⟩, fun w15 e15 => ?_⟩⟩
    obtain ⟨g1, g2, _⟩ := hA13.blk.putAll (vs := (cStack x).toArray) rfl e15
    have s14 := hA13.eq
    have k15 : Kp [] w10 w15 := hA13.kp.then g2 (by simp; omega)
    have ac15 := ac.keep0 k15
    have s15 := k15.size
    have hf := bStacks_take hj2
    have hf2 := takeStack_le (L := L) (i := j + 1)
    rw [hf, List.length_append] at hf2
    refine ⟨x, ⟨rfl, g1.rd0⟩, ⟨by kernel_rfl, ?_⟩⟩
    refine use (stack_a (hok _ (List.getElem_mem hj2)) ac15.own (by omega) (by simp only [List.length_append]; omega) (stk_stays.keep hx k15 (fun _ _ => by simp)) (fun y hy => ⟨by have := (hF y hy).1; omega, ac.ne (hF y hy).1 (hF y hy).2⟩)) ?_
    rintro _ w17 ⟨p18, rfl, o17, k17, b17⟩
    have ac17 := ac15.more o17 k17 b17
    rw [List.append_assoc, ← hf] at ac17
    exact ⟨p18, rfl, p18, rfl, _, rfl, ⟨j + 1, rfl, by omega, ac17⟩, by simp only [Int.toNat_natCast]; omega⟩
  · have : j = L.length := by omega
    subst this
    rw [List.take_length] at ac
    exact ⟨v, rfl, ac.fin (Kp.refl _ _) (by simp [bL])⟩)
theorem bRobots_take {L : List M.api_Robot} {i : Nat} (hi : i < L.length) : (L.take (i + 1)).flatMap bRobot = (L.take i).flatMap bRobot ++ bRobot L[i] := by
  have : L.take (i + 1) = L.take i ++ [L[i]] := by rw [List.take_add_one, List.getElem?_eq_getElem hi]; rfl
  rw [this, List.flatMap_append]
  simp
theorem takeRobot_le {L : List M.api_Robot} {i : Nat} : ((L.take i).flatMap bRobot).length ≤ (L.flatMap bRobot).length := by
  have h : L.flatMap bRobot = (L.take i).flatMap bRobot ++ (L.drop i).flatMap bRobot := by rw [← List.flatMap_append, List.take_append_drop]
  rw [h, List.length_append]
  omega
def cRobot (m : S.api_Robot) : List Value := [.int .i64 m.At.At.X, .int .i64 m.At.At.Y, .bool m.At.Down, .int .i64 m.Load, .int .i64 m.Job, slv m.Moves, .bool m.Out, .int .i64 m.Num, .bool m.Stands]
theorem cRobot_len (m : S.api_Robot) : (cRobot m).length = 9 := rfl
theorem cRobot_leaf (m : S.api_Robot) : ∀ u ∈ cRobot m, leafB u = true := by
  intro v hv
  simp only [cRobot, List.mem_cons, List.not_mem_nil, or_false] at hv
  rcases hv with rfl | rfl | rfl | rfl | rfl | rfl | rfl | rfl | rfl <;> rfl
set_option maxHeartbeats 1000000 in
theorem putsRobot_a {s ls : Sl} {L : List M.api_Robot} (hok : ∀ x ∈ L, okRobot x) {w : World} {B : Nat} {l : Bs} (ho : OwnB w B s l) (hB : B ≤ w.heap.size) (hl : l.length + (bL bRobot L).length ≤ 1000000000) {F : Nat → Prop} (hR : IsF w F 9 S.api_Robot.v (RobR w F) ls L) (hF : ∀ y, F y → y < w.heap.size ∧ y ∉ blkOf s) :
    C.codec_puts_api_Robot s ls (.func (.func 68) #[] #[]) w (fun r w' => ∃ s' : Sl, r = slv s' ∧ OwnB w' B s' (l ++ bL bRobot L) ∧ Kp (blkOf s) w w' ∧ ∀ y ∈ blkOf s', y ∈ blkOf s ∨ w.heap.size ≤ y) noP := codec_puts_api_Robot_of (by
  unfold W.codec_puts_api_Robot
  have hlen := hR.is.len
  have hfl := flat_len_le bRobot_1 L
  simp only [bL, List.length_append] at hl
  have a0 := Acc.start ho
  rw [← hlen]
  refine use (a0.apd (number_a s (L.length : Nat) ⟨by omega, by omega⟩) (by omega) (by omega)) ?_
  rintro _ w1 ⟨p2, rfl, o1, k1, b1⟩
  have a1 := a0.more o1 k1 b1
  refine ⟨p2, rfl, fun v i w' => ∃ j : Nat, i = j ∧ j ≤ L.length ∧ Acc w B s w' v (l ++ putN (L.length : Nat) ++ (L.take j).flatMap bRobot), fun _ i _ => L.length - i.toNat, ⟨p2, rfl, _, rfl, 0, rfl, by omega, by simpa using a1⟩, ?_⟩
  rintro e0 v _ w10 ⟨j, rfl, hj, ac⟩
  have ht := takeRobot_le (L := L) (i := j)
  refine cond_d (fun hc => ?_) (fun hc => ?_)
  · have hj2 : j < L.length := by omega
    have s10 := ac.kp.size
    obtain ⟨A, x, hA, hr, hx⟩ := (hR.keep ac.kp (fun y hy => (hF y hy).2) (R' := RobR w10 F) (fun _ _ _ h => rob_stays.keep h ac.kp (fun y hy => (hF y hy).2))).is.get hj2
    rw [hA, Int.toNat_natCast, show IntKind.i64.wrap ((j : Int) + 1) = ((j + 1 : Nat) : Int) by rw [IntKind.wrap_i64]; omega]
    refine ⟨⟨by omega, by omega⟩, x, ⟨rfl, hr⟩, fun b13 w14 hA13 => ⟨⟨rfl, hA13.blk.canN _ (Nat.le_refl _)⟩, fun w15 e15 => ?_⟩⟩
    obtain ⟨g1, g2, _⟩ := hA13.blk.putAll (vs := (cRobot x).toArray) rfl e15
    have s14 := hA13.eq
    have k15 : Kp [] w10 w15 := hA13.kp.then g2 (by simp; omega)
    have ac15 := ac.keep0 k15
    have s15 := k15.size
    have hf := bRobots_take hj2
    have hf2 := takeRobot_le (L := L) (i := j + 1)
    rw [hf, List.length_append] at hf2
    refine ⟨x, ⟨rfl, g1.rd0⟩, ⟨by kernel_rfl, ?_⟩⟩
    refine use (robot_a (hok _ (List.getElem_mem hj2)) ac15.own (by omega) (by simp only [List.length_append]; omega) (rob_stays.keep hx k15 (fun _ _ => by simp)) (fun y hy => ⟨by have := (hF y hy).1; omega, ac.ne (hF y hy).1 (hF y hy).2⟩)) ?_
    rintro _ w17 ⟨p18, rfl, o17, k17, b17⟩
    have ac17 := ac15.more o17 k17 b17
    rw [List.append_assoc, ← hf] at ac17
    exact ⟨p18, rfl, p18, rfl, _, rfl, ⟨j + 1, rfl, by omega, ac17⟩, by simp only [Int.toNat_natCast]; omega⟩
  · have : j = L.length := by omega
    subst this
    rw [List.take_length] at ac
    exact ⟨v, rfl, ac.fin (Kp.refl _ _) (by simp [bL])⟩)
theorem bPorts_take {L : List M.api_Port} {i : Nat} (hi : i < L.length) : (L.take (i + 1)).flatMap bPort = (L.take i).flatMap bPort ++ bPort L[i] := by
  have : L.take (i + 1) = L.take i ++ [L[i]] := by rw [List.take_add_one, List.getElem?_eq_getElem hi]; rfl
  rw [this, List.flatMap_append]
  simp
theorem takePort_le {L : List M.api_Port} {i : Nat} : ((L.take i).flatMap bPort).length ≤ (L.flatMap bPort).length := by
  have h : L.flatMap bPort = (L.take i).flatMap bPort ++ (L.drop i).flatMap bPort := by rw [← List.flatMap_append, List.take_append_drop]
  rw [h, List.length_append]
  omega
def cPort (m : S.api_Port) : List Value := [.int .i64 m.Bin, .int .i64 m.Active, slv m.Queue]
theorem cPort_len (m : S.api_Port) : (cPort m).length = 3 := rfl
theorem cPort_leaf (m : S.api_Port) : ∀ u ∈ cPort m, leafB u = true := by
  intro v hv
  simp only [cPort, List.mem_cons, List.not_mem_nil, or_false] at hv
  rcases hv with rfl | rfl | rfl <;> rfl
set_option maxHeartbeats 1000000 in
theorem putsPort_a {s ls : Sl} {L : List M.api_Port} (hok : ∀ x ∈ L, okPort x) {w : World} {B : Nat} {l : Bs} (ho : OwnB w B s l) (hB : B ≤ w.heap.size) (hl : l.length + (bL bPort L).length ≤ 1000000000) {F : Nat → Prop} (hR : IsF w F 3 S.api_Port.v (PrtR w F) ls L) (hF : ∀ y, F y → y < w.heap.size ∧ y ∉ blkOf s) :
    C.codec_puts_api_Port s ls (.func (.func 70) #[] #[]) w (fun r w' => ∃ s' : Sl, r = slv s' ∧ OwnB w' B s' (l ++ bL bPort L) ∧ Kp (blkOf s) w w' ∧ ∀ y ∈ blkOf s', y ∈ blkOf s ∨ w.heap.size ≤ y) noP := codec_puts_api_Port_of (by
  unfold W.codec_puts_api_Port
  have hlen := hR.is.len
  have hfl := flat_len_le bPort_1 L
  simp only [bL, List.length_append] at hl
  have a0 := Acc.start ho
  rw [← hlen]
  refine use (a0.apd (number_a s (L.length : Nat) ⟨by omega, by omega⟩) (by omega) (by omega)) ?_
  rintro _ w1 ⟨p2, rfl, o1, k1, b1⟩
  have a1 := a0.more o1 k1 b1
  refine ⟨p2, rfl, fun v i w' => ∃ j : Nat, i = j ∧ j ≤ L.length ∧ Acc w B s w' v (l ++ putN (L.length : Nat) ++ (L.take j).flatMap bPort), fun _ i _ => L.length - i.toNat, ⟨p2, rfl, _, rfl, 0, rfl, by omega, by simpa using a1⟩, ?_⟩
  rintro e0 v _ w10 ⟨j, rfl, hj, ac⟩
  have ht := takePort_le (L := L) (i := j)
  refine cond_d (fun hc => ?_) (fun hc => ?_)
  · have hj2 : j < L.length := by omega
    have s10 := ac.kp.size
    obtain ⟨A, x, hA, hr, hx⟩ := (hR.keep ac.kp (fun y hy => (hF y hy).2) (R' := PrtR w10 F) (fun _ _ _ h => prt_stays.keep h ac.kp (fun y hy => (hF y hy).2))).is.get hj2
    rw [hA, Int.toNat_natCast, show IntKind.i64.wrap ((j : Int) + 1) = ((j + 1 : Nat) : Int) by rw [IntKind.wrap_i64]; omega]
    refine ⟨⟨by omega, by omega⟩, x, ⟨rfl, hr⟩, fun b13 w14 hA13 => ⟨⟨rfl, hA13.blk.canN _ (Nat.le_refl _)⟩, fun w15 e15 => ?_⟩⟩
    obtain ⟨g1, g2, _⟩ := hA13.blk.putAll (vs := (cPort x).toArray) rfl e15
    have s14 := hA13.eq
    have k15 : Kp [] w10 w15 := hA13.kp.then g2 (by simp; omega)
    have ac15 := ac.keep0 k15
    have s15 := k15.size
    have hf := bPorts_take hj2
    have hf2 := takePort_le (L := L) (i := j + 1)
    rw [hf, List.length_append] at hf2
    refine ⟨x, ⟨rfl, g1.rd0⟩, ⟨by kernel_rfl, ?_⟩⟩
    refine use (port_a (hok _ (List.getElem_mem hj2)) ac15.own (by omega) (by simp only [List.length_append]; omega) (prt_stays.keep hx k15 (fun _ _ => by simp)) (fun y hy => ⟨by have := (hF y hy).1; omega, ac.ne (hF y hy).1 (hF y hy).2⟩)) ?_
    rintro _ w17 ⟨p18, rfl, o17, k17, b17⟩
    have ac17 := ac15.more o17 k17 b17
    rw [List.append_assoc, ← hf] at ac17
    exact ⟨p18, rfl, p18, rfl, _, rfl, ⟨j + 1, rfl, by omega, ac17⟩, by simp only [Int.toNat_natCast]; omega⟩
  · have : j = L.length := by omega
    subst this
    rw [List.take_length] at ac
    exact ⟨v, rfl, ac.fin (Kp.refl _ _) (by simp [bL])⟩)
end Go.Proofs.Ytocbjadhcfjfiaa
