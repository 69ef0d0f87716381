/- Lists of orders, read by the code. Printed by gen_lists.py. No conditions. -/
import Derived.Test.YtocbjadhcfjfiaaCodQ
namespace Go.Proofs.Ytocbjadhcfjfiaa
open Go.RowKit Go.Eng
set_option linter.unusedVariables false
set_option linter.unusedSimpArgs false
def oC (m : S.api_Order) : List Value := [.int .i64 m.ID, .int .i64 m.Bin, .int .i64 m.Port, .int .i64 m.State]
theorem oC_len (m : S.api_Order) : (oC m).length = 4 := rfl
theorem o_info : (Try.prog.info? 124).map (fun i => (i.zero, i.size, i.bytes)) = some (some (S.api_Order.v ⟨0, 0, 0, 0⟩), 4, 32) := by kernel_rfl
theorem o_leaf (L : List S.api_Order) : ∀ v ∈ L.flatMap oC, leafB v = true := by
  intro v hv
  rw [List.mem_flatMap] at hv
  obtain ⟨m, _, hv⟩ := hv
  simp only [oC, List.mem_cons, List.not_mem_nil, or_false] at hv
  rcases hv with rfl | rfl | rfl | rfl <;> rfl
theorem o_flat : ∀ L : List S.api_Order, (L.flatMap oC).length = L.length * 4
  | [] => rfl
  | x :: L => by rw [List.flatMap_cons, List.length_append, oC_len, o_flat L, List.length_cons]; omega
theorem app_order {ty : TypeId} {w : World} {B b : Nat} {s : Sl} {L : List S.api_Order} {m : S.api_Order} {w1 : World} (ho : Go.Eng.Own w B 4 s (L.flatMap oC)) (hA : Alloc w b 124 (oC m) w1) (hB : B ≤ w.heap.size) (hb : L.length ≤ 1000000000) :
    ∃ q n c w2, (Builtin.append_ #[75, 75] ty #[.slice s.a s.len s.cap, .slice (some ⟨b, 0, none⟩) 1 1]).run Try.prog w1 = .ok (.slice q n c) w2 ∧ Go.Eng.Own w2 B 4 ⟨q, n, c⟩ ((L ++ [m]).flatMap oC) ∧ Kp (blkOf s) w w2 ∧ ∀ y ∈ blkOf ⟨q, n, c⟩, y ∈ blkOf s ∨ w.heap.size ≤ y := by
  have h1 := ho.len
  rw [o_flat] at h1
  have s1 := hA.eq
  have hl : s.len = L.length := by omega
  obtain ⟨q, n, c, w2, hrun, hn, ho1, k1, hq⟩ := app_any (ty := ty) Try.underlying75 o_info rfl (by decide) (ho.keep0 hA.kp) (show Rds w1 4 ⟨some ⟨b, 0, none⟩, 1, 1⟩ (oC m) from ⟨rfl, fun _ => ⟨_, rfl, hA.blk.has 0 _ (fun i u hi => by rw [Nat.zero_add]; exact hi)⟩⟩) (fun u hu => o_leaf [m] u (by simpa using hu)) (by omega) (by dsimp only; omega) (by dsimp only; omega)
  have e : L.flatMap oC ++ oC m = (L ++ [m]).flatMap oC := by simp
  rw [e] at ho1
  refine ⟨q, n, c, w2, hrun, ho1, (hA.kp.up _).then k1 (fun y hy => .inl hy), fun y hy => ?_⟩
  rcases hq with e | ⟨hf, _⟩
  · left; unfold blkOf at hy ⊢; rw [e] at hy; exact hy
  · exact .inr (by have := hf y hy; omega)
abbrev pOrders := pL pOrder
set_option maxHeartbeats 2000000 in
theorem listO_p (r c0 : Nat) {w : World} {s : Sl} {l : Bs} {k : Nat} (h : RdR w r s l k) (hc0 : Blk w c0 [.pointer (PK r)]) (hne : c0 ≠ r) (hl : l.length ≤ 100000000) :
    C.codec_list_api_Order (PK r) (.func (.func 87) #[] #[.pointer (PK c0)]) w (fun v w' => ∃ (s' : Sl) (L : List S.api_Order) (k' : Nat), v = slv s' ∧ pOrders (l.drop k) = some (L, l.drop k') ∧ Go.Eng.Own w' w.heap.size 4 s' (L.flatMap oC) ∧ RdR w' r s l k' ∧ Kp [r] w w') (fun c w' => pOrders (l.drop k) = none ∧ c = noneE ∧ Kp [r] w w') := codec_list_api_Order_of (by
  unfold W.codec_list_api_Order
  refine use2 (reader_number_p r w s l k h) ?_ (fun c w' ⟨h1, h2, h3⟩ => ⟨by simp [pOrders, pL, h1], h2, h3⟩)
  rintro _ w1 ⟨n, k1, e1, rfl, h1, m1⟩
  have hle1 := h1.le
  have hsz := h1.d.bsize
  have hdl : (l.drop k1).length = l.length - k1 := List.length_drop
  refine ⟨n, rfl, fun w' => (0 ≤ n ∧ n ≤ ((l.length - k1 : Nat) : Int)) ∧ Kp [] w1 w', fun w5 hD => ?_, ?_⟩
  · have h5 := h1.keep0 hD.kp
    refine cond_d (fun hc => ⟨?_, rfl, m1.then0 hD.kp⟩) (fun hc => ⟨s, ⟨rfl, h5.b.at rfl⟩, _, ⟨rfl, h5.b.at rfl⟩, ?_⟩)
    · simp only [pOrders, pL, e1, Option.bind_some]
      rw [if_pos (.inl hc)]
    have ew : IntKind.i64.wrap ((s.len : Int) - (k1 : Int)) = ((l.length - k1 : Nat) : Int) := by rw [IntKind.wrap_i64]; omega
    rw [ew]
    refine cond_d (fun hc2 => ⟨?_, rfl, m1.then0 hD.kp⟩) (fun hc2 => ⟨⟨by omega, by omega⟩, hD.kp⟩)
    simp only [pOrders, pL, e1, Option.bind_some]
    rw [if_pos (.inr (by rw [hdl]; exact hc2))]
  rintro e0 w10 ⟨⟨hn0, hn1⟩, k10⟩
  obtain ⟨N, rfl⟩ : ∃ N : Nat, n = N := ⟨n.toNat, by omega⟩
  have hp : pOrders (l.drop k) = rep pOrder N (l.drop k1) := by
    simp only [pOrders, pL, e1, Option.bind_some]
    rw [if_neg (by rw [hdl]; omega), Int.toNat_natCast]
  rw [hp]
  refine ⟨fun v i w' => ∃ (j : Nat) (L : List S.api_Order) (k2 : Nat), i = j ∧ j ≤ N ∧ L.length = j ∧ Go.Eng.Own w' w.heap.size 4 v (L.flatMap oC) ∧ RdR w' r s l k2 ∧ Kp [r] w w' ∧ rep pOrder N (l.drop k1) = (rep pOrder (N - j) (l.drop k2)).map (fun q => (L ++ q.1, q.2)), fun _ i _ => N - i.toNat, ⟨⟨none, 0, 0⟩, rfl, _, rfl, 0, [], k1, rfl, by omega, rfl, Go.Eng.Own.nil _ _ _, h1.keep0 k10, m1.then0 k10, by simp⟩, ?_⟩
  rintro e2 v _ w17 ⟨j, L, k2, rfl, hj, hLj, ho, h17, k17, hrep⟩
  refine cond_d (fun hc => ?_) (fun hc => ?_)
  · have hj2 : j < N := by omega
    rw [show IntKind.i64.wrap ((j : Int) + 1) = ((j + 1 : Nat) : Int) by rw [IntKind.wrap_i64]; omega]
    refine ⟨by kernel_rfl, use2 (order_p r c0 h17 (hc0.keep k17 (by simpa using hne)) hne) ?_ (fun c w' ⟨g1, g2, g3⟩ => ⟨rep_bad hj2 hrep g1, g2, k17.then g3 (by simp)⟩)⟩
    rintro _ w18 ⟨x, k3, ex, rfl, h18, m18⟩
    have hlo := ho.lo
    have hr := h.b.lt
    have ho18 := ho.keep m18 (fun y hy => by have := hlo y hy; simp; omega)
    have s17 := k17.size
    have s18 := m18.size
    refine ⟨x, rfl, fun b21 w22 hA => ?_⟩
    obtain ⟨q, n, c, w26, hrun, ho26, k26, hq⟩ := app_order (ty := 75) ho18 (m := x) hA (by omega) (by omega)
    exact ⟨q, n, c, w26, hrun, ⟨q, n, c⟩, rfl, _, rfl, ⟨j + 1, L ++ [x], k3, rfl, by omega, by simp [hLj], ho26, h.fresh h18 k26 (fun y hy => (hlo y hy).1), (k17.then m18 (by simp)).then k26 (fun y hy => .inr (hlo y hy).1), rep_step hj2 hrep ex⟩, by simp only [Int.toNat_natCast]; omega⟩
  · have : j = N := by omega
    subst this
    rw [Nat.sub_self, rep] at hrep
    exact ⟨v, L, k2, rfl, by rw [hrep]; simp, ho, h17, k17⟩)
def jC (m : S.api_Job) : List Value := [.int .i64 m.ID, .int .i64 m.Kind, .int .i64 m.Order, .int .i64 m.Bin, .int .i64 m.From.X, .int .i64 m.From.Y, .int .i64 m.To.X, .int .i64 m.To.Y, .int .i64 m.Robot]
theorem jC_len (m : S.api_Job) : (jC m).length = 9 := rfl
theorem j_info : (Try.prog.info? 128).map (fun i => (i.zero, i.size, i.bytes)) = some (some (S.api_Job.v ⟨0, 0, 0, 0, ⟨0, 0⟩, ⟨0, 0⟩, 0⟩), 9, 72) := by kernel_rfl
theorem j_leaf (L : List S.api_Job) : ∀ v ∈ L.flatMap jC, leafB v = true := by
  intro v hv
  rw [List.mem_flatMap] at hv
  obtain ⟨m, _, hv⟩ := hv
  simp only [jC, List.mem_cons, List.not_mem_nil, or_false] at hv
  rcases hv with rfl | rfl | rfl | rfl | rfl | rfl | rfl | rfl | rfl <;> rfl
theorem j_flat : ∀ L : List S.api_Job, (L.flatMap jC).length = L.length * 9
  | [] => rfl
  | x :: L => by rw [List.flatMap_cons, List.length_append, jC_len, j_flat L, List.length_cons]; omega
theorem app_job {ty : TypeId} {w : World} {B b : Nat} {s : Sl} {L : List S.api_Job} {m : S.api_Job} {w1 : World} (ho : Go.Eng.Own w B 9 s (L.flatMap jC)) (hA : Alloc w b 128 (jC m) w1) (hB : B ≤ w.heap.size) (hb : L.length ≤ 1000000000) :
    ∃ q n c w2, (Builtin.append_ #[76, 76] ty #[.slice s.a s.len s.cap, .slice (some ⟨b, 0, none⟩) 1 1]).run Try.prog w1 = .ok (.slice q n c) w2 ∧ Go.Eng.Own w2 B 9 ⟨q, n, c⟩ ((L ++ [m]).flatMap jC) ∧ Kp (blkOf s) w w2 ∧ ∀ y ∈ blkOf ⟨q, n, c⟩, y ∈ blkOf s ∨ w.heap.size ≤ y := by
  have h1 := ho.len
  rw [j_flat] at h1
  have s1 := hA.eq
  have hl : s.len = L.length := by omega
  obtain ⟨q, n, c, w2, hrun, hn, ho1, k1, hq⟩ := app_any (ty := ty) Try.underlying76 j_info rfl (by decide) (ho.keep0 hA.kp) (show Rds w1 9 ⟨some ⟨b, 0, none⟩, 1, 1⟩ (jC m) from ⟨rfl, fun _ => ⟨_, rfl, hA.blk.has 0 _ (fun i u hi => by rw [Nat.zero_add]; exact hi)⟩⟩) (fun u hu => j_leaf [m] u (by simpa using hu)) (by omega) (by dsimp only; omega) (by dsimp only; omega)
  have e : L.flatMap jC ++ jC m = (L ++ [m]).flatMap jC := by simp
  rw [e] at ho1
  refine ⟨q, n, c, w2, hrun, ho1, (hA.kp.up _).then k1 (fun y hy => .inl hy), fun y hy => ?_⟩
  rcases hq with e | ⟨hf, _⟩
  · left; unfold blkOf at hy ⊢; rw [e] at hy; exact hy
  · exact .inr (by have := hf y hy; omega)
abbrev pJobs := pL pJob
set_option maxHeartbeats 2000000 in
theorem listJ_p (r c0 : Nat) {w : World} {s : Sl} {l : Bs} {k : Nat} (h : RdR w r s l k) (hc0 : Blk w c0 [.pointer (PK r)]) (hne : c0 ≠ r) (hl : l.length ≤ 100000000) :
    C.codec_list_api_Job (PK r) (.func (.func 89) #[] #[.pointer (PK c0)]) w (fun v w' => ∃ (s' : Sl) (L : List S.api_Job) (k' : Nat), v = slv s' ∧ pJobs (l.drop k) = some (L, l.drop k') ∧ Go.Eng.Own w' w.heap.size 9 s' (L.flatMap jC) ∧ RdR w' r s l k' ∧ Kp [r] w w') (fun c w' => pJobs (l.drop k) = none ∧ c = noneE ∧ Kp [r] w w') := codec_list_api_Job_of (by
  unfold W.codec_list_api_Job
  refine use2 (reader_number_p r w s l k h) ?_ (fun c w' ⟨h1, h2, h3⟩ => ⟨by simp [pJobs, pL, h1], h2, h3⟩)
  rintro _ w1 ⟨n, k1, e1, rfl, h1, m1⟩
  have hle1 := h1.le
  have hsz := h1.d.bsize
  have hdl : (l.drop k1).length = l.length - k1 := List.length_drop
  refine ⟨n, rfl, fun w' => (0 ≤ n ∧ n ≤ ((l.length - k1 : Nat) : Int)) ∧ Kp [] w1 w', fun w5 hD => ?_, ?_⟩
  · have h5 := h1.keep0 hD.kp
    refine cond_d (fun hc => ⟨?_, rfl, m1.then0 hD.kp⟩) (fun hc => ⟨s, ⟨rfl, h5.b.at rfl⟩, _, ⟨rfl, h5.b.at rfl⟩, ?_⟩)
    · simp only [pJobs, pL, e1, Option.bind_some]
      rw [if_pos (.inl hc)]
    have ew : IntKind.i64.wrap ((s.len : Int) - (k1 : Int)) = ((l.length - k1 : Nat) : Int) := by rw [IntKind.wrap_i64]; omega
    rw [ew]
    refine cond_d (fun hc2 => ⟨?_, rfl, m1.then0 hD.kp⟩) (fun hc2 => ⟨⟨by omega, by omega⟩, hD.kp⟩)
    simp only [pJobs, pL, e1, Option.bind_some]
    rw [if_pos (.inr (by rw [hdl]; exact hc2))]
  rintro e0 w10 ⟨⟨hn0, hn1⟩, k10⟩
  obtain ⟨N, rfl⟩ : ∃ N : Nat, n = N := ⟨n.toNat, by omega⟩
  have hp : pJobs (l.drop k) = rep pJob N (l.drop k1) := by
    simp only [pJobs, pL, e1, Option.bind_some]
    rw [if_neg (by rw [hdl]; omega), Int.toNat_natCast]
  rw [hp]
  refine ⟨fun v i w' => ∃ (j : Nat) (L : List S.api_Job) (k2 : Nat), i = j ∧ j ≤ N ∧ L.length = j ∧ Go.Eng.Own w' w.heap.size 9 v (L.flatMap jC) ∧ RdR w' r s l k2 ∧ Kp [r] w w' ∧ rep pJob N (l.drop k1) = (rep pJob (N - j) (l.drop k2)).map (fun q => (L ++ q.1, q.2)), fun _ i _ => N - i.toNat, ⟨⟨none, 0, 0⟩, rfl, _, rfl, 0, [], k1, rfl, by omega, rfl, Go.Eng.Own.nil _ _ _, h1.keep0 k10, m1.then0 k10, by simp⟩, ?_⟩
  rintro e2 v _ w17 ⟨j, L, k2, rfl, hj, hLj, ho, h17, k17, hrep⟩
  refine cond_d (fun hc => ?_) (fun hc => ?_)
  · have hj2 : j < N := by omega
    rw [show IntKind.i64.wrap ((j : Int) + 1) = ((j + 1 : Nat) : Int) by rw [IntKind.wrap_i64]; omega]
    refine ⟨by kernel_rfl, use2 (job_p r c0 h17 (hc0.keep k17 (by simpa using hne)) hne) ?_ (fun c w' ⟨g1, g2, g3⟩ => ⟨rep_bad hj2 hrep g1, g2, k17.then g3 (by simp)⟩)⟩
    rintro _ w18 ⟨x, k3, ex, rfl, h18, m18⟩
    have hlo := ho.lo
    have hr := h.b.lt
    have ho18 := ho.keep m18 (fun y hy => by have := hlo y hy; simp; omega)
    have s17 := k17.size
    have s18 := m18.size
    refine ⟨x, rfl, fun b21 w22 hA => ?_⟩
    obtain ⟨q, n, c, w26, hrun, ho26, k26, hq⟩ := app_job (ty := 76) ho18 (m := x) hA (by omega) (by omega)
    exact ⟨q, n, c, w26, hrun, ⟨q, n, c⟩, rfl, _, rfl, ⟨j + 1, L ++ [x], k3, rfl, by omega, by simp [hLj], ho26, h.fresh h18 k26 (fun y hy => (hlo y hy).1), (k17.then m18 (by simp)).then k26 (fun y hy => .inr (hlo y hy).1), rep_step hj2 hrep ex⟩, by simp only [Int.toNat_natCast]; omega⟩
  · have : j = N := by omega
    subst this
    rw [Nat.sub_self, rep] at hrep
    exact ⟨v, L, k2, rfl, by rw [hrep]; simp, ho, h17, k17⟩)
end Go.Proofs.Ytocbjadhcfjfiaa
