/- The law Cuts: bytes that are cut, or have bytes behind, are refused. No conditions. -/
import Derived.Test.YtocbjadhcfjfiaaCodZ
import Derived.Test.YtocbjadhcfjfiaaCodY
namespace Go.Proofs.Ytocbjadhcfjfiaa
open Go.RowKit Go.Eng
set_option linter.unusedVariables false
set_option linter.unusedSimpArgs false
theorem Cod.cut {α : Type} {p : Bs → Option (α × Bs)} {b : α → Bs} {ok : α → Prop} (h : Cod p b ok) {x : α} (hx : ok x) {k : Nat} (hk : k < (b x).length) : Go.Proofs.Ytocbjadhcfjfiaa.whole p ((b x).take k) = none := by
  cases hw : Go.Proofs.Ytocbjadhcfjfiaa.whole p ((b x).take k) with
  | none => rfl
  | some y =>
    obtain ⟨hy, e⟩ := h.whole hw
    have h1 := h.put y hy ((b x).drop k)
    rw [← e, List.take_append_drop] at h1
    have h2 := h.put x hx []
    rw [List.append_nil] at h2
    rw [h2] at h1
    injection h1 with h1
    injection h1 with _ h1
    have := congrArg List.length h1
    rw [List.length_drop, List.length_nil] at this
    omega
theorem Cod.more {α : Type} {p : Bs → Option (α × Bs)} {b : α → Bs} {ok : α → Prop} (h : Cod p b ok) {x : α} (hx : ok x) {r : Bs} (hr : 0 < r.length) : Go.Proofs.Ytocbjadhcfjfiaa.whole p (b x ++ r) = none := by
  unfold Go.Proofs.Ytocbjadhcfjfiaa.whole
  rw [h.put x hx r]
  cases r with
  | nil => cases hr
  | cons c r => rfl
theorem Place2_s (v n : Int) (hn : 0 < n ∧ n ≤ 1000000000) (w : World) : C.skeplaw00_Place v n w (fun r w' => ∃ k : Nat, r = .int .i64 k ∧ (k : Int) < n ∧ w = w') noP := by
  refine use (Place_s v n w hn.1 (by omega)) ?_
  rintro _ _ ⟨rfl, rfl⟩
  have h1 := Int.emod_nonneg v (show n ≠ 0 by omega)
  have h2 := Int.emod_lt_of_pos v hn.1
  exact ⟨(v % n).toNat, by rw [Int.toNat_of_nonneg h1], by omega, rfl⟩
theorem bEv_len2 {m : M.api_Event} (h : m.Moves.length ≤ 1048576) : (bEv m).length ≤ 97000000 := by
  have h1 := (putN_len m.Kind).2; have h2 := (putN_len m.A).2; have h3 := (putN_len m.B).2; have h4 := bPose_len m.Pose; have h5 := (putN_len (m.Moves.length : Nat)).2; have h6 := flat_92 m.Moves
  simp only [bEv, bMoves, bL, List.length_append]
  omega
theorem GotS_none {w : World} {B : Nat} {l : Bs} {r ok no : Value} (h : GotS w B l r ok no) (hw : whole pState l = none) : r = .tuple #[S.api_State.v ⟨0, 0, false, ⟨none, 0, 0⟩, ⟨none, 0, 0⟩, ⟨none, 0, 0⟩, ⟨none, 0, 0⟩, ⟨none, 0, 0⟩, 0, 0⟩, no] := by
  rcases h with ⟨e, m, h1, _⟩ | ⟨_, h2⟩
  · rw [hw] at h1; cases h1
  · exact h2
theorem GotE_none {w : World} {B : Nat} {l : Bs} {r ok no : Value} (h : GotE w B l r ok no) (hw : whole pEv l = none) : r = .tuple #[S.api_Event.v ⟨0, 0, 0, ⟨⟨0, 0⟩, false⟩, ⟨none, 0, 0⟩⟩, no] := by
  rcases h with ⟨e, m, h1, _⟩ | ⟨_, h2⟩
  · rw [hw] at h1; cases h1
  · exact h2
/-- The first bytes, sliced. -/
theorem cutA {w : World} {B : Nat} {s : Sl} {l : Bs} (h : OwnB w B s l) {k : Nat} (hk : k ≤ l.length) : RdB w ⟨if s.cap = 0 then s.a else s.a.map (fun x => Addr.add x (0 * 1)), k - 0, s.cap - 0⟩ (l.take k) ∧ ∀ y ∈ blkOf ⟨if s.cap = 0 then s.a else s.a.map (fun x => Addr.add x (0 * 1)), k - 0, s.cap - 0⟩, y < w.heap.size := by
  have hsz := h.rds.bsize
  have hlc := h.lc
  have h1 := (h.rds.bcut (n := k) (by omega) s.cap).bdrop (by dsimp only; omega) (n := 0) (Nat.zero_le _) (k - 0) (s.cap - 0) rfl
  rw [List.drop_zero] at h1
  exact ⟨h1, fun y hy => (h.lo y (blk_drop s 0 _ _ _ y hy)).2⟩
set_option maxHeartbeats 8000000 in
theorem CodecCuts_s (st : S.api_State) (m : M.api_State) (e : S.api_Event) (me : M.api_Event) (at_ : Int) (s : Sl) {l : Bs} {w : World} (hS : StR w (fun y => y < w.heap.size) st m) (hm : okState m) (hz : szSt m ≤ 1048576) (he : EvR w e me) (hme : okEv me) (hn : me.Moves.length ≤ 1048576) (hd : RdB w s l) (hl : l.length ≤ 1048576) : C.skeplaw05_CodecCuts st e at_ s w (fun v w' => v = .bool true ∧ Kp [] w w') noP := skeplaw05_CodecCuts_of (by
  unfold W.skeplaw05_CodecCuts
  have hee := he.eq
  obtain ⟨ms, hms⟩ : ∃ ms, e.Moves = ms := ⟨_, rfl⟩
  rw [hms] at hee
  subst hee
  have hR := he.2
  dsimp only at hR
  have hbl := bEv_len2 hn
  have hbs := bState_small hz
  have hdR := rdl_lt hR (fun _ => .inr ⟨_, _, rfl⟩)
  have hsz := hd.bsize
  have p1 : 1 ≤ (bState m).length := by
    have := (putN_len m.Seq).1
    simp only [bState, List.length_append]
    omega
  have p2 : 1 ≤ (bEv me).length := by
    have := (putN_len me.Kind).1
    simp only [bEv, List.length_append]
    omega
  intro b1 w2 hA1 b3 w4 hA3
  have s2 := hA1.eq
  have s4 := hA3.eq
  have k4 : Kp [] w w4 := hA1.kp.then0 hA3.kp
  have y1 := hA1.blk.keep hA3.kp (by simp)
  have y3 : Blk w4 b3 [.int .i64 me.Kind, .int .i64 me.A, .int .i64 me.B, .int .i64 me.Pose.At.X, .int .i64 me.Pose.At.Y, .bool me.Pose.Down, slv ms] := hA3.blk
  refine ⟨st, ⟨rfl, y1.rd0⟩, use (PutState_s hm (hS.keep0 k4) (by omega) (fun y hy => by have := k4.size; omega)) ?_⟩
  rintro _ w6 ⟨p, rfl, o6, k6⟩
  have kk6 := k4.then0 k6
  have z6 := kk6.size
  refine ⟨p, rfl, ⟨me.Kind, me.A, me.B, me.Pose, ms⟩, ⟨rfl, (y3.keep k6 (by simp)).rd0⟩, use (PutEvent_s me ms hme (hR.keep0 kk6) (by omega) (fun h0 y hy => by have := hdR h0 y hy; omega)) ?_⟩
  rintro _ w10 ⟨q, rfl, o10, k10⟩
  have kk10 := kk6.then0 k10
  have o6' := o6.keep0 k10
  have lp := o6.rds.bsize
  have lq := o10.rds.bsize
  refine ⟨q, rfl, cond_e (fun hc => absurd hc (by omega)) (fun _ => cond_e (fun hc => absurd hc (by omega)) (fun _ => use (Place2_s at_ p.len ⟨by omega, by omega⟩ w10) ?_))⟩
  rintro _ _ ⟨k1, rfl, hk1, rfl⟩
  refine ⟨_, rfl, ⟨by omega, by have := o6.lc; omega⟩, ?_⟩
  rw [Int.toNat_natCast]
  obtain ⟨c1, c2⟩ := cutA o6' (k := k1) (by omega)
  refine use (GetState_s c1 (by rw [List.length_take]; omega) c2) ?_
  rintro _ w16 ⟨hG, k16⟩
  rw [GotS_none hG (state_cod.cut hm (by omega))]
  have kk16 := kk10.then0 k16
  refine ⟨(⟨0, 0, false, ⟨none, 0, 0⟩, ⟨none, 0, 0⟩, ⟨none, 0, 0⟩, ⟨none, 0, 0⟩, ⟨none, 0, 0⟩, 0, 0⟩, 4), rfl, fun b19 w20 hA20 => ⟨⟨rfl, hA20.blk.canN _ (Nat.le_refl _)⟩, fun w21 e21 => ?_⟩⟩
  obtain ⟨_, k21⟩ := stBlk hA20.blk rfl e21
  have s20 := hA20.eq
  have k1021 : Kp [] w10 w21 := k16.then0 (hA20.kp.then k21 (by simp; omega))
  have kk21 := kk10.then0 k1021
  refine use (Place2_s at_ q.len ⟨by omega, by omega⟩ w21) ?_
  rintro _ _ ⟨k2, rfl, hk2, rfl⟩
  refine ⟨_, rfl, ⟨by omega, by have := o10.lc; omega⟩, ?_⟩
  rw [Int.toNat_natCast]
  obtain ⟨c3, c4⟩ := cutA (o10.keep0 k1021) (k := k2) (by omega)
  refine use (GetEvent_s c3 (by rw [List.length_take]; omega) c4) ?_
  rintro _ w25 ⟨hG2, k25⟩
  rw [GotE_none hG2 (ev_cod.cut hme (by omega))]
  refine ⟨(⟨0, 0, 0, ⟨⟨0, 0⟩, false⟩, ⟨none, 0, 0⟩⟩, 4), rfl, fun b28 w29 hA29 => ⟨⟨rfl, hA29.blk.canN _ (Nat.le_refl _)⟩, fun w30 e30 => ?_⟩⟩
  obtain ⟨_, k30⟩ := evBlk hA29.blk rfl e30
  have s29 := hA29.eq
  have k1030 : Kp [] w10 w30 := k1021.then0 (k25.then0 (hA29.kp.then k30 (by simp; omega)))
  have kk30 := kk10.then0 k1030
  refine cond_f rfl (cond_f rfl (cond_e (fun _ => cond_t rfl (cond_t rfl (aw_s kk30))) (fun hc => ?_)))
  have o30 := o6'.keep0 k1030
  have q30 := o10.keep0 k1030
  have m30 := hd.keep0 kk30
  obtain ⟨a1, n1, c1', w43, hrun, hn1, oA, kA, hqA⟩ := app_bytes (ty := 22) Try.underlying22 byte_inf o30 m30 (by have := k10.size; have := k1030.size; have := k6.size; omega) (by omega)
  refine ⟨a1, n1, c1', w43, hrun, ?_⟩
  refine use (GetState_s oA.rds (by rw [List.length_append]; omega) (own_lt oA)) ?_
  rintro _ w44 ⟨hG3, k44⟩
  rw [GotS_none hG3 (state_cod.more hm (by omega))]
  have hpq : ∀ y ∈ blkOf q, y ∉ blkOf p := fun y hy hp => by have := (o10.lo y hy).1; have := (o6.lo y hp).2; omega
  have k3044 : Kp (blkOf p) w30 w44 := kA.then0 k44
  have q44 := q30.keep k3044 hpq
  have m44 : RdB w44 s l := Rds.keepZ m30 k3044 (fun h0 y hy hp => by have := hd.ltB (by omega) h0 y hy; have := (o6.lo y hp).1; have := k4.size; omega)
  obtain ⟨a2, n2, c2', w50, hrun2, hn2, oB, kB, hqB⟩ := app_bytes (ty := 22) Try.underlying22 byte_inf q44 m44 (by have := k10.size; have := k1030.size; have := k3044.size; omega) (by omega)
  refine ⟨(⟨0, 0, false, ⟨none, 0, 0⟩, ⟨none, 0, 0⟩, ⟨none, 0, 0⟩, ⟨none, 0, 0⟩, ⟨none, 0, 0⟩, 0, 0⟩, 4), rfl, a2, n2, c2', w50, hrun2, ?_⟩
  refine use (GetEvent_s oB.rds (by rw [List.length_append]; omega) (own_lt oB)) ?_
  rintro _ w51 ⟨hG4, k51⟩
  rw [GotE_none hG4 (ev_cod.more hme (by omega))]
  refine ⟨(⟨0, 0, 0, ⟨⟨0, 0⟩, false⟩, ⟨none, 0, 0⟩⟩, 4), rfl, cond_t rfl (cond_t rfl (aw_s ?_))⟩
  have kp : Kp [] w w44 := kk30.then k3044 (fun y hy => .inr (by have := (o6.lo y hy).1; have := k4.size; omega))
  exact (kp.then kB (fun y hy => .inr (by have := (o10.lo y hy).1; omega))).then0 k51)
theorem CodecCuts_walk (s0 : S.api_State) (m0 : M.api_State) (s1 : S.api_Event) (m1 : M.api_Event) (a2 : Int) (a : Option Addr) (c : Nat) (l : List Int) (w : World) (R0 : Is.api_State w s0 m0) (Q0 : Wf.api_State m0) (z0 : szSt m0 ≤ 1048576) (R1 : Is.api_Event w s1 m1) (Q1 : Wf.api_Event m1) (z1 : m1.Moves.length ≤ 1048576) (h2 : (Lit.int .i64 a2).wf = true) (h : Rd .u8 w a l) (hc : l.length ≤ c) (hl : l.length ≤ 1048576) :
    Calls Try.prog 10 #[S.api_State.v s0, S.api_Event.v s1, .int .i64 a2, .slice a l.length c] w fun e w' => e = .returned (.bool true) ∧ Below w.heap.size w w' :=
  ret_true (CodecCuts_s s0 m0 s1 m1 a2 ⟨a, l.length, c⟩ (stR_of R0) (okState_of Q0 z0) z0 ⟨⟨R1.1, R1.2.1, R1.2.2.1, R1.2.2.2.1⟩, R1.2.2.2.2⟩ ⟨⟨⟨⟨Q1.1, Q1.2.1⟩, Q1.2.2.1⟩, Q1.2.2.2.1⟩, fun x hx => okMove_of (Q1.2.2.2.2 x hx), by omega, by omega⟩ z1 (rdb_of_rd h c) (by rw [bso_len]; exact hl))
end Go.Proofs.Ytocbjadhcfjfiaa
