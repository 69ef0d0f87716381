/- The law States. Printed by gen_states.py. No conditions. -/
import Derived.Test.YtocbjadhcfjfiaaCodD
import Derived.Test.YtocbjadhcfjfiaaCodO
import Derived.Test.YtocbjadhcfjfiaaCodC
namespace Go.Proofs.Ytocbjadhcfjfiaa
open Go.RowKit Go.Eng
set_option linter.unusedVariables false
set_option linter.unusedSimpArgs false
theorem flatL_ge {α : Type} {b : α → Bs} {f : α → Nat} (h : ∀ x, 1 + f x ≤ (b x).length) : ∀ L : List α, L.length + (L.map f).sum ≤ (L.flatMap b).length
  | [] => Nat.zero_le _
  | x :: L => by
    rw [List.flatMap_cons, List.length_append, List.length_cons, List.map_cons, List.sum_cons]
    have h1 := flatL_ge h L
    have h2 := h x
    omega
theorem szSt_le (m : M.api_State) : szSt m ≤ (bState m).length := by
  have f1 := flatL_ge (b := bStack) (f := fun x => x.Bins.length) (fun x => by have h1 := (putN_len x.At.X).1; have := flat_len_le putN_1 x.Bins; simp only [bStack, bInts, bL, bCell, List.length_append]; omega) m.Stacks
  have f2 := flatL_ge (b := bRobot) (f := fun x => x.Moves.length) (fun x => by have h1 := (putN_len x.Load).1; have := flat_len_le bMove_1 x.Moves; simp only [bRobot, bMoves, bL, List.length_append]; omega) m.Robots
  have f3 := flatL_ge (b := bPort) (f := fun x => x.Queue.length) (fun x => by have h1 := (putN_len x.Bin).1; have := flat_len_le putN_1 x.Queue; simp only [bPort, bInts, bL, List.length_append]; omega) m.Ports
  have f4 := flat_len_le bOrder_1 m.Orders
  have f5 := flat_len_le bJob_1 m.Jobs
  unfold szSt
  simp only [bState, bL, List.length_append]
  omega
theorem wholeS_b (m : M.api_State) (h : okState m) : whole pState (bState m) = some m := by
  have := state_cod.put m h []
  rw [List.append_nil] at this
  unfold whole
  rw [this]
def zMS : M.api_State := ⟨0, 0, false, [], [], [], [], [], 0, 0⟩
theorem zSt_r (w : World) (F : Nat → Prop) : StR w F zState zMS :=
  ⟨⟨rfl, rfl, rfl, rfl, rfl⟩, ⟨⟨rfl, fun i x h => by cases h⟩, fun h => by cases h⟩, ⟨⟨rfl, fun i x h => by cases h⟩, fun h => by cases h⟩, ⟨⟨rfl, fun i x h => by cases h⟩, fun h => by cases h⟩, ⟨⟨rfl, fun i x h => by cases h⟩, fun h => by cases h⟩, ⟨⟨rfl, fun i x h => by cases h⟩, fun h => by cases h⟩⟩
set_option maxHeartbeats 8000000 in
set_option maxRecDepth 20000 in
theorem CodecStates_s (e : S.api_State) (m : M.api_State) (s : Sl) {l : Bs} {w : World} (he : StR w (fun y => y < w.heap.size) e m) (hm : okState m) (hz : szSt m ≤ 1048576) (hd : RdB w s l) (hl : l.length ≤ 1048576) : C.skeplaw05_CodecStates e s w (fun v w' => v = .bool true ∧ Kp [] w w') noP := skeplaw05_CodecStates_of (by
  unfold W.skeplaw05_CodecStates
  have hbl := bState_small hz
  intro b1 w2 hA
  have s2 := hA.eq
  have y1 : Blk w2 b1 [.int .i64 e.Seq, .int .i64 e.Epoch, .bool e.Held, slv e.Stacks, slv e.Robots, slv e.Ports, slv e.Orders, slv e.Jobs, .int .i64 e.NextOrder, .int .i64 e.NextJob] := hA.blk
  have kk4 : Kp [] w w2 := hA.kp
  refine ⟨e, ⟨rfl, y1.rd0⟩, use (PutState_s hm (he.keep0 kk4) (by omega) (fun y hy => by have := kk4.size; omega)) ?_⟩
  rintro _ w7 ⟨x, rfl, ox, k7⟩
  refine ⟨x, rfl, use (CopyBytes_s x ox.rds (by omega)) ?_⟩
  rintro _ w10 ⟨x', rfl, ox', k10⟩
  refine ⟨x', rfl, use (GetState_s ox'.rds (by omega) (own_lt ox')) ?_⟩
  rintro r w13 ⟨hG, k13⟩
  have kk13 : Kp [] w w13 := ((kk4.then0 k7).then0 k10).then0 k13
  obtain ⟨e1, hr1, hE1⟩ : ∃ e1, r = .tuple #[S.api_State.v e1, .int .i64 0] ∧ StR w13 (fun _ => True) e1 m := by
    rcases hG with ⟨e1, m', h1, h2, h3⟩ | ⟨h1, _⟩
    · rw [wholeS_b m hm] at h1; injection h1 with h1; subst h1; exact ⟨e1, h3, h2.mono (fun _ _ => trivial)⟩
    · rw [wholeS_b m hm] at h1; cases h1
  have s13 := kk13.size
  refine ⟨(e1, 0), hr1, fun b16 w17 hA16 => ⟨⟨rfl, hA16.blk.canN _ (Nat.le_refl _)⟩, fun w18 e18 => ?_⟩⟩
  obtain ⟨y16, k18⟩ := stBlk hA16.blk rfl e18
  have s17 := hA16.eq
  have k1318 : Kp [] w13 w18 := hA16.kp.then k18 (by simp; omega)
  have kk18 := kk13.then0 k1318
  refine use (CopyBytes_s s (hd.keep0 kk18) (by omega)) ?_
  rintro _ w19 ⟨z, rfl, oz, k19⟩
  refine ⟨z, rfl, use (GetState_s oz.rds (by omega) (own_lt oz)) ?_⟩
  rintro r2 w22 ⟨hG2, k22⟩
  have kk22 := (kk18.then0 k19).then0 k22
  have s22 := kk22.size
  obtain ⟨e2, m2, c2, hr2, hE2, hc2⟩ : ∃ (e2 : S.api_State) (m2 : M.api_State) (c2 : Int), r2 = .tuple #[S.api_State.v e2, .int .i64 c2] ∧ StR w22 (fun _ => True) e2 m2 ∧ ((whole pState l = some m2 ∧ c2 = 0) ∨ (whole pState l = none ∧ m2 = zMS ∧ c2 = 4)) := by
    rcases hG2 with ⟨e2, m2, h1, h2, h3⟩ | ⟨h1, h3⟩
    · exact ⟨e2, m2, 0, h3, h2.mono (fun _ _ => trivial), .inl ⟨h1, rfl⟩⟩
    · exact ⟨zState, zMS, 4, h3, zSt_r _ _, .inr ⟨h1, rfl, rfl⟩⟩
  have hm2 : szSt m2 ≤ 1000000000 := by
    rcases hc2 with ⟨h1, _⟩ | ⟨_, h1, _⟩
    · have : ∃ rest, pState l = some (m2, rest) := by
        unfold whole at h1
        split at h1
        · rename_i q hq; injection h1 with h1; subst h1; exact ⟨_, hq⟩
        · cases h1
      obtain ⟨rest, hq⟩ := this
      obtain ⟨_, h3⟩ := state_cod.inv _ _ _ hq
      have h4 := congrArg List.length h3
      have h5 := szSt_le m2
      simp only [List.length_append] at h4
      omega
    · rw [h1]; exact Nat.le_of_ble_eq_true rfl
  refine ⟨(e2, c2), hr2, fun b25 w26 hA25 => ⟨⟨rfl, hA25.blk.canN _ (Nat.le_refl _)⟩, fun w27 e27 => ?_⟩⟩
  obtain ⟨y25, k27⟩ := stBlk hA25.blk rfl e27
  have s26 := hA25.eq
  have k2227 : Kp [] w22 w27 := hA25.kp.then k27 (by simp; omega)
  have kk27 := kk22.then0 k2227
  refine use (rGetState_s (hd.keep0 kk27) (by omega)) ?_
  rintro r3 w28 ⟨hG3, k28⟩
  obtain ⟨e3, b3, hr3, hE3, hb3⟩ : ∃ (e3 : S.api_State) (b3 : Bool), r3 = .tuple #[S.api_State.v e3, .bool b3] ∧ StR w28 (fun _ => True) e3 m2 ∧ b3 = (c2 == 0) ∧ (b3 = false → c2 = 4) := by
    rcases hG3 with ⟨e3, m3, h1, h2, h3⟩ | ⟨h1, h3⟩
    · rcases hc2 with ⟨g1, g2⟩ | ⟨g1, g2, g3⟩
      · rw [h1] at g1; injection g1 with g1; subst g1 g2; exact ⟨e3, true, h3, h2.mono (fun _ _ => trivial), rfl, fun h => by cases h⟩
      · rw [h1] at g1; cases g1
    · rcases hc2 with ⟨g1, g2⟩ | ⟨g1, g2, g3⟩
      · rw [h1] at g1; cases g1
      · subst g2 g3; exact ⟨zState, false, h3, zSt_r _ _, rfl, fun _ => rfl⟩
  have kk28 := kk27.then0 k28
  have s28 := kk28.size
  refine ⟨(e3, b3), hr3, fun b31 w32 hA31 => ⟨⟨rfl, hA31.blk.canN _ (Nat.le_refl _)⟩, fun w33 e33 w34 hD => ?_⟩⟩
  obtain ⟨y31, k33⟩ := stBlk hA31.blk rfl e33
  have s32 := hA31.eq
  have k2834 : Kp [] w28 w34 := (hA31.kp.then k33 (by simp; omega)).then0 hD.kp
  have kk34 := kk28.then0 k2834
  have k1834 : Kp [] w18 w34 := ((((k19.then0 k22).then0 k2227).then0 k28).then0 k2834)
  have k734 : Kp [] w7 w34 := ((k10.then0 k13).then0 k1318).then0 k1834
  have z1 := (y1.keep k7 (by simp)).keep k734 (by simp)
  have zx := ox.rds.keep0 k734
  refine ⟨str _, zx.str, e, ⟨rfl, z1.rd0⟩, use (rPutState_s hm (he.keep0 kk34) (by omega) (fun y hy => by have := kk34.size; omega)) ?_⟩
  rintro _ w37 ⟨u, rfl, ou, k37⟩
  have kk37 := kk34.then0 k37
  have z16 := (y16.keep k1834 (by simp)).keep k37 (by simp)
  have z25 := ((y25.keep k28 (by simp)).keep k2834 (by simp)).keep k37 (by simp)
  have z31 := (y31.keep hD.kp (by simp)).keep k37 (by simp)
  have z1' := z1.keep k37 (by simp)
  have E1 : StR w37 (fun _ => True) e1 m := ((hE1.keep0 k1318).keep0 k1834).keep0 k37
  have E0 := he.keep0 kk37
  have E2 : StR w37 (fun _ => True) e2 m2 := (((hE2.keep0 k2227).keep0 k28).keep0 k2834).keep0 k37
  have E3 : StR w37 (fun _ => True) e3 m2 := (hE3.keep0 k2834).keep0 k37
  refine ⟨u, rfl, (zx.keep0 k37).str.2, str _, ou.rds.str, cond_f (by rw [strEq_str]; simp) (cond_f rfl ⟨e1, ⟨rfl, z16.rd0⟩, e, ⟨rfl, z1'.rd0⟩, use (SameState_s E1 E0 (by omega)) ?_⟩)⟩
  rintro _ w43 ⟨rfl, k43⟩
  have kk43 := kk37.then0 k43
  have fin : ∀ W : World, ∃ y46 : S.api_State, (okVal true 10 (S.api_State.v y46) = true ∧ Go.Eng.rd w43 ⟨b25, 0, none⟩ (S.api_State.v y46)) ∧ ∃ y47 : S.api_State, (okVal true 10 (S.api_State.v y47) = true ∧ Go.Eng.rd w43 ⟨b31, 0, none⟩ (S.api_State.v y47)) ∧ C.skeplaw00_SameState y46 y47 w43 (fun r50 w48 => ∃ p49 : Bool, r50 = .bool p49 ∧ (cond p49 (C.skeplaw05_awake w48 (fun r53 w51 => ∃ p52 : Bool, r53 = .bool p52 ∧ ((.bool p52 : Value) = .bool true ∧ Kp [] w w51)) noP) ((.bool false : Value) = .bool true ∧ Kp [] w w48))) noP := fun _ => by
    refine ⟨e2, ⟨rfl, (z25.keep k43 (by simp)).rd0⟩, e3, ⟨rfl, (z31.keep k43 (by simp)).rd0⟩, use (SameState_s (E2.keep0 k43) (E3.keep0 k43) hm2) ?_⟩
    rintro _ w48 ⟨rfl, k48⟩
    exact ⟨true, rfl, cond_t rfl (aw_s (kk43.then0 k48))⟩
  refine ⟨true, rfl, cond_f rfl (cond_f (by rw [hb3.1]; simp) ?_)⟩
  cases hbb : b3
  · exact cond_t rfl (cond_f (by rw [hb3.2 hbb]; rfl) (fin w43))
  · exact cond_f rfl (fin w43))
theorem CodecStates_walk (s0 : S.api_State) (m0 : M.api_State) (a : Option Addr) (c : Nat) (l : List Int) (w : World) (R0 : Is.api_State w s0 m0) (Q0 : Wf.api_State m0) (z0 : szSt m0 ≤ 1048576) (h : Rd .u8 w a l) (hc : l.length ≤ c) (hl : l.length ≤ 1048576) :
    Calls Try.prog 9 #[S.api_State.v s0, .slice a l.length c] w fun e w' => e = .returned (.bool true) ∧ Below w.heap.size w w' :=
  ret_true (CodecStates_s s0 m0 ⟨a, l.length, c⟩ (stR_of R0) (okState_of Q0 z0) z0 (rdb_of_rd h c) (by rw [bso_len]; exact hl))
end Go.Proofs.Ytocbjadhcfjfiaa
