/- The law One: what is got of any bytes is put as just these. No conditions. -/
import Derived.Test.YtocbjadhcfjfiaaCodX
import Derived.Test.YtocbjadhcfjfiaaCodK
namespace Go.Proofs.Ytocbjadhcfjfiaa
open Go.RowKit Go.Eng
set_option linter.unusedVariables false
set_option linter.unusedSimpArgs false
theorem Cod.whole {α : Type} {p : Bs → Option (α × Bs)} {b : α → Bs} {ok : α → Prop} (h : Cod p b ok) {l : Bs} {x : α} (hw : whole p l = some x) : ok x ∧ l = b x := by
  unfold Go.Proofs.Ytocbjadhcfjfiaa.whole at hw
  split at hw
  · rename_i y hy
    injection hw with hw
    subst hw
    have := h.inv _ _ _ hy
    rw [List.append_nil] at this
    exact this
  · cases hw
theorem pOp_inv {l : Bs} {o : S.api_Op} (hw : whole pOp l = some o) : okOp o ∧ l = bOp o := by
  unfold whole at hw
  split at hw
  · rename_i y hy
    injection hw with hw
    subst hw
    unfold pOp at hy
    simp only [Option.bind_eq_some_iff] at hy
    obtain ⟨⟨a, l1⟩, h1, ⟨b, l2⟩, h2, ⟨c, l3⟩, h3, h4⟩ := hy
    injection h4 with h4
    injection h4 with h4 h5
    dsimp only at *
    subst h4 h5
    obtain ⟨i1, j1⟩ := num_inv h1
    obtain ⟨i2, j2⟩ := num_inv h2
    obtain ⟨i3, j3⟩ := num_inv h3
    refine ⟨⟨i1, i2, i3⟩, ?_⟩
    rw [j1, j2, j3]
    simp [bOp]
  · cases hw
theorem getN0 {l : Bs} (h : (getN l 0).2.2 = true) : ∃ k : Nat, (getN l 0).2.1 = k ∧ 1 ≤ k ∧ k ≤ l.length ∧ in64 (getN l 0).1 ∧ putN (getN l 0).1 = l.take k := by
  have e := getN_num (l := l) (p := 0) (Nat.zero_le _)
  rw [List.drop_zero] at e
  rw [show ((0 : Nat) : Int) = 0 from rfl] at e
  rw [e] at h ⊢
  cases hn : num l with
  | none => rw [hn] at h; cases h
  | some q =>
    obtain ⟨v, r⟩ := q
    obtain ⟨h1, h2⟩ := num_inv hn
    have h3 := congrArg List.length h2
    rw [List.length_append] at h3
    have h4 := (putN_len v).1
    refine ⟨l.length - r.length, rfl, by omega, by omega, h1, ?_⟩
    rw [show l.length - r.length = (putN v).length by omega, h2, List.take_left]
theorem stBlk {w w' : World} {b : Nat} {cs : List Value} {e : S.api_State} (h : Blk w b cs) (hl : cs.length = 10) (e1 : w' = putAt w ⟨b, 0, none⟩ (S.api_State.v e)) : Blk w' b [.int .i64 e.Seq, .int .i64 e.Epoch, .bool e.Held, slv e.Stacks, slv e.Robots, slv e.Ports, slv e.Orders, slv e.Jobs, .int .i64 e.NextOrder, .int .i64 e.NextJob] ∧ Kp [b] w w' := by
  obtain ⟨g1, g2, _⟩ := h.putAll (vs := #[.int .i64 e.Seq, .int .i64 e.Epoch, .bool e.Held, slv e.Stacks, slv e.Robots, slv e.Ports, slv e.Orders, slv e.Jobs, .int .i64 e.NextOrder, .int .i64 e.NextJob]) (by rw [hl]; rfl) e1
  exact ⟨g1, g2⟩
theorem teBlk {w w' : World} {b : Nat} {cs : List Value} {t : S.api_Tele} (h : Blk w b cs) (hl : cs.length = 19) (e1 : w' = putAt w ⟨b, 0, none⟩ (S.api_Tele.v t)) : Go.Eng.rd w' ⟨b, 0, none⟩ (S.api_Tele.v t) ∧ Kp [b] w w' ∧ ∃ ds, Blk w' b ds := by
  obtain ⟨g1, g2, _⟩ := h.putAll (vs := #[.int .i64 t.Kind, .int .i64 t.Robot, .int .i64 t.Epoch, .int .i64 t.Num, .int .i64 t.Move.Kind, .int .i64 t.Move.Dir, .int .i64 t.Move.N, .int .i64 t.Move.From.At.X, .int .i64 t.Move.From.At.Y, .bool t.Move.From.Down, .int .i64 t.Move.To.At.X, .int .i64 t.Move.To.At.Y, .bool t.Move.To.Down, .int .i64 t.Move.At, .int .i64 t.Move.End, .int .i64 t.Pose.At.X, .int .i64 t.Pose.At.Y, .bool t.Pose.Down, .int .i64 t.Load]) (by rw [hl]; rfl) e1
  exact ⟨g1.rd0, g2, _, g1⟩
set_option maxHeartbeats 8000000 in
theorem CodecOne_s (s : Sl) {l : Bs} {w : World} (hd : RdB w s l) (hc : s.len ≤ s.cap) (hl : l.length ≤ 1048576) : C.skeplaw05_CodecOne s w (fun v w' => v = .bool true ∧ Kp [] w w') noP := skeplaw05_CodecOne_of (by
  unfold W.skeplaw05_CodecOne
  have hsz := hd.bsize
  refine use (CopyBytes_s s hd (by omega)) ?_
  rintro _ w1 ⟨x1, rfl, o1, k1⟩
  refine ⟨x1, rfl, use (GetEvent_s o1.rds (by omega) (own_lt o1)) ?_⟩
  rintro r1 w4 ⟨hG, k4⟩
  have kk4 := k1.then0 k4
  obtain ⟨e1, c1, hr1, hE1⟩ : ∃ (e1 : S.api_Event) (c1 : Int), r1 = .tuple #[S.api_Event.v e1, .int .i64 c1] ∧ (c1 = 0 → ∃ m, whole pEv l = some m ∧ EvS w4 w1.heap.size e1 m) := by
    rcases hG with ⟨e1, m', h1, h2, h3⟩ | ⟨h1, h3⟩
    · exact ⟨e1, 0, h3, fun _ => ⟨m', h1, h2⟩⟩
    · exact ⟨_, 4, h3, fun h => absurd h (by decide)⟩
  refine ⟨(e1, c1), hr1, fun b7 w8 hA8 => ⟨⟨rfl, hA8.blk.canN _ (Nat.le_refl _)⟩, fun w9 e9 => ?_⟩⟩
  obtain ⟨y7, k9⟩ := evBlk hA8.blk rfl e9
  have s8 := hA8.eq
  have k49 : Kp [] w4 w9 := hA8.kp.then k9 (by simp; omega)
  have kk9 := kk4.then0 k49
  refine ⟨fun w' => Kp [] w w', fun w11 hD => ?_, ?_⟩
  · have kk11 := kk9.then0 hD.kp
    refine cond_d (fun h0 => ?_) (fun _ => kk11)
    obtain ⟨m, hm, hE⟩ := hE1 (by simpa using h0)
    obtain ⟨hok, hb⟩ := ev_cod.whole hm
    have hE' := (hE.keep0 k49).keep0 hD.kp
    have hee := hE'.r.eq
    obtain ⟨ms, hms⟩ : ∃ ms, e1.Moves = ms := ⟨_, rfl⟩
    rw [hms] at hee
    subst hee
    refine ⟨⟨m.Kind, m.A, m.B, m.Pose, ms⟩, ⟨rfl, (y7.keep hD.kp (by simp)).rd0⟩, str l, (hd.keep0 kk11).str, use (PutEvent_s m ms hok hE'.rdl (by rw [← hb]; omega) (fun _ y hy => (hE'.lo y hy).2)) ?_⟩
    rintro _ w14 ⟨u, rfl, ou, k14⟩
    rw [← hb] at ou
    exact ⟨u, rfl, ((hd.keep0 kk11).keep0 k14).str.2, str _, ou.rds.str, cond_f (by rw [strEq_str]; simp) (kk11.then0 k14)⟩
  rintro e0 w18 kk18
  refine use (CopyBytes_s s (hd.keep0 kk18) (by omega)) ?_
  rintro _ w19 ⟨x2, rfl, o2, k19⟩
  refine ⟨x2, rfl, use (GetTele_s o2.rds (by omega) (own_lt o2)) ?_⟩
  rintro r2 w22 ⟨hG2, k22⟩
  have kk22 := (kk18.then0 k19).then0 k22
  obtain ⟨t, c2, hr2, hT⟩ : ∃ (t : S.api_Tele) (c2 : Int), r2 = .tuple #[S.api_Tele.v t, .int .i64 c2] ∧ (c2 = 0 → whole pTele l = some t) := by
    rcases hG2 with ⟨t, h1, h3⟩ | ⟨h1, h3⟩
    · exact ⟨t, 0, h3, fun _ => h1⟩
    · exact ⟨_, 4, h3, fun h => absurd h (by decide)⟩
  refine ⟨(t, c2), hr2, fun b25 w26 hA26 => ⟨⟨rfl, hA26.blk.canN _ (Nat.le_refl _)⟩, fun w27 e27 => ?_⟩⟩
  obtain ⟨y25, k27, _⟩ := teBlk hA26.blk rfl e27
  have s26 := hA26.eq
  have kk27 := kk22.then0 (hA26.kp.then k27 (by simp; omega))
  refine ⟨fun w' => Kp [] w w', fun w29 hD => ?_, ?_⟩
  · have kk29 := kk27.then0 hD.kp
    refine cond_d (fun h0 => ?_) (fun _ => kk29)
    obtain ⟨hok, hb⟩ := tele_cod.whole (hT (by simpa using h0))
    refine ⟨t, ⟨rfl, rd_keep y25 hD.kp (by simp)⟩, str l, (hd.keep0 kk29).str, use (PutTele_s t hok w29) ?_⟩
    rintro _ w32 ⟨u, rfl, ou, k32⟩
    rw [← hb] at ou
    exact ⟨u, rfl, ((hd.keep0 kk29).keep0 k32).str.2, str _, ou.rds.str, cond_f (by rw [strEq_str]; simp) (kk29.then0 k32)⟩
  rintro e0 w36 kk36
  refine use (CopyBytes_s s (hd.keep0 kk36) (by omega)) ?_
  rintro _ w37 ⟨x3, rfl, o3, k37⟩
  refine ⟨x3, rfl, use (GetOp_s o3.rds (by omega) (own_lt o3)) ?_⟩
  rintro r3 w40 ⟨hG3, k40⟩
  have kk40 := (kk36.then0 k37).then0 k40
  obtain ⟨o, c3, hr3, hO⟩ : ∃ (o : S.api_Op) (c3 : Int), r3 = .tuple #[S.api_Op.v o, .int .i64 c3] ∧ (c3 = 0 → whole pOp l = some o) := by
    rcases hG3 with ⟨t, h1, h3⟩ | ⟨h1, h3⟩
    · exact ⟨t, 0, h3, fun _ => h1⟩
    · exact ⟨_, 4, h3, fun h => absurd h (by decide)⟩
  refine ⟨(o, c3), hr3, fun b43 w44 hA44 => ⟨⟨rfl, hA44.blk.canN _ (Nat.le_refl _)⟩, fun w45 e45 => ?_⟩⟩
  obtain ⟨y43, k45, _⟩ := hA44.blk.putAll (vs := #[.int .i64 o.Kind, .int .i64 o.A, .int .i64 o.B]) rfl e45
  have s44 := hA44.eq
  have kk45 := kk40.then0 (hA44.kp.then k45 (by simp; omega))
  refine ⟨fun w' => Kp [] w w', fun w47 hD => ?_, ?_⟩
  · have kk47 := kk45.then0 hD.kp
    refine cond_d (fun h0 => ?_) (fun _ => kk47)
    obtain ⟨hok, hb⟩ := pOp_inv (hO (by simpa using h0))
    refine ⟨o, ⟨rfl, (y43.keep hD.kp (by simp)).rd0⟩, str l, (hd.keep0 kk47).str, use (PutOp_s o hok w47) ?_⟩
    rintro _ w50 ⟨u, rfl, ou, k50⟩
    rw [← hb] at ou
    exact ⟨u, rfl, ((hd.keep0 kk47).keep0 k50).str.2, str _, ou.rds.str, cond_f (by rw [strEq_str]; simp) (kk47.then0 k50)⟩
  rintro e0 w54 kk54
  refine use (CopyBytes_s s (hd.keep0 kk54) (by omega)) ?_
  rintro _ w55 ⟨x4, rfl, o4, k55⟩
  refine ⟨x4, rfl, use (GetState_s o4.rds (by omega) (own_lt o4)) ?_⟩
  rintro r4 w58 ⟨hG4, k58⟩
  have kk58 := (kk54.then0 k55).then0 k58
  obtain ⟨st, c4, hr4, hS⟩ : ∃ (st : S.api_State) (c4 : Int), r4 = .tuple #[S.api_State.v st, .int .i64 c4] ∧ (c4 = 0 → ∃ m, whole pState l = some m ∧ StR w58 (fun y => w55.heap.size ≤ y ∧ y < w58.heap.size) st m) := by
    rcases hG4 with ⟨e1, m', h1, h2, h3⟩ | ⟨h1, h3⟩
    · exact ⟨e1, 0, h3, fun _ => ⟨m', h1, h2⟩⟩
    · exact ⟨_, 4, h3, fun h => absurd h (by decide)⟩
  refine ⟨(st, c4), hr4, fun b61 w62 hA62 => ⟨⟨rfl, hA62.blk.canN _ (Nat.le_refl _)⟩, fun w63 e63 => ?_⟩⟩
  obtain ⟨y61, k63⟩ := stBlk hA62.blk rfl e63
  have s62 := hA62.eq
  have k5863 : Kp [] w58 w63 := hA62.kp.then k63 (by simp; omega)
  have kk63 := kk58.then0 k5863
  refine ⟨fun w' => Kp [] w w', fun w65 hD => ?_, ?_⟩
  · have kk65 := kk63.then0 hD.kp
    have k5865 := k5863.then0 hD.kp
    have z65 := k5865.size
    refine cond_d (fun h0 => ?_) (fun _ => kk65)
    obtain ⟨m, hm, hE⟩ := hS (by simpa using h0)
    obtain ⟨hok, hb⟩ := state_cod.whole hm
    refine ⟨st, ⟨rfl, (y61.keep hD.kp (by simp)).rd0⟩, str l, (hd.keep0 kk65).str, use (PutState_s hok (hE.keep0 k5865) (by rw [← hb]; omega) (fun y hy => by omega)) ?_⟩
    rintro _ w68 ⟨u, rfl, ou, k68⟩
    rw [← hb] at ou
    exact ⟨u, rfl, ((hd.keep0 kk65).keep0 k68).str.2, str _, ou.rds.str, cond_f (by rw [strEq_str]; simp) (kk65.then0 k68)⟩
  rintro e0 w72 kk72
  refine use (CopyBytes_s s (hd.keep0 kk72) (by omega)) ?_
  rintro _ w73 ⟨x5, rfl, o5, k73⟩
  refine ⟨x5, rfl, use (GetNumber_s 0 (by constructor <;> decide) o5.rds (by omega)) ?_⟩
  rintro _ w76 ⟨rfl, rfl⟩
  refine ⟨getN l 0, rfl, fun w79 hD => ?_⟩
  have kk79 := (kk72.then0 k73).then0 hD.kp
  cases hb : (getN l 0).2.2 with
  | false => exact cond_f rfl (aw_s kk79)
  | true =>
    obtain ⟨k, hk, hk1, hk2, hv, hp⟩ := getN0 hb
    rw [hk]
    refine cond_t rfl (cond_d (fun hc => absurd hc (by omega)) (fun _ => cond_d (fun hc => absurd hc (by omega)) (fun _ => ⟨⟨by omega, by omega⟩, ?_⟩)))
    rw [Int.toNat_natCast]
    have hcut : ∀ W : World, Kp [] w W → RdB W ⟨if s.cap = 0 then s.a else s.a.map (fun x => Addr.add x (0 * 1)), k - 0, 0⟩ (l.take k) := fun W kW => by
      have h1 := ((hd.keep0 kW).bcut (n := k) (by omega) s.cap).bdrop (by dsimp only; omega) (n := 0) (Nat.zero_le _) (k - 0) 0 rfl
      rwa [List.drop_zero] at h1
    refine ⟨str (l.take k), (hcut _ kk79).str, use (PutNumber_s (l := []) (getN l 0).1 hv (Go.Eng.Own.nil w79 0 1).rds (by simp)) ?_⟩
    rintro _ w81 ⟨u, rfl, ou, k81⟩
    rw [List.nil_append, hp] at ou
    exact ⟨u, rfl, (hcut _ (kk79.then0 k81)).str.2, str _, ou.rds.str, cond_f (by rw [strEq_str]; simp) (aw_s (kk79.then0 k81))⟩)
theorem CodecOne_walk (a : Option Addr) (c : Nat) (l : List Int) (w : World) (h : Rd .u8 w a l) (hc : l.length ≤ c) (hl : l.length ≤ 1048576) :
    Calls Try.prog 11 #[.slice a l.length c] w fun e w' => e = .returned (.bool true) ∧ Below w.heap.size w w' :=
  ret_true (CodecOne_s ⟨a, l.length, c⟩ (rdb_of_rd h c) hc (by rw [bso_len]; exact hl))
end Go.Proofs.Ytocbjadhcfjfiaa
