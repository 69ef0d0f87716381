/- Lists of moves: read. No conditions. -/
import Derived.Test.YtocbjadhcfjfiaaCodE
namespace Go.Proofs.Ytocbjadhcfjfiaa
open Go.RowKit Go.Eng
set_option linter.unusedVariables false
set_option linter.unusedSimpArgs false
theorem mv_flat : ∀ L : List S.api_Move, (L.flatMap mvC).length = L.length * 11
  | [] => rfl
  | x :: L => by rw [List.flatMap_cons, List.length_append, mvC_len, mv_flat L, List.length_cons]; omega
theorem app_move {ty : TypeId} {w : World} {B b : Nat} {s : Sl} {L : List S.api_Move} {m : S.api_Move} {w1 : World} (ho : Go.Eng.Own w B 11 s (L.flatMap mvC)) (hA : Alloc w b 51 (mvC m) w1) (hB : B ≤ w.heap.size) (hb : L.length ≤ 1000000000) :
    ∃ q n c w2, (Builtin.append_ #[61, 61] ty #[.slice s.a s.len s.cap, .slice (some ⟨b, 0, none⟩) 1 1]).run Try.prog w1 = .ok (.slice q n c) w2 ∧ Go.Eng.Own w2 B 11 ⟨q, n, c⟩ ((L ++ [m]).flatMap mvC) ∧ Kp (blkOf s) w w2 ∧ ∀ y ∈ blkOf ⟨q, n, c⟩, y ∈ blkOf s ∨ w.heap.size ≤ y := by
  have h1 := ho.len
  rw [mv_flat] at h1
  have s1 := hA.eq
  have hl : s.len = L.length := by omega
  obtain ⟨q, n, c, w2, hrun, hn, ho1, k1, hq⟩ := app_any (ty := ty) Try.underlying61 mv_info rfl (by decide) (ho.keep0 hA.kp) (show Rds w1 11 ⟨some ⟨b, 0, none⟩, 1, 1⟩ (mvC m) from ⟨rfl, fun _ => ⟨_, rfl, hA.blk.has 0 _ (fun i u hi => by rw [Nat.zero_add]; exact hi)⟩⟩) (fun u hu => mv_leaf [m] u (by simpa using hu)) (by omega) (by dsimp only; omega) (by dsimp only; omega)
  have e : L.flatMap mvC ++ mvC m = (L ++ [m]).flatMap mvC := by simp
  rw [e] at ho1
  refine ⟨q, n, c, w2, hrun, ho1, (hA.kp.up _).then k1 (fun y hy => .inl hy), fun y hy => ?_⟩
  rcases hq with e | ⟨hf, _⟩
  · left; unfold blkOf at hy ⊢; rw [e] at hy; exact hy
  · exact .inr (by have := hf y hy; omega)
theorem rep_step {α : Type} {p : Bs → Option (α × Bs)} {l l' l'' : Bs} {N j : Nat} {L : List α} {x : α} (hj : j < N) (h : rep p N l = (rep p (N - j) l').map (fun q => (L ++ q.1, q.2))) (hx : p l' = some (x, l'')) : rep p N l = (rep p (N - (j + 1)) l'').map (fun q => ((L ++ [x]) ++ q.1, q.2)) := by
  rw [h, show N - j = (N - (j + 1)) + 1 by omega, rep, hx, Option.bind_some]
  cases rep p (N - (j + 1)) l'' with
  | none => rfl
  | some q => simp
theorem rep_bad {α : Type} {p : Bs → Option (α × Bs)} {l l' : Bs} {N j : Nat} {L : List α} (hj : j < N) (h : rep p N l = (rep p (N - j) l').map (fun q => (L ++ q.1, q.2))) (hx : p l' = none) : rep p N l = none := by
  rw [h, show N - j = (N - (j + 1)) + 1 by omega, rep, hx]
  rfl
set_option maxHeartbeats 2000000 in
theorem list_p (r : Nat) {w : World} {s : Sl} {l : Bs} {k : Nat} (h : RdR w r s l k) (hl : l.length ≤ 100000000) :
    C.codec_list_api_Move (PK r) (.func (.func 49) #[.pointer (PK r)] #[]) w (fun v w' => ∃ (s' : Sl) (L : List S.api_Move) (k' : Nat), v = slv s' ∧ pMoves (l.drop k) = some (L, l.drop k') ∧ Go.Eng.Own w' w.heap.size 11 s' (L.flatMap mvC) ∧ RdR w' r s l k' ∧ Kp [r] w w') (fun c w' => pMoves (l.drop k) = none ∧ c = noneE ∧ Kp [r] w w') := codec_list_api_Move_of (by
  unfold W.codec_list_api_Move
  refine use2 (reader_number_p r w s l k h) ?_ (fun c w' ⟨h1, h2, h3⟩ => ⟨by simp [pMoves, pL, h1], h2, h3⟩)
  rintro _ w1 ⟨n, k1, e1, rfl, h1, m1⟩
  have hle1 := h1.le
  have hsz := h1.d.bsize
  have hdl : (l.drop k1).length = l.length - k1 := List.length_drop
  refine ⟨n, rfl, fun w' => (0 ≤ n ∧ n ≤ ((l.length - k1 : Nat) : Int)) ∧ Kp [] w1 w', fun w5 hD => ?_, ?_⟩
  · have h5 := h1.keep0 hD.kp
    refine cond_d (fun hc => ⟨?_, rfl, m1.then0 hD.kp⟩) (fun hc => ⟨s, ⟨rfl, h5.b.at rfl⟩, _, ⟨rfl, h5.b.at rfl⟩, ?_⟩)
    · simp only [pMoves, pL, e1, Option.bind_some]
      rw [if_pos (.inl hc)]
    have ew : IntKind.i64.wrap ((s.len : Int) - (k1 : Int)) = ((l.length - k1 : Nat) : Int) := by rw [IntKind.wrap_i64]; omega
    rw [ew]
    refine cond_d (fun hc2 => ⟨?_, rfl, m1.then0 hD.kp⟩) (fun hc2 => ⟨⟨by omega, by omega⟩, hD.kp⟩)
    simp only [pMoves, pL, e1, Option.bind_some]
    rw [if_pos (.inr (by rw [hdl]; exact hc2))]
  rintro e0 w10 ⟨⟨hn0, hn1⟩, k10⟩
  obtain ⟨N, rfl⟩ : ∃ N : Nat, n = N := ⟨n.toNat, by omega⟩
  have hp : pMoves (l.drop k) = rep pMove N (l.drop k1) := by
    simp only [pMoves, pL, e1, Option.bind_some]
    rw [if_neg (by rw [hdl]; omega), Int.toNat_natCast]
  rw [hp]
  refine ⟨fun v i w' => ∃ (j : Nat) (L : List S.api_Move) (k2 : Nat), i = j ∧ j ≤ N ∧ L.length = j ∧ Go.Eng.Own w' w.heap.size 11 v (L.flatMap mvC) ∧ RdR w' r s l k2 ∧ Kp [r] w w' ∧ rep pMove N (l.drop k1) = (rep pMove (N - j) (l.drop k2)).map (fun q => (L ++ q.1, q.2)), fun _ i _ => N - i.toNat, ⟨⟨none, 0, 0⟩, rfl, _, rfl, 0, [], k1, rfl, by omega, rfl, Go.Eng.Own.nil _ _ _, h1.keep0 k10, m1.then0 k10, by simp⟩, ?_⟩
  rintro e2 v _ w17 ⟨j, L, k2, rfl, hj, hLj, ho, h17, k17, hrep⟩
  refine cond_d (fun hc => ?_) (fun hc => ?_)
  · have hj2 : j < N := by omega
    rw [show IntKind.i64.wrap ((j : Int) + 1) = ((j + 1 : Nat) : Int) by rw [IntKind.wrap_i64]; omega]
    refine ⟨by kernel_rfl, use2 (reader_move_p r w17 s l k2 h17) ?_ (fun c w' ⟨g1, g2, g3⟩ => ⟨rep_bad hj2 hrep g1, g2, k17.then g3 (by simp)⟩)⟩
    rintro _ w18 ⟨x, k3, ex, rfl, h18, m18⟩
    have hlo := ho.lo
    have hr := h.b.lt
    have ho18 := ho.keep m18 (fun y hy => by have := hlo y hy; simp; omega)
    have s17 := k17.size
    have s18 := m18.size
    refine ⟨x, rfl, fun b21 w22 hA => ?_⟩
    obtain ⟨q, n, c, w26, hrun, ho26, k26, hq⟩ := app_move (ty := 61) ho18 (m := x) hA (by omega) (by omega)
    exact ⟨q, n, c, w26, hrun, ⟨q, n, c⟩, rfl, _, rfl, ⟨j + 1, L ++ [x], k3, rfl, by omega, by simp [hLj], ho26, h.fresh h18 k26 (fun y hy => (hlo y hy).1), (k17.then m18 (by simp)).then k26 (fun y hy => .inr (hlo y hy).1), rep_step hj2 hrep ex⟩, by simp only [Int.toNat_natCast]; omega⟩
  · have : j = N := by omega
    subst this
    rw [Nat.sub_self, rep] at hrep
    exact ⟨v, L, k2, rfl, by rw [hrep]; simp, ho, h17, k17⟩)
def pCnt (l : Bs) : Option (Int × Bs) := (num l).bind fun a => if a.1 < 0 ∨ (a.2.length : Int) < a.1 then none else some a
set_option maxHeartbeats 1000000 in
theorem R_Count_p (r : Nat) {w : World} {s : Sl} {l : Bs} {st : Option Nat} (h : RsR w r s l st) :
    C.skepref05_R_Count (PK r) w (fun v w' => ∃ x st', v = .int .i64 x ∧ Res pCnt l st x st' ∧ (st' = none → x = 0) ∧ RsR w' r s l st' ∧ Kp [r] w w') noP := skepref05_R_Count_of (by
  unfold W.skepref05_R_Count
  refine use (R_Number_p r w s l st h) ?_
  rintro _ w1 ⟨x, t1, rfl, e1, h1, m1⟩
  refine ⟨x, rfl, fun w4 hD => ?_⟩
  have h4 := h1.keep0 hD.kp
  have k4 := m1.then0 hD.kp
  obtain ⟨⟨at0, bad0, hB, hst⟩, hd, hn, hsm⟩ := h4
  have hsz := hd.bsize
  have nn : 0 < s.len → ∀ y ∈ blkOf s, y ∉ [r] := fun h0 y hy => by simp; intro e; exact hn h0 (e ▸ hy)
  have fail : (∀ k, st = some k → pCnt (l.drop k) = none) → (okVal false 1 (.bool true) = true ∧ canPut w4 ⟨r, 2, none⟩ (.bool true)) ∧ ∀ w6 : World, w6 = putAt w4 ⟨r, 2, none⟩ (.bool true) → ∃ y8 : Bool, (okVal false 1 (.bool y8) = true ∧ w6.cell? ⟨r, 2, none⟩ = some (.bool y8)) ∧ (cond y8 (∃ (x : Int) (st' : Option Nat), (.int .i64 0 : Value) = .int .i64 x ∧ Res pCnt l st x st' ∧ (st' = none → x = 0) ∧ RsR w6 r s l st' ∧ Kp [r] w w6) (∃ (x' : Int) (st' : Option Nat), (.int .i64 x : Value) = .int .i64 x' ∧ Res pCnt l st x' st' ∧ (st' = none → x' = 0) ∧ RsR w6 r s l st' ∧ Kp [r] w w6)) := fun hx => by
    refine ⟨⟨rfl, hB.can1 _ rfl (Nat.le_of_ble_eq_true rfl)⟩, fun w6 e6 => ?_⟩
    obtain ⟨g1, g2, g3⟩ := hB.put1 (i := 2) rfl e6
    exact ⟨true, ⟨rfl, g1.at rfl⟩, cond_t rfl ⟨0, none, rfl, .inr ⟨rfl, hx⟩, fun _ => rfl, ⟨⟨at0, true, g1, rfl⟩, Rds.keepZ hd g2 nn, hn, hsm⟩, k4.then g2 (by simp)⟩⟩
  rcases e1 with ⟨a, b, rfl, rfl, e1⟩ | ⟨rfl, e1⟩
  · obtain ⟨rfl, rfl, hb⟩ := hst
    have hdl : (l.drop b).length = l.length - b := List.length_drop
    have bad : (x < 0 ∨ ((l.length - b : Nat) : Int) < x) → ∀ k, some a = some k → pCnt (l.drop k) = none := fun hx k hk => by
      injection hk with hk
      subst hk
      simp only [pCnt, e1, Option.bind_some]
      rw [if_pos (by rw [hdl]; exact hx)]
    refine cond_d (fun hc => fail (bad (.inl hc))) (fun hc => ⟨s, ⟨rfl, hB.at rfl⟩, _, ⟨rfl, hB.at rfl⟩, ?_⟩)
    have ew : IntKind.i64.wrap ((s.len : Int) - (b : Int)) = ((l.length - b : Nat) : Int) := by rw [IntKind.wrap_i64]; omega
    rw [ew]
    refine cond_d (fun hc2 => fail (bad (.inr hc2))) (fun hc2 => ⟨false, ⟨rfl, hB.at rfl⟩, cond_f rfl ?_⟩)
    refine ⟨x, some b, rfl, .inl ⟨a, b, rfl, rfl, ?_⟩, (fun h => by cases h), ⟨⟨_, false, hB, rfl, rfl, hb⟩, hd, hn, hsm⟩, k4⟩
    simp only [pCnt, e1, Option.bind_some]
    rw [if_neg (by rw [hdl]; omega)]
  · subst hst
    have bad : ∀ k, st = some k → pCnt (l.drop k) = none := fun k hk => by simp [pCnt, e1 k hk]
    refine cond_d (fun hc => fail bad) (fun hc => ⟨s, ⟨rfl, hB.at rfl⟩, _, ⟨rfl, hB.at rfl⟩, cond_d (fun hc2 => fail bad) (fun hc2 => ⟨true, ⟨rfl, hB.at rfl⟩, cond_t rfl ?_⟩)⟩)
    exact ⟨0, none, rfl, .inr ⟨rfl, bad⟩, fun _ => rfl, ⟨⟨at0, true, hB, rfl⟩, hd, hn, hsm⟩, k4⟩)
theorem pL_cnt {α : Type} {p : Bs → Option (α × Bs)} (l : Bs) : pL p l = (pCnt l).bind fun a => rep p a.1.toNat a.2 := by
  unfold pL pCnt
  cases num l with
  | none => rfl
  | some a =>
    simp only [Option.bind_some]
    split <;> rfl
set_option maxHeartbeats 2000000 in
theorem R_moves_p (r : Nat) {w : World} {s : Sl} {l : Bs} {st : Option Nat} (h : RsR w r s l st) (hl : l.length ≤ 100000000) :
    C.skepref05_R_moves (PK r) w (fun v w' => ∃ (s' : Sl) (L : List S.api_Move) (st' : Option Nat), v = slv s' ∧ Res pMoves l st L st' ∧ Go.Eng.Own w' w.heap.size 11 s' (L.flatMap mvC) ∧ RsR w' r s l st' ∧ Kp [r] w w') noP := skepref05_R_moves_of (by
  unfold W.skepref05_R_moves
  refine use (R_Count_p r h) ?_
  rintro _ w1 ⟨n, t1, rfl, e1, hz, h1, m1⟩
  refine ⟨n, rfl, ?_⟩
  have hr := h.lt
  rcases e1 with ⟨a, b, rfl, rfl, e1⟩ | ⟨rfl, e1⟩
  · have hN : 0 ≤ n ∧ n ≤ ((l.drop b).length : Int) := by
      unfold pCnt at e1
      rw [Option.bind_eq_some_iff] at e1
      obtain ⟨q, g1, g2⟩ := e1
      split at g2
      · cases g2
      · injection g2 with g2
        subst g2
        dsimp only at *
        omega
    have hdl : (l.drop b).length = l.length - b := List.length_drop
    obtain ⟨N, rfl⟩ : ∃ N : Nat, n = N := ⟨n.toNat, by omega⟩
    have hp : pMoves (l.drop a) = rep pMove N (l.drop b) := by
      rw [pMoves, pL_cnt, e1, Option.bind_some, Int.toNat_natCast]
    refine ⟨fun v i w' => ∃ (j : Nat) (L : List S.api_Move) (t : Option Nat), i = j ∧ j ≤ N ∧ L.length = j ∧ Go.Eng.Own w' w.heap.size 11 v (L.flatMap mvC) ∧ RsR w' r s l t ∧ Kp [r] w w' ∧ ((t = none ∧ rep pMove N (l.drop b) = none) ∨ ∃ k2, t = some k2 ∧ rep pMove N (l.drop b) = (rep pMove (N - j) (l.drop k2)).map (fun q => (L ++ q.1, q.2))), fun _ i _ => N - i.toNat, ⟨⟨none, 0, 0⟩, rfl, _, rfl, 0, [], some b, rfl, by omega, rfl, Go.Eng.Own.nil _ _ _, h1, m1, .inr ⟨b, rfl, by simp⟩⟩, ?_⟩
    rintro e2 v _ w10 ⟨j, L, t, rfl, hj, hLj, ho, h10, k10, hrep⟩
    have fin0 : ((t = none ∧ rep pMove N (l.drop b) = none) ∨ j = N) → ∃ (s' : Sl) (L : List S.api_Move) (st' : Option Nat), slv v = slv s' ∧ Res pMoves l (some a) L st' ∧ Go.Eng.Own w10 w.heap.size 11 s' (L.flatMap mvC) ∧ RsR w10 r s l st' ∧ Kp [r] w w10 := fun hx => by
      refine ⟨v, L, t, rfl, ?_, ho, h10, k10⟩
      rcases hrep with ⟨rfl, g⟩ | ⟨k2, rfl, g⟩
      · exact .inr ⟨rfl, fun k hk => by injection hk with hk; subst hk; rw [hp, g]⟩
      · rcases hx with ⟨g2, _⟩ | rfl
        · cases g2
        · rw [Nat.sub_self, rep] at g
          exact .inl ⟨a, k2, rfl, rfl, by rw [hp, g]; simp⟩
    refine cond_d (fun hc => ?_) (fun hc => fin0 (.inr (by omega)))
    have hj2 : j < N := by omega
    rw [show IntKind.i64.wrap ((j : Int) + 1) = ((j + 1 : Nat) : Int) by rw [IntKind.wrap_i64]; omega]
    have h10' := h10
    obtain ⟨⟨at0, bad0, hB, hst⟩, _⟩ := h10
    refine ⟨bad0, ⟨rfl, hB.at rfl⟩, ?_⟩
    cases t with
    | none =>
      subst hst
      refine cond_f rfl (fin0 (.inl ⟨rfl, ?_⟩))
      rcases hrep with ⟨_, g⟩ | ⟨k2, g, _⟩
      · exact g
      · cases g
    | some k2 =>
      obtain ⟨rfl, rfl, hk2⟩ := hst
      have hrep2 : rep pMove N (l.drop b) = (rep pMove (N - j) (l.drop k2)).map (fun q => (L ++ q.1, q.2)) := by
        rcases hrep with ⟨g, _⟩ | ⟨k2', g, g2⟩
        · cases g
        · injection g with g; subst g; exact g2
      refine cond_t rfl (use (R_move_p r w10 s l (some k2) h10') ?_)
      rintro _ w13 ⟨x, t3, rfl, ex, h13, m13⟩
      have hlo := ho.lo
      have s10 := k10.size
      have ho13 := ho.keep m13 (fun y hy => by have := hlo y hy; simp; omega)
      have s13 := m13.size
      refine ⟨x, rfl, fun b16 w17 hA16 => ⟨⟨rfl, hA16.blk.canN _ (Nat.le_refl _)⟩, fun w18 e18 => ?_⟩⟩
      obtain ⟨g1, g2, _⟩ := hA16.blk.putAll (vs := (mvC x).toArray) rfl e18
      have s17 := hA16.eq
      have k18 : Kp [] w13 w18 := hA16.kp.then g2 (by simp; omega)
      refine ⟨x, ⟨rfl, g1.rd0⟩, fun b20 w21 hA20 => ?_⟩
      have s18 := k18.size
      obtain ⟨q, n, c, w25, hrun, ho25, k25, hq⟩ := app_move (ty := 61) (ho13.keep0 k18) (m := x) hA20 (by omega) (by omega)
      refine ⟨q, n, c, w25, hrun, ⟨q, n, c⟩, rfl, _, rfl, ⟨j + 1, L ++ [x], t3, rfl, by omega, by simp [hLj], ho25, h.fresh (h13.keep0 k18) k25 (fun y hy => (hlo y hy).1), ((k10.then m13 (by simp)).then0 k18).then k25 (fun y hy => .inr (hlo y hy).1), ?_⟩, by simp only [Int.toNat_natCast]; omega⟩
      rcases ex with ⟨c1, c2, g, rfl, ex⟩ | ⟨rfl, ex⟩
      · injection g with g
        subst g
        exact .inr ⟨c2, rfl, rep_step hj2 hrep2 ex⟩
      · exact .inl ⟨rfl, rep_bad hj2 hrep2 (ex k2 rfl)⟩
  · have := hz rfl
    subst this
    refine ⟨fun v i w' => i = 0 ∧ v = ⟨none, 0, 0⟩ ∧ w1 = w', fun _ _ _ => 0, ⟨⟨none, 0, 0⟩, rfl, _, rfl, rfl, rfl, rfl⟩, ?_⟩
    rintro e2 v _ _ ⟨rfl, rfl, rfl⟩
    refine cond_f rfl ⟨⟨none, 0, 0⟩, [], none, rfl, .inr ⟨rfl, fun k hk => ?_⟩, Go.Eng.Own.nil _ _ _, h1, m1⟩
    rw [pMoves, pL_cnt, e1 k hk]
    rfl)
end Go.Proofs.Ytocbjadhcfjfiaa
