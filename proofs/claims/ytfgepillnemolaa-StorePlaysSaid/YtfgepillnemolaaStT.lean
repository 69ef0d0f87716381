/- The law StoreOnce. No conditions. -/
import Derived.Test.YtfgepillnemolaaStS
namespace Go.Proofs.Ytfgepillnemolaa
open Go.RowKit Go.Eng
set_option linter.unusedVariables false
set_option linter.unusedSimpArgs false
def x1 (L : List Bs) : Lg := ⟨1, 0, [], L⟩
theorem ends_le : ∀ (s : Int) (L : List Bs), (∀ b ∈ L, b.length ≤ 500) → endL (numsL s L) ≤ 518 * L.length
  | _, [], _ => Nat.zero_le _
  | s, b :: r, h => by
    have h1 := ends_le (s + 1) r (fun x hx => h x (List.mem_cons_of_mem _ hx))
    have h2 := (ent_len (s + 1) b).2
    have h3 := h b (List.mem_cons_self ..)
    rw [numsL, endL, List.length_cons]
    omega
theorem x1_end {L : List Bs} (h : ∀ b ∈ L, b.length ≤ 500) : endL (x1 L).recs ≤ 10 + 518 * L.length := by
  have := ends_le 0 L h
  have e : endL [hdB 1 0 []] = 10 := by decide
  have e2 : (x1 L).recs = [hdB 1 0 []] ++ numsL 0 L := rfl
  rw [e2, endL_app, e]
  omega
theorem take_snoc (L : List Bs) {k : Nat} (h : k < L.length) : L.take (k + 1) = L.take k ++ [L[k]] := by rw [List.take_add_one, List.getElem?_eq_getElem h]; rfl
set_option maxHeartbeats 4000000 in
set_option maxRecDepth 20000 in
theorem StoreOnce_s (l again : Sl) {L : List Bs} {A : List Int} (w : World) (hl : RL w l L) (ha : RdL w 1 (Value.int .i64) again A) (hA : ∀ x ∈ A, in64 x) : C.skeplaw06_StoreOnce l again w (fun v w' => v = .bool true ∧ Kp [] w w') noP := skeplaw06_StoreOnce_of (by
  unfold W.skeplaw06_StoreOnce
  have hll := hl.len
  have hal := ha.len
  refine use (New_g w w (Kp.refl _ _)) ?_
  rintro _ w1 ⟨d, rfl, hD, k1⟩
  refine ⟨PD d, rfl, use (Start_k hD) ?_⟩
  rintro _ w4 ⟨st, q1, q2, G, rfl, hS, k4, -, hst, h1, h2⟩
  refine ⟨(PD st, q1, q2, 0), rfl, cond_f rfl (cond_f rfl ?_)⟩
  refine ⟨fun v w' => ∃ k : Nat, v = k ∧ k ≤ 20 ∧ k ≤ L.length ∧ (∀ b ∈ L.take k, b.length ≤ 500) ∧ SK w w' G st d 0 (x1 (L.take k)) 0, ?_, ?_⟩
  · refine ⟨fun v i w' => ∃ k : Nat, v = k ∧ i = k ∧ k ≤ 20 ∧ k ≤ L.length ∧ (∀ b ∈ L.take k, b.length ≤ 500) ∧ SK w w' G st d 0 (x1 (L.take k)) 0, fun _ i _ => L.length - i.toNat, ⟨_, rfl, _, rfl, 0, rfl, rfl, by omega, by omega, by simp, hS⟩, ?_⟩
    rintro ev _ _ w14 ⟨k, rfl, rfl, hk20, hkL, hsm, hK⟩
    refine cond_d (fun c1 => cond_d (fun c2 => ?_) (fun c2 => ⟨_, rfl, k, rfl, hk20, hkL, hsm, hK⟩)) (fun c1 => ⟨_, rfl, k, rfl, hk20, hkL, hsm, hK⟩)
    have hk2 : k < L.length := by omega
    obtain ⟨a, x, ea, hx, hxb⟩ := (hl.keep0 hK.kp).get hk2
    have hxl := hxb.bsize
    rw [Int.toNat_natCast, wr1 k (by omega)]
    refine ⟨⟨by omega, c1⟩, ws ea ⟨x, ⟨rfl, hx⟩, cond_d (fun c3 => aw6 hK.kp) (fun c3 => ⟨⟨by omega, c1⟩, ws ea ⟨x, ⟨rfl, hx⟩, use (CopyBytes_s x hxb (by omega)) ?_⟩⟩)⟩⟩
    rintro _ w22 ⟨p, rfl, hp, k22⟩
    have hend := x1_end hsm
    have htl : (L.take k).length = k := by rw [List.length_take]; omega
    refine ⟨p, rfl, use ((hK.keep k22).app (by simp [x1, htl]) hp.rds (by omega) (by simp [x1, htl]; omega) (by omega)) ?_⟩
    rintro _ w25 ⟨rfl, hK2, k25⟩
    refine ⟨_, rfl, cond_f rfl ⟨_, rfl, _, rfl, ⟨k + 1, rfl, rfl, by omega, hk2, ?_, ?_⟩, by simp only [Int.toNat_natCast]; omega⟩⟩
    · rw [take_snoc L hk2]
      intro b hb
      rcases List.mem_append.1 hb with hb | hb
      · exact hsm b hb
      · simp at hb; rw [hb]; omega
    · rw [take_snoc L hk2]
      exact hK2
  rintro ev _ w33 ⟨n, rfl, hn20, hnL, hsm, hK⟩
  have hend := x1_end hsm
  have htl : (L.take n).length = n := by rw [List.length_take]; omega
  obtain ⟨X, hX⟩ : ∃ X, x1 (L.take n) = X := ⟨_, rfl⟩
  have hXs : X.s + X.es.length = n := by rw [← hX]; simp [x1, htl]
  rw [hX] at hK hend
  have hn1 := wr1 n (by omega)
  refine use (hK.read (f := 0)) ?_
  rintro _ w34 ⟨r, rfl, ho, k34⟩
  refine ⟨r, rfl, str _, ho.rds.str, fun w' => SK w w' G st d 0 X 0, ?_, ?_⟩
  · refine ⟨fun v w' => ∃ i : Nat, v = i ∧ i ≤ A.length ∧ i ≤ 20 ∧ SK w w' G st d 0 X 0, fun v _ => A.length - v.toNat, ⟨_, rfl, 0, rfl, by omega, by omega, hK.keep k34⟩, ?_⟩
    rintro ev2 _ w43 ⟨i, rfl, hiA, hi20, hK⟩
    refine cond_d (fun c1 => cond_d (fun c2 => ?_) (fun c2 => hK)) (fun c1 => hK)
    have hi2 : i < A.length := by omega
    obtain ⟨a, ea, hx⟩ := (ha.keep0 hK.kp).get hi2
    have hx' := rd_leaf hx rfl
    obtain ⟨y, hy⟩ : ∃ y, A[i] = y := ⟨_, rfl⟩
    have hy64 := hA _ (List.getElem_mem hi2)
    rw [hy] at hx' hy64
    rw [Int.toNat_natCast, wr1 i (by omega), hn1]
    refine ⟨⟨by omega, c1⟩, ws ea ⟨y, ⟨rfl, hx'⟩, fun b46 w47 hA46 w48 hM => ?_⟩⟩
    have k48 := alloc_marked hA46 hM
    have hb : RdB w48 ⟨some ⟨b46, 0, none⟩, 9, 9⟩ [111, 110, 99, 101, 32, 109, 111, 114, 101] := Blk.rdb (hM.blk hA46.blk) rfl 9 9 rfl
    have hK48 := hK.keep k48
    by_cases hyn : y = X.s + X.es.length + 1
    · -- the next one
      refine use (hK48.app hyn hb (by decide) (by omega) (by omega)) ?_
      rintro _ w49 ⟨rfl, hK2, k49⟩
      have kk := hK2.kp
      obtain ⟨a', ea', hx2⟩ := (ha.keep0 kk).get hi2
      rw [hy] at hx2
      have hx2' := rd_leaf hx2 rfl
      refine ⟨0, rfl, ⟨by omega, c1⟩, ws ea' ⟨y, ⟨rfl, hx2'⟩, cond_d (fun c3 => ⟨⟨by omega, c1⟩, ws ea' ⟨y, ⟨rfl, hx2'⟩, cond_d (fun c4 => absurd c4 (by omega)) (fun c4 => ⟨⟨by omega, c1⟩, ws ea' ⟨y, ⟨rfl, hx2'⟩, cond_n (fun c5 => absurd (by omega) c5) (fun c5 => ⟨⟨by omega, c1⟩, ws ea' ⟨y, ⟨rfl, hx2'⟩, cond_t (beq_t (by omega)) (aw6 kk)⟩⟩)⟩⟩)⟩⟩) (fun c3 => absurd (by omega) c3)⟩⟩
    · refine use (hK48.noapp hy64 hyn hb (by decide) (by omega)) ?_
      rintro _ w49 ⟨rfl, hK2, k49⟩
      have kk := hK2.kp
      obtain ⟨a', ea', hx2⟩ := (ha.keep0 kk).get hi2
      rw [hy] at hx2
      have hx2' := rd_leaf hx2 rfl
      have nxt : ∃ i' : Nat, ((i + 1 : Nat) : Int) = i' ∧ i' ≤ A.length ∧ i' ≤ 20 ∧ SK w w49 G st d 0 X 0 := ⟨i + 1, rfl, hi2, by omega, hK2⟩
      have dec : A.length - ((i + 1 : Nat) : Int).toNat < A.length - (i : Int).toNat := by simp only [Int.toNat_natCast]; omega
      refine ⟨_, rfl, ⟨by omega, c1⟩, ws ea' ⟨y, ⟨rfl, hx2'⟩, cond_d (fun c3 => ⟨⟨by omega, c1⟩, ws ea' ⟨y, ⟨rfl, hx2'⟩, cond_d (fun c4 => ?_) (fun c4 => ⟨⟨by omega, c1⟩, ws ea' ⟨y, ⟨rfl, hx2'⟩, cond_n (fun c5 => ?_) (fun c5 => absurd (by omega) hyn)⟩⟩)⟩⟩) (fun c3 => ⟨⟨by omega, c1⟩, ws ea' ⟨y, ⟨rfl, hx2'⟩, cond_n (fun c5 => ?_) (fun c5 => absurd (by omega) hyn)⟩⟩)⟩⟩
      · rw [if_pos ⟨by omega, by omega⟩]
        exact cond_f rfl ⟨_, rfl, nxt, dec⟩
      · rw [if_neg (by omega)]
        exact cond_f rfl ⟨⟨by omega, c1⟩, ws ea' ⟨y, ⟨rfl, hx2'⟩, cond_e (fun c6 => absurd c6 c5) (fun _ => ⟨_, rfl, nxt, dec⟩)⟩⟩
      · rw [if_neg (by omega)]
        exact cond_f rfl ⟨⟨by omega, c1⟩, ws ea' ⟨y, ⟨rfl, hx2'⟩, cond_e (fun c6 => absurd c6 c5) (fun _ => ⟨_, rfl, nxt, dec⟩)⟩⟩
  rintro ev3 w85 hK
  refine use (hK.read (f := 0)) ?_
  rintro _ w86 ⟨r2, rfl, ho2, k86⟩
  refine ⟨r2, rfl, str _, ho2.rds.str, cond_t (by rw [strEq_str]; simp) ?_⟩
  refine use (hK.keep k86).last ?_
  rintro _ _ ⟨rfl, rfl⟩
  exact ⟨_, rfl, cond_t (beq_t hXs) (aw6 (hK.keep k86).kp)⟩)
theorem rdl_of_rd {w : World} {a : Option Addr} {l : List Int} (h : Rd .i64 w a l) (c : Nat) : RdL w 1 (Value.int .i64) ⟨a, l.length, c⟩ l ∧ ∀ x ∈ l, in64 x := by
  refine ⟨⟨rfl, fun i x hx => ?_⟩, fun x hx => wf64 (h.wf x hx)⟩
  have hi : i < l.length := (List.getElem?_eq_some_iff.1 hx).1
  obtain ⟨ad, e, hc⟩ := h.get i hi
  refine ⟨ad, e, ?_⟩
  rw [Nat.mul_one]
  refine leaf_rd (v := .int .i64 x) ?_ rfl
  rw [hc]
  congr 2
  rw [Go.Proofs.Ytfgepillnemolaa.rd, List.getD_eq_getElem?_getD, hx]
  rfl
theorem StoreOnce_walk (s : Sl) (L : List (List Int)) (a : Option Addr) (c : Nat) (l : List Int) (w : World) (_ : s.len ≤ s.cap ∧ s.cap ≤ maxLen) (h : IsL w 1 (fun s : Sl => Value.slice s.a s.len s.cap) (fun s L => RdL w 1 (Value.int .u8) s L) s L) (hq : ∀ x ∈ L, ∀ y ∈ x, in8 y) (h2 : Rd .i64 w a l) (_ : l.length ≤ c) :
    Calls Try.prog 3 #[.slice s.a s.len s.cap, .slice a l.length c] w fun e w' => e = .returned (.bool true) ∧ Below w.heap.size w w' := ret_true (StoreOnce_s s ⟨a, l.length, c⟩ w (rl_of_isL h hq) (rdl_of_rd h2 c).1 (rdl_of_rd h2 c).2)
end Go.Proofs.Ytfgepillnemolaa
