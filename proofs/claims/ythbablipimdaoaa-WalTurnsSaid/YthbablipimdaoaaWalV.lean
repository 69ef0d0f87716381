/- The law WalTurns, walked. No conditions. -/
import Derived.Test.YthbablipimdaoaaWalU
namespace Go.Proofs.Ythbablipimdaoaa
open Go.RowKit Go.Eng
set_option linter.unusedVariables false
theorem int_info : (Try.prog.info? 3).map (fun i => (i.zero, i.size, i.bytes)) = some (some (.int .i64 0), 1, 8) := by kernel_rfl
abbrev iv (L : List Int) : List Value := L.map (Value.int .i64)
theorem app_ints {ty : TypeId} {w : World} {B b : Nat} {s : Sl} {L : List Int} {v : Int} {w1 : World} (ho : Go.Eng.Own w B 1 s (iv L)) (hA : Alloc w b 3 [.int .i64 v] w1) (hB : B ≤ w.heap.size) (hb : L.length ≤ 1000000000) :
    ∃ q n c w2, (Builtin.append_ #[48, 48] ty #[.slice s.a s.len s.cap, .slice (some ⟨b, 0, none⟩) 1 1]).run Try.prog w1 = .ok (.slice q n c) w2 ∧ n = s.len + 1 ∧ Go.Eng.Own w2 B 1 ⟨q, n, c⟩ (iv (L ++ [v])) ∧ Kp (blkOf s) w w2 ∧ ∀ y ∈ blkOf ⟨q, n, c⟩, y ∈ blkOf s ∨ w.heap.size ≤ y := by
  have h1 := ho.len
  rw [List.length_map] at h1
  have s1 := hA.eq
  obtain ⟨q, n, c, w2, hrun, hn, ho1, k1, hq⟩ := app_any (ty := ty) Try.underlying48 int_info rfl (by decide) (ho.keep0 hA.kp) (show Rds w1 1 ⟨some ⟨b, 0, none⟩, 1, 1⟩ [.int .i64 v] from ⟨rfl, fun _ => ⟨_, rfl, hA.blk.has 0 _ (fun i u hi => by rw [Nat.zero_add]; exact hi)⟩⟩) (fun u hu => by simp at hu; subst hu; rfl) (by omega) (by dsimp only; omega) (by dsimp only; omega)
  have e : iv L ++ [.int .i64 v] = iv (L ++ [v]) := by simp [iv]
  rw [e] at ho1
  refine ⟨q, n, c, w2, hrun, hn, ho1, (hA.kp.up _).then k1 (fun y hy => .inl hy), fun y hy => ?_⟩
  rcases hq with e | ⟨hf, _⟩
  · left; unfold blkOf at hy ⊢; rw [e] at hy; exact hy
  · exact .inr (by have := hf y hy; omega)
theorem iv_get {w : World} {s : Sl} {L : List Int} (h : Rds w 1 s (iv L)) {i : Nat} (hi : i < L.length) : ∃ a, s.a = some a ∧ w.cell? (a.add (i * 1)) = some (.int .i64 L[i]) := by
  have hl := h.len
  rw [List.length_map] at hl
  obtain ⟨a, ha, hh⟩ := h.has (by omega)
  refine ⟨a, ha, ?_⟩
  rw [Nat.mul_one]
  exact hh i _ (by rw [List.getElem?_map, List.getElem?_eq_getElem hi]; rfl)
/-- Where the records end. -/
def ends (A : List Bs) (k : Nat) : List Int := (List.range (k + 1)).map fun i => ((endL (A.take i) : Nat) : Int)
theorem ends_len (A : List Bs) (k : Nat) : (ends A k).length = k + 1 := by simp [ends]
theorem ends_get (A : List Bs) (k i : Nat) (h : i < (ends A k).length) : (ends A k)[i] = ((endL (A.take i) : Nat) : Int) := by simp [ends]
theorem ends_snoc (A : List Bs) (k : Nat) : ends A k ++ [((endL (A.take (k + 1)) : Nat) : Int)] = ends A (k + 1) := by
  unfold ends
  rw [List.range_succ (n := k + 1), List.map_append]
  rfl
set_option maxHeartbeats 4000000 in
set_option maxRecDepth 20000 in
theorem WalTurns_s (l : Sl) (at_ by_ : Int) {L : List Bs} (w : World) (hl : RL w l L) (hby : in8 by_) : C.skeplaw04_WalTurns l at_ by_ w (fun v w' => v = .bool true ∧ Kp [] w w') noP := skeplaw04_WalTurns_of (by
  unfold W.skeplaw04_WalTurns
  refine use (say_sc l hl) ?_
  rintro _ w1 ⟨q, rfl, hq, k1, hqc⟩
  obtain ⟨A, hA⟩ : ∃ A, sayL L = A := ⟨_, rfl⟩
  have hAok := sayL_okR L
  have hAe := endL_say L
  have hAe' := endL_say' L
  have hAl := sayL_len L
  rw [hA] at hq hAok hAe hAe' hAl
  have hql := hq.len
  refine ⟨q, rfl, ?_⟩
  refine use (New_g w1 w1 (Kp.refl _ _)) ?_
  rintro _ w4 ⟨d, rfl, hD, k4⟩
  refine ⟨PD d, rfl, ?_⟩
  refine use (Start_s (f := 0) (by omega) hD) ?_
  rintro _ w7 ⟨lg, q0, G, rfl, hW, -⟩
  refine ⟨(PD lg, q0, 0), rfl, cond_f rfl (cond_f rfl fun b10 w11 h10 => ?_)⟩
  have s7 := hW.dg.kp.size
  have s11 := h10.eq
  have hlg := hW.dg.lt lg hW.g
  have ho0 : Go.Eng.Own w11 w1.heap.size 1 ⟨some ⟨b10, 0, none⟩, 1, 1⟩ (iv (ends A 0)) := Go.Eng.Own.fresh (n := 1) (c := 1) h10 (by omega) (Nat.le_refl _) rfl
  have hW0 : LW w1 w11 (fun x => G x ∨ New w7 w11 x) lg d 0 m00 := ⟨hW.dg.grow h10.kp, hW.li.keep h10.kp, .inl hW.g⟩
  refine ⟨fun s v w' => ∃ (k : Nat) (G : Nat → Prop), v = k ∧ k ≤ A.length ∧ LW w1 w' G lg d 0 (mAdd m00 0 (A.take k)) ∧ Go.Eng.Own w' w1.heap.size 1 s (iv (ends A k)) ∧ lg ∉ blkOf s ∧ ∀ y ∈ blkOf s, G y, fun _ v _ => A.length - v.toNat,
    ⟨_, rfl, _, rfl, 0, _, rfl, by omega, by rw [List.take_zero, mAdd_nil]; exact hW0, ho0, by simp [blkOf]; omega, fun y hy => by simp [blkOf] at hy; subst hy; exact .inr ⟨by omega, by omega⟩⟩, fun e0 s v w18 hI => ?_⟩
  clear hW hW0 ho0
  obtain ⟨k, G, rfl, hk, hW, ho, hns, hsG⟩ := hI
  have hu : uK (mAdd m00 0 (A.take k)) := fun i hi => Nat.le_trans (mAdd_units m00 0 _ i) (by have := hAe k; simp [m00, unitsL]; omega)
  have hnow : ∀ k, (mAdd m00 0 (A.take k) 0).now = flatR (A.take k) := fun k => by rw [mAdd_now]; rfl
  refine cond_d (fun c1 => ?_) (fun c1 => ?_)
  · obtain ⟨a, x, ea, hx, hxb⟩ := (hq.keep0 hW.dg.kp).get (i := k) (by omega)
    have hsok := hAok A[k] (List.getElem_mem _)
    rw [ea, Int.toNat_natCast, wlk k (by omega)]
    refine ⟨⟨by omega, c1⟩, x, ⟨rfl, hx⟩, ?_⟩
    refine use (CopyBytes_s x hxb (by have := hsok.2; omega)) ?_
    rintro _ w20 ⟨p, rfl, hp, k20⟩
    refine ⟨p, rfl, ?_⟩
    have := hAe k
    refine use ((hW.keep k20).add (by omega) hp.rds hsok (by have := hsok.2; simp [m00]; omega) hu) ?_
    rintro _ w24 ⟨rfl, hW2, k24⟩
    rw [← take_snoc A (by omega)] at hW2
    refine ⟨_, rfl, cond_f rfl ?_⟩
    refine use (LSize_g hW2.dg hW2.li) ?_
    rintro _ w27 ⟨rfl, k27⟩
    rw [readF_i _ (by omega), hnow, flatR_len]
    replace hW2 := hW2.keep k27
    have ho2 := ((ho.keep0 k20).keepF k24 (fun y hy hn => hn (hsG y hy))).keep0 k27
    have hslo := ho2.lo
    refine ⟨_, rfl, fun b30 w31 h30 => ?_⟩
    have s31 := h30.eq
    have s27 := hW2.dg.kp.size
    obtain ⟨q32, n33, c34, w35, hrun, hn33, ho3, k35, hqb⟩ := app_ints (ty := 48) ho2 h30 (by omega) (by rw [ends_len]; omega)
    rw [ends_snoc] at ho3
    have hlo3 := ho3.lo
    have hlg2 := hW2.dg.lt lg hW2.g
    refine ⟨q32, n33, c34, w35, hrun, ⟨q32, n33, c34⟩, rfl, _, rfl, ⟨k + 1, _, rfl, by omega, ⟨hW2.dg.wgrow k35 (fun y hy => ⟨hsG y hy, (hslo y hy).1⟩), hW2.li.keep2 k35 hns, .inl hW2.g⟩, ho3, fun h => ?_, fun y hy => ?_⟩, by simp only [Int.toNat_natCast]; omega⟩
    · rcases hqb lg h with h | h
      · exact hns h
      · omega
    · rcases hqb y hy with h | h
      · exact .inl (hsG y h)
      · exact .inr ⟨h, (hlo3 y hy).2⟩
  have hke : k = A.length := by omega
  subst hke
  have kk : Kp [] w w18 := k1.then0 hW.dg.kp
  refine cond_e (fun _ => awk kk) (fun h0 => cond_e (fun _ => awk kk) (fun hb0 => ?_))
  refine use (Read_g ((0 : Nat) : Int) hW.dg) ?_
  rintro _ w44 ⟨r, rfl, hr, k44⟩
  rw [readF_i _ (by omega), hnow, List.take_length] at hr
  have hrl := hr.rds.bsize
  rw [flatR_len] at hrl
  refine ⟨r, rfl, ?_⟩
  have hpos : 0 < endL A := by
    cases hAc : A with
    | nil => rw [hAc] at hql; simp at hql; omega
    | cons s r => simp only [endL]; omega
  refine use (Place_s at_ (r.len : Int) w44 (by omega) (by omega)) ?_
  rintro _ _ ⟨rfl, rfl⟩
  obtain ⟨K, hK, hKl⟩ : ∃ K : Nat, at_ % (r.len : Int) = K ∧ K < r.len := ⟨(at_ % (r.len : Int)).toNat, by have := Int.emod_nonneg at_ (show (r.len : Int) ≠ 0 by omega); omega, by have := Int.emod_lt_of_pos at_ (show 0 < (r.len : Int) by omega); omega⟩
  rw [hK]
  refine ⟨_, rfl, ?_⟩
  have ho44 := ho.keep0 k44
  have hol := ho44.rds.len
  rw [List.length_map, ends_len] at hol
  have kk44 := kk.then0 k44
  refine ⟨fun v w' => ∃ n : Nat, v = n ∧ n < A.length ∧ endL (A.take n) ≤ K ∧ w44 = w', fun v _ => A.length - v.toNat, ⟨_, rfl, 0, rfl, by omega, by simp [endL], rfl⟩, fun e0 v w54 hI => ?_⟩
  obtain ⟨n, rfl, hn, hle, rfl⟩ := hI
  obtain ⟨a, ea, hc1⟩ := iv_get ho44.rds (i := n + 1) (by rw [ends_len]; omega)
  obtain ⟨a', ea', hc0⟩ := iv_get ho44.rds (i := n) (by rw [ends_len]; omega)
  rw [ea] at ea'
  injection ea' with ea'
  subst ea'
  rw [ends_get] at hc1 hc0
  rw [ea, wlk n (by omega)]
  simp only [Int.toNat_natCast]
  refine ⟨⟨by omega, by omega⟩, _, ⟨rfl, hc1⟩, cond_d (fun h2 => ⟨_, rfl, ⟨n + 1, rfl, ?_, by omega, by trivial⟩, by simp only [Int.toNat_natCast]; omega⟩) (fun h2 => ⟨⟨by omega, by omega⟩, _, ⟨by trivial, hc0⟩, ?_⟩)⟩
  · by_cases h3 : n + 1 = A.length
    · rw [h3, List.take_length] at h2
      omega
    · omega
  have hwk : IntKind.i64.wrap ((K : Int) - ((endL (A.take n) : Nat) : Int)) = ((K - endL (A.take n) : Nat) : Int) := by rw [IntKind.wrap_i64]; omega
  rw [hwk]
  refine cond_d (fun _ => awk kk44) (fun h4 => ?_)
  have hKf : K < (flatR A).length := by rw [flatR_len]; omega
  obtain ⟨ar, ear, hcr⟩ := hr.rds.byte hKf
  obtain ⟨c, hc⟩ : ∃ c, u8of (xorI .u8 ((flatR A)[K].toNat : Int) by_) = c := ⟨_, rfl⟩
  obtain ⟨ar', ear', hcan, hput⟩ := hr.bset hKf c
  rw [ear] at ear'
  injection ear' with ear'
  subst ear'
  have hcv : vb c = .int .u8 (xorI .u8 ((flatR A)[K].toNat : Int) by_) := by rw [← hc]; exact u8of_val (xor_in8' _ _)
  rw [hcv] at hcan hput
  have hcne : c ≠ (flatR A)[K] := by
    intro e
    have h1 : vb c = vb (flatR A)[K] := by rw [e]
    rw [hcv] at h1
    have hlt := (flatR A)[K].toNat_lt
    injection h1 with _ h1
    exact xor_ne ⟨by omega, by omega⟩ hby hb0 h1
  rw [ear]
  refine ⟨⟨by omega, by omega⟩, _, ⟨by trivial, hcr⟩, ⟨by omega, by omega⟩, ⟨by trivial, hcan⟩, fun w66 e66 => ?_⟩
  obtain ⟨hr2, k66, s66⟩ := hput w66 e66
  have hrlo := hr.lo
  have s18 := hW.dg.kp.size
  have k166 : Kp [] w1 w66 := (hW.dg.kp.then0 k44).then k66 (fun y hy => .inr (by have := hrlo y hy; omega))
  have hslo := ho.lo
  have ho66 := ho44.keep k66 (fun y hy h => by have := hrlo y h; have := hslo y hy; omega)
  refine use (New_g2 w1 w66 k166) ?_
  rintro _ w67 ⟨x, rfl, hX, k67⟩
  refine ⟨PD x, rfl, ?_⟩
  obtain ⟨b', hb'⟩ : ∃ b', (flatR A).set K c = b' := ⟨_, rfl⟩
  have hb'l : b'.length = endL A := by rw [← hb', List.length_set, flatR_len]
  have hrec : recs b' = A.take n := by rw [← hb']; exact recs_turned hAok hn (by omega) (by omega) hKf hcne
  rw [hb'] at hr2
  refine use (Append_g ((0 : Nat) : Int) hX (hr2.rds.keep0 k67) u00) ?_
  rintro _ w70 ⟨rfl, hX1, k70⟩
  rw [appMf_i _ (by omega), appF_fits (by simp [m00]; omega)] at hX1
  refine ⟨_, rfl, ?_⟩
  generalize hm : fup m00 0 _ = m at hX1
  have em : (m 0).now = b' := by rw [← hm, fup_same]; rfl
  have hmu : uK m := fun i hi => by
    have h01 : i = 0 ∨ i = 1 := by omega
    rw [← hm]
    rcases h01 with rfl | rfl
    · rw [fup_same]; dsimp only; rw [unitsL_app, units_one]; simp [m00, unitsL]; omega
    · exact Nat.zero_le _
  clear hm
  refine use (Open_g (f := 0) (by omega) hX1 hmu) ?_
  rintro _ w73 ⟨lg2, q2, G2, rfl, hX2, k73, hGG, hLg2, hg2, hS2, hSG2⟩
  rw [em, hrec] at hS2
  have hn2 : (openM m 0 0).now = flatR (A.take n) := by rw [openM_now m (by omega), em, hrec]
  refine ⟨(PD lg2, q2, 0), rfl, fun w76 hDr => cond_t rfl ?_⟩
  replace hX2 := hX2.keep hDr.kp
  have hR2 := (tagL_rl hS2).keep0 hDr.kp
  have hR2l := hR2.len
  rw [List.length_take] at hR2l
  have hq76 := hq.keep0 hX2.kp
  dsimp only
  refine cond_t (by simp; omega) ⟨⟨by omega, by omega⟩, ?_⟩
  simp only [Int.toNat_natCast, ite_same, Nat.sub_zero]
  refine use (lsame_s q2 ⟨q.a, n, q.cap⟩ hR2 (hq76.take (n := n) (by omega) _) (by rw [List.length_take]; omega)) ?_
  rintro _ w77 ⟨rfl, k77⟩
  replace hX2 := hX2.keep k77
  have ho77 := (((((ho66.keep0 k67).keepF k70 (fun y hy hn => hn (by have := hslo y hy; have := k44.size; omega))).keepF k73 (fun y hy hn => hn (by have := hslo y hy; have := k44.size; omega))).keep0 hDr.kp).keep0 k77)
  obtain ⟨a2, ea2, hc2⟩ := iv_get ho77.rds (i := n) (by rw [ends_len]; omega)
  rw [ea] at ea2
  injection ea2 with ea2
  subst ea2
  rw [ends_get] at hc2
  refine ⟨_, rfl, cond_t (by simp) ⟨⟨by omega, by omega⟩, _, ⟨by trivial, hc2⟩, ?_⟩⟩
  refine use (Size_g ((0 : Nat) : Int) hX2) ?_
  rintro _ _ ⟨rfl, rfl⟩
  rw [readF_i _ (by omega), hn2, flatR_len]
  exact ⟨_, rfl, hc2, cond_t (by simp) (awk (k1.then0 hX2.kp))⟩)
theorem WalTurns_walk (s : Sl) (L : List (List Int)) (at_ by_ : Int) (w : World) (_ : s.len ≤ s.cap ∧ s.cap ≤ maxLen) (h : IsL w 1 (fun s : Sl => Value.slice s.a s.len s.cap) (fun s L => RdL w 1 (Value.int .u8) s L) s L) (hq : ∀ x ∈ L, ∀ y ∈ x, in8 y) (_ : (Lit.int .i64 at_).wf = true) (hb : (Lit.int .u8 by_).wf = true) :
    Calls Try.prog 5 #[.slice s.a s.len s.cap, .int .i64 at_, .int .u8 by_] w fun e w' => e = .returned (.bool true) ∧ Below w.heap.size w w' := ret_true (WalTurns_s s at_ by_ w (rl_of_isL h hq) (wf8 hb))
end Go.Proofs.Ythbablipimdaoaa
