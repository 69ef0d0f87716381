/- The law StoreSmall. No conditions. -/
import Derived.Test.YtfgepillnemolaaStT
import Derived.Test.YtfgepillnemolaaWal2
namespace Go.Proofs.Ytfgepillnemolaa
open Go.RowKit Go.Eng
set_option linter.unusedVariables false
set_option linter.unusedSimpArgs false
theorem made_cells (n : Nat) : (madeCells #[.int .u8 0] (n * 1)).toList = bv (List.replicate n 0) := by
  apply List.ext_getElem
  · simp [madeCells, bv]
  · intro i h1 h2
    simp [madeCells, bv, vb, Nat.mod_one]
theorem SK.checkbig {w0 w : World} {G : Nat → Prop} {st d f j : Nat} {x : Lg} (h : SK w0 w G st d f x j) {p : Sl} {b : Bs} (hp : RdB w p b) (hb : 65536 ≤ b.length ∧ b.length ≤ 70000) (hg : 0 ≤ x.g ∧ x.g ≤ 1000000000) (hs : x.s + x.es.length ≤ 1000000000) (hfit : endL x.recs ≤ 16777216) :
    C.store_Store_Check (PD st) p w (fun v w' => v = .int .i64 1 ∧ SK w0 w' G st d f x j ∧ KS G st w w') noP := by
  obtain ⟨m, L, h1, h2⟩ := h.ex
  have h3 := h2.s0
  have p1 := putN_len (x.g + 1)
  have e := h2.big b (by simp only [hdB, List.length_append]; omega)
  refine use (SCheck_s h1 hp (by omega) ⟨by show -9223372036854775808 ≤ x.g + 1; omega, by show x.g + 1 ≤ 9223372036854775807; omega⟩ ⟨by show -9223372036854775808 ≤ x.s + x.es.length; omega, by show x.s + x.es.length ≤ 9223372036854775807; omega⟩ (fun i hi => by have := h2.units i hi; omega)) ?_
  rintro _ w1 ⟨rfl, hw, k1⟩
  rw [e] at hw ⊢
  exact ⟨rfl, ⟨m, L, hw, h2⟩, k1⟩
theorem SK.appbig {w0 w : World} {G : Nat → Prop} {st d f j : Nat} {x : Lg} (h : SK w0 w G st d f x j) {n : Int} (hn : n = x.s + x.es.length + 1) {p : Sl} {b : Bs} (hp : RdB w p b) (hb : 65536 ≤ b.length ∧ b.length ≤ 70000) (hs : x.s + x.es.length ≤ 1000000000) (hfit : endL x.recs ≤ 16777216) :
    C.store_Store_Append (PD st) n p w (fun v w' => v = .int .i64 1 ∧ SK w0 w' G st d f x j ∧ KS G st w w') noP := by
  subst hn
  obtain ⟨m, L, h1, h2⟩ := h.ex
  have h3 := h2.s0
  have h4 := ent_len (x.s + x.es.length + 1) b
  have hno : ¬ okR (entB (x.s + x.es.length + 1) b) := fun hk => by have := hk.2; omega
  have e : appS (smOf f x) m (x.s + x.es.length + 1) b = (1, smOf f x, m) := by
    unfold appS smOf logE logM
    dsimp only
    rw [if_neg (by omega), if_neg (by omega), if_neg hno, if_neg hno, if_neg (by omega)]
  refine use (SAppend_s h1 (x.s + x.es.length + 1) ⟨by omega, by omega⟩ hp (by omega) (fun i hi => by have := h2.units i hi; omega)) ?_
  rintro _ w1 ⟨rfl, hw, k1⟩
  rw [e] at hw ⊢
  exact ⟨rfl, ⟨m, L, hw, h2⟩, k1⟩
theorem Head_s (g s : Int) (hg : in64 g) (hs : in64 s) (p : Sl) {b : Bs} {w : World} (hp : RdB w p b) (hb : b.length ≤ 1000000000) : C.skepref06_Head g s p w (fun v w' => ∃ q : Sl, v = .slice q.a q.len q.cap ∧ OwnB w' w.heap.size q (hdB g s b) ∧ Kp [] w w') noP := skepref06_Head_of (by
  unfold W.skepref06_Head
  refine use (rNumber_s g hg w) ?_
  rintro _ w1 ⟨q1, rfl, o1, k1⟩
  refine ⟨q1, rfl, use (rNumber_s s hs w1) ?_⟩
  rintro _ w4 ⟨q2, rfl, o2, k4⟩
  have p1 := (putN_len g).2
  have p2 := (putN_len s).2
  have z1 := k1.size
  obtain ⟨a1, n1, c1, w10, hrun, hn1, o3, k10, _⟩ := app_bytes (ty := 27) Try.underlying27 byte_inf (o1.keep0 k4) o2.rds (by have := k4.size; omega) (by omega)
  have kk : Kp [] w w10 := (k1.then0 k4).then k10 (fun y hy => .inr (o1.lo y hy).1)
  obtain ⟨a2, n2, c2, w14, hrun2, hn2, o5, k14, _⟩ := app_bytes (ty := 27) Try.underlying27 byte_inf o3 (hp.keep0 kk) (by have := kk.size; omega) (by rw [List.length_append]; omega)
  refine ⟨q2, rfl, a1, n1, c1, w10, hrun, a2, n2, c2, w14, hrun2, ⟨a2, n2, c2⟩, rfl, ?_, kk.then k14 (fun y hy => .inr (o3.lo y hy).1)⟩
  have e : putN g ++ putN s ++ b = hdB g s b := by simp [hdB]
  rw [← e]
  exact o5)
def xt (t : Nat) (n : Int) (S : Bs) (L : List Bs) : Lg := ⟨t + 1, n, S, L⟩
theorem xt_end {t : Nat} {n : Int} {S : Bs} {L : List Bs} (h : ∀ b ∈ L, b.length ≤ 500) : endL (xt t n S L).recs ≤ 28 + S.length + 518 * L.length := by
  have := ends_le n L h
  have p1 := (putN_len ((t : Int) + 1)).2
  have p2 := (putN_len n).2
  have e2 : (xt t n S L).recs = [hdB (t + 1) n S] ++ numsL n L := rfl
  rw [e2, endL_app]
  simp only [endL, hdB, List.length_append]
  omega
set_option maxHeartbeats 8000000 in
set_option maxRecDepth 20000 in
theorem StoreSmall_s (l snap : Sl) (times : Int) {L : List Bs} {S : Bs} (w : World) (hl : RL w l L) (hs : RdB w snap S) : C.skeplaw06_StoreSmall l snap times w (fun v w' => v = .bool true ∧ Kp [] w w') noP := skeplaw06_StoreSmall_of (by
  unfold W.skeplaw06_StoreSmall
  have hll := hl.len
  have hsl := hs.bsize
  refine use (New_g w w (Kp.refl _ _)) ?_
  rintro _ w1 ⟨d, rfl, hD, k1⟩
  refine ⟨PD d, rfl, use (Start_k hD) ?_⟩
  rintro _ w4 ⟨st, q1, q2, G, rfl, hS, k4, -, hst, h1, h2⟩
  refine ⟨(PD st, q1, q2, 0), rfl, cond_f rfl (cond_f rfl (cond_d (fun c1 => cond_t rfl (cond_t rfl (aw6 hS.kp))) (fun c1 => ?_)))⟩
  refine ⟨fun n t w' => ∃ (k f : Nat) (N : Nat) (S' : Bs), t = k ∧ n = N ∧ k ≤ 4 ∧ N ≤ 10 * k ∧ S'.length ≤ 3000 ∧ SK w w' G st d f (xt k N S' []) 0, fun _ t _ => 4 - t.toNat, ⟨_, rfl, _, rfl, 0, 0, 0, [], rfl, rfl, by omega, by omega, by simp, hS⟩, ?_⟩
  rintro ev _ _ w22 ⟨t, f, N, S', rfl, rfl, ht, hN, hS', hK⟩
  refine use (Place_s times 4 w22 (by omega) (by omega)) ?_
  rintro _ _ ⟨rfl, rfl⟩
  have hm1 := Int.emod_nonneg times (show (4 : Int) ≠ 0 by decide)
  have hm2 := Int.emod_lt_of_pos times (show (0 : Int) < 4 by decide)
  refine ⟨_, rfl, ?_⟩
  have hw : IntKind.i64.wrap (1 + times % 4) = 1 + times % 4 := by rw [IntKind.wrap_i64]; omega
  rw [hw]
  refine cond_d (fun c2 => ?_) (fun c2 => aw6 hK.kp)
  have ht3 : t ≤ 3 := by omega
  refine ⟨fun n w' => ∃ k : Nat, n = ((N + k : Nat) : Int) ∧ k ≤ 10 ∧ k ≤ L.length ∧ (∀ b ∈ L.take k, b.length ≤ 500) ∧ SK w w' G st d f (xt t N S' (L.take k)) 0, ?_, ?_⟩
  · refine ⟨fun n i w' => ∃ k : Nat, n = ((N + k : Nat) : Int) ∧ i = k ∧ k ≤ 10 ∧ k ≤ L.length ∧ (∀ b ∈ L.take k, b.length ≤ 500) ∧ SK w w' G st d f (xt t N S' (L.take k)) 0, fun _ i _ => L.length - i.toNat, ⟨_, rfl, _, rfl, 0, rfl, rfl, by omega, by omega, by simp, hK⟩, ?_⟩
    rintro ev2 _ _ w33 ⟨k, rfl, rfl, hk10, hkL, hsm, hK⟩
    refine cond_d (fun c1 => cond_d (fun c2 => ?_) (fun c2 => ⟨_, rfl, k, rfl, hk10, hkL, hsm, hK⟩)) (fun c1 => ⟨_, rfl, k, rfl, hk10, hkL, hsm, hK⟩)
    have hk2 : k < L.length := by omega
    obtain ⟨a, x, ea, hx, hxb⟩ := (hl.keep0 hK.kp).get hk2
    have hxl := hxb.bsize
    rw [Int.toNat_natCast, wr1 k (by omega), wr1 (N + k) (by omega)]
    refine ⟨⟨by omega, c1⟩, ws ea ⟨x, ⟨rfl, hx⟩, cond_d (fun c3 => aw6 hK.kp) (fun c3 => ⟨⟨by omega, c1⟩, ws ea ⟨x, ⟨rfl, hx⟩, use (CopyBytes_s x hxb (by omega)) ?_⟩⟩)⟩⟩
    rintro _ w41 ⟨p, rfl, hp, k41⟩
    have hend := xt_end (t := t) (n := N) (S := S') hsm
    have htl : (L.take k).length = k := by rw [List.length_take]; omega
    refine ⟨p, rfl, use ((hK.keep k41).app (by simp only [xt, htl]; omega) hp.rds (by omega) (by simp only [xt, htl]; omega) (by omega)) ?_⟩
    rintro _ w44 ⟨rfl, hK2, k44⟩
    refine ⟨_, rfl, cond_f rfl ⟨_, rfl, _, rfl, ⟨k + 1, by simp only [Int.natCast_inj]; omega, rfl, by omega, hk2, ?_, ?_⟩, by simp only [Int.toNat_natCast]; omega⟩⟩
    · rw [take_snoc L hk2]
      intro b hb
      rcases List.mem_append.1 hb with hb | hb
      · exact hsm b hb
      · simp at hb; rw [hb]; omega
    · rw [take_snoc L hk2]
      exact hK2
  rintro ev3 _ w52 ⟨k, rfl, hk10, hkL, hsm, hK⟩
  have hend := xt_end (t := t) (n := N) (S := S') hsm
  have htl : (L.take k).length = k := by rw [List.length_take]; omega
  obtain ⟨X, hX⟩ : ∃ X, xt t N S' (L.take k) = X := ⟨_, rfl⟩
  have hXg : X.g = t + 1 := by rw [← hX]; rfl
  have hXs : X.s + X.es.length = ((N + k : Nat) : Int) := by rw [← hX]; simp only [xt, htl]; omega
  rw [hX] at hK hend
  clear hX
  obtain ⟨Z, hZ, hZl⟩ : ∃ Z : Bs, (madeCells #[.int .u8 0] (65536 * 1)).toList = bv Z ∧ Z.length = 65536 := ⟨_, made_cells 65536, List.length_replicate⟩
  rw [hZ, wr1 (N + k) (by omega)]
  refine use hK.size ?_
  rintro _ w53 ⟨rfl, k53⟩
  refine ⟨_, rfl, ⟨by omega, by omega, by omega, by omega⟩, fun b56 w57 hA56 => ?_⟩
  have hz1 : RdB w57 ⟨some ⟨b56, 0, none⟩, 65536, 65536⟩ Z := Blk.rdb hA56.blk rfl 65536 65536 hZl
  refine use (((hK.keep k53).keep hA56.kp).checkbig hz1 ⟨by omega, by omega⟩ ⟨by omega, by omega⟩ (by omega) (by omega)) ?_
  rintro _ w58 ⟨rfl, hK58, _⟩
  refine ⟨1, rfl, cond_f rfl ?_⟩
  refine use hK58.size ?_
  rintro _ w61 ⟨rfl, k61⟩
  refine ⟨_, rfl, cond_f (bne_f rfl) ⟨⟨by omega, by omega, by omega, by omega⟩, fun b64 w65 hA64 => ?_⟩⟩
  have hz2 : RdB w65 ⟨some ⟨b64, 0, none⟩, 65536, 65536⟩ Z := Blk.rdb hA64.blk rfl 65536 65536 hZl
  refine use (((hK58.keep k61).keep hA64.kp).appbig (by omega) hz2 ⟨by omega, by omega⟩ (by omega) (by omega)) ?_
  rintro _ w66 ⟨rfl, hK66, _⟩
  refine ⟨1, rfl, cond_f rfl ?_⟩
  refine use (CopyBytes_s snap (hs.keep0 hK66.kp) (by omega)) ?_
  rintro _ w69 ⟨p, rfl, hp, k69⟩
  refine ⟨p, rfl, use ((hK66.keep k69).check hp.rds (by omega) ⟨by omega, by omega⟩ (by omega) (by omega)) ?_⟩
  rintro _ w72 ⟨rfl, hK72, _⟩
  have hX' : (⟨X.g + 1, X.s + X.es.length, S, []⟩ : Lg) = xt (t + 1) ((N + k : Nat) : Int) S [] := by
    unfold xt
    rw [hXs, hXg]
    rfl
  rw [hX'] at hK72
  refine ⟨0, rfl, cond_f rfl ?_⟩
  refine use hK72.size ?_
  rintro _ w75 ⟨rfl, k75⟩
  have hw2 : IntKind.i64.wrap ((t : Int) + 2) = ((t + 1 : Nat) : Int) + 1 := by rw [IntKind.wrap_i64]; omega
  rw [hw2]
  have hK75 := hK72.keep k75
  refine ⟨_, rfl, use (Head_s _ _ ⟨by omega, by omega⟩ ⟨by omega, by omega⟩ snap (hs.keep0 hK75.kp) (by omega)) ?_⟩
  rintro _ w78 ⟨q, rfl, oq, k78⟩
  have p1 := (putN_len (((t + 1 : Nat) : Int) + 1)).2
  have p2 := (putN_len ((N + k : Nat) : Int)).2
  have hhl : (hdB (((t + 1 : Nat) : Int) + 1) ((N + k : Nat) : Int) S).length ≤ 20 + S.length := by simp only [hdB, List.length_append]; omega
  refine ⟨q, rfl, use (rRecord_s q oq.rds (by omega)) ?_⟩
  rintro _ w81 ⟨r, rfl, or', k81⟩
  have hrl := or'.rds.bsize
  rw [recB_len] at hrl
  have hEnd : endL (xt (t + 1) ((N + k : Nat) : Int) S []).recs = 8 + (hdB (((t + 1 : Nat) : Int) + 1) ((N + k : Nat) : Int) S).length := by
    simp [Lg.recs, xt, numsL, endL]
  obtain ⟨E, hE⟩ : ∃ E, endL (xt (t + 1) ((N + k : Nat) : Int) S []).recs = E := ⟨_, rfl⟩
  rw [hE] at hEnd
  rw [hE]
  have hK81 := (hK75.keep k78).keep k81
  refine ⟨r, rfl, cond_f (bne_f (by omega)) ?_⟩
  refine use (hK81.dsize 0 (by omega)) ?_
  rintro _ _ ⟨rfl, rfl⟩
  refine ⟨_, rfl, ?_⟩
  refine use (hK81.dsize 1 (by omega)) ?_
  rintro _ _ ⟨rfl, rfl⟩
  refine ⟨_, rfl, ?_⟩
  refine use hK81.size ?_
  rintro _ w90 ⟨rfl, k90⟩
  rw [hE]
  have hf2 : 1 - f = 0 ∨ 1 - f = 1 := by omega
  have hsum : IntKind.i64.wrap (((if 0 = 1 - f then E else 0 : Nat) : Int) + ((if 1 = 1 - f then E else 0 : Nat) : Int)) = (E : Int) := by
    rcases hf2 with e | e
    · rw [e, if_pos rfl, if_neg (by omega), IntKind.wrap_i64]; omega
    · rw [e, if_neg (by omega), if_pos rfl, IntKind.wrap_i64]; omega
  refine ⟨_, rfl, cond_f (bne_f hsum) ?_⟩
  have hK90 := hK81.keep k90
  refine use hK90.from ?_
  rintro _ _ ⟨rfl, rfl⟩
  refine ⟨_, rfl, cond_f (bne_f rfl) ?_⟩
  refine use hK90.last ?_
  rintro _ _ ⟨rfl, rfl⟩
  refine ⟨_, rfl, cond_f (bne_f (by simp [xt])) ⟨_, rfl, _, rfl, ⟨t + 1, 1 - f, N + k, S, ?_, rfl, by omega, by omega, by omega, hK90⟩, ?_⟩⟩
  · exact wr1 t (by omega)
  · rw [wr1 t (by omega)]
    simp only [Int.toNat_natCast]
    omega)
theorem StoreSmall_walk (s : Sl) (L : List (List Int)) (a : Option Addr) (c : Nat) (l : List Int) (t : Int) (w : World) (_ : s.len ≤ s.cap ∧ s.cap ≤ maxLen) (h : IsL w 1 (fun s : Sl => Value.slice s.a s.len s.cap) (fun s L => RdL w 1 (Value.int .u8) s L) s L) (hq : ∀ x ∈ L, ∀ y ∈ x, in8 y) (h2 : Rd .u8 w a l) (_ : l.length ≤ c) (_ : (Lit.int .i64 t).wf = true) :
    Calls Try.prog 4 #[.slice s.a s.len s.cap, .slice a l.length c, .int .i64 t] w fun e w' => e = .returned (.bool true) ∧ Below w.heap.size w w' := ret_true (StoreSmall_s s ⟨a, l.length, c⟩ t w (rl_of_isL h hq) (rdb_of_rd h2 c))
end Go.Proofs.Ytfgepillnemolaa
