/- The document's operation; PutNumber; the laws Numbers, Sizes, Ops. No conditions. -/
import Derived.Test.YtocbjadhcfjfiaaCod3
import Derived.Laws.IdiomCopy
namespace Go.Proofs.Ytocbjadhcfjfiaa
open Go.RowKit Go.Eng
set_option linter.unusedVariables false
theorem goInt_i (n : Nat) : goInt n = .int .i64 n := rfl
theorem setCells_blk : ∀ (vs : List Value) (o : Nat) (cs : List Value) {w : World} {b : Nat}, Blk w b cs → o + vs.length ≤ cs.length → (∀ v ∈ vs, leafB v = true) → Blk (w.setCells b o vs) b (cs.take o ++ vs ++ cs.drop (o + vs.length)) ∧ Kp [b] w (w.setCells b o vs)
  | [], o, cs, w, b, h, _, _ => by simpa [World.setCells] using ⟨h, Kp.refl _ _⟩
  | v :: vs, o, cs, w, b, h, hl, hv => by
    simp only [List.length_cons] at hl
    have e : w.setCell ⟨b, o, none⟩ v = putAt w ⟨b, o, none⟩ v := by
      have := hv v (by simp)
      cases v <;> first | rfl | cases this
    obtain ⟨g1, g2, g3⟩ := h.put1 (i := o) (hv v (by simp)) e
    obtain ⟨k1, k2⟩ := setCells_blk vs (o + 1) _ g1 (by simp; omega) (fun x hx => hv x (by simp [hx]))
    refine ⟨?_, g2.then k2 (by simp)⟩
    have e2 : (cs.set o v).take (o + 1) ++ vs ++ (cs.set o v).drop (o + 1 + vs.length) = cs.take o ++ v :: vs ++ cs.drop (o + (vs.length + 1)) := by
      apply List.ext_getElem?
      intro i
      simp only [List.getElem?_append, List.length_append, List.length_take, List.length_set, List.length_cons, List.getElem?_take, List.getElem?_drop, List.getElem?_set]
      rw [show min (o + 1) cs.length = o + 1 by omega, show min o cs.length = o by omega]
      rcases Nat.lt_trichotomy i o with hi | hi | hi
      · rw [if_pos (by omega), if_pos (by omega), if_pos (by omega), if_neg (by omega), if_pos (by omega), if_pos (by omega), if_pos (by omega)]
      · subst hi
        rw [if_pos (by omega), if_pos (by omega), if_pos (by omega), if_pos rfl, if_pos (by omega), if_pos (by omega), if_neg (by omega), Nat.sub_self]
        rfl
      · by_cases h2 : i < o + 1 + vs.length
        · rw [if_pos (by omega), if_neg (by omega), if_pos (by omega), if_neg (by omega), show i - o = (i - (o + 1)) + 1 by omega, List.getElem?_cons_succ]
        · rw [if_neg (by omega), if_neg (by omega), if_neg (by omega)]
          congr 1
          omega
    rw [List.length_cons, ← e2]
    exact k1
theorem PutNumber_s {s : Sl} {l : Bs} (v : Int) (hv : in64 v) {w : World} (hd : RdB w s l) (hl : l.length ≤ 140737488352000) : C.codec_PutNumber s v w (fun r w' => ∃ s' : Sl, r = slv s' ∧ OwnB w' w.heap.size s' (l ++ putN v) ∧ Kp [] w w') noP := codec_PutNumber_of (by
  unfold W.codec_PutNumber
  have hsz := hd.bsize
  have e1 : IntKind.i64.wrap ((s.len : Int) + 10) = ((s.len + 10 : Nat) : Int) := by rw [IntKind.wrap_i64]; omega
  rw [e1, Int.toNat_natCast, Int.toNat_natCast, Nat.mul_one]
  refine ⟨⟨by omega, by omega, by omega, by omega⟩, fun b1 w2 hA => ?_⟩
  have s2 := hA.eq
  have hcl : (madeCells #[.int .u8 0] (s.len + 10)).toList.length = s.len + 10 := made_len _ _
  have hd2 := hd.keep0 hA.kp
  have key : ∃ w4 : World, (Builtin.copy_ #[22, 22] 3 #[.slice (some ⟨b1, 0, none⟩) s.len (s.len + 10), .slice s.a s.len s.cap]).run Try.prog w2 = .ok (.int .i64 s.len) w4 ∧ OwnB w4 w.heap.size ⟨some ⟨b1, 0, none⟩, s.len, s.len + 10⟩ l ∧ Kp [b1] w2 w4 := by
    rcases Nat.eq_zero_or_pos s.len with h0 | h0
    · have hl0 : l = [] := List.length_eq_zero_iff.1 (by omega)
      refine ⟨w2, ?_, ?_, Kp.refl _ _⟩
      · have := run_copy_none (P := Try.prog) w2 22 22 3 5 (some ⟨b1, 0, none⟩) s.a s.len (s.len + 10) s.len s.cap Try.underlying22 (by kernel_rfl) (by rw [h0]; rfl)
        rw [this, h0]
        rfl
      · subst hl0
        have := Go.Eng.Own.fresh (n := 0) (c := s.len + 10) (sz := 1) hA (Nat.le_refl _) (by omega) (by rw [hcl]; omega)
        rw [h0] at this ⊢
        exact (by simpa using this : Go.Eng.Own w2 w.heap.size 1 ⟨some ⟨b1, 0, none⟩, 0, 0 + 10⟩ [])
    · obtain ⟨a, ha, hh⟩ := hd2.has h0
      have hrun := run_copy_cells (P := Try.prog) w2 22 22 3 5 b1 0 s.len (s.len + 10) a s.len s.cap (bv l) Try.underlying22 (by kernel_rfl) (by rw [bv_len, hsz]; exact (Nat.min_self _).symm) (fun j v hj => hh j v hj)
        (fun j hj => by rw [Nat.zero_add, hA.blk.cell, List.getElem?_eq_getElem (by rw [hcl]; rw [bv_len] at hj; omega)]; rfl)
        (fun j hj => by rw [Nat.zero_add]; exact hA.blk.fr j (by rw [hcl]; rw [bv_len] at hj; omega))
        (fun v hv => by simp only [bv, List.mem_map] at hv; obtain ⟨c, _, rfl⟩ := hv; rfl)
      obtain ⟨g1, g2⟩ := setCells_blk (bv l) 0 _ hA.blk (by rw [hcl, bv_len]; omega) (bv_leaf l)
      refine ⟨_, ?_, ?_, g2⟩
      · rw [ha, hrun, goInt_i, bv_len, hsz]
      · rw [List.take_zero, List.nil_append] at g1
        exact ⟨by rw [bv_len]; dsimp only; omega, by dsimp only; omega, .inr ⟨b1, _, rfl, by omega, g1, by rw [List.length_append, List.length_drop, hcl, bv_len]; dsimp only; omega⟩⟩
  obtain ⟨w4, hrun, ho, k4⟩ := key
  refine ⟨_, w4, hrun, use (number_s v hv ho (by have := k4.size; omega) (by omega)) ?_⟩
  rintro _ w5 ⟨s', rfl, ho5, k5, hb⟩
  exact ⟨s', rfl, s', rfl, ho5, (hA.kp.then k4 (by simp; omega)).then k5 (by simp [blkOf]; omega)⟩)
theorem awake_s (w : World) : C.skeplaw05_awake w (fun v w' => v = .bool true ∧ Kp [] w w') noP := skeplaw05_awake_of (by
  unfold W.skeplaw05_awake
  intro b1 w2 hA
  have s2 := hA.eq
  have hd : RdB w2 ⟨some ⟨b1, 0, none⟩, 3, 3⟩ [2, 0, 0] := ⟨rfl, fun _ => ⟨_, rfl, hA.blk.has 0 _ (fun i w hi => by rw [Nat.zero_add]; exact hi)⟩⟩
  refine use (GetOp_s hd (by decide) (by simp [blkOf]; omega)) ?_
  rintro r w3 ⟨hG, k3⟩
  have e : whole pOp [2, 0, 0] = some ⟨1, 0, 0⟩ := by kernel_rfl
  rcases hG with ⟨o, h1, rfl⟩ | ⟨h1, h2⟩
  · rw [e] at h1
    injection h1 with h1
    subst h1
    refine ⟨(⟨1, 0, 0⟩, 0), rfl, fun b6 w7 hA6 => ⟨⟨rfl, hA6.blk.canN _ (Nat.le_refl _)⟩, fun w8 e8 => ?_⟩⟩
    obtain ⟨g1, k8, _⟩ := hA6.blk.putAll (vs := #[.int .i64 1, .int .i64 0, .int .i64 0]) rfl e8
    have s3 := k3.size
    have s7 := hA6.eq
    have kk : Kp [] w w8 := ((hA.kp.then0 k3).then0 hA6.kp).then k8 (by simp; omega)
    have nl : ∀ W : World, RdB W ⟨none, 0, 0⟩ [] := fun W => ⟨rfl, fun h => by cases h⟩
    refine use (PutNumber_s (-1) ⟨by decide, by decide⟩ (nl w8) (by decide)) ?_
    rintro _ w9 ⟨p10, rfl, o9, k9⟩
    refine ⟨p10, rfl, str _, o9.rds.str, cond_t (by decide +kernel) ?_⟩
    refine use (PutNumber_s 64 ⟨by decide, by decide⟩ (nl w9) (by decide)) ?_
    rintro _ w13 ⟨p14, rfl, o13, k13⟩
    refine ⟨p14, rfl, str _, o13.rds.str, cond_t (by decide +kernel) ?_⟩
    refine use (PutOp_s ⟨1, 0, 0⟩ ⟨⟨by decide, by decide⟩, ⟨by decide, by decide⟩, by decide, by decide⟩ w13) ?_
    rintro _ w17 ⟨p18, rfl, o17, k17⟩
    refine ⟨p18, rfl, str _, o17.rds.str, cond_t (by decide +kernel) (cond_t rfl ?_)⟩
    have g1' := ((g1.keep k9 (by simp)).keep k13 (by simp)).keep k17 (by simp)
    exact ⟨_, ⟨rfl, g1'.at rfl⟩, rfl, ((kk.then0 k9).then0 k13).then0 k17⟩
  · rw [e] at h1; cases h1)
theorem aw_s {w0 w : World} (k : Kp [] w0 w) : C.skeplaw05_awake w (fun r w' => ∃ p : Bool, r = .bool p ∧ ((.bool p : Value) = .bool true ∧ Kp [] w0 w')) noP := by
  refine use (awake_s w) ?_
  rintro _ w1 ⟨rfl, k1⟩
  exact ⟨_, rfl, rfl, k.then0 k1⟩
-- sizes
theorem encF_mono : ∀ (f u v : Nat), u ≤ v → (encF f u).length ≤ (encF f v).length
  | 0, u, v, h => Nat.le_refl _
  | f + 1, u, v, h => by
    rw [encF, encF]
    have h1 := encF_mono f (u / 128) (v / 128) (by omega)
    have h2 := (encF_len f (v / 128)).1
    split <;> split <;> simp only [List.length_cons, List.length_nil] <;> omega
def farN (v : Int) : Nat := if v < 0 then (-(v + 1)).toNat else v.toNat
theorem zig_far (v : Int) : zig v = 2 * farN v + (if v < 0 then 1 else 0) := by
  unfold zig farN
  split <;> split <;> omega
theorem far_s (v : Int) (hv : in64 v) (w : World) : C.skeplaw05_CodecSizes_1 v w (fun r w' => r = .int .u64 (farN v : Nat) ∧ w = w') noP := skeplaw05_CodecSizes_1_of (by
  unfold W.skeplaw05_CodecSizes_1
  refine cond_d (fun h => ⟨?_, rfl⟩) (fun h => ⟨?_, rfl⟩)
  · refine val_int ?_
    rw [IntKind.wrap_i64, IntKind.wrap_i64, wrap_u64]
    unfold farN
    rw [if_pos h]
    omega
  · refine val_int ?_
    rw [wrap_u64]
    unfold farN
    rw [if_neg h]
    omega)
theorem encF_even : ∀ (f u : Nat), u % 2 = 0 → (encF f (u + 1)).length = (encF f u).length
  | 0, u, h => rfl
  | f + 1, u, h => by
    rw [encF, encF]
    have e : (u + 1) / 128 = u / 128 := by omega
    by_cases hc : u < 128
    · rw [if_pos hc, if_pos (by omega)]; rfl
    · rw [if_neg hc, if_neg (by omega), e]; rfl
theorem putN_far (v : Int) : (putN v).length = (encF 9 (2 * farN v)).length := by
  unfold putN enc
  rw [zig_far]
  split
  · exact encF_even 9 _ (by omega)
  · rfl
theorem putN_mono {a b : Int} (h : farN a ≤ farN b) : (putN a).length ≤ (putN b).length := by
  rw [putN_far, putN_far]
  exact encF_mono 9 _ _ (by omega)
theorem putN_one (v : Int) : (putN v).length = 1 ↔ (-64 ≤ v ∧ v < 64) := by
  unfold putN enc
  rw [encF]
  have h2 := (encF_len 8 (zig v / 128)).1
  by_cases hz : zig v < 128
  · rw [if_pos hz]
    simp only [List.length_cons, List.length_nil]
    unfold zig at hz
    split at hz <;> constructor <;> intro h <;> first | trivial | omega
  · rw [if_neg hz]
    simp only [List.length_cons]
    unfold zig at hz
    split at hz <;> constructor <;> intro h <;> first | trivial | omega
set_option maxHeartbeats 1000000 in
theorem CodecSizes_s (a b : Int) (ha : in64 a) (hb : in64 b) (w : World) : C.skeplaw05_CodecSizes a b w (fun v w' => v = .bool true ∧ Kp [] w w') noP := skeplaw05_CodecSizes_of (by
  unfold W.skeplaw05_CodecSizes
  have nl : ∀ W : World, RdB W ⟨none, 0, 0⟩ [] := fun W => ⟨rfl, fun h => by cases h⟩
  refine use (PutNumber_s a ha (nl w) (by decide)) ?_
  rintro _ w1 ⟨x, rfl, o1, k1⟩
  refine ⟨x, rfl, use (PutNumber_s b hb (nl w1) (by decide)) ?_⟩
  rintro _ w4 ⟨y, rfl, o4, k4⟩
  have hx := o1.rds.bsize
  have hy := o4.rds.bsize
  rw [List.nil_append] at hx hy
  have la := putN_len a
  have lb := putN_len b
  have kk := k1.then0 k4
  refine ⟨y, rfl, cond_d (fun h => by omega) (fun _ => cond_d (fun h => by omega) (fun _ => cond_d (fun h => by omega) (fun _ => cond_d (fun h => by omega) (fun _ => ⟨fun w' => w4 = w', ?_, ?_⟩))))⟩
  · refine ⟨by kernel_rfl, use (far_s a ha w4) ?_⟩
    rintro _ _ ⟨rfl, rfl⟩
    refine ⟨_, rfl, by kernel_rfl, use (far_s b hb w4) ?_⟩
    rintro _ _ ⟨rfl, rfl⟩
    have two : ∃ p21 : Int, (.int .u64 ((farN b : Nat) : Int) : Value) = .int .u64 p21 ∧ (bodied Try.prog 22 = true ∧ C.skeplaw05_CodecSizes_1 a w4 (fun r25 w23 => ∃ p24 : Int, r25 = .int .u64 p24 ∧ (cond (decide ((p21 : Int) ≤ p24)) ((cond (decide (((y.len : Int) : Int) > (x.len : Int))) ((.bool false : Value) = .bool true ∧ Kp [] w w23) (w4 = w23))) (w4 = w23))) noP) := by
      refine ⟨_, rfl, by kernel_rfl, use (far_s a ha w4) ?_⟩
      rintro _ _ ⟨rfl, rfl⟩
      refine ⟨_, rfl, cond_d (fun h => cond_d (fun h2 => ?_) (fun _ => rfl)) (fun _ => rfl)⟩
      have := putN_mono (a := b) (b := a) (by omega)
      omega
    refine ⟨_, rfl, cond_d (fun h => cond_d (fun h2 => ?_) (fun _ => ⟨by kernel_rfl, use (far_s b hb w4) ?_⟩)) (fun _ => ⟨by kernel_rfl, use (far_s b hb w4) ?_⟩)⟩
    · have := putN_mono (a := a) (b := b) (by omega)
      omega
    · rintro _ _ ⟨rfl, rfl⟩; exact two
    · rintro _ _ ⟨rfl, rfl⟩; exact two
  rintro e0 _ rfl
  have h1 := putN_one a
  refine cond_d (fun h => cond_t ?_ (aw_s kk)) (fun h => cond_t ?_ (aw_s kk))
  · by_cases h2 : a < 64
    · rw [beq_t (a := (x.len : Int)) (by omega), decide_eq_true h2]; rfl
    · rw [beq_f (a := (x.len : Int)) (by omega), decide_eq_false h2]; rfl
  · rw [beq_f (a := (x.len : Int)) (by omega)]; rfl)
theorem CodecSizes_walk (a b : Int) (w : World) (ha : (Lit.int .i64 a).wf = true) (hb : (Lit.int .i64 b).wf = true) :
    Calls Try.prog 5 #[.int .i64 a, .int .i64 b] w fun e w' => e = .returned (.bool true) ∧ Below w.heap.size w w' := ret_true (CodecSizes_s a b (wf_i64 ha) (wf_i64 hb) w)
end Go.Proofs.Ytocbjadhcfjfiaa
