/- The law Numbers; walks. No conditions. -/
import Derived.Test.YtocbjadhcfjfiaaCod5
import Derived.Test.YtocbjadhcfjfiaaOpenD
namespace Go.Proofs.Ytocbjadhcfjfiaa
open Go.RowKit Go.Eng
set_option linter.unusedVariables false
theorem str_app2 (a b : Bs) : str a ++ str b = str (a ++ b) := by
  apply ByteArray.ext
  simp [str]
theorem getN_out {l : Bs} {a : Int} (h : ¬ (0 ≤ a ∧ a < l.length)) : getN l a = (0, 0, false) := by unfold getN; rw [if_neg h]
set_option maxHeartbeats 2000000 in
theorem CodecNumbers_s (v : Int) (s : Sl) (at_ : Int) {l : Bs} (hv : in64 v) (ha : in64 at_) (w : World) (hd : RdB w s l) (hl : l.length ≤ 140737488351232) : C.skeplaw05_CodecNumbers v s at_ w (fun v w' => v = .bool true ∧ Kp [] w w') noP := skeplaw05_CodecNumbers_of (by
  unfold W.skeplaw05_CodecNumbers
  have hsz := hd.bsize
  obtain ⟨q1, n2, c3, w4, hrun1, hn2, ho4, k4, _⟩ := app_bytes (l := []) (s := ⟨none, 0, 0⟩) (ty := 22) Try.underlying22 byte_inf (Go.Eng.Own.nil w w.heap.size 1) hd (Nat.le_refl _) (by simp; omega)
  rw [List.nil_append] at ho4
  replace k4 : Kp [] w w4 := k4
  refine ⟨q1, n2, c3, w4, hrun1, fun b5 w6 hA => ?_⟩
  have hx : RdB w6 ⟨some ⟨b5, 0, none⟩, 1, 1⟩ [99] := ⟨rfl, fun _ => ⟨_, rfl, hA.blk.has 0 _ (fun i w hi => by rw [Nat.zero_add]; exact hi)⟩⟩
  have s6 := hA.eq
  obtain ⟨q7, n8, c9, w10, hrun2, hn8, ho10, k10, _⟩ := app_bytes (ty := 22) Try.underlying22 byte_inf (ho4.keep0 hA.kp) hx (by have := k4.size; omega) (by simp; omega)
  have h4b := ho4.rds.bsize
  have lo4 := ho4.lo
  have kk10 : Kp [] w w10 := (k4.then0 hA.kp).then k10 (fun y hy => .inr (lo4 y hy).1)
  have h10b := ho10.rds.bsize
  have hlc := ho10.lc
  rw [List.length_append] at h10b
  dsimp only [List.length_cons, List.length_nil] at h4b h10b hlc
  refine ⟨q7, n8, c9, w10, hrun2, ⟨by omega, by omega⟩, ?_⟩
  rw [ite_same, Int.toNat_natCast, Nat.sub_zero, Nat.sub_zero]
  have hcut : RdB w10 ⟨q7, s.len, c9⟩ l := by
    have := ho10.rds.bcut (n := s.len) (by dsimp only; omega) c9
    rwa [app_take (by omega)] at this
  refine use (PutNumber_s v hv hcut (by omega)) ?_
  rintro _ w11 ⟨x, rfl, ox, k11⟩
  refine ⟨x, rfl, fun w14 hD => ?_⟩
  have kk14 := (kk10.then0 k11).then0 hD.kp
  have x14 := ox.rds.keep0 hD.kp
  have d14 := hd.keep0 kk14
  refine ⟨str _, x14.str, str _, d14.str, use (rNumber_s v hv w14) ?_⟩
  rintro _ w17 ⟨y, rfl, oy, k17⟩
  have x17 := x14.keep0 k17
  have d17 := d14.keep0 k17
  have lv := (putN_len v).2
  have e1 : IntKind.i64.wrap ((s.len : Int) + 1) = ((s.len + 1 : Nat) : Int) := by rw [IntKind.wrap_i64]; omega
  refine ⟨y, rfl, d17.str.2, x17.str.2, str _, oy.rds.str, by rw [str_size, str_size]; omega, cond_f (by rw [str_app2, strEq_str]; simp) ?_⟩
  rw [e1]
  have o17 := (ho10.rds.keep0 ((k11.then0 hD.kp).then0 k17))
  obtain ⟨a21, ha21, hc21⟩ := o17.byte (i := s.len) (by simp; omega)
  have e99 : (l ++ [99])[s.len]'(by simp; omega) = 99 := by simp [← hsz]
  rw [e99] at hc21
  dsimp only at ha21
  refine ⟨⟨by omega, by omega⟩, ⟨by omega, by omega⟩, ?_⟩
  rw [ite_same, ha21]
  refine ⟨_, ⟨rfl, hc21⟩, cond_f (by decide) ?_⟩
  have kk17 := kk14.then0 k17
  have xl := ox.rds.bsize
  rw [List.length_append] at xl
  refine use (GetNumber_s s.len ⟨by omega, by omega⟩ x17 (by rw [List.length_append]; omega)) ?_
  rintro _ _ ⟨rfl, rfl⟩
  have hg : getN (l ++ putN v) s.len = (v, ((x.len : Nat) : Int), true) := by
    have hnp := num_put hv []
    rw [List.append_nil] at hnp
    rw [getN_num (by rw [List.length_append]; omega), ← hsz, List.drop_left, hnp, List.length_append]
    simp only [List.length_nil, Nat.sub_zero]
    rw [xl]
  rw [hg]
  refine ⟨_, rfl, cond_f (bne_f rfl) (cond_f (bne_f rfl) (cond_f rfl (use (CopyBytes_s s d17 (by omega)) ?_)))⟩
  rintro _ w26 ⟨z, rfl, oz, k26⟩
  refine ⟨z, rfl, use (GetNumber_s at_ ha oz.rds (by omega)) ?_⟩
  rintro _ _ ⟨rfl, rfl⟩
  have kk26 := kk17.then0 k26
  refine ⟨getN l at_, rfl, cond_d (fun hc => ?_) (fun h1 => cond_d (fun hc => ?_) (fun h2 => ?_))⟩
  · rw [getN_out (by omega)]
    exact cond_t rfl (cond_t rfl (cond_t rfl (aw_s kk26)))
  · rw [getN_out (by omega)]
    exact cond_t rfl (cond_t rfl (cond_t rfl (aw_s kk26)))
  obtain ⟨p, rfl⟩ : ∃ p : Nat, at_ = p := ⟨at_.toNat, by omega⟩
  intro b38 w39 hA39
  have s39 := hA39.eq
  have d39 := (d17.keep0 k26).keep0 hA39.kp
  have hR : RsR w39 b38 s l (some p) := ⟨⟨p, false, hA39.blk, rfl, rfl, by omega⟩, d39, fun h0 h => by have := (d17.keep0 k26).ltB (by omega) h0 _ h; omega, by omega⟩
  refine use (R_Number_p b38 w39 s l _ hR) ?_
  rintro _ w40 ⟨u, st, rfl, hres, hR40, k40⟩
  have kk40 : Kp [] w w40 := (kk26.then0 hA39.kp).then k40 (by have := kk26.size; simp; omega)
  obtain ⟨⟨a40, bad, hB, hst⟩, _, _, _⟩ := hR40
  refine ⟨u, rfl, bad, ⟨rfl, hB.at rfl⟩, ?_⟩
  rcases hres with ⟨i, k', h1, rfl, h3⟩ | ⟨rfl, h2'⟩
  · injection h1 with h1
    subst h1
    obtain ⟨rfl, rfl, hk'⟩ := hst
    have hgg : getN l p = (u, ((k' : Nat) : Int), true) := by
      rw [getN_num (by omega), h3]
      simp only [List.length_drop]
      rw [show l.length - (l.length - k') = k' by omega]
    rw [hgg]
    exact cond_f rfl (cond_t (beq_self_eq_true _) ⟨_, ⟨rfl, hB.at rfl⟩, cond_t (beq_self_eq_true _) (cond_t rfl (aw_s kk40))⟩)
  · subst hst
    have hgg : getN l p = (0, 0, false) := by
      rw [getN_num (by omega), h2' p rfl]
    rw [hgg]
    exact cond_t rfl (cond_t rfl (cond_t rfl (cond_t rfl (aw_s kk40)))))
theorem CodecNumbers_walk (v : Int) (a : Option Addr) (c : Nat) (l : List Int) (x : Int) (w : World) (hv : (Lit.int .i64 v).wf = true) (h : Rd .u8 w a l) (hc : l.length ≤ c) (hx : (Lit.int .i64 x).wf = true) :
    Calls Try.prog 3 #[.int .i64 v, .slice a l.length c, .int .i64 x] w fun e w' => e = .returned (.bool true) ∧ Below w.heap.size w w' :=
  ret_true (CodecNumbers_s v ⟨a, l.length, c⟩ x (wf_i64 hv) (wf_i64 hx) w (rdb_of_rd h c) (by rw [bso_len]; exact h.len))
theorem CodecOps_walk (o m : S.api_Op) (a : Option Addr) (c : Nat) (l : List Int) (w : World) (R : o = m) (Q : Wf.api_Op m) (h : Rd .u8 w a l) (hc : l.length ≤ c) :
    Calls Try.prog 4 #[S.api_Op.v o, .slice a l.length c] w fun e w' => e = .returned (.bool true) ∧ Below w.heap.size w w' :=
  ret_true (CodecOps_s o ⟨a, l.length, c⟩ (R ▸ Q) w (rdb_of_rd h c) (by rw [bso_len]; have := h.len; omega))
end Go.Proofs.Ytocbjadhcfjfiaa
