/- The law DiskUnits. No conditions. -/
import Derived.Test.YtjjleboohldkiaaDiskL
import Derived.Test.YtjjleboohldkiaaDisk3
import Derived.Test.YtjjleboohldkiaaOpenD
namespace Go.Proofs.Ytjjleboohldkiaa
open Go.RowKit Go.Eng
set_option linter.unusedVariables false
theorem str_cut (l : Bs) (n : Nat) : (str l).extract 0 n = str (l.take n) := by
  apply ByteArray.ext
  simp [str]
def Step1 (A B : Bs) : Prop := (B.length = A.length + 1 ∧ B.take A.length = A) ∨ (B.length ≤ A.length ∧ A.take B.length = B)
theorem with_step : ∀ (us : List RU) (x : Bs) (k : Nat), Okw x us → k < us.length → Step1 (withB x us k) (withB x us (k + 1))
  | [], x, k, _, h => by simp at h
  | .byte b :: r, x, 0, _, h => by
    rw [withB_zero, withB, withB_zero]
    exact .inl ⟨by simp, by simp⟩
  | .cut m :: r, x, 0, hk, h => by
    have := hk.1
    rw [withB_zero, withB, withB_zero]
    exact .inr ⟨by simp; omega, by simp [Nat.min_eq_left this]⟩
  | .byte b :: r, x, k + 1, hk, h => by
    rw [withB, withB]
    exact with_step r _ k hk.2 (by simpa using h)
  | .cut m :: r, x, k + 1, hk, h => by
    rw [withB, withB]
    exact with_step r _ k hk.2 (by simpa using h)
theorem crash_step1 {x now : Bs} {p : List Pd} (h : Leads x p now) (k : Nat) (hk : k < unitsL p) : Step1 (crashB x p k) (crashB x p (k + 1)) := by
  rw [← with_crash, ← with_crash]
  exact with_step _ _ _ h.okw (by rw [unitsOf_len]; exact hk)
theorem cond_bt {b : Bool} {X Y : Prop} (h : b = true) (k : X) : cond b X Y := by subst h; exact k
set_option maxHeartbeats 2000000 in
theorem DiskUnits_s (s : Sl) (L : List M.skeplaw03_Op) (w : World) (hr : IsL w 5 S.skeplaw03_Op.v (Is.skeplaw03_Op w) s L) (hq : ∀ x ∈ L, Wf.skeplaw03_Op x) :
    C.skeplaw03_DiskUnits s w (fun v w' => v = .bool true ∧ Kp [] w w') noP := skeplaw03_DiskUnits_of (by
  unfold W.skeplaw03_DiskUnits
  have hlen := hr.len
  refine use (awake_s w) ?_
  rintro _ w1 ⟨rfl, k1⟩
  refine ⟨_, rfl, cond_f rfl ?_⟩
  refine use (New_d w w1 k1) ?_
  rintro _ w2 ⟨d, rfl, hD0⟩
  refine ⟨PD d, rfl, fun w' => ∃ m, DS w w' d m ∧ ∀ i, i < 2 → unitsL (m i).pend ≤ 1000, ?_, ?_⟩
  · refine ⟨fun v w' => ∃ (k : Nat) (m : Nat → Fm), v = k ∧ k ≤ 20 ∧ DS w w' d m ∧ (∀ i, i < 2 → unitsL (m i).pend ≤ 41 * k) ∧ (m 0).now.length ≤ 40 * k, fun v _ => 20 - v.toNat, ⟨_, rfl, 0, m00, rfl, by omega, hD0, fun i _ => Nat.le_refl _, Nat.le_refl _⟩, fun e0 v w12 hI => ?_⟩
    obtain ⟨k, m, rfl, hk, hD, hu, hn⟩ := hI
    have fin : ∃ m, DS w w12 d m ∧ ∀ i, i < 2 → unitsL (m i).pend ≤ 1000 := ⟨m, hD, fun i hi => by have := hu i hi; omega⟩
    refine cond_d (fun h1 => cond_d (fun h2 => ?_) (fun h2 => fin)) (fun h1 => fin)
    clear fin
    obtain ⟨ad, x, ha, hx, hR⟩ := hr.get (i := k) (by omega)
    have hwf := hq L[k] (List.getElem_mem _)
    obtain ⟨mo, hmo⟩ : ∃ mo, L[k] = mo := ⟨_, rfl⟩
    rw [hmo] at hR hwf
    rw [ha, Int.toNat_natCast]
    refine ⟨⟨by omega, h1⟩, x, ⟨rfl, rd_keep hx hD.kp (by simp)⟩, fun b15 w16 hA => ?_⟩
    have s16 := hA.eq
    have hB := hA.blk
    refine ⟨⟨rfl, hB.canN _ (Nat.le_refl _)⟩, fun w17 e17 => ?_⟩
    obtain ⟨hB, k17, s17⟩ := hB.putAll (by rfl) e17
    replace hD := hD.keep (hA.kp.then k17 (by simp; omega))
    refine ⟨x.B, ⟨rfl, hB.at rfl⟩, cond_d (fun _ => ⟨rfl, hD.kp⟩) (fun h3 => ⟨x.Kind, ⟨rfl, hB.at rfl⟩, ?_⟩)⟩
    refine use (Place_s x.Kind 5 w17 (by omega) (by omega)) ?_
    rintro _ _ ⟨rfl, rfl⟩
    have hw : IntKind.i64.wrap ((k : Int) + 1) = (k + 1 : Nat) := by rw [IntKind.wrap_i64]; omega
    have hM : 20 - (k + 1 : Nat) < 20 - k := by omega
    refine ⟨_, rfl, cond_e (fun h4 w23 hDr => ?_) (fun h4 => cond_e (fun h5 => ?_) (fun h5 => ?_))⟩
    · replace hD := hD.keep hDr.kp
      replace hB := hB.keep hDr.kp (by simp)
      refine ⟨x.N, ⟨rfl, hB.at rfl⟩, ?_⟩
      refine use (Size_d ((0 : Nat) : Int) hD) ?_
      rintro _ _ ⟨rfl, rfl⟩
      have hsm := hD.small (i := 0) (by omega)
      rw [readF_i _ (by omega)]
      have hw2 : IntKind.i64.wrap (((m 0).now.length : Int) + 1) = (m 0).now.length + 1 := by rw [IntKind.wrap_i64]; omega
      refine ⟨_, rfl, hB.at rfl, ?_⟩
      rw [hw2]
      refine use (Place_s x.N ((m 0).now.length + 1) w23 (by omega) (by omega)) ?_
      rintro _ _ ⟨rfl, rfl⟩
      refine ⟨_, rfl, ?_⟩
      refine use (Cut_d ((0 : Nat) : Int) _ hD (fun i hi => by have := hu i hi; omega)) ?_
      rintro _ w31 ⟨rfl, hD1⟩
      refine ⟨_, rfl, _, rfl, ⟨k + 1, _, hw, by omega, hD1, fun i hi => Nat.le_trans (cutMf_at m _ _ i) (by have := hu i hi; omega), ?_⟩, by simp only [hw]; omega⟩
      rw [cutMf_i m (i := 0) (by omega), fup_same]
      unfold cutF
      split
      · omega
      · simp; omega
    · refine use (Sync_d ((0 : Nat) : Int) hD) ?_
      rintro _ w35 ⟨rfl, hD1⟩
      refine ⟨_, rfl, _, rfl, ⟨k + 1, _, hw, by omega, hD1, fun i hi => Nat.le_trans (syncMf_at m _ i) (by have := hu i hi; omega), ?_⟩, by simp only [hw]; omega⟩
      rw [syncMf_i m (i := 0) (by omega), fup_same]
      show (m 0).now.length ≤ _
      omega
    · obtain ⟨_, _, _, _, hxb⟩ := hR
      have hb := (rdb_of_rdl hxb hwf.2.2.2.2)
      have hbl := hb.bsize
      refine ⟨x.B, ⟨rfl, hB.at rfl⟩, ?_⟩
      refine use (CopyBytes_s x.B (hb.keep0 hD.kp) (by omega)) ?_
      rintro _ w40 ⟨q, rfl, hqo, k40⟩
      refine ⟨q, rfl, ?_⟩
      refine use (Append_d ((0 : Nat) : Int) (hD.keep k40) hqo.rds (fun i hi => by have := hu i hi; omega)) ?_
      rintro _ w43 ⟨rfl, hD1⟩
      rw [appEf_i _ (by omega), appE_fits (by omega)]
      refine ⟨_, rfl, cond_f rfl ⟨_, rfl, ⟨k + 1, _, hw, by omega, hD1, fun i hi => Nat.le_trans (appMf_at m _ _ i) (by have := hu i hi; omega), ?_⟩, by simp only [hw]; omega⟩⟩
      rw [appMf_i m (i := 0) (by omega), fup_same, appF_fits (by omega)]
      simp
      omega
  · rintro e0 w47 ⟨m, hD, hu⟩
    have hu9 : ∀ i, i < 2 → unitsL (m i).pend ≤ 1000000000 := fun i hi => by have := hu i hi; omega
    have hL := hD.leads (i := 0) (by omega)
    have hu0 := hu 0 (by omega)
    refine use (Pending_d ((0 : Nat) : Int) hD hu9) ?_
    rintro _ w48 ⟨rfl, k48⟩
    replace hD := hD.keep k48
    rw [pendN_i _ (by omega)]
    have hcr : ∀ k : Nat, readF (crashM m k 0) ((0 : Nat) : Int) = crashB (m 0).sure (m 0).pend k := fun k => by
      rw [readF_i _ (by omega)]
      show crashB (m 0).sure (m 0).pend (if 0 = 0 then (k : Int) else 0).toNat = _
      rw [if_pos rfl, Int.toNat_natCast]
    obtain ⟨n, hn⟩ : ∃ n, unitsL (m 0).pend = n := ⟨_, rfl⟩
    rw [hn] at hu0 ⊢
    refine ⟨_, rfl, ?_⟩
    refine use (Crash_d (-1) 0 ⟨by decide, by decide⟩ ⟨by decide, by decide⟩ hD hu9) ?_
    rintro _ w51 ⟨x, rfl, hX⟩
    replace hD := hD.keep hX.kp
    refine ⟨PD x, rfl, ?_⟩
    refine use (Read_d ((0 : Nat) : Int) hX) ?_
    rintro _ w54 ⟨q, rfl, ho, k54⟩
    replace hD := hD.keep k54
    have e1 : readF (crashM m (-1) 0) ((0 : Nat) : Int) = crashB (m 0).sure (m 0).pend 0 := by rw [readF_i _ (by omega)]; rfl
    rw [e1] at ho
    refine ⟨q, rfl, str _, ho.rds.str, fun v u w' => ∃ k : Nat, v = str (crashB (m 0).sure (m 0).pend (k - 1)) ∧ u = k ∧ k ≤ n + 1 ∧ DS w w' d m, fun _ u _ => n + 1 - u.toNat, ⟨_, rfl, _, rfl, 0, rfl, rfl, by omega, hD⟩, fun e0 v u w64 hI => ?_⟩
    clear hD hX
    obtain ⟨k, rfl, rfl, hk, hD⟩ := hI
    refine cond_d (fun h1 => ?_) (fun h1 => ?_)
    · refine use (Crash_d (k : Int) 0 ⟨by omega, by omega⟩ ⟨by decide, by decide⟩ hD hu9) ?_
      rintro _ w65 ⟨x, rfl, hX⟩
      replace hD := hD.keep hX.kp
      refine ⟨PD x, rfl, ?_⟩
      refine use (Read_d ((0 : Nat) : Int) hX) ?_
      rintro _ w68 ⟨q, rfl, ho, k68⟩
      replace hD := hD.keep k68
      replace hX := hX.keep k68
      rw [hcr k] at ho
      have hAs := crash_small hL (k - 1)
      have hst : k = 0 ∨ Step1 (crashB (m 0).sure (m 0).pend (k - 1)) (crashB (m 0).sure (m 0).pend k) := by
        by_cases h0 : k = 0
        · exact .inl h0
        · have := crash_step1 hL (k - 1) (by omega)
          rw [show k - 1 + 1 = k by omega] at this
          exact .inr this
      have h00 : k = 0 → crashB (m 0).sure (m 0).pend (k - 1) = crashB (m 0).sure (m 0).pend k := fun h => by rw [h]
      have hfin : ∀ w82, Kp [] w68 w82 → (∃ k' : Nat, str (crashB (m 0).sure (m 0).pend k) = str (crashB (m 0).sure (m 0).pend (k' - 1)) ∧ IntKind.i64.wrap ((k : Int) + 1) = k' ∧ k' ≤ n + 1 ∧ DS w w82 d m) ∧ n + 1 - (IntKind.i64.wrap ((k : Int) + 1)).toNat < n + 1 - ((k : Int)).toNat := fun w82 k82 => by
        have hw : IntKind.i64.wrap ((k : Int) + 1) = (k + 1 : Nat) := by rw [IntKind.wrap_i64]; omega
        exact ⟨⟨k + 1, rfl, hw, by omega, hD.keep k82⟩, by simp only [hw]; omega⟩
      obtain ⟨B, hB⟩ : ∃ B, crashB (m 0).sure (m 0).pend k = B := ⟨_, rfl⟩
      obtain ⟨A, hA⟩ : ∃ A, crashB (m 0).sure (m 0).pend (k - 1) = A := ⟨_, rfl⟩
      rw [hB] at ho hst hfin h00
      rw [hA] at hst hAs h00
      rw [hA]
      refine ⟨q, rfl, str B, ho.rds.str, fun b w' => (b = true ↔ (B.length = A.length + 1 ∧ B.take A.length = A)) ∧ w68 = w', ?_, ?_⟩
      · simp only [str_size, str_cut, strEq_str, Int.toNat_natCast]
        refine cond_e (fun h => ?_) (fun h => ?_)
        · rw [IntKind.wrap_i64] at h
          exact ⟨⟨by omega, by omega⟩, _, rfl, by simp; omega, by trivial⟩
        · rw [IntKind.wrap_i64] at h
          exact ⟨_, rfl, by simp; omega, by trivial⟩
      rintro e1 b1 _ ⟨hb1, rfl⟩
      refine ⟨fun b w' => (b = true ↔ (B.length ≤ A.length ∧ A.take B.length = B)) ∧ w68 = w', ?_, ?_⟩
      · simp only [str_size, str_cut, strEq_str, Int.toNat_natCast]
        refine cond_d (fun h => ?_) (fun h => ?_)
        · exact ⟨⟨by omega, by omega⟩, _, rfl, by simp; omega, by trivial⟩
        · exact ⟨_, rfl, by simp; omega, by trivial⟩
      rintro e2 b2 _ ⟨hb2, rfl⟩
      refine use (Pending_d ((0 : Nat) : Int) hX (fun i hi => Nat.zero_le _)) ?_
      rintro _ w82 ⟨rfl, k82⟩
      rw [pendN_i _ (by omega)]
      refine ⟨_, rfl, cond_f rfl ?_⟩
      have go := hfin w82 k82
      refine cond_e (fun h0 => ?_) (fun h0 => ?_)
      · have : A = B := h00 (by omega)
        refine cond_f (by rw [strEq_str]; simp [this]) (cond_d (fun h => by omega) (fun h => ⟨_, rfl, _, rfl, go⟩))
      · refine cond_d (fun h => ?_) (fun h => by omega)
        rcases hst with h | h | h
        · omega
        · have : b1 = true := hb1.2 h
          subst this
          exact cond_f rfl ⟨_, rfl, _, rfl, go⟩
        · have : b2 = true := hb2.2 h
          subst this
          exact cond_i (fun _ => cond_f rfl ⟨_, rfl, _, rfl, go⟩) (fun _ => ⟨_, rfl, _, rfl, go⟩)
    · have : k - 1 = n := by omega
      rw [this, crash_all hL n (by omega)]
      refine use (Read_d ((0 : Nat) : Int) hD) ?_
      rintro _ w97 ⟨q, rfl, ho, k97⟩
      rw [readF_i _ (by omega)] at ho
      refine ⟨q, rfl, str _, ho.rds.str, ?_, hD.kp.then0 k97⟩
      rw [strEq_str]
      simp)
theorem DiskUnits_walk (s : Sl) (L : List M.skeplaw03_Op) (w : World) (_ : s.len ≤ s.cap ∧ s.cap ≤ maxLen) (hr : IsL w 5 S.skeplaw03_Op.v (Is.skeplaw03_Op w) s L) (hq : ∀ x ∈ L, Wf.skeplaw03_Op x) :
    Calls Try.prog 7 #[.slice s.a s.len s.cap] w fun e w' => e = .returned (.bool true) ∧ Below w.heap.size w w' := ret_true (DiskUnits_s s L w hr hq)
end Go.Proofs.Ytjjleboohldkiaa
