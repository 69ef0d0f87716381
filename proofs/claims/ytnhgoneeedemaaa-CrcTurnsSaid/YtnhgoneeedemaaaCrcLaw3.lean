/- The laws of layer 2 that write bytes of their own, walked. -/
import Derived.Test.YtnhgoneeedemaaaCrcLaw
import Derived.Test.YtnhgoneeedemaaaCrcMath
namespace Go.Proofs.Ytnhgoneeedemaaa.C
open Go.RowKit
set_option linter.unusedVariables false

theorem CrcTurns_walk (A : Option Addr) (c : Nat) (l : List Int) (at_ row : Int) (w : World) (hr : Rd .u8 w A l) (hrow : 0 ≤ row ∧ row ≤ 4294967295) :
    Calls Try.prog 6 #[.slice A l.length c, .int .i64 at_, .int .u32 row] w fun e w' => e = .returned (.bool true) ∧ Below w.heap.size w w' := by
  have hlen := hr.len
  by_cases h0 : l.length = 0
  · have e0 : ((l.length : Int) == 0) = true := beq_t (by omega)
    go_enter Try.func6, Try.ntmps6
    go_wp2_with (go_at_call 12; ((with_reducible refine (awake_calls _).mono ?_); rintro e w' ⟨rfl, hb2⟩))
    go_ret
    exact ⟨rfl, by (repeat (first | exact Below.refl _ _ | assumption | exact BelT.out (by assumption) | refine Below.setCell ?_ (by first | assumption | (simp; done) | (simp; omega) | omega) _ | refine bAlloc ?_ _ | refine Below.drew ?_ | refine bDrewN ?_ _ | refine bThen ?_ (by assumption)))⟩
  · have e0 : ((l.length : Int) == 0) = false := beq_f (by omega)
    obtain ⟨k, hk, hk1⟩ : ∃ k : Nat, at_ % (8 * (l.length : Int)) = (k : Int) ∧ k < 8 * l.length := by
      have h1 := Int.emod_nonneg at_ (show 8 * (l.length : Int) ≠ 0 by omega)
      have h2 := Int.emod_lt_of_pos at_ (show 0 < 8 * (l.length : Int) by omega)
      exact ⟨(at_ % (8 * (l.length : Int))).toNat, by omega, by omega⟩
    have hp := fun w => place_calls at_ (8 * (l.length : Int)) w (by omega) (by omega)
    rw [hk] at hp
    clear hk
    go_enter Try.func6, Try.ntmps6
    go_wp2_with fail
    refine (copy_calls A c l _ hr).mono ?_
    rintro e w1 ⟨A1, c1, rfl, hc1, hr1, ho1, hb1⟩
    go_wp2_with (go_at_call 15; ((with_reducible refine (hp _).mono ?_); rintro e w' ⟨rfl, rfl⟩))
    have hB := hb1.size
    go_loopw [9] (fun i wr => ∃ (m : Nat) (lc : List Int), m ≤ 32 ∧ i = .int .i64 m ∧ lc.length = l.length ∧ (∀ x ∈ lc, (Lit.int .u8 x).wf = true) ∧ Own .u8 5 w.heap.size wr (.slice A1 l.length c1) lc ∧ Below w.heap.size w wr ∧
      (∀ j, j < 8 * l.length → (j < k ∨ k + 32 ≤ j) → bitAt lc j = bitAt l j)) (fun i _ => 32 - (intOf i).toNat)
    case atStart => exact ⟨0, l, Nat.zero_le _, rfl, rfl, hr.wf, ho1, hb1, fun _ _ _ => rfl⟩
    case round =>
      obtain ⟨m, lc, hm, rfl, hlc, hwf, hown, hbw, hbit⟩ := hrel
      by_cases hin : m < 32
      · by_cases hin2 : k + m < 8 * l.length
        · have d1 : decide (((k : Int) + (m : Int)) < 8 * (l.length : Int)) = true := by simp; omega
          obtain ⟨q, hq, hql⟩ : ∃ q : Nat, ((k : Int) + (m : Int)) / 8 = (q : Int) ∧ q = (k + m) / 8 := ⟨(k + m) / 8, by omega, rfl⟩
          obtain ⟨s, hs, hsl⟩ : ∃ s : Nat, ((k : Int) + (m : Int)) % 8 = (s : Int) ∧ s = (k + m) % 8 := ⟨(k + m) % 8, by omega, rfl⟩
          have hqlt : q < l.length := by omega
          have hs8 : s < 8 := by omega
          have HQ := Lib.hid hql; clear hql
          have HS := Lib.hid hsl; clear hsl
          obtain ⟨g, rfl, hg, hglt, hcc, hff, hset⟩ := own_at hown hlc.symm q hqlt
          have hrange : ∀ x ∈ lc, 0 ≤ x ∧ x ≤ 255 := fun x hx => wf_u8 (hwf x hx)
          have hfl := flip_byte (hrange _ (rd_mem (by omega : q < lc.length))).1 (hrange _ (rd_mem (by omega : q < lc.length))).2 hs8
          have HF : Hid (∀ j, j ≠ 8 * q + s → bitAt (lc.set q (bits .xor .u8 (rd lc q) (2 ^ s % 256))) j = bitAt lc j) := fun j hj => bitAt_flip hrange (by omega) hs8 j hj
          have HR := Lib.hid hrange
          have HL := Lib.hid hfl
          have HB := Lib.hid hbit
          have HST := Lib.hid hset
          have HW := Lib.hid hwf
          clear hrange hfl hbit hset hwf
          go_wp2
          · go_roundw
            case rel =>
              refine ⟨m + 1, _, by omega, by go_num, ?_, ?_, HST.out _, by (repeat (first | exact Below.refl _ _ | assumption | exact BelT.out (by assumption) | refine Below.setCell ?_ (by first | assumption | (simp; done) | (simp; omega) | omega) _ | refine bAlloc ?_ _ | refine Below.drew ?_ | refine bDrewN ?_ _ | refine bThen ?_ (by assumption))), fun j hj hout => ?_⟩
              · simp [hlc]
              · intro x hx
                rcases List.mem_or_eq_of_mem_set hx with hx | rfl
                · exact HW.out x hx
                · exact wf_of_u8 HL.out.1.1 HL.out.1.2
              · have h1 := HQ.out
                have h2 := HS.out
                rw [HF.out j (by omega)]
                exact HB.out j hj hout
            case measure => simp [intOf]; omega
          · go_roundw
            case rel => exact ⟨m + 1, lc, by omega, by go_num, hlc, HW.out, hown, hbw, HB.out⟩
            case measure => simp [intOf]; omega
        · have d1 : decide (((k : Int) + (m : Int)) < 8 * (l.length : Int)) = false := by simp; omega
          have hb2 : ∀ x ∈ lc, 0 ≤ x ∧ x ≤ 255 := fun x hx => wf_u8 (hwf x hx)
          have hb3 : ∀ x ∈ l, 0 ≤ x ∧ x ≤ 255 := fun x hx => wf_u8 (hr.wf x hx)
          have hfin : ((more 0 lc == more 0 l) == ((strOfNums lc).toList == (strOfNums l).toList)) = true := by
            rw [str_eq hb2 hb3]
            by_cases he : lc = l
            · subst he; simp
            · have : more 0 lc ≠ more 0 l := fun h => he (burst lc l k hb2 hb3 hlc (fun j hj hout => hbit j (by omega) hout) h)
              simp [he, this]
          clear hb2 hb3
          obtain ⟨A2, c2, hv, hc2, hrc⟩ := Own.rd (k := .u8) (l := lc) (by rw [← hlc] at hown; exact hown) (by omega) hwf
          injection hv with hA2 hn2 hcc2
          subst hA2; subst hcc2
          have hrw := hr.below hbw
          have k1 := flipW (of_calls A1 c1 lc wr.drew hrc.drew)
          have k2 := flipW (of_calls A c l wr.drew hrw.drew)
          have s1 := run_str (P := Try.prog) hrc.drew c1 22 5 9 Try.underlying22 Try.underlying5 Try.underlying9
          have s2 := run_str (P := Try.prog) hrw.drew c 22 5 9 Try.underlying22 Try.underlying5 Try.underlying9
          rw [hlc] at k1 s1
          clear hbit hwf hlc
          go_wp2
          refine wp_region_still_tail 12 (by kernel_rfl) (by kernel_rfl) ?_
          simp only [List.take_succ_cons, List.take_zero, List.drop_succ_cons, List.drop_zero]
          still_step
          still_call k1
          still_step
          still_call k2
          iterate 8 still_step
          refine wpStill_nil ?_
          go_wp2_with (go_at_call 12; ((with_reducible refine (awake_calls _).mono ?_); rintro e w' ⟨rfl, hb2⟩))
          go_ret
          exact ⟨rfl, by (repeat (first | exact Below.refl _ _ | assumption | exact BelT.out (by assumption) | refine Below.setCell ?_ (by first | assumption | (simp; done) | (simp; omega) | omega) _ | refine bAlloc ?_ _ | refine Below.drew ?_ | refine bDrewN ?_ _ | refine bThen ?_ (by assumption)))⟩
      · have hb2 : ∀ x ∈ lc, 0 ≤ x ∧ x ≤ 255 := fun x hx => wf_u8 (hwf x hx)
        have hb3 : ∀ x ∈ l, 0 ≤ x ∧ x ≤ 255 := fun x hx => wf_u8 (hr.wf x hx)
        have hfin : ((more 0 lc == more 0 l) == ((strOfNums lc).toList == (strOfNums l).toList)) = true := by
          rw [str_eq hb2 hb3]
          by_cases he : lc = l
          · subst he; simp
          · have : more 0 lc ≠ more 0 l := fun h => he (burst lc l k hb2 hb3 hlc (fun j hj hout => hbit j (by omega) hout) h)
            simp [he, this]
        clear hb2 hb3
        obtain ⟨A2, c2, hv, hc2, hrc⟩ := Own.rd (k := .u8) (l := lc) (by rw [← hlc] at hown; exact hown) (by omega) hwf
        injection hv with hA2 hn2 hcc2
        subst hA2; subst hcc2
        have hrw := hr.below hbw
        have k1 := flipW (of_calls A1 c1 lc wr.drew hrc.drew)
        have k2 := flipW (of_calls A c l wr.drew hrw.drew)
        have s1 := run_str (P := Try.prog) hrc.drew c1 22 5 9 Try.underlying22 Try.underlying5 Try.underlying9
        have s2 := run_str (P := Try.prog) hrw.drew c 22 5 9 Try.underlying22 Try.underlying5 Try.underlying9
        rw [hlc] at k1 s1
        clear hbit hwf hlc
        go_wp2
        refine wp_region_still_tail 12 (by kernel_rfl) (by kernel_rfl) ?_
        simp only [List.take_succ_cons, List.take_zero, List.drop_succ_cons, List.drop_zero]
        still_step
        still_call k1
        still_step
        still_call k2
        iterate 8 still_step
        refine wpStill_nil ?_
        go_wp2_with (go_at_call 12; ((with_reducible refine (awake_calls _).mono ?_); rintro e w' ⟨rfl, hb2⟩))
        go_ret
        exact ⟨rfl, by (repeat (first | exact Below.refl _ _ | assumption | exact BelT.out (by assumption) | refine Below.setCell ?_ (by first | assumption | (simp; done) | (simp; omega) | omega) _ | refine bAlloc ?_ _ | refine Below.drew ?_ | refine bDrewN ?_ _ | refine bThen ?_ (by assumption)))⟩

end Go.Proofs.Ytnhgoneeedemaaa.C
