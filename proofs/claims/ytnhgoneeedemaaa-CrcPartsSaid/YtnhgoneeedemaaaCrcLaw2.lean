/- The laws of layer 2 without the document's answer, walked. -/
import Derived.Test.YtnhgoneeedemaaaCrcLaw
namespace Go.Proofs.Ytnhgoneeedemaaa.C
open Go.RowKit
set_option linter.unusedVariables false

theorem more_more (s : Int) (a b : List Int) : more (more s a) b = more s (a ++ b) := by
  unfold more run
  rw [ofInt_toNat, BitVec.not_not, List.foldl_append]
theorem CrcParts_walk (A : Option Addr) (c : Nat) (l : List Int) (at_ : Int) (w : World) (hr : Rd .u8 w A l) (hc : l.length ≤ c) :
    Calls Try.prog 5 #[.slice A l.length c, .int .i64 at_] w fun e w' => e = .returned (.bool true) ∧ Below w.heap.size w w' := by
  have hlen := hr.len
  obtain ⟨k, hk, hk1⟩ : ∃ k : Nat, at_ % ((l.length : Int) + 1) = (k : Int) ∧ k ≤ l.length := by
    have h1 := Int.emod_nonneg at_ (show (l.length : Int) + 1 ≠ 0 by omega)
    have h2 := Int.emod_lt_of_pos at_ (show 0 < (l.length : Int) + 1 by omega)
    exact ⟨(at_ % ((l.length : Int) + 1)).toNat, by omega, by omega⟩
  have hp := place_calls at_ ((l.length : Int) + 1) w (by omega) (by omega)
  rw [hk] at hp
  clear hk
  have hkc : k ≤ c := by omega
  have f1 : (more (more 0 (l.take k)) (l.drop k) == more 0 l) = true := beq_t (by rw [more_more, List.take_append_drop])
  have hkl : (k : Int) ≤ (l.length : Int) := by omega
  have hlt : (l.take k).length = k := by simp; omega
  have hld : (l.drop k).length = l.length - k := by simp
  have c1 : Calls Try.prog 10 #[.slice A k c] w.drew fun e w'' => e = .returned (.int .u32 (more 0 (l.take k))) ∧ w'' = w.drew := by
    have := of_calls A c (l.take k) w.drew (hr.take k).drew
    rw [hlt] at this
    exact flipW this
  have c2 := flipW (of_calls A c l w.drew hr.drew)
  have c3 : ∀ s, Calls Try.prog 13 #[.int .u32 s, .slice (if c = k then A else Option.map (fun x => x.add k) A) (l.length - k) (c - k)] w.drew fun e w'' => e = .returned (.int .u32 (more s (l.drop k))) ∧ w'' = w.drew := by
    intro s
    have := more_calls s _ (c - k) (l.drop k) w.drew (hr.drop (m := k) hc).drew
    rw [hld] at this
    exact flipW this
  have c4 := flipW (more_calls 0 A c l w.drew hr.drew)
  clear hlt hld
  go_enter Try.func5, Try.ntmps5
  go_wp2_with (go_at_call 15; ((with_reducible refine (hp).mono ?_); rintro e w' ⟨rfl, rfl⟩))
  refine wp_region_still_tail 19 (by kernel_rfl) (by kernel_rfl) ?_
  simp only [List.take_succ_cons, List.take_zero, List.drop_succ_cons, List.drop_zero]
  iterate 3 still_step
  still_call c1
  iterate 3 still_step
  still_call (c3 _)
  still_step
  still_call c2
  iterate 3 still_step
  still_call c4
  still_step
  still_call c2
  iterate 3 still_step
  refine wpStill_nil ?_
  go_wp2_with (go_at_call 12; ((with_reducible refine (awake_calls _).mono ?_); rintro e w' ⟨rfl, hb2⟩))
  all_goals go_ret
  all_goals exact ⟨rfl, by (repeat (first | exact Below.refl _ _ | assumption | exact BelT.out (by assumption) | refine Below.setCell ?_ (by first | assumption | (simp; done) | (simp; omega) | omega) _ | refine bAlloc ?_ _ | refine Below.drew ?_ | refine bDrewN ?_ _ | refine bThen ?_ (by assumption)))⟩

theorem CrcBytes_walk (A : Option Addr) (c : Nat) (l : List Int) (w : World) (hr : Rd .u8 w A l) (hc : l.length ≤ c) :
    Calls Try.prog 7 #[.slice A l.length c] w fun e w' => e = .returned (.bool true) ∧ Below w.heap.size w w' := by
  have hlen := hr.len
  have c2 := of_calls A c l w hr
  have c3 : ∀ s, Calls Try.prog 13 #[.int .u32 s, .slice none 0 0] w fun e w'' => e = .returned (.int .u32 (more s [])) ∧ w = w'' := fun s => more_calls s none 0 [] w Rd.nil
  have f1 : (more (more 0 l) [] == more 0 l) = true := beq_t (by rw [more_more, List.append_nil])
  go_enter Try.func7, Try.ntmps7
  go_wp2
  go_loop [3, 4] (fun s i => ∃ k : Nat, k ≤ l.length ∧ i = .int .i64 k ∧ s = .int .u32 (more 0 (l.take k))) (fun _ i => l.length - (intOf i).toNat)
  case atStart => exact ⟨0, Nat.zero_le _, rfl, by rw [List.take_zero, of_nil]⟩
  case round =>
    obtain ⟨k, hk, rfl, rfl⟩ := hrel
    by_cases hlt : k < l.length
    · have hd := (hr.drop (m := k) hc).take 1
      have hone : (l.drop k).take 1 = [rd l k] := by
        rw [List.drop_eq_getElem_cons hlt, List.take_succ_cons, List.take_zero, rd, List.getD_eq_getElem?_getD, List.getElem?_eq_getElem hlt]; rfl
      have c4 := more_calls (more 0 (l.take k)) _ (c - k) ((l.drop k).take 1) w hd
      rw [hone, more_more, ← rd_take_succ l k hlt] at c4
      rw [List.length_singleton, if_neg (by omega)] at c4
      clear hone hd
      have hkc : k + 1 ≤ c := by omega
      go_wp2_with (go_at_call 13; ((with_reducible refine (c4).mono ?_); rintro e w' ⟨rfl, rfl⟩))
      go_round
      case rel => exact ⟨k + 1, by omega, by go_num, rfl⟩
      case measure => simp [intOf]; omega
    · have hke : k = l.length := by omega
      go_wp2_with (first | (go_at_call 10; ((with_reducible refine (c2).mono ?_); rintro e w' ⟨rfl, rfl⟩)) | (go_at_call 13; ((with_reducible refine (c3 _).mono ?_); rintro e w' ⟨rfl, rfl⟩)) | (go_at_call 12; ((with_reducible refine (awake_calls _).mono ?_); rintro e w' ⟨rfl, hb2⟩)))
      go_ret
      exact ⟨rfl, by (repeat (first | exact Below.refl _ _ | assumption | exact BelT.out (by assumption) | refine Below.setCell ?_ (by first | assumption | (simp; done) | (simp; omega) | omega) _ | refine bAlloc ?_ _ | refine Below.drew ?_ | refine bDrewN ?_ _ | refine bThen ?_ (by assumption)))⟩
end Go.Proofs.Ytnhgoneeedemaaa.C
