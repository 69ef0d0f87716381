/- Contracts of the small functions that all laws share: copies of bytes, places. -/
import Derived.Test.YtnhgoneeedemaaaMem
namespace Go.Proofs.Ytnhgoneeedemaaa
open Go.RowKit
set_option linter.unusedVariables false

theorem u8_info : (Try.prog.info? 5).map (fun i => (i.zero, i.size, i.bytes)) = some (some (.int .u8 0), 1, 1) := by kernel_rfl

/-- What a copy of bytes leaves. -/
def Copied (w : World) (l : List Int) (e : Ending) (w' : World) : Prop :=
  ∃ A c, e = .returned (.slice A l.length c) ∧ l.length ≤ c ∧ Rd .u8 w' A l ∧ Own .u8 5 w.heap.size w' (.slice A l.length c) l ∧ Below w.heap.size w w'
theorem copy_calls (A : Option Addr) (c : Nat) (l : List Int) (w : World) (hr : Rd .u8 w A l) :
    Calls Try.prog 9 #[.slice A l.length c] w (Copied w l) := by
  have hlen := hr.len
  go_enter Try.func9, Try.ntmps9
  go_wp2_with (at_builtin; refine wpList_app rfl (.const (.slice none 0 0)) (.tmp 3) _ rfl w.heap.size 5 _ 1 1 Try.underlying22 u8_info rfl (by omega) (.slice none 0 0) 0 [] rfl (World.ownsRow_nil _ _ _ _) A l.length c (l.map (Value.int .u8)) rfl hr.rdV (one_ints l) (by simp only [maxLen]; omega) (by omega) (Nat.le_refl _) ?_; intro v1 w1 hown hg hat)
  go_ret
  have hown' : Own .u8 5 w.heap.size w1 v1 l := by simpa [Own] using hown
  obtain ⟨A', c', rfl, hc, hrd⟩ := hown'.rd hr.len hr.wf
  exact ⟨A', c', rfl, hc, hrd, hown', below_of_grown hg (Nat.le_refl _) (by simp [Value.ownBlock])⟩
theorem place_calls (v n : Int) (w : World) (h : 0 < n) (h' : n ≤ 4611686018427387904) :
    Calls Try.prog 15 #[.int .i64 v, .int .i64 n] w fun e w' => e = .returned (.int .i64 (v % n)) ∧ w = w' := by
  have hb : (n == 0) = false := by simp; omega
  have h1 := Int.tmod_lt_of_pos v h
  have h2 := Int.lt_tmod_of_pos v h
  have h3 := Int.tmod_eq_emod (a := v) (b := n)
  by_cases h0 : v.tmod n < 0
  · have hr : v % n = v.tmod n + n := by
      by_cases hv : 0 ≤ v
      · have := Int.tmod_nonneg n hv; omega
      · rw [h3]
        split
        · rename_i hh
          rcases hh with hh | hh
          · omega
          · have := Int.tmod_eq_zero_of_dvd hh; omega
        · omega
    clear h3
    go_enter Try.func15, Try.ntmps15
    go_wp2
    go_ret
    exact ⟨ret_int (by omega), rfl⟩
  · have hr : v % n = v.tmod n := by
      by_cases hv : 0 ≤ v
      · exact (Int.tmod_eq_emod_of_nonneg hv).symm
      · rw [h3]
        split
        · simp
        · rename_i hh
          have h4 := Int.emod_lt_of_pos v h
          rw [h3, if_neg hh] at h0
          have : (n.natAbs : Int) = n := by omega
          omega
    clear h3
    go_enter Try.func15, Try.ntmps15
    go_wp2
    go_ret
    exact ⟨ret_int (by omega), rfl⟩
end Go.Proofs.Ytnhgoneeedemaaa
