/- The laws of layer 2, walked. -/
import Derived.Test.YtnhgoneeedemaaaCrc
import Derived.Test.YtnhgoneeedemaaaBytes
import Derived.StillTailTactics
import Derived.Lib.SlBytesConst
namespace Go.Proofs.Ytnhgoneeedemaaa.C
open Go.RowKit
set_option linter.unusedVariables false

theorem of_123 : more 0 [49, 50, 51, 52, 53, 54, 55, 56, 57] = 3421780262 := by decide +kernel
theorem of_nil : more 0 [] = 0 := by decide +kernel
def l123 : List Int := [49, 50, 51, 52, 53, 54, 55, 56, 57]
theorem rd_123 (w : World) (B : Nat) (fr : Nat × Nat) (h : w.heap[B]? = some (.cells #[.int .u8 49, .int .u8 50, .int .u8 51, .int .u8 52, .int .u8 53, .int .u8 54, .int .u8 55, .int .u8 56, .int .u8 57] 5 fr)) :
    Rd .u8 w (some ⟨B, 0, none⟩) l123 := by
  refine rd_of_rdV ⟨rfl, fun _ => ⟨_, rfl, ?_⟩⟩ (by decide) (by decide)
  exact World.news_of_block h

theorem of123_calls (w : World) (B : Nat) (fr : Nat × Nat) (h : w.heap[B]? = some (.cells #[.int .u8 49, .int .u8 50, .int .u8 51, .int .u8 52, .int .u8 53, .int .u8 54, .int .u8 55, .int .u8 56, .int .u8 57] 5 fr)) :
    Calls Try.prog 10 #[.slice (some ⟨B, 0, none⟩) 9 9] w fun e w' => e = .returned (.int .u32 3421780262) ∧ w = w' := by
  have := of_calls (some ⟨B, 0, none⟩) 9 l123 w (rd_123 w B fr h)
  rw [show more 0 l123 = 3421780262 from of_123] at this
  exact this
theorem ofnil_calls (w : World) : Calls Try.prog 10 #[.slice none 0 0] w fun e w' => e = .returned (.int .u32 0) ∧ w = w' := by
  have := of_calls none 0 [] w Rd.nil
  rw [of_nil] at this
  exact this
theorem awake_calls (w : World) :
    Calls Try.prog 12 #[] w fun e w' => e = .returned (.bool true) ∧ Below w.heap.size w w' := by
  have kc := fun (w : World) (C : Array Value) (n c : Nat) => Lib.run_convert_bytes_const (P := Try.prog) w 22 5 C n c Try.underlying22 Try.underlying5
  go_enter Try.func12, Try.ntmps12
  go_wp2_with (first | (go_at_call 10; ((with_reducible refine (of123_calls _ _ _ (heap_alloc_new w _)).mono ?_); rintro e w' ⟨rfl, rfl⟩)) | (go_at_call 10; ((with_reducible refine (ofnil_calls _).mono ?_); rintro e w' ⟨rfl, rfl⟩)))
  go_ret
  exact ⟨rfl, by (repeat (first | exact Below.refl _ _ | assumption | exact BelT.out (by assumption) | refine Below.setCell ?_ (by first | assumption | (simp; done) | (simp; omega) | omega) _ | refine bAlloc ?_ _ | refine Below.drew ?_ | refine bDrewN ?_ _ | refine bThen ?_ (by assumption)))⟩

theorem CrcOf_walk (A : Option Addr) (c : Nat) (l : List Int) (w : World) (hr : Rd .u8 w A l) :
    Calls Try.prog 3 #[.slice A l.length c] w fun e w' => e = .returned (.bool true) ∧ Below w.heap.size w w' := by
  go_enter Try.func3, Try.ntmps3
  go_wp2_with fail
  refine (copy_calls A c l _ hr).mono ?_
  rintro e w1 ⟨A1, c1, rfl, hc1, hr1, ho1, hb1⟩
  have hr' := hr.below hb1
  have s1 := run_str hr1 c1 22 5 9 Try.underlying22 Try.underlying5 Try.underlying9
  have s2 := run_str hr' c 22 5 9 Try.underlying22 Try.underlying5 Try.underlying9
  go_wp2_with (first | (go_at_call 10; ((with_reducible refine (of_calls _ _ _ _ hr1).mono ?_); rintro e w' ⟨rfl, rfl⟩)) | (go_at_call 11; ((with_reducible refine (rof_calls _ _ _ _ hr').mono ?_); rintro e w' ⟨rfl, rfl⟩)) | (go_at_call 12; ((with_reducible refine (awake_calls _).mono ?_); rintro e w' ⟨rfl, hb2⟩)))
  go_ret
  exact ⟨rfl, by (repeat (first | exact Below.refl _ _ | assumption | exact BelT.out (by assumption) | refine Below.setCell ?_ (by first | assumption | (simp; done) | (simp; omega) | omega) _ | refine bAlloc ?_ _ | refine Below.drew ?_ | refine bDrewN ?_ _ | refine bThen ?_ (by assumption)))⟩
theorem CrcMore_walk (s : Int) (A : Option Addr) (c : Nat) (l : List Int) (w : World) (hr : Rd .u8 w A l) :
    Calls Try.prog 4 #[.int .u32 s, .slice A l.length c] w fun e w' => e = .returned (.bool true) ∧ Below w.heap.size w w' := by
  go_enter Try.func4, Try.ntmps4
  go_wp2_with fail
  refine (copy_calls A c l _ hr).mono ?_
  rintro e w1 ⟨A1, c1, rfl, hc1, hr1, ho1, hb1⟩
  have hr' := hr.below hb1
  go_wp2_with (first | (go_at_call 13; ((with_reducible refine (more_calls _ _ _ _ _ hr1).mono ?_); rintro e w' ⟨rfl, rfl⟩)) | (go_at_call 14; ((with_reducible refine (rmore_calls _ _ _ _ _ hr').mono ?_); rintro e w' ⟨rfl, rfl⟩)) | (go_at_call 12; ((with_reducible refine (awake_calls _).mono ?_); rintro e w' ⟨rfl, hb2⟩)))
  go_ret
  exact ⟨rfl, by (repeat (first | exact Below.refl _ _ | assumption | exact BelT.out (by assumption) | refine Below.setCell ?_ (by first | assumption | (simp; done) | (simp; omega) | omega) _ | refine bAlloc ?_ _ | refine Below.drew ?_ | refine bDrewN ?_ _ | refine bThen ?_ (by assumption)))⟩
end Go.Proofs.Ytnhgoneeedemaaa.C
