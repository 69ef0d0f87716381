/- Proved: the given statement 'CodecStatesUptoSaid': the law 'CodecStates' returns true for every input, and every argument reads afterwards as before. Conditions: none beyond the statement's own. -/
import Derived.Test.YtocbjadhcfjfiaaRows
import Derived.Test.YtocbjadhcfjfiaaCodAA
import Derived.OpenShut
import Derived.ShutString
import Derived.Carry
import Derived.JoinedCond
import Derived.SizedLaws
import Derived.Test.YtocbjadhcfjfiaaOpen
import Derived.Test.YtocbjadhcfjfiaaOpenD
namespace Go.Proofs.Ytocbjadhcfjfiaa
namespace UCodecStates
open Go.ChangeShapes Go.WideShapes Go.ChangeAt Go.RowKit
set_option linter.unusedVariables false
set_option linter.unusedSimpArgs false
theorem own : ownKnob Try.prog.godebug = none := by kernel_rfl
theorem laidOut : laidOutB Try.prog = true := by kernel_rfl
set_option maxRecDepth 100000 in
set_option maxHeartbeats 4000000 in
theorem lifted (os : Os) (started : os.Started) (H : Type) (enc : TypeId × Value → H) (FF : Stop.Interp) :
    ReturnsInHanded {} Try.checked os 9 .any ((Rows.OpenSpec.upto Rows.codecStatesSpec).pre6 enc Try.prog Try.f9 Rows.codecStatesUptoRow.domain false) (((Rows.OpenSpec.upto Rows.codecStatesSpec).at FF).post enc Try.prog Try.f9 false true false false) := by
  refine returnsInHanded_of_cond (C := Try.checked) (s := Rows.OpenSpec.upto Rows.codecStatesSpec) (k := Rows.uptoSmall) rfl own started (by kernel_rfl) Try.func9
    (OpenSpec.witness (enc := enc) (C := Try.checked) (s := Rows.OpenSpec.upto Rows.codecStatesSpec) (k := Rows.uptoSmall) rfl false ⟨#[], #[.agg #[.int .i64 0, .int .i64 0, .bool false, .slice none 0 0, .slice none 0 0, .slice none 0 0, .slice none 0 0, .slice none 0 0, .int .i64 0, .int .i64 0], .slice none 0 0], []⟩ 8 (by kernel_rfl) (by kernel_rfl) (by kernel_rfl) rfl (by kernel_rfl) (by kernel_rfl)) ?_
  intro W base args ds gs before hval0 hW hcnd hkk _
  have hval : ∀ (j : Nat) t v, Try.f9.params[j]? = some t → args[j]? = some v → Value.okWide Try.prog W .any base t v := hval0
  have hW' := hW
  obtain ⟨p, q, hA0, hV, rfl, hfz, hnd⟩ := hW
  have hA : DataW.TrodAll enc Try.prog W 0 (fun _ => true) true Try.f9.params.toList args.toList ds p := hA0
  rw [Try.params9] at hA hval
  obtain ⟨v0, vs0, d0, ds0, p0, q0, hargs, rfl, rfl, h0, r0⟩ := trodAll_cons hA
  obtain ⟨v1, vs1, d1, ds1, p1, q1, rfl, rfl, rfl, h1, r1⟩ := trodAll_cons r0
  obtain ⟨rfl, rfl, rfl⟩ := trodAll_nil r1
  obtain rfl : args = #[v0, v1] := by cases args; simp_all
  obtain ⟨rfl, rfl⟩ := trodVars_none hV
  have hbk : Rows.uptoBulkAll [d0, d1] ≤ 1048576 := of_decide_eq_true (p := Rows.uptoBulkAll ([d0, d1] ++ []) ≤ 1048576) hkk
  have b0b : Rows.uptoBulk d0 ≤ 1048576 := by simp only [Rows.uptoBulkAll] at hbk; omega
  have b1b : Rows.uptoBulk d1 ≤ 1048576 := by simp only [Rows.uptoBulkAll] at hbk; omega
  obtain ⟨cs0, rfl, _⟩ := okWide_struct Try.underlying78 (hval 0 78 v0 rfl rfl)
  have k0 := h0
  have lt0 : ∀ x ∈ p0, x.block < W.heap.size := by obtain ⟨m, hm⟩ := k0; exact DataW.trod_lt m _ _ _ hm
  obtain ⟨m0, hm0⟩ := h0
  obtain ⟨s0, l0, e0, R0, Q0⟩ := open_api_State (fun _ => rfl) hm0
  obtain rfl : cs0 = (S.api_State.v s0).cells := by
    have := congrArg List.toArray e0
    simpa [Value.cells] using this
  obtain ⟨a1, len1, cap1, rfl⟩ := okWide_slice Try.underlying22 (hval 1 22 v1 rfl rfl)
  have k1 := h1
  have lt1 : ∀ x ∈ p1, x.block < W.heap.size := by obtain ⟨m, hm⟩ := k1; exact DataW.trod_lt m _ _ _ hm
  obtain ⟨l1, rfl, c1, z1, w1⟩ := rd_small Try.underlying22 Try.underlying5 (by kernel_rfl) b1b h1
  clear hA0 hval0
  refine (CodecStates_walk s0 l0 a1 cap1 l1 W R0 Q0 (state_bulk R0 hm0 b0b) w1 c1 z1).mono fun e W' ⟨he, bel⟩ => ?_
  subst he
  exact ⟨_, rfl, _, _, _, [], _, [], hW', trodAll_mk1 (shut_bool Try.underlying4 _), (trodAll_cons_mk (Below.trod laidOut (by kernel_rfl) (of_decide_eq_true (by kernel_rfl)) k0 bel lt0) (trodAll_cons_mk (Below.trod laidOut (by kernel_rfl) (of_decide_eq_true (by kernel_rfl)) k1 bel lt1) trodAll_mk0)), rfl, bel.frame _, fun h => by cases h⟩
theorem over : Rows.codecStatesUptoRow.holds Try.pinned (Rows.OpenSpec.upto Rows.codecStatesSpec) :=
  OpenClaim.holds_of_cond 9 Try.f9 rfl rfl rfl rfl rfl rfl rfl ⟨rfl, rfl, rfl, rfl, rfl⟩ rfl rfl rfl rfl rfl (by kernel_rfl) Try.func9 (by kernel_rfl)
    (of_decide_eq_true (by kernel_rfl)) (by unfold Func.isWrapper; first | (rw [if_pos (by decide +kernel)]; kernel_rfl) | (rw [if_neg (by decide +kernel)]; exact ⟨rfl, rfl⟩))
    (fun os started H enc _ FF => lifted os started H enc FF)
end UCodecStates
theorem codecStatesUpto_holds : Rows.CodecStatesUptoSaid := UCodecStates.over
end Go.Proofs.Ytocbjadhcfjfiaa
