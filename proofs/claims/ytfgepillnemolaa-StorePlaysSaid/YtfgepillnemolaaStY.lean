/- The law StorePlays. No conditions. -/
import Derived.Test.YtfgepillnemolaaStL
namespace Go.Proofs.Ytfgepillnemolaa
open Go.RowKit Go.Eng
set_option linter.unusedVariables false
set_option linter.unusedSimpArgs false
theorem BB.zero : BB x0 0 := ⟨⟨by decide, by decide⟩, by decide, by decide, by rw [x0_end]; omega⟩
set_option maxHeartbeats 4000000 in
set_option maxRecDepth 20000 in
theorem StorePlays_s (s : Sl) (L : List M.skeplaw06_Op) (w : World) (hr : IsL w 4 S.skeplaw06_Op.v (Is.skeplaw06_Op w) s L) (hq : ∀ x ∈ L, Wf.skeplaw06_Op x) :
    C.skeplaw06_StorePlays s w (fun v w' => v = .bool true ∧ Kp [] w w') noP := skeplaw06_StorePlays_of (by
  unfold W.skeplaw06_StorePlays
  have hlen := hr.len
  refine use (New_g w w (Kp.refl _ _)) ?_
  rintro _ w1 ⟨d, rfl, hD, k1⟩
  refine ⟨PD d, rfl, use (rNew_s w1) ?_⟩
  rintro _ w4 ⟨rd, H, rfl, hR, k4, hH⟩
  have hR' : RDiskIs w4 H rd (rofs m00) := hR
  have hlt := hR'.lt
  have s1 := k1.size
  refine ⟨PD rd, rfl, use (open_s (a := none) (b := none) (f := 0) (j := 0) (x := x0) (hD.grow k4) hR' (fun y hy => ⟨.inr ⟨hH y hy, hlt y hy⟩, by have := hH y hy; omega⟩) (fun i hi => Nat.zero_le _) rfl rfl trivial trivial rfl KI.fresh (Nat.zero_le _)) ?_⟩
  rintro _ w7 ⟨o, rfl, hJ⟩
  refine ⟨(PD o, true), rfl, cond_f rfl (cond_f rfl ?_)⟩
  refine ⟨fun p v w' => ∃ (o i : Nat) (x : Lg), p = PD o ∧ v = i ∧ i ≤ 40 ∧ JO w w' o x ∧ BB x i, fun _ v _ => 40 - v.toNat, ⟨_, rfl, _, rfl, o, 0, x0, rfl, rfl, by omega, hJ, BB.zero⟩, ?_⟩
  clear hJ hD hR hR'
  rintro ev p v w16 ⟨o, i, x, rfl, rfl, hi, hJ, hb⟩
  have kk := hJ.kp
  refine cond_d (fun c1 => cond_d (fun c2 => ?_) (fun c2 => aw6 kk)) (fun c1 => aw6 kk)
  obtain ⟨ad, z, ha, hx, hz⟩ := hr.get (i := i) (by omega)
  have hwf := hq L[i] (List.getElem_mem _)
  obtain ⟨mo, hmo⟩ : ∃ mo, L[i] = mo := ⟨_, rfl⟩
  rw [hmo] at hz hwf
  have hx16 := rd_keep hx kk (by simp)
  rw [ha, Int.toNat_natCast]
  refine ⟨⟨by omega, c1⟩, z.B, ⟨rfl, hx16 3 _ rfl⟩, cond_d (fun _ => aw6 kk) (fun c3 => ⟨⟨by omega, c1⟩, z, ⟨rfl, hx16⟩, use (do_s hJ hb (by omega) hz hwf (by omega)) ?_⟩)⟩
  rintro _ w24 ⟨o', x', rfl, hJ', hb'⟩
  refine ⟨(PD o', true), rfl, cond_f rfl (cond_f rfl (use (alike_s hJ' hb' (by omega)) ?_))⟩
  rintro _ w33 ⟨rfl, k33⟩
  have hw : IntKind.i64.wrap ((i : Int) + 1) = (i + 1 : Nat) := by rw [IntKind.wrap_i64]; omega
  exact ⟨_, rfl, cond_f rfl ⟨_, rfl, _, rfl, ⟨o', i + 1, x', rfl, hw, by omega, hJ'.keep k33, hb'⟩, by rw [hw]; simp only [Int.toNat_natCast]; omega⟩⟩)
theorem StorePlays_walk (s : Sl) (L : List M.skeplaw06_Op) (w : World) (_ : s.len ≤ s.cap ∧ s.cap ≤ maxLen) (hr : IsL w 4 S.skeplaw06_Op.v (Is.skeplaw06_Op w) s L) (hq : ∀ x ∈ L, Wf.skeplaw06_Op x) :
    Calls Try.prog 7 #[.slice s.a s.len s.cap] w fun e w' => e = .returned (.bool true) ∧ Below w.heap.size w w' := ret_true (StorePlays_s s L w hr hq)
end Go.Proofs.Ytfgepillnemolaa
