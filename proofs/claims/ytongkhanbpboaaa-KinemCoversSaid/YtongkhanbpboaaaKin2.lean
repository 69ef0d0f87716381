/- A Kin in memory; what goes through the places of a run. No conditions. -/
import Derived.Test.YtongkhanbpboaaaKin1
import Derived.Test.YtongkhanbpboaaaInts
import Derived.Test.YtongkhanbpboaaaOnce
import Derived.RangeFuncBound
import Derived.RangeFuncRecord
namespace Go.Proofs.Ytongkhanbpboaaa
open Go.RowKit Go.Eng
set_option linter.unusedVariables false
theorem callV_mono {P : Program} {f : Value} {args : List Value} {w : World} {K K' : Value → World → Prop} {KP : List PanicEntry → World → Prop} (h : callV P f args w (Ret K fun _ _ => False)) (k : ∀ v w', K v w' → K' v w') : callV P f args w (Ret K' KP) := by
  unfold callV at h ⊢
  split at h
  · exact ⟨h.1, use h.2 k⟩
  · exact YieldAt.mono h (fun e w he => by cases e <;> first | exact k _ _ he | exact he.elim)
  · exact h.elim
theorem put_kp (w : World) (r : Nat) (o : Obj) : Kp [r] w (w.putObj r o) := ⟨rfl, rfl, rfl, by simp [World.putObj], fun k hk hn => by
  have : ¬ r = k := fun e => hn (by simp [e])
  simp [World.putObj, this]⟩
theorem put_at {w : World} {r : Nat} (o : Obj) (h : r < w.heap.size) : (w.putObj r o).heap[r]? = some o := by
  simp [World.putObj, h]
theorem put_sz (w : World) (r : Nat) (o : Obj) : (w.putObj r o).heap.size = w.heap.size := by simp [World.putObj]
theorem heap_lt {w : World} {r : Nat} {o : Obj} (h : w.heap[r]? = some o) : r < w.heap.size := (Array.getElem?_eq_some_iff.1 h).1
theorem heap_keep {w w' : World} {l : List Nat} {r : Nat} {o : Obj} (h : w.heap[r]? = some o) (k : Kp l w w') (hn : r ∉ l) : w'.heap[r]? = some o := (k.block r (heap_lt h) hn).trans h
def ni (l : List Nat) : List Int := l.map fun x : Nat => (x : Int)
theorem ni_len (l : List Nat) : (ni l).length = l.length := by simp [ni]
theorem ni_get (l : List Nat) (i : Nat) (h : i < (ni l).length) : (ni l)[i] = ((l[i]'(by rw [ni_len] at h; exact h) : Nat) : Int) := by simp [ni]
set_option maxHeartbeats 2000000 in
/-- What goes through the places of a run: each is yielded (yield always says yes). -/
theorem steps_it {F : Bool} {b1 b9 b5 b3 b7 kb u a v E p0 s0 : Nat} {l : List Nat} (hN : Nums u a v) (hr : Run F a v E p0 s0 l) (hE : E ≤ 100000) (hs0 : s0 ≤ v) (hs1 : F = true → 1 ≤ s0) (yield : Value) (Fy : Nat → Prop) (J : Nat → World → Prop)
    (hJ : ∀ k W, J k W → KC W kb u a v) (hk : ∀ k W W', J k W → Kp [b5, b3] W W' → J k W')
    (hy : ∀ k, k < l.length → ∀ W, J k W → callV Try.prog yield [.int .i64 (posA p0 l (k + 1))] W (Ret (fun r w' => r = .bool true ∧ J (k + 1) w' ∧ KpF Fy W w') noP))
    (hn : ¬ Fy b1 ∧ ¬ Fy b9 ∧ ¬ Fy b5 ∧ ¬ Fy b3 ∧ ¬ Fy b7) (hd : b1 ≠ b5 ∧ b1 ≠ b3 ∧ b9 ≠ b5 ∧ b9 ≠ b3 ∧ b5 ≠ b3 ∧ b7 ≠ b5 ∧ b7 ≠ b3)
    {w : World} (h1 : Blk w b1 [.pointer (PK kb)]) (h9 : Blk w b9 [.bool F]) (h5 : Blk w b5 [.int .i64 s0]) (h3 : Blk w b3 [.int .i64 p0]) (h7 : Blk w b7 [.int .i64 E]) (h0 : J 0 w) :
    C.kinem_Kin_steps_1 yield (PK b1) (PK b9) (PK b5) (PK b3) (PK b7) w (fun r w' => r = .tuple #[] ∧ J l.length w') noP := kinem_Kin_steps_1_of (by
  unfold W.kinem_Kin_steps_1
  obtain ⟨n1, n9, n5, n3, n7⟩ := hn
  obtain ⟨d1, d2, d3, d4, d5, d6, d7⟩ := hd
  have hv2 := hN.v2
  refine ⟨PK kb, ⟨rfl, h1.at rfl⟩, _, ⟨rfl, (hJ 0 w h0).v⟩, fun m w' => m = ((if F then s0 else v : Nat) : Int) ∧ w = w', ?_, ?_⟩
  · refine ⟨F, ⟨rfl, h9.at rfl⟩, ?_⟩
    cases F
    · exact cond_f rfl ⟨_, rfl, rfl, rfl⟩
    · exact cond_t rfl ⟨_, ⟨rfl, h5.at rfl⟩, _, rfl, rfl, rfl⟩
  rintro e0 _ _ ⟨rfl, rfl⟩
  refine ⟨fun m W => ∃ k, k ≤ l.length ∧ m = ((if F then spdA p0 s0 l k else v : Nat) : Int) ∧ spdA p0 s0 l k ≤ v ∧ Blk W b1 [.pointer (PK kb)] ∧ Blk W b9 [.bool F] ∧ Blk W b5 [.int .i64 (spdA p0 s0 l k)] ∧ Blk W b3 [.int .i64 (posA p0 l k)] ∧ Blk W b7 [.int .i64 E] ∧ J k W, fun _ W => match W.cell? ⟨b3, 0, none⟩ with | some (.int _ x) => E - x.toNat | _ => 0,
    ⟨_, rfl, 0, Nat.zero_le _, rfl, hs0, h1, h9, h5, by rw [posA_zero]; exact h3, h7, h0⟩, fun e0 m W hI => ?_⟩
  clear h1 h9 h5 h3 h7 h0
  obtain ⟨k, hkl, rfl, hsv, x1, x9, x5, x3, x7, hj⟩ := hI
  have c3 := x3.at (i := 0) rfl
  have hpE := hr.end_le k
  refine ⟨_, ⟨rfl, c3⟩, _, ⟨rfl, x7.at rfl⟩, cond_d (fun hlt => ?_) (fun hge => ?_)⟩
  · have hk2 : k < l.length := by
      rcases Nat.lt_or_ge k l.length with h | h
      · exact h
      · have := hr.last h; omega
    obtain ⟨t1, t2, t3⟩ := hr.tick hk2
    refine ⟨PK kb, ⟨rfl, x1.at rfl⟩, _, ⟨rfl, x7.at rfl⟩, _, ⟨rfl, c3⟩, _, ⟨rfl, x5.at rfl⟩, ?_⟩
    have w1 : IntKind.i64.wrap ((E : Int) - ((posA p0 l k : Nat) : Int)) = ((E - posA p0 l k : Nat) : Int) := by rw [IntKind.wrap_i64]; omega
    rw [w1]
    refine use (next_s hN (E - posA p0 l k) (spdA p0 s0 l k) (if F then spdA p0 s0 l k else v) (by omega) (by omega) (by split <;> omega) (hJ k W hj)) ?_
    rintro _ w31 ⟨rfl, k31⟩
    have eq : nx a (if F then spdA p0 s0 l k else v) (E - posA p0 l k) (spdA p0 s0 l k) = spdA p0 s0 l (k + 1) := t2.symm
    rw [eq]
    have hsv2 : spdA p0 s0 l (k + 1) ≤ v := by
      rw [t2]
      have := (nz_le F a v (E - posA p0 l k) (spdA p0 s0 l k)).2.1
      split at this <;> omega
    have hmono := hr.end_le (k + 1)
    replace x1 := x1.keep k31 (by simp)
    replace x9 := x9.keep k31 (by simp)
    replace x5 := x5.keep k31 (by simp)
    replace x3 := x3.keep k31 (by simp)
    replace x7 := x7.keep k31 (by simp)
    refine ⟨_, rfl, ⟨rfl, x5.can1 _ rfl (Nat.le_of_ble_eq_true rfl)⟩, fun w34 e34 => ?_⟩
    obtain ⟨y5, k34, s34⟩ := x5.put1 rfl e34
    have y1 := x1.keep k34 (by simpa using d1)
    have y9 := x9.keep k34 (by simpa using d3)
    have y3 := x3.keep k34 (by simpa using d5.symm)
    have y7 := x7.keep k34 (by simpa using d6)
    have w2 : IntKind.i64.wrap (((posA p0 l k : Nat) : Int) + ((spdA p0 s0 l (k + 1) : Nat) : Int)) = ((posA p0 l (k + 1) : Nat) : Int) := by rw [IntKind.wrap_i64]; omega
    have hj34 : J k w34 := hk k w31 w34 (hk k W w31 hj (k31.up _)) (k34.mono (by simp))
    -- the place is told
    have fin : ∀ m' : Int, m' = ((if F then spdA p0 s0 l (k + 1) else v : Nat) : Int) → (okVal false 1 (.int .i64 ((posA p0 l (k + 1) : Nat) : Int)) = true ∧ canPut w34 ⟨b3, 0, none⟩ (.int .i64 ((posA p0 l (k + 1) : Nat) : Int))) ∧ ∀ w44 : World, w44 = putAt w34 ⟨b3, 0, none⟩ (.int .i64 ((posA p0 l (k + 1) : Nat) : Int)) →
        ∃ y46 : Int, (okVal false 1 (.int .i64 y46) = true ∧ w44.cell? ⟨b3, 0, none⟩ = some (.int .i64 y46)) ∧
        callV Try.prog yield [.int .i64 y46] w44 (Ret (fun r50 w48 => ∃ p49 : Bool, r50 = .bool p49 ∧ (cond (!p49) ((Value.tuple #[]) = .tuple #[] ∧ J l.length w48)
          (∃ u51 : Int, (.int .i64 m' : Value) = .int .i64 u51 ∧ ((∃ k, k ≤ l.length ∧ u51 = ((if F then spdA p0 s0 l k else v : Nat) : Int) ∧ spdA p0 s0 l k ≤ v ∧ Blk w48 b1 [.pointer (PK kb)] ∧ Blk w48 b9 [.bool F] ∧ Blk w48 b5 [.int .i64 (spdA p0 s0 l k)] ∧ Blk w48 b3 [.int .i64 (posA p0 l k)] ∧ Blk w48 b7 [.int .i64 E] ∧ J k w48) ∧ (match w48.cell? ⟨b3, 0, none⟩ with | some (.int _ x) => E - x.toNat | _ => 0) < (match W.cell? ⟨b3, 0, none⟩ with | some (.int _ x) => E - x.toNat | _ => 0))))) noP) := fun m' hm' => by
      refine ⟨⟨rfl, y3.can1 _ rfl (Nat.le_of_ble_eq_true rfl)⟩, fun w44 e44 => ?_⟩
      obtain ⟨z3, k44, s44⟩ := y3.put1 rfl e44
      have z1 := y1.keep k44 (by simpa using d2)
      have z9 := y9.keep k44 (by simpa using d4)
      have z5 := y5.keep k44 (by simpa using d5)
      have z7 := y7.keep k44 (by simpa using d7)
      refine ⟨_, ⟨rfl, z3.at rfl⟩, ?_⟩
      refine callV_mono (hy k hk2 w44 (hk k w34 w44 hj34 (k44.mono (by simp)))) ?_
      rintro _ w48 ⟨rfl, hj48, k48⟩
      have t3' := z3.keepF k48 n3
      refine ⟨true, rfl, cond_f rfl ⟨_, rfl, ⟨k + 1, hk2, hm', hsv2, z1.keepF k48 n1, z9.keepF k48 n9, z5.keepF k48 n5, t3', z7.keepF k48 n7, hj48⟩, ?_⟩⟩
      have hc1 : w48.cell? ⟨b3, 0, none⟩ = some (.int .i64 ((posA p0 l (k + 1) : Nat) : Int)) := t3'.at rfl
      rw [hc1, c3]
      have hpos := hr.pos hN.a1 hN.v1 hs1 k hk2
      simp only [Int.toNat_natCast]
      omega
    refine ⟨F, ⟨rfl, y9.at rfl⟩, ?_⟩
    cases F
    · refine cond_f rfl ⟨_, ⟨rfl, y3.at rfl⟩, _, ⟨rfl, y5.at rfl⟩, ?_⟩
      rw [w2]
      exact fin _ rfl
    · refine cond_t rfl ⟨_, ⟨rfl, y5.at rfl⟩, _, ⟨rfl, y3.at rfl⟩, _, ⟨rfl, y5.at rfl⟩, ?_⟩
      rw [w2]
      exact fin _ rfl
  · have : k = l.length := by
      rcases Nat.lt_or_ge k l.length with h | h
      · have := (hr.tick h).1; omega
      · omega
    subst this
    exact ⟨rfl, hj⟩)
end Go.Proofs.Ytongkhanbpboaaa
