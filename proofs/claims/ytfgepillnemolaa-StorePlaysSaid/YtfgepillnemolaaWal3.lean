/- The document's records of any bytes. No conditions. -/
import Derived.Test.YtfgepillnemolaaWal2
namespace Go.Proofs.Ytfgepillnemolaa
open Go.RowKit Go.Eng
set_option linter.unusedVariables false
def pos : Nat → List Bs → List (Int × Bs)
  | _, [] => []
  | n, s :: r => ((n : Int), s) :: pos (n + (8 + s.length)) r
theorem pos_app : ∀ (a : List Bs) (n : Nat) (b : List Bs), pos n (a ++ b) = pos n a ++ pos (n + endL a) b
  | [], n, b => rfl
  | s :: a, n, b => by
    simp only [List.cons_append, pos, endL]
    rw [pos_app a]
    congr 3
    omega
theorem pos_snd : ∀ (a : List Bs) (n : Nat), (pos n a).map (·.2) = a
  | [], n => rfl
  | s :: a, n => by simp only [pos, List.map_cons]; rw [pos_snd a]
theorem pos_len : ∀ (a : List Bs) (n : Nat), (pos n a).length = a.length
  | [], n => rfl
  | s :: a, n => by simp only [pos, List.length_cons, pos_len a]
theorem pos_get : ∀ (a : List Bs) (n i : Nat) (h : i < a.length), (pos n a)[i]'(by rw [pos_len]; exact h) = (((n + endL (a.take i) : Nat) : Int), a[i])
  | s :: a, n, 0, h => by simp [pos, endL]
  | s :: a, n, i + 1, h => by
    have := pos_get a (n + (8 + s.length)) i (by simpa using h)
    simp only [pos, List.getElem_cons_succ, List.take_succ_cons, endL]
    rw [this]
    congr 2
    omega
theorem r_info : (Try.prog.info? 126).map (fun i => (i.zero, i.size, i.bytes)) = some (some (.agg #[.int .i64 0, .slice none 0 0]), 2, 32) := by kernel_rfl
theorem recs_len9 (l : Bs) : (recs l).length * 9 ≤ l.length := by
  have h1 := recs_end l
  have h2 : ∀ L : List Bs, (∀ s ∈ L, okR s) → L.length * 9 ≤ endL L := by
    intro L
    induction L with
    | nil => intro _; simp [endL]
    | cons s r ih =>
      intro h
      have := ih (fun x hx => h x (List.mem_cons_of_mem _ hx))
      have := (h s (List.mem_cons_self ..)).1
      simp only [List.length_cons, endL]
      omega
  have := h2 _ (recs_ok l)
  omega
set_option maxHeartbeats 2000000 in
set_option maxRecDepth 20000 in
theorem rRecords_s (p : Sl) {b : Bs} {w : World} (hp : RdB w p b) (hc : p.len ≤ p.cap) (hl : b.length ≤ 1000000000) :
    C.skepref04_Records p w (fun v w' => ∃ q : Sl, v = .tuple #[.slice q.a q.len q.cap, .int .i64 (endL (recs b))] ∧ LS w' w.heap.size 2 cf2 (fun y => w.heap.size ≤ y) q (pos 0 (recs b)) ∧ Kp [] w w') noP := skepref04_Records_of (by
  unfold W.skepref04_Records
  have hpl := hp.bsize
  refine ⟨fun s v w' => ∃ done : List Bs, v = (endL done : Nat) ∧ endL done ≤ b.length ∧ recs b = done ++ recs (b.drop (endL done)) ∧ LS w' w.heap.size 2 cf2 (fun y => w.heap.size ≤ y) s (pos 0 done) ∧ Kp [] w w', fun _ v _ => b.length - v.toNat,
    ⟨⟨none, 0, 0⟩, rfl, _, rfl, [], rfl, Nat.zero_le _, rfl, LS.nil _ _ _ _ _, Kp.refl _ _⟩, fun e0 s v w7 hI => ?_⟩
  obtain ⟨done, rfl, hle, hrec, hS, k7⟩ := hI
  obtain ⟨n, hn⟩ : ∃ n, endL done = n := ⟨_, rfl⟩
  rw [hn] at hrec hle ⊢
  have w1 : IntKind.i64.wrap ((p.len : Int) - (n : Int)) = ((p.len - n : Nat) : Int) := by rw [IntKind.wrap_i64]; omega
  have w2 : IntKind.i64.wrap ((n : Int) + 8) = ((n + 8 : Nat) : Int) := by rw [IntKind.wrap_i64]; omega
  have w3 : IntKind.i64.wrap ((n : Int) + 4) = ((n + 4 : Nat) : Int) := by rw [IntKind.wrap_i64]; omega
  rw [w1, w2, w3]
  have hdl : (b.drop n).length = p.len - n := by rw [List.length_drop]; omega
  have no : ∀ w', Kp [] w7 w' → recAt (b.drop n) = none → ∃ q : Sl, (Value.tuple #[.slice s.a s.len s.cap, .int .i64 (n : Int)]) = .tuple #[.slice q.a q.len q.cap, .int .i64 (endL (recs b))] ∧ LS w' w.heap.size 2 cf2 (fun y => w.heap.size ≤ y) q (pos 0 (recs b)) ∧ Kp [] w w' := fun w' k h => by
    rw [recs_none h, List.append_nil] at hrec
    rw [hrec, hn]
    exact ⟨s, rfl, hS.keep0 k, k7.then0 k⟩
  refine cond_i (fun h1 => ?_) (fun h1 => no w7 (Kp.refl _ _) (recAt_short (by have := of_decide_eq_false h1; omega)))
  replace h1 := of_decide_eq_true h1
  simp only [Int.toNat_natCast]
  have hp7 := hp.keep0 k7
  have r4 : RdB w7 ⟨if p.cap = n then p.a else p.a.map (fun x => Addr.add x (n * 1)), n + 4 - n, p.cap - n⟩ ((b.drop n).take 4) := by
    have := (hp7.bdrop hc (n := n) (by omega) (p.len - n) 0 rfl).bcut (n := 4) (by dsimp only; omega) (p.cap - n)
    rwa [show n + 4 - n = 4 by omega]
  refine ⟨⟨by omega, by omega⟩, ⟨by omega, by omega⟩, ?_⟩
  refine use (rfour_s _ r4 (by rw [List.length_take]; omega)) ?_
  rintro _ w8 ⟨rfl, k8⟩
  rw [toldB_take]
  obtain ⟨t, ht⟩ : ∃ t, toldB (b.drop n) = t := ⟨_, rfl⟩
  rw [ht]
  refine ⟨_, rfl, ?_⟩
  have ht32 := (four_told (l := b.drop n) (by omega)).2
  rw [ht] at ht32
  have w5 : IntKind.i64.wrap (t : Int) = t := by rw [IntKind.wrap_i64]; omega
  have w6 : IntKind.i64.wrap (((p.len - n : Nat) : Int) - 8) = ((p.len - n - 8 : Nat) : Int) := by rw [IntKind.wrap_i64]; omega
  rw [w5, w6]
  have bad : t < 1 ∨ 65536 < t ∨ p.len - n - 8 < t → recAt (b.drop n) = none := fun h => by
    unfold recAt
    rw [if_neg (by omega), ht, if_pos (by omega)]
  refine cond_i (fun h2 => no w8 k8 (bad (by have := of_decide_eq_true h2; omega))) (fun h2 => cond_i (fun h3 => no w8 k8 (bad (by have := of_decide_eq_true h3; omega))) (fun h3 => cond_i (fun h4 => no w8 k8 (bad (by have := of_decide_eq_true h4; omega))) (fun h4 => ?_)))
  replace h2 := of_decide_eq_false h2
  replace h3 := of_decide_eq_false h3
  replace h4 := of_decide_eq_false h4
  clear bad
  have w7' : IntKind.i64.wrap (((n + 8 : Nat) : Int) + (t : Int)) = ((n + 8 + t : Nat) : Int) := by rw [IntKind.wrap_i64]; omega
  rw [w7']
  simp only [Int.toNat_natCast]
  refine ⟨⟨by omega, by omega⟩, ⟨by omega, by omega⟩, ⟨by omega, by omega⟩, ⟨by omega, by omega⟩, ?_⟩
  have hp8 := hp7.keep0 k8
  have r8 : ∀ {w'}, RdB w' p b → RdB w' ⟨if p.cap = n + 8 then p.a else p.a.map (fun x => Addr.add x ((n + 8) * 1)), n + 8 + t - (n + 8), p.cap - (n + 8)⟩ (((b.drop n).drop 8).take t) := fun hpw => by
    have := (hpw.bdrop hc (n := n + 8) (by omega) (p.len - (n + 8)) 0 rfl).bcut (n := t) (by dsimp only; omega) (p.cap - (n + 8))
    rwa [show n + 8 + t - (n + 8) = t by omega, List.drop_drop]
  obtain ⟨q11, n12, c13, w14, hrun14, hn12, ho11, k14, _⟩ := app_bytes (l := []) (s := ⟨none, 0, 0⟩) (ty := 27) Try.underlying27 byte_inf (Go.Eng.Own.nil w8 w8.heap.size 1) (r4.keep0 k8) (Nat.le_refl _) (by simp; omega)
  rw [List.nil_append] at ho11
  have k814 : Kp [] w8 w14 := k14
  have s14 := k814.size
  refine ⟨q11, n12, c13, w14, hrun14, ?_⟩
  have hts : ((b.drop n).drop 8).length = p.len - n - 8 := by rw [List.length_drop]; omega
  obtain ⟨q15, n16, c17, w18, hrun18, hn16, ho15, k18, _⟩ := app_bytes (ty := 27) Try.underlying27 byte_inf ho11 (r8 (hp8.keep0 k814)) (by omega) (by rw [List.length_take, List.length_take]; omega)
  have k818 : Kp [] w8 w18 := k814.then k18 (fun y hy => .inr (ho11.lo y hy).1)
  have s18 := k818.size
  refine ⟨q15, n16, c17, w18, hrun18, ?_⟩
  refine use (rOf_s _ ho15.rds (by rw [List.length_append, List.length_take, List.length_take]; omega)) ?_
  rintro _ _ ⟨rfl, rfl⟩
  refine ⟨_, rfl, ⟨by omega, by omega⟩, ⟨by omega, by omega⟩, ?_⟩
  have k718 := k8.then0 k818
  have r48 : RdB w18 ⟨if p.cap = n + 4 then p.a else p.a.map (fun x => Addr.add x ((n + 4) * 1)), n + 8 - (n + 4), p.cap - (n + 4)⟩ (((b.drop n).drop 4).take 4) := by
    have := ((hp7.keep0 k718).bdrop hc (n := n + 4) (by omega) (p.len - (n + 4)) 0 rfl).bcut (n := 4) (by dsimp only; omega) (p.cap - (n + 4))
    rwa [show n + 8 - (n + 4) = 4 by omega, List.drop_drop]
  refine use (rfour_s _ r48 (by rw [List.length_take, List.length_drop]; omega)) ?_
  rintro _ w22 ⟨rfl, k22⟩
  rw [toldB_take]
  refine ⟨_, rfl, ?_⟩
  have k722 := k718.then0 k22
  refine cond_n (fun h5 => no w22 k722 ?_) (fun h5 => ?_)
  · unfold recAt
    rw [if_neg (by omega), ht, if_neg (by omega), if_neg (by omega)]
  · obtain ⟨sy, hsy⟩ : ∃ sy, ((b.drop n).drop 8).take t = sy := ⟨_, rfl⟩
    have hsyl : sy.length = t := by rw [← hsy, List.length_take]; omega
    have hr : recAt (b.drop n) = some sy := by
      unfold recAt
      rw [if_neg (by omega), ht, if_neg (by omega), if_pos (by omega), hsy]
    rw [hsy] at r8
    have k022 := k7.then0 k722
    have s022 := k022.size
    obtain ⟨q25, n26, c27, w28, hrun28, hn26, ho25, k28, _⟩ := app_bytes (l := []) (s := ⟨none, 0, 0⟩) (ty := 27) Try.underlying27 byte_inf (Go.Eng.Own.nil w22 w22.heap.size 1) (r8 (hp.keep0 k022)) (Nat.le_refl _) (by simp; omega)
    rw [List.nil_append] at ho25
    have k2228 : Kp [] w22 w28 := k28
    have s28 := k2228.size
    refine ⟨q25, n26, c27, w28, hrun28, fun b29 w30 hA => ?_⟩
    have hlo25 := ho25.lo
    have hloS := hS.lo
    have k728 := k722.then0 k2228
    have s728 := k728.size
    have hpl9 := recs_len9 b
    have hdl9 : done.length ≤ (recs b).length := by rw [hrec, List.length_append]; omega
    obtain ⟨q, m, c, w34, hrun34, hm, hS2, k34, hq⟩ := LS.push (ty := 120) (x := ⟨q25, n26, c27⟩) Try.underlying120 r_info rfl (by decide) (by decide) cf2_len cf2_leaf (hS.keep0 k728) (by omega) (n : Int) ho25.rds (fun y hy => ⟨by have := hlo25 y hy; omega, (hlo25 y hy).2, fun h => by have := hloS y h; have := hlo25 y hy; have := k722.size; omega⟩) ho25.lc (by rw [pos_len]; omega) hA
    have e1 : endL (done ++ [sy]) = n + 8 + t := by rw [endL_app]; simp only [endL]; omega
    refine ⟨q, m, c, w34, hrun34, ⟨q, m, c⟩, rfl, _, rfl, ⟨done ++ [sy], by rw [e1], by rw [e1]; omega, ?_, ?_, (k7.then0 k728).then k34 (fun y hy => .inr (hloS y hy).1)⟩, by simp only [Int.toNat_natCast]; omega⟩
    · rw [e1, hrec, recs_some hr, List.drop_drop, hsyl, List.append_assoc, Nat.add_assoc]
      rfl
    · rw [pos_app, hn, Nat.zero_add]
      exact hS2)
end Go.Proofs.Ytfgepillnemolaa
