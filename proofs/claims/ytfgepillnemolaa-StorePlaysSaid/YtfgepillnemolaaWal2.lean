/- What the laws of the log share; the document's records. No conditions. -/
import Derived.Test.YtfgepillnemolaaWal1
import Derived.Test.YtfgepillnemolaaLs
namespace Go.Proofs.Ytfgepillnemolaa
open Go.RowKit Go.Eng
set_option linter.unusedVariables false
theorem wlk (k : Nat) (h : k ≤ 1000000000000) : IntKind.i64.wrap ((k : Int) + 1) = (k + 1 : Nat) := by rw [IntKind.wrap_i64]; omega
theorem sl_info : (Try.prog.info? 27).map (fun i => (i.zero, i.size, i.bytes)) = some (some (.slice none 0 0), 1, 24) := by kernel_rfl
theorem cf1_len (v : Int) (x : Sl) : (cf1 v x).length = 1 := rfl
theorem cf1_leaf (v : Int) (x : Sl) : ∀ u ∈ cf1 v x, leafB u = true := by simp [cf1, leafB]
theorem cf2_len (v : Int) (x : Sl) : (cf2 v x).length = 2 := rfl
theorem cf2_leaf (v : Int) (x : Sl) : ∀ u ∈ cf2 v x, leafB u = true := by simp [cf2, leafB]
theorem push1 {ty T : TypeId} {w w1 : World} {lo b1 : Nat} {El : Nat → Prop} {s : Sl} {L : List (Int × Bs)} (h : LS w lo 1 cf1 El s L) (hlo : lo ≤ w.heap.size) {x : Sl} {b : Bs} (hx : RdB w x b) (hxb : ∀ y ∈ blkOf x, El y ∧ y < w.heap.size ∧ y ∉ blkOf s) (hxc : x.len ≤ x.cap) (hL : L.length ≤ 1000000000) (hA : Alloc w b1 T [slv x] w1) :
    ∃ q n c w2, (Builtin.append_ #[22, 22] ty #[.slice s.a s.len s.cap, .slice (some ⟨b1, 0, none⟩) 1 1]).run Try.prog w1 = .ok (.slice q n c) w2 ∧ n = s.len + 1 ∧ LS w2 lo 1 cf1 El ⟨q, n, c⟩ (L ++ [(0, b)]) ∧ Kp (blkOf s) w w2 ∧ ∀ y ∈ blkOf ⟨q, n, c⟩, y ∈ blkOf s ∨ w.heap.size ≤ y :=
  LS.push Try.underlying22 sl_info rfl (by decide) (by decide) cf1_len cf1_leaf h hlo 0 hx hxb hxc hL hA
def tag (L : List Bs) : List (Int × Bs) := L.map fun b => (0, b)
theorem tag_len (L : List Bs) : (tag L).length = L.length := by simp [tag]
theorem tag_snd (L : List Bs) : (tag L).map (·.2) = L := by simp [tag, Function.comp_def]
theorem tag_app (a b : List Bs) : tag (a ++ b) = tag a ++ tag b := by simp [tag]
theorem LS.rlt {w : World} {lo : Nat} {El : Nat → Prop} {s : Sl} {L : List Bs} (h : LS w lo 1 cf1 El s (tag L)) : RL w s L := by
  have := h.rl
  rwa [tag_snd] at this
set_option maxHeartbeats 1000000 in
theorem rRecord_s (p : Sl) {s : Bs} {w : World} (hp : RdB w p s) (hl : s.length ≤ 1000000) : C.skepref04_Record p w (fun v w' => ∃ q : Sl, v = .slice q.a q.len q.cap ∧ OwnB w' w.heap.size q (recB s) ∧ Kp [] w w') noP := skepref04_Record_of (by
  unfold W.skepref04_Record
  have hpl := hp.bsize
  have hw : IntKind.u32.wrap (p.len : Int) = (s.length : Nat) := by rw [IntKind.wrap_u32]; omega
  rw [hw]
  refine use (rFour_s s.length (by omega) w) ?_
  rintro _ w1 ⟨q2, rfl, ho2, k1⟩
  refine ⟨q2, rfl, ?_⟩
  have s1 := k1.size
  have h2lo := ho2.lo
  obtain ⟨q4, n5, c6, w7, hrun7, hn7, ho4, k7, _⟩ := app_bytes (l := []) (s := ⟨none, 0, 0⟩) (ty := 27) Try.underlying27 byte_inf (Go.Eng.Own.nil w1 w1.heap.size 1) ho2.rds (Nat.le_refl _) (by simp [fourB_len])
  rw [List.nil_append] at ho4
  have k17 : Kp [] w1 w7 := k7
  have s7 := k7.size
  refine ⟨q4, n5, c6, w7, hrun7, ?_⟩
  obtain ⟨q8, n9, c10, w11, hrun11, hn11, ho8, k11, _⟩ := app_bytes (ty := 27) Try.underlying27 byte_inf ho4 ((hp.keep0 k1).keep0 k17) (by omega) (by rw [fourB_len]; omega)
  have k111 : Kp [] w1 w11 := k17.then k11 (fun y hy => .inr (ho4.lo y hy).1)
  have s11 := k111.size
  refine ⟨q8, n9, c10, w11, hrun11, ?_⟩
  refine use (rOf_s _ ho8.rds (by rw [List.length_append, fourB_len]; omega)) ?_
  rintro _ _ ⟨rfl, rfl⟩
  refine ⟨_, rfl, ?_⟩
  obtain ⟨q15, n16, c17, w18, hrun18, hn18, ho15, k18, _⟩ := app_bytes (l := []) (s := ⟨none, 0, 0⟩) (ty := 27) Try.underlying27 byte_inf (Go.Eng.Own.nil w11 w11.heap.size 1) (ho2.keep0 k111).rds (Nat.le_refl _) (by simp [fourB_len])
  rw [List.nil_append] at ho15
  have k1118 : Kp [] w11 w18 := k18
  have s18 := k18.size
  refine ⟨q15, n16, c17, w18, hrun18, ?_⟩
  refine use (rFour_s _ (sumB_lt _) w18) ?_
  rintro _ w19 ⟨q20, rfl, ho20, k19⟩
  refine ⟨q20, rfl, ?_⟩
  have s19 := k19.size
  obtain ⟨q22, n23, c24, w25, hrun25, hn25, ho22, k25, _⟩ := app_bytes (ty := 27) Try.underlying27 byte_inf (ho15.keep0 k19) ho20.rds (by omega) (by simp [fourB_len])
  refine ⟨q22, n23, c24, w25, hrun25, ?_⟩
  have k1125 : Kp [] w11 w25 := (k1118.then0 k19).then k25 (fun y hy => .inr (ho15.lo y hy).1)
  have kw25 := (k1.then0 k111).then0 k1125
  have s25 := k1125.size
  obtain ⟨q26, n27, c28, w29, hrun29, hn29, ho26, k29, _⟩ := app_bytes (ty := 27) Try.underlying27 byte_inf ho22 (hp.keep0 kw25) (by omega) (by rw [List.length_append, fourB_len, fourB_len]; omega)
  refine ⟨q26, n27, c28, w29, hrun29, ⟨q26, n27, c28⟩, rfl, ?_, kw25.then k29 (fun y hy => .inr (by have := (ho22.lo y hy).1; omega))⟩
  have e : recB s = fourB s.length ++ fourB (sumB (fourB s.length ++ s)) ++ s := by unfold recB; rw [List.append_assoc]
  rw [e]
  exact ho26.mono (by omega))
end Go.Proofs.Ytfgepillnemolaa
