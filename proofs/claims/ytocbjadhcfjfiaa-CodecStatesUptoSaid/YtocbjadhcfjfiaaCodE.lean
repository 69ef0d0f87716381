/- Lists of moves: their bytes, written. No conditions. -/
import Derived.Test.YtocbjadhcfjfiaaCodA
namespace Go.Proofs.Ytocbjadhcfjfiaa
open Go.RowKit Go.Eng
set_option linter.unusedVariables false
set_option linter.unusedSimpArgs false
def rep {α : Type} (p : Bs → Option (α × Bs)) : Nat → Bs → Option (List α × Bs)
  | 0, l => some ([], l)
  | n + 1, l => (p l).bind fun a => (rep p n a.2).bind fun b => some (a.1 :: b.1, b.2)
theorem rep_put {α : Type} {p : Bs → Option (α × Bs)} {b : α → Bs} {ok : α → Prop} (h : Cod p b ok) : ∀ (L : List α), (∀ x ∈ L, ok x) → ∀ r, rep p L.length (L.flatMap b ++ r) = some (L, r)
  | [], _, r => rfl
  | x :: L, hx, r => by
    rw [List.length_cons, rep, List.flatMap_cons, List.append_assoc, h.put x (hx x (by simp)), Option.bind_some, rep_put h L (fun y hy => hx y (by simp [hy]))]
    rfl
theorem rep_inv {α : Type} {p : Bs → Option (α × Bs)} {b : α → Bs} {ok : α → Prop} (h : Cod p b ok) : ∀ (n : Nat) (l : Bs) (L : List α) (r : Bs), rep p n l = some (L, r) → L.length = n ∧ (∀ x ∈ L, ok x) ∧ l = L.flatMap b ++ r
  | 0, l, L, r, e => by
    rw [rep] at e
    injection e with e
    injection e with e1 e2
    subst e1 e2
    exact ⟨rfl, by simp, rfl⟩
  | n + 1, l, L, r, e => by
    rw [rep, Option.bind_eq_some_iff] at e
    obtain ⟨a, e1, e⟩ := e
    rw [Option.bind_eq_some_iff] at e
    obtain ⟨d, e2, e⟩ := e
    injection e with e
    injection e with e3 e4
    subst e3 e4
    obtain ⟨g1, g2⟩ := h.inv _ a.1 a.2 e1
    obtain ⟨g3, g4, g5⟩ := rep_inv h n _ d.1 d.2 e2
    refine ⟨by rw [List.length_cons, g3], fun x hx => ?_, by rw [g2, g5, List.flatMap_cons, List.append_assoc]⟩
    simp only [List.mem_cons] at hx
    rcases hx with rfl | hx
    · exact g1
    · exact g4 x hx
/-- So many, and the things. -/
def pL {α : Type} (p : Bs → Option (α × Bs)) (l : Bs) : Option (List α × Bs) := (num l).bind fun a => if a.1 < 0 ∨ (a.2.length : Int) < a.1 then none else rep p a.1.toNat a.2
def bL {α : Type} (b : α → Bs) (L : List α) : Bs := putN L.length ++ L.flatMap b
theorem flat_len_le {α : Type} {b : α → Bs} (h : ∀ x, 1 ≤ (b x).length) : ∀ L : List α, L.length ≤ (L.flatMap b).length
  | [] => Nat.le_refl _
  | x :: L => by
    rw [List.flatMap_cons, List.length_append, List.length_cons]
    have := flat_len_le h L
    have := h x
    omega
theorem list_cod {α : Type} {p : Bs → Option (α × Bs)} {b : α → Bs} {ok : α → Prop} (h : Cod p b ok) (h1 : ∀ x, 1 ≤ (b x).length) : Cod (pL p) (bL b) (fun L => (∀ x ∈ L, ok x) ∧ in64 (L.length : Nat)) := by
  refine ⟨fun L hL r => ?_, fun l L r e => ?_⟩
  · unfold pL bL
    rw [List.append_assoc, num_put hL.2, Option.bind_some]
    have := flat_len_le h1 L
    rw [if_neg (by simp only [List.length_append]; omega), Int.toNat_natCast]
    exact rep_put h L hL.1 r
  · unfold pL at e
    rw [Option.bind_eq_some_iff] at e
    obtain ⟨a, e1, e⟩ := e
    split at e
    · cases e
    · rename_i hc
      obtain ⟨g1, g2⟩ := num_inv (v := a.1) (r := a.2) e1
      obtain ⟨g3, g4, g5⟩ := rep_inv h _ _ _ _ e
      have e3 : a.1 = (L.length : Int) := by omega
      refine ⟨⟨g4, e3 ▸ g1⟩, ?_⟩
      unfold bL
      rw [g2, g5, e3, List.append_assoc]
theorem bMove_1 (m : S.api_Move) : 1 ≤ (bMove m).length := by
  have h1 := (putN_len m.Kind).1
  simp only [bMove, List.length_append]
  omega
abbrev pMoves := pL pMove
abbrev bMoves (L : List S.api_Move) := bL bMove L
def mvC (m : S.api_Move) : List Value := [.int .i64 m.Kind, .int .i64 m.Dir, .int .i64 m.N, .int .i64 m.From.At.X, .int .i64 m.From.At.Y, .bool m.From.Down, .int .i64 m.To.At.X, .int .i64 m.To.At.Y, .bool m.To.Down, .int .i64 m.At, .int .i64 m.End]
theorem mvC_len (m : S.api_Move) : (mvC m).length = 11 := rfl
theorem mv_info : (Try.prog.info? 51).map (fun i => (i.zero, i.size, i.bytes)) = some (some (S.api_Move.v ⟨0, 0, 0, ⟨⟨0, 0⟩, false⟩, ⟨⟨0, 0⟩, false⟩, 0, 0⟩), 11, 88) := by kernel_rfl
theorem mv_leaf (L : List S.api_Move) : ∀ v ∈ L.flatMap mvC, leafB v = true := by
  intro v hv
  rw [List.mem_flatMap] at hv
  obtain ⟨m, _, hv⟩ := hv
  simp only [mvC, List.mem_cons, List.not_mem_nil, or_false] at hv
  rcases hv with rfl | rfl | rfl | rfl | rfl | rfl | rfl | rfl | rfl | rfl | rfl <;> rfl
theorem bMoves_take {L : List S.api_Move} {i : Nat} (hi : i < L.length) : (L.take (i + 1)).flatMap bMove = (L.take i).flatMap bMove ++ bMove L[i] := by
  have : L.take (i + 1) = L.take i ++ [L[i]] := by rw [List.take_add_one, List.getElem?_eq_getElem hi]; rfl
  rw [this, List.flatMap_append]
  simp
theorem take_le {L : List S.api_Move} {i : Nat} : ((L.take i).flatMap bMove).length ≤ (L.flatMap bMove).length := by
  have h : L.flatMap bMove = (L.take i).flatMap bMove ++ (L.drop i).flatMap bMove := by rw [← List.flatMap_append, List.take_append_drop]
  rw [h, List.length_append]
  omega
set_option maxHeartbeats 1000000 in
theorem puts_a {s ls : Sl} {L : List S.api_Move} (hok : ∀ x ∈ L, okMove x) {w : World} {B : Nat} {l : Bs} (ho : OwnB w B s l) (hB : B ≤ w.heap.size) (hl : l.length + (bMoves L).length ≤ 1000000000) (hR : RdL w 11 S.api_Move.v ls L) (hd : 0 < L.length → ∀ y ∈ blkOf ls, y < w.heap.size ∧ y ∉ blkOf s) :
    C.codec_puts_api_Move s ls (.func (.func 46) #[] #[]) w (fun r w' => ∃ s' : Sl, r = slv s' ∧ OwnB w' B s' (l ++ bMoves L) ∧ Kp (blkOf s) w w' ∧ ∀ y ∈ blkOf s', y ∈ blkOf s ∨ w.heap.size ≤ y) noP := codec_puts_api_Move_of (by
  unfold W.codec_puts_api_Move
  have hlen := hR.len
  have hfl := flat_len_le bMove_1 L
  simp only [bMoves, bL, List.length_append] at hl
  have a0 := Acc.start ho
  rw [← hlen]
  refine use (a0.apd (number_a s (L.length : Nat) ⟨by omega, by omega⟩) (by omega) (by omega)) ?_
  rintro _ w1 ⟨p2, rfl, o1, k1, b1⟩
  have a1 := a0.more o1 k1 b1
  refine ⟨p2, rfl, fun v i w' => ∃ j : Nat, i = j ∧ j ≤ L.length ∧ Acc w B s w' v (l ++ putN (L.length : Nat) ++ (L.take j).flatMap bMove), fun _ i _ => L.length - i.toNat, ⟨p2, rfl, _, rfl, 0, rfl, by omega, by simpa using a1⟩, ?_⟩
  rintro e0 v _ w10 ⟨j, rfl, hj, ac⟩
  have ht := take_le (L := L) (i := j)
  refine cond_d (fun hc => ?_) (fun hc => ?_)
  · have hj2 : j < L.length := by omega
    have hne : ∀ y ∈ blkOf ls, y ∉ blkOf v := fun y hy => ac.ne (hd (by omega) y hy).1 (hd (by omega) y hy).2
    have hne0 : ∀ y ∈ blkOf ls, y ∉ blkOf s := fun y hy => (hd (by omega) y hy).2
    obtain ⟨A, hA, hr⟩ := (hR.keep ac.kp hne0).get hj2
    rw [hA, Int.toNat_natCast, show IntKind.i64.wrap ((j : Int) + 1) = ((j + 1 : Nat) : Int) by rw [IntKind.wrap_i64]; omega]
    refine ⟨⟨by omega, by omega⟩, L[j], ⟨rfl, hr⟩, fun b13 w14 hA13 => ⟨⟨rfl, hA13.blk.canN _ (Nat.le_refl _)⟩, fun w15 e15 => ?_⟩⟩
    obtain ⟨g1, g2, _⟩ := hA13.blk.putAll (vs := (mvC L[j]).toArray) rfl e15
    have s14 := hA13.eq
    have k15 : Kp [] w10 w15 := hA13.kp.then g2 (by simp; omega)
    have ac15 := ac.keep0 k15
    have hf := bMoves_take hj2
    have hf2 := take_le (L := L) (i := j + 1)
    rw [hf, List.length_append] at hf2
    refine ⟨L[j], ⟨rfl, g1.rd0⟩, ⟨by kernel_rfl, ?_⟩⟩
    refine use (ac15.apd (move_a v L[j] (hok _ (List.getElem_mem hj2))) (by omega) (by simp only [List.length_append]; omega)) ?_
    rintro _ w17 ⟨p18, rfl, o17, k17, b17⟩
    have ac17 := ac15.more o17 k17 b17
    rw [List.append_assoc, ← hf] at ac17
    exact ⟨p18, rfl, p18, rfl, _, rfl, ⟨j + 1, rfl, by omega, ac17⟩, by simp only [Int.toNat_natCast]; omega⟩
  · have : j = L.length := by omega
    subst this
    rw [List.take_length] at ac
    exact ⟨v, rfl, ac.fin (Kp.refl _ _) (by simp [bMoves, bL])⟩)
set_option maxHeartbeats 1000000 in
theorem moves_a {s ls : Sl} {L : List S.api_Move} (hok : ∀ x ∈ L, okMove x) {w : World} {B : Nat} {l : Bs} (ho : OwnB w B s l) (hB : B ≤ w.heap.size) (hl : l.length + (bMoves L).length ≤ 1000000000) (hR : RdL w 11 S.api_Move.v ls L) (hd : 0 < L.length → ∀ y ∈ blkOf ls, y < w.heap.size ∧ y ∉ blkOf s) :
    C.skepref05_moves s ls w (fun r w' => ∃ s' : Sl, r = slv s' ∧ OwnB w' B s' (l ++ bMoves L) ∧ Kp (blkOf s) w w' ∧ ∀ y ∈ blkOf s', y ∈ blkOf s ∨ w.heap.size ≤ y) noP := skepref05_moves_of (by
  unfold W.skepref05_moves
  have hlen := hR.len
  have hfl := flat_len_le bMove_1 L
  simp only [bMoves, bL, List.length_append] at hl
  have a0 := Acc.start ho
  rw [← hlen]
  refine use (a0.apd (rnum_a s (L.length : Nat) ⟨by omega, by omega⟩) (by omega) (by omega)) ?_
  rintro _ w1 ⟨p2, rfl, o1, k1, b1⟩
  have a1 := a0.more o1 k1 b1
  refine ⟨p2, rfl, fun v i w' => ∃ j : Nat, i = j ∧ j ≤ L.length ∧ Acc w B s w' v (l ++ putN (L.length : Nat) ++ (L.take j).flatMap bMove), fun _ i _ => L.length - i.toNat, ⟨p2, rfl, _, rfl, 0, rfl, by omega, by simpa using a1⟩, ?_⟩
  rintro e0 v _ w10 ⟨j, rfl, hj, ac⟩
  refine cond_d (fun hc => ?_) (fun hc => ?_)
  · have hj2 : j < L.length := by omega
    have hne0 : ∀ y ∈ blkOf ls, y ∉ blkOf s := fun y hy => (hd (by omega) y hy).2
    obtain ⟨A, hA, hr⟩ := (hR.keep ac.kp hne0).get hj2
    rw [hA, Int.toNat_natCast, show IntKind.i64.wrap ((j : Int) + 1) = ((j + 1 : Nat) : Int) by rw [IntKind.wrap_i64]; omega]
    have hf := bMoves_take hj2
    have hf2 := take_le (L := L) (i := j + 1)
    rw [hf, List.length_append] at hf2
    refine ⟨⟨by omega, by omega⟩, L[j], ⟨rfl, hr⟩, use (ac.apd (rmove_a v L[j] (hok _ (List.getElem_mem hj2))) (by omega) (by simp only [List.length_append]; omega)) ?_⟩
    rintro _ w17 ⟨p18, rfl, o17, k17, b17⟩
    have ac17 := ac.more o17 k17 b17
    rw [List.append_assoc, ← hf] at ac17
    exact ⟨p18, rfl, p18, rfl, _, rfl, ⟨j + 1, rfl, by omega, ac17⟩, by simp only [Int.toNat_natCast]; omega⟩
  · have : j = L.length := by omega
    subst this
    rw [List.take_length] at ac
    exact ⟨v, rfl, ac.fin (Kp.refl _ _) (by simp [bMoves, bL])⟩)
end Go.Proofs.Ytocbjadhcfjfiaa
