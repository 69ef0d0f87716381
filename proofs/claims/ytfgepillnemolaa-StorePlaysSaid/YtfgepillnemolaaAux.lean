/- Small things for the proofs by my engine. No conditions. -/
import Derived.Test.YtfgepillnemolaaEngM
import Derived.IntWalk
namespace Go.Eng
open Go.RowKit
set_option linter.unusedVariables false
abbrev noP : List PanicEntry → World → Prop := fun _ _ => False
theorem cond_t {t : Bool} {X Y : Prop} (h : t = true) (k : X) : cond t X Y := by subst h; exact k
theorem cond_f {t : Bool} {X Y : Prop} (h : t = false) (k : Y) : cond t X Y := by subst h; exact k
theorem ret_true {P : Program} {f : Nat} {args : Array Value} {w : World} (h : Calls P f args w (Ret (fun v w' => v = .bool true ∧ Kp [] w w') noP)) : Calls P f args w fun e w' => e = .returned (.bool true) ∧ Below w.heap.size w w' :=
  h.mono fun e w' he => by
    cases e with
    | returned v => obtain ⟨rfl, k⟩ := he; exact ⟨rfl, k.below⟩
    | panicked c => exact he.elim
    | outgrown => exact he.elim
theorem set_get {α : Type} {cs : List α} {o n : Nat} {vs : List α} (hl : vs.length = n) (ho : o + n ≤ cs.length) (j : Nat) :
    (cs.take o ++ vs ++ cs.drop (o + n))[j]? = if j < o then cs[j]? else if j < o + n then vs[j - o]? else cs[j]? := by
  rw [List.append_assoc, List.getElem?_append]
  simp only [List.length_take, Nat.min_eq_left (show o ≤ cs.length by omega)]
  split
  · rename_i h; simp [h]
  · rename_i h
    rw [List.getElem?_append]
    split
    · rename_i h2; rw [if_pos (by omega)]
    · rename_i h2; rw [if_neg (by omega), List.getElem?_drop]; congr 1; omega
theorem w64 {x : Int} {y : Int} (h : -9223372036854775808 ≤ x ∧ x ≤ 9223372036854775807 ∧ x = y) : IntKind.i64.wrap x = y := by rw [IntWalk.i64_in _ ⟨h.1, h.2.1⟩]; exact h.2.2
theorem add_add' (a : Addr) (i j : Nat) : (a.add i).add j = a.add (i + j) := by
  unfold Addr.add
  by_cases h1 : i = 0
  · simp [h1]
  · by_cases h2 : j = 0
    · simp [h2]
    · simp [h1, h2, Nat.add_assoc]
theorem add_block (a : Addr) (i : Nat) : (a.add i).block = a.block := by unfold Addr.add; split <;> rfl
theorem cell_keep {w w' : World} {a : Addr} {v : Value} {l : List Nat} (h : w.cell? a = some v) (k : Kp l w w') (hn : a.block ∉ l) : w'.cell? a = some v := by
  rw [← h]; exact World.cell?_of_block (k.block _ (World.block_lt_of_cell? w _ h) hn)
theorem rd_keep {w w' : World} {a : Addr} {v : Value} {l : List Nat} (h : rd w a v) (k : Kp l w w') (hn : a.block ∉ l) : rd w' a v := by
  cases v <;> first | exact has_keep h k hn | exact cell_keep h k hn
theorem rd_leaf {w : World} {a : Addr} {v : Value} (h : rd w a v) (hv : leafB v = true) : w.cell? a = some v := by
  cases v <;> first | exact h | cases hv
theorem leaf_rd {w : World} {a : Addr} {v : Value} (h : w.cell? a = some v) (hv : leafB v = true) : rd w a v := by
  cases v <;> first | exact h | cases hv
theorem flat_get {α β : Type} {f : α → List β} {n : Nat} (hf : ∀ x, (f x).length = n) : ∀ (L : List α) (i j : Nat), j < n → (L.flatMap f)[i * n + j]? = (L[i]?).bind (fun x => (f x)[j]?)
  | [], i, j, hj => by simp
  | x :: L, 0, j, hj => by
    simp only [List.flatMap_cons, Nat.zero_mul, Nat.zero_add, List.getElem?_cons_zero, Option.bind_some]
    exact List.getElem?_append_left (by rw [hf]; exact hj)
  | x :: L, i + 1, j, hj => by
    simp only [List.flatMap_cons, List.getElem?_cons_succ]
    rw [List.getElem?_append_right (by rw [hf, Nat.add_mul]; omega), hf, show (i + 1) * n + j - n = i * n + j by rw [Nat.add_mul]; omega]
    exact flat_get hf L i j hj
/-- A slice that reads as these things. -/
structure RdL {α : Type} (w : World) (sz : Nat) (enc : α → Value) (s : Sl) (L : List α) : Prop where
  len : L.length = s.len
  at_ : ∀ i x, L[i]? = some x → ∃ a, s.a = some a ∧ rd w (a.add (i * sz)) (enc x)
theorem RdL.keep {α : Type} {w w' : World} {sz : Nat} {enc : α → Value} {s : Sl} {L : List α} {l : List Nat} (h : RdL w sz enc s L) (k : Kp l w w') (hn : ∀ x ∈ blkOf s, x ∉ l) : RdL w' sz enc s L :=
  ⟨h.len, fun i x hx => by
    obtain ⟨a, ha, hr⟩ := h.at_ i x hx
    exact ⟨a, ha, rd_keep hr k (by rw [add_block]; exact hn _ (by simp [blkOf, ha]))⟩⟩
theorem RdL.keep0 {α : Type} {w w' : World} {sz : Nat} {enc : α → Value} {s : Sl} {L : List α} (h : RdL w sz enc s L) (k : Kp [] w w') : RdL w' sz enc s L := h.keep k (fun _ _ => by simp)
theorem RdL.get {α : Type} {w : World} {sz : Nat} {enc : α → Value} {s : Sl} {L : List α} (h : RdL w sz enc s L) {i : Nat} (hi : i < L.length) : ∃ a, s.a = some a ∧ rd w (a.add (i * sz)) (enc L[i]) := h.at_ i _ (List.getElem?_eq_getElem hi)
theorem Rds.rdl {α : Type} {w : World} {sz : Nat} {enc : α → Value} {f : α → List Value} {s : Sl} {L : List α} (hf : ∀ x, (f x).length = sz) (h : Rds w sz s (L.flatMap f)) (he : ∀ x, enc x = .agg (f x).toArray) (hl : L.length = s.len) : RdL w sz enc s L :=
  ⟨hl, fun i x hx => by
    have hi : i < L.length := (List.getElem?_eq_some_iff.1 hx).1
    obtain ⟨a, ha, hc⟩ := h.has (by omega)
    refine ⟨a, ha, ?_⟩
    rw [he]
    intro j v hj
    rw [add_add']
    have hj' : (f x)[j]? = some v := by simpa using hj
    have hlt : j < sz := by rw [← hf x]; exact (List.getElem?_eq_some_iff.1 hj').1
    exact hc _ _ (by rw [flat_get hf _ _ _ hlt, hx]; exact hj')⟩
theorem Rds.rdl1 {α : Type} {w : World} {enc : α → Value} {s : Sl} {L : List α} (h : Rds w 1 s (L.map enc)) (he : ∀ x, leafB (enc x) = true) : RdL w 1 enc s L :=
  ⟨by have := h.len; simpa using this, fun i x hx => by
    have hi : i < L.length := (List.getElem?_eq_some_iff.1 hx).1
    obtain ⟨a, ha, hc⟩ := h.has (by have := h.len; simp at this; omega)
    refine ⟨a, ha, ?_⟩
    rw [Nat.mul_one]
    exact leaf_rd (hc i (enc x) (by simp [hx])) (he x)⟩
theorem Kp.up {w w1 : World} (h : Kp [] w w1) (l : List Nat) : Kp l w w1 := h.mono (by simp)
abbrev in64 (x : Int) : Prop := -9223372036854775808 ≤ x ∧ x ≤ 9223372036854775807
abbrev in8 (x : Int) : Prop := 0 ≤ x ∧ x ≤ 255
theorem made_get (z : Array Value) {n j : Nat} (h : j < n) : (madeCells z n).toList[j]? = some (z[j % z.size]!) := by
  simp [madeCells, h]
theorem made_len (z : Array Value) (n : Nat) : (madeCells z n).toList.length = n := by simp [madeCells]
end Go.Eng
