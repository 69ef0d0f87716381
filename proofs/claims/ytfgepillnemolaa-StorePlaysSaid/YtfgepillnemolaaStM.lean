/- The store: its files, the plain law. No conditions. -/
import Derived.Test.YtfgepillnemolaaStN
namespace Go.Proofs.Ytfgepillnemolaa
open Go.RowKit Go.Eng
set_option linter.unusedVariables false
/-- What a file that counts says. -/
structure Lg where
  g : Int
  s : Int
  snap : Bs
  es : List Bs
def hdB (g s : Int) (snap : Bs) : Bs := putN g ++ (putN s ++ snap)
def entB (n : Int) (e : Bs) : Bs := putN n ++ e
def numsL (s : Int) : List Bs → List Bs
  | [] => []
  | e :: r => entB (s + 1) e :: numsL (s + 1) r
def Lg.recs (x : Lg) : List Bs := hdB x.g x.s x.snap :: numsL x.s x.es
abbrev FL := Option Lg
def recsOf : FL → List Bs
  | none => []
  | some x => x.recs
def okLg (x : Lg) : Prop := (1 ≤ x.g ∧ x.g ≤ 1125899906842624) ∧ (0 ≤ x.s ∧ x.s ≤ 1125899906842624) ∧ x.es.length ≤ 1000000000
def okFL : FL → Prop
  | none => True
  | some x => okLg x
theorem numsL_len : ∀ (s : Int) (es : List Bs), (numsL s es).length = es.length
  | _, [] => rfl
  | s, e :: r => by rw [numsL, List.length_cons, numsL_len, List.length_cons]
theorem numsL_get : ∀ (s : Int) (es : List Bs) (k : Nat) (h : k < es.length), (numsL s es)[k]? = some (entB (s + 1 + k) es[k])
  | s, [], k, h => by cases h
  | s, e :: r, 0, h => by simp [numsL]
  | s, e :: r, k + 1, h => by
    rw [numsL, List.getElem?_cons_succ, numsL_get (s + 1) r k (by simpa using h)]
    simp only [List.getElem_cons_succ]
    congr 2
    omega
theorem numsL_app : ∀ (s : Int) (a b : List Bs), numsL s (a ++ b) = numsL s a ++ numsL (s + a.length) b
  | s, [], b => by simp [numsL]
  | s, e :: r, b => by
    rw [List.cons_append, numsL, numsL, numsL_app (s + 1) r b, List.cons_append]
    congr 2
    simp only [List.length_cons]
    congr 1
    omega
theorem in64_s {x : Lg} (h : okLg x) : in64 x.g ∧ in64 x.s := by
  obtain ⟨⟨h1, h2⟩, ⟨h3, h4⟩, h5⟩ := h
  exact ⟨⟨by omega, by omega⟩, ⟨by omega, by omega⟩⟩
/-- A number that stands first. -/
theorem getN_put {v : Int} (hv : in64 v) (r : Bs) : getN (putN v ++ r) 0 = (v, ((putN v).length : Int), true) := by
  have e := getN_num (l := putN v ++ r) (p := 0) (Nat.zero_le _)
  rw [List.drop_zero, num_put hv] at e
  rw [show ((0 : Nat) : Int) = 0 from rfl] at e
  rw [e]
  simp only [List.length_append]
  congr 2
  omega
theorem getN_put2 {v u : Int} (hu : in64 u) (r : Bs) : getN (putN v ++ (putN u ++ r)) ((putN v).length : Int) = (u, (((putN v).length + (putN u).length : Nat) : Int), true) := by
  rw [getN_num (by rw [List.length_append]; omega), List.drop_left, num_put hu]
  simp only [List.length_append]
  congr 2
  omega
/-- Which file counts. -/
def pick : FL → FL → Option (Nat × Lg)
  | none, none => none
  | some x, none => some (0, x)
  | none, some y => some (1, y)
  | some x, some y => if x.g < y.g then some (1, y) else some (0, x)
def clr (m : Nat → Fm) (f : Nat) : Nat → Fm := syncMf (cutMf m f 0) f
def open2 (m : Nat → Fm) : Nat → Fm := openM (openM m 0) 1
def freshM (m : Nat → Fm) : Nat → Fm := syncMf (logM (clr (clr m 0) 1) (0 : Nat) (hdB 1 0 [])) (0 : Nat)
def openK (m : Nat → Fm) (a b : FL) : Nat → Fm := match pick a b with
  | none => freshM (open2 m)
  | some (f, _) => if 0 < (open2 m (1 - f)).now.length then clr (open2 m) (1 - f) else open2 m
/-- The store behind an opening: the file, G, S, the last entry. -/
def openS (a b : FL) : Nat × Int × Int × Int := match pick a b with
  | none => (0, 1, 0, 0)
  | some (f, x) => (f, x.g, x.s, x.s + x.es.length)
def openT (a b : FL) : Bs × List Bs := match pick a b with
  | none => ([], [])
  | some (_, x) => (x.snap, x.es)
theorem pick_lt {a b : FL} {f : Nat} {x : Lg} (h : pick a b = some (f, x)) : f < 2 ∧ ((f = 0 ∧ a = some x) ∨ (f = 1 ∧ b = some x)) := by
  cases a with
  | none =>
    cases b with
    | none => cases h
    | some y => injection h with h; injection h with h1 h2; subst h1 h2; exact ⟨by omega, .inr ⟨rfl, rfl⟩⟩
  | some z =>
    cases b with
    | none => injection h with h; injection h with h1 h2; subst h1 h2; exact ⟨by omega, .inl ⟨rfl, rfl⟩⟩
    | some y =>
      change (if z.g < y.g then some (1, y) else some (0, z)) = _ at h
      split at h
      · injection h with h; injection h with h1 h2; subst h1 h2; exact ⟨by omega, .inr ⟨rfl, rfl⟩⟩
      · injection h with h; injection h with h1 h2; subst h1 h2; exact ⟨by omega, .inl ⟨rfl, rfl⟩⟩
end Go.Proofs.Ytfgepillnemolaa
