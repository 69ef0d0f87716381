/- The store's life between its calls: the plain law. No conditions. -/
import Derived.Test.YtfgepillnemolaaStQ
namespace Go.Proofs.Ytfgepillnemolaa
open Go.RowKit Go.Eng
set_option linter.unusedVariables false
set_option linter.unusedSimpArgs false
def smOf (f : Nat) (x : Lg) : Sm := (f, x.g, x.s, x.s + x.es.length)
def Lg.add (x : Lg) (b : Bs) : Lg := ⟨x.g, x.s, x.snap, x.es ++ [b]⟩
def Lg.cut (x : Lg) (k : Nat) : Lg := ⟨x.g, x.s, x.snap, x.es.take k⟩
/-- File f holds x, j entries of it for certain; the other file is empty. -/
structure KI (m : Nat → Fm) (f : Nat) (x : Lg) (j : Nat) : Prop where
  f2 : f < 2
  jle : j ≤ x.es.length
  mf : m f = ⟨flatR (x.cut j).recs, flatR x.recs, (numsL (x.s + j) (x.es.drop j)).map fun s => .app (recB s)⟩
  mo : m (1 - f) = ⟨[], [], []⟩
  ok : ∀ s ∈ x.recs, okR s
  s0 : 0 ≤ x.s
theorem units_mapR : ∀ L : List Bs, unitsL (L.map fun s => Pd.app (recB s)) = endL L
  | [] => rfl
  | s :: L => by rw [List.map_cons, unitsL, units_mapR L, endL]; simp [Pd.units, recB_len]
theorem Lg.recs_add (x : Lg) (b : Bs) : (x.add b).recs = x.recs ++ [entB (x.s + x.es.length + 1) b] := by
  simp [Lg.recs, Lg.add, numsL_app, numsL]
theorem Lg.recs_cut (x : Lg) (j : Nat) : x.recs = (x.cut j).recs ++ numsL (x.s + (x.es.take j).length) (x.es.drop j) := by
  simp only [Lg.recs, Lg.cut, List.cons_append]
  rw [← numsL_app, List.take_append_drop]
theorem Lg.recs_cut' (x : Lg) {j : Nat} (hj : j ≤ x.es.length) : x.recs = (x.cut j).recs ++ numsL (x.s + j) (x.es.drop j) := by
  have := x.recs_cut j
  rwa [List.length_take, Nat.min_eq_left hj] at this
theorem Lg.cut_all (x : Lg) : x.cut x.es.length = x := by simp [Lg.cut]
theorem i01 {i f : Nat} (hi : i < 2) (hf : f < 2) : i = f ∨ i = 1 - f := by omega
theorem KI.units {m : Nat → Fm} {f j : Nat} {x : Lg} (h : KI m f x j) (i : Nat) (hi : i < 2) : unitsL (m i).pend ≤ endL x.recs := by
  rcases i01 hi h.f2 with rfl | rfl
  · rw [h.mf, units_mapR]
    have := congrArg endL (x.recs_cut' h.jle)
    rw [endL_app] at this
    omega
  · rw [h.mo]; exact Nat.zero_le _
theorem KI.size {m : Nat → Fm} {f j : Nat} {x : Lg} (h : KI m f x j) : (m f).now.length = endL x.recs := by rw [h.mf, flatR_len]
theorem endL_add (x : Lg) (b : Bs) : endL (x.add b).recs = endL x.recs + (8 + (entB (x.s + x.es.length + 1) b).length) := by
  rw [x.recs_add, endL_app]
  rfl
theorem fupS (m : Nat → Fm) {f : Nat} (v : Fm) : fup m f v f = v := fup_same _ _ _
/-- The next entry is appended. -/
theorem KI.app {m : Nat → Fm} {f j : Nat} {x : Lg} (h : KI m f x j) (b : Bs) (hb : okR (entB (x.s + x.es.length + 1) b)) (hfit : endL x.recs + (8 + (entB (x.s + x.es.length + 1) b).length) ≤ 16777216) :
    ∃ m', appS (smOf f x) m (x.s + x.es.length + 1) b = (0, smOf f (x.add b), m') ∧ KI m' f (x.add b) j := by
  obtain ⟨E, hE⟩ : ∃ E, entB (x.s + x.es.length + 1) b = E := ⟨_, rfl⟩
  rw [hE] at hb hfit
  have hsz := h.size
  have e0 : logE m f E = 0 := by
    unfold logE
    rw [if_pos hb, appEf_i m h.f2]
    exact appE_fits (by rw [hsz, recB_len]; omega)
  have e1 : logM m f E = fup m f ⟨(m f).sure, (m f).now ++ recB E, (m f).pend ++ [.app (recB E)]⟩ := by
    unfold logM
    rw [if_pos hb, appMf_i m h.f2, appF_fits (by rw [hsz, recB_len]; omega), if_neg]
    intro e
    have := recB_len E
    rw [e, List.length_nil] at this
    omega
  refine ⟨fup m f ⟨(m f).sure, (m f).now ++ recB E, (m f).pend ++ [.app (recB E)]⟩, ?_, ?_⟩
  · unfold appS smOf
    dsimp only
    have := h.s0
    rw [if_neg (by omega), if_neg (by omega), hE, e0, if_pos rfl, e1]
    simp [Lg.add]
    omega
  · have hj := h.jle
    refine ⟨h.f2, by simp [Lg.add]; omega, ?_, ?_, ?_, h.s0⟩
    · rw [fup_same, h.mf]
      dsimp only
      rw [x.recs_add, hE, flatR_app, flatR_one]
      have c1 : (x.add b).cut j = x.cut j := by simp [Lg.add, Lg.cut, List.take_append_of_le_length hj]
      have c2 : numsL ((x.add b).s + j) ((x.add b).es.drop j) = numsL (x.s + j) (x.es.drop j) ++ [E] := by
        simp only [Lg.add, List.drop_append_of_le_length hj, numsL_app, numsL, List.length_drop]
        rw [← hE]
        congr 3
        omega
      rw [c1, c2, List.map_append]
      rfl
    · rw [fup_ne _ _ (by have := h.f2; omega)]; exact h.mo
    · intro s hs
      rw [x.recs_add] at hs
      rcases List.mem_append.1 hs with hs | hs
      · exact h.ok s hs
      · simp at hs; rw [hs, hE]; exact hb
theorem KI.sync {m : Nat → Fm} {f j : Nat} {x : Lg} (h : KI m f x j) : KI (syncMf m f) f x x.es.length := by
  refine ⟨h.f2, Nat.le_refl _, ?_, ?_, h.ok, h.s0⟩
  · rw [syncMf_i m h.f2, fup_same, x.cut_all]
    unfold syncF
    rw [h.mf]
    simp [numsL]
  · rw [syncMf_i m h.f2, fup_ne _ _ (by have := h.f2; omega)]; exact h.mo
/-- A checkpoint. -/
theorem KI.check {m : Nat → Fm} {f j : Nat} {x : Lg} (h : KI m f x j) (b : Bs) (hb : (hdB (x.g + 1) (x.s + x.es.length) b).length ≤ 65536) :
    ∃ m', chkS (smOf f x) m b = (0, smOf (1 - f) ⟨x.g + 1, x.s + x.es.length, b, []⟩, m') ∧ KI m' (1 - f) ⟨x.g + 1, x.s + x.es.length, b, []⟩ 0 := by
  have hf := h.f2
  obtain ⟨H, hH⟩ : ∃ H, hdB (x.g + 1) (x.s + x.es.length) b = H := ⟨_, rfl⟩
  have hok : okR H := by
    refine ⟨?_, by rw [← hH]; exact hb⟩
    have := (putN_len (x.g + 1)).1
    rw [← hH]
    simp only [hdB, List.length_append]
    omega
  obtain ⟨o, ho⟩ : ∃ o, 1 - f = o := ⟨_, rfl⟩
  have ho2 : o < 2 := by omega
  have hof : 1 - o = f := by omega
  have hne : f ≠ o := by omega
  have c0 : cutMf m (o : Int) 0 o = ⟨[], [], [.cut 0]⟩ := by
    rw [cut0n m ho2, ← ho, h.mo]
    rfl
  have e1 : logM (cutMf m (o : Int) 0) (o : Int) H = fup (cutMf m (o : Int) 0) o ⟨[], recB H, [.cut 0] ++ [.app (recB H)]⟩ := by
    unfold logM
    rw [if_pos hok, appMf_i _ ho2, appF_fits (by rw [c0, recB_len]; have := hok.2; simp only [List.length_nil]; omega), if_neg, c0]
    · rfl
    · intro e
      have := recB_len H
      rw [e, List.length_nil] at this
      omega
  refine ⟨clr (syncMf (logM (cutMf m (o : Int) 0) (o : Int) H) (o : Int)) f, ?_, ?_⟩
  · unfold chkS smOf
    dsimp only
    rw [hH, if_neg (by have := hok.2; omega), ho]
    simp
  · rw [ho]
    refine ⟨ho2, Nat.zero_le _, ?_, ?_, ?_, by have := h.s0; show 0 ≤ x.s + x.es.length; omega⟩
    · rw [clr_ne _ hf hne.symm, syncMf_i _ ho2, fup_same, e1, fup_same]
      unfold syncF
      simp [Lg.recs, Lg.cut, numsL, hH, flatR_one]
    · rw [hof, clr_same _ hf]
    · intro s hs
      simp [Lg.recs, numsL, hH] at hs
      rw [hs]; exact hok
theorem KI.big {m : Nat → Fm} {f j : Nat} {x : Lg} (h : KI m f x j) (b : Bs) (hb : 65536 < (hdB (x.g + 1) (x.s + x.es.length) b).length) : chkS (smOf f x) m b = (1, smOf f x, m) := by
  unfold chkS smOf
  dsimp only
  rw [if_pos hb]
theorem open2_m00 : open2 m00 = m00 := by
  have e : openM m00 0 = m00 := openM_whole m00 (by simp [m00, recs_nil, endL])
  unfold open2
  rw [e]
  exact openM_whole m00 (by simp [m00, recs_nil, endL])
theorem hd0_ok : okR (hdB 1 0 []) := ⟨by have := (putN_len 1).1; simp [hdB]; omega, by have := (putN_len 1).2; have := (putN_len 0).2; simp [hdB]; omega⟩
def x0 : Lg := ⟨1, 0, [], []⟩
theorem KI.fresh : KI (openK m00 none none) 0 x0 0 := by
  have hok := hd0_ok
  have e : openK m00 none none = syncMf (logM (clr (clr m00 0) 1) (0 : Nat) (hdB 1 0 [])) (0 : Nat) := by
    unfold openK freshM
    rw [open2_m00]
    rfl
  have c0 : clr (clr m00 0) 1 0 = ⟨[], [], []⟩ := by rw [clr_ne _ (by omega) (by omega), clr_same _ (by omega)]
  have e1 : logM (clr (clr m00 0) 1) ((0 : Nat) : Int) (hdB 1 0 []) = fup (clr (clr m00 0) 1) 0 ⟨[], recB (hdB 1 0 []), [.app (recB (hdB 1 0 []))]⟩ := by
    unfold logM
    rw [if_pos hok, appMf_i _ (by omega), appF_fits (by rw [c0, recB_len]; have := hok.2; simp only [List.length_nil]; omega), if_neg, c0]
    · rfl
    · intro e
      have := recB_len (hdB 1 0 [])
      rw [e, List.length_nil] at this
      omega
  rw [e]
  refine ⟨by omega, Nat.zero_le _, ?_, ?_, ?_, Int.le_refl _⟩
  · rw [syncMf_i _ (by omega), fup_same, e1, fup_same]
    unfold syncF
    simp [Lg.recs, Lg.cut, numsL, x0, flatR_one]
  · rw [syncMf_i _ (by omega), fup_ne _ _ (by omega), e1, fup_ne _ _ (by omega), show 1 - 0 = 1 from rfl, clr_same _ (by omega)]
  · intro s hs
    simp [Lg.recs, numsL, x0] at hs
    rw [hs]; exact hok
end Go.Proofs.Ytfgepillnemolaa
