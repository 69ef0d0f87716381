/- The laws of the log: WalBytes, WalErases. No conditions. -/
import Derived.Test.YthbablipimdaoaaWalL
import Derived.Test.YthbablipimdaoaaOpenD
namespace Go.Proofs.Ythbablipimdaoaa
open Go.RowKit Go.Eng
set_option linter.unusedVariables false
theorem Open_n {d : Nat} {f : Int} (hf : f < 0 ∨ 1 < f) (w : World) : C.wal_Open (PD d) f w (fun v w' => v = .tuple #[.pointer none, .slice none 0 0, .int .i64 1] ∧ w = w') noP := wal_Open_of (by
  unfold W.wal_Open
  exact cond_f rfl (cond_i (fun _ => ⟨rfl, rfl⟩) fun h1 => cond_i (fun _ => ⟨rfl, rfl⟩) fun h2 => by
    have := of_decide_eq_false h1
    have := of_decide_eq_false h2
    omega))
/-- Records more. -/
def mAdd (m : Nat → Fm) (f : Nat) (L : List Bs) : Nat → Fm := fup m f ⟨(m f).sure, (m f).now ++ flatR L, (m f).pend ++ L.map fun s => .app (recB s)⟩
theorem mAdd_nil (m : Nat → Fm) (f : Nat) : mAdd m f [] = m := by
  unfold mAdd
  simp only [flatR, List.flatMap_nil, List.append_nil, List.map_nil]
  exact fup_self m f
theorem mAdd_now (m : Nat → Fm) (f : Nat) (L : List Bs) : mAdd m f L f = ⟨(m f).sure, (m f).now ++ flatR L, (m f).pend ++ L.map fun s => .app (recB s)⟩ := fup_same _ _ _
theorem mAdd_ne (m : Nat → Fm) {f j : Nat} (L : List Bs) (h : j ≠ f) : mAdd m f L j = m j := fup_ne _ _ h
theorem units_map (L : List Bs) : unitsL (L.map fun s => Pd.app (recB s)) = endL L := by
  induction L with
  | nil => rfl
  | cons s r ih => simp only [List.map_cons, unitsL, Pd.units, ih, recB_len, endL]
theorem mAdd_units (m : Nat → Fm) (f : Nat) (L : List Bs) (i : Nat) : unitsL (mAdd m f L i).pend ≤ unitsL (m i).pend + endL L := by
  by_cases e : i = f
  · subst e; rw [mAdd_now]; dsimp only; rw [unitsL_app, units_map]; exact Nat.le_refl _
  · rw [mAdd_ne m L e]; omega
theorem mAdd_step {m : Nat → Fm} {f : Nat} (hf : f < 2) (L : List Bs) {s : Bs} (h : okR s) (hl : (m f).now.length + (endL L + (8 + s.length)) ≤ 16777216) : logE (mAdd m f L) f s = 0 ∧ logM (mAdd m f L) f s = mAdd m f (L ++ [s]) := by
  have hn : (mAdd m f L f).now.length = (m f).now.length + endL L := by rw [mAdd_now]; dsimp only; rw [List.length_append, flatR_len]
  refine ⟨logE_ok hf h (by omega), ?_⟩
  rw [logM_ok hf h (by omega), mAdd_now]
  funext j
  by_cases e : j = f
  · subst e
    rw [fup_same, mAdd_now, flatR_app, flatR_one]
    simp
  · rw [fup_ne _ _ e, mAdd_ne m L e, mAdd_ne m _ e]
theorem endL_say (L : List Bs) : ∀ k, endL ((sayL L).take k) ≤ 3008 * 40 := by
  intro k
  have h : ∀ A : List Bs, (∀ s ∈ A, s.length < 3000) → endL A ≤ 3008 * A.length := by
    intro A
    induction A with
    | nil => intro _; exact Nat.zero_le _
    | cons s r ih =>
      intro hA
      have := ih (fun x hx => hA x (List.mem_cons_of_mem _ hx))
      have := hA s (List.mem_cons_self ..)
      simp only [endL, List.length_cons]
      omega
  have h1 := h ((sayL L).take k) (fun s hs => (sayL_ok L s (List.mem_of_mem_take hs)).2)
  have h2 := sayL_len L
  rw [List.length_take] at h1
  omega
theorem endL_say' (L : List Bs) : endL (sayL L) ≤ 3008 * 40 := by
  have := endL_say L (sayL L).length
  rwa [List.take_length] at this
theorem sayL_okR (L : List Bs) : ∀ s ∈ sayL L, okR s := fun s hs => by
  have := sayL_ok L s hs
  exact ⟨this.1, by omega⟩
theorem take_snoc {α : Type} (L : List α) {k : Nat} (h : k < L.length) : L.take (k + 1) = L.take k ++ [L[k]] := by rw [List.take_add_one, List.getElem?_eq_getElem h]; rfl
theorem awk {w w1 : World} (k : Kp [] w w1) : C.skeplaw04_awake w1 (fun r w' => ∃ p : Bool, r = .bool p ∧ ((.bool p : Value) = .bool true ∧ Kp [] w w')) noP := by
  refine use (awake_s w1) ?_
  rintro _ w7 ⟨rfl, k7⟩
  exact ⟨_, rfl, rfl, k.then0 k7⟩
set_option maxHeartbeats 2000000 in
set_option maxRecDepth 20000 in
theorem WalBytes_s (s : Sl) {b : Bs} (w : World) (hs : RdB w s b) (hc : s.len ≤ s.cap) : C.skeplaw04_WalBytes s w (fun v w' => v = .bool true ∧ Kp [] w w') noP := skeplaw04_WalBytes_of (by
  unfold W.skeplaw04_WalBytes
  have hsl := hs.bsize
  refine use (awake_s w) ?_
  rintro _ w1 ⟨rfl, k1⟩
  refine ⟨_, rfl, cond_f rfl (cond_i (fun _ => awk k1) (fun h1 => ?_))⟩
  replace h1 := of_decide_eq_false h1
  refine use (New_g w w1 k1) ?_
  rintro _ w10 ⟨d, rfl, hD, k10⟩
  refine ⟨PD d, rfl, ?_⟩
  refine use (CopyBytes_s s (hs.keep0 hD.kp) (by omega)) ?_
  rintro _ w13 ⟨p, rfl, hp, k13⟩
  refine ⟨p, rfl, ?_⟩
  refine use (Append_g ((1 : Nat) : Int) (hD.keep k13) hp.rds u00) ?_
  rintro _ w16 ⟨rfl, hD1, k16⟩
  rw [appEf_i _ (by omega), appE_fits (by simp [m00]; omega)]
  rw [appMf_i _ (by omega), appF_fits (by simp [m00]; omega)] at hD1
  refine ⟨_, rfl, cond_f rfl ?_⟩
  generalize hm : fup m00 1 _ = m at hD1
  have e1 : (m 1).now = b := by rw [← hm, fup_same]; rfl
  have hu : uK m := fun i hi => by
    have h01 : i = 0 ∨ i = 1 := by omega
    rw [← hm]
    rcases h01 with rfl | rfl
    · exact Nat.zero_le _
    · rw [fup_same]; dsimp only; rw [unitsL_app, units_one]; simp [m00, unitsL]; omega
  clear hm
  refine use (rRecords_s s (hs.keep0 hD1.kp) hc (by omega)) ?_
  rintro _ w19 ⟨wq, rfl, hW, k19⟩
  refine ⟨(wq, ((endL (recs b) : Nat) : Int)), rfl, ?_⟩
  have hD2 := hD1.grow k19
  have hWlo := hW.lo
  have hW2 := hW.mono2 (El' := New w16 w19) (Nat.le_refl _) (fun y h1 h2 => ⟨h1, h2⟩)
  refine use (Open_g (f := 1) (by omega) hD2 hu) ?_
  rintro _ w22 ⟨lg, q, G, rfl, hD3, k22, hGG, hLg, hg, hS, hSG⟩
  rw [e1] at hS
  refine ⟨(PD lg, q, 0), rfl, fun w25 hDr => cond_f rfl (cond_f rfl ?_)⟩
  replace hD3 := hD3.keep hDr.kp
  replace hLg := hLg.keep hDr.kp
  have hWW := (hW2.keepF k22 (fun y hy hn => hn (.inr (hWlo y hy))) (fun y hy _ hn => hn (.inr hy))).keep0 hDr.kp
  have hcnt := recs_count b
  refine use (said_s wq hWW (by rw [pos_len]; omega)) ?_
  rintro _ w26 ⟨r, rfl, hr, k26⟩
  rw [pos_snd] at hr
  refine ⟨r, rfl, ?_⟩
  refine use (lsame_s q r (((tagL_rl hS).keep0 hDr.kp).keep0 k26) hr (by omega)) ?_
  rintro _ w29 ⟨rfl, k29⟩
  refine ⟨_, rfl, cond_f (by simp) ?_⟩
  replace hD3 := (hD3.keep k26).keep k29
  replace hLg := (hLg.keep k26).keep k29
  refine use (LSize_g hD3 hLg) ?_
  rintro _ w32 ⟨rfl, k32⟩
  have hend := recs_end b
  have hn : (openM m 1 1).now = flatR (recs b) := by rw [openM_now m (by omega), e1]
  rw [readF_i _ (by omega), hn, flatR_len]
  refine ⟨_, rfl, cond_f (by simp) ⟨⟨by dsimp only; omega, by dsimp only; omega⟩, ?_⟩⟩
  replace hD3 := hD3.keep k32
  simp only [Int.toNat_natCast, ite_same, Nat.sub_zero]
  have htk := recs_take b
  have hcut : ∀ {w' : World}, Kp [] w w' → RdB w' ⟨s.a, endL (recs b), s.cap⟩ (flatR (recs b)) := fun k => by
    rw [← htk]
    exact (hs.keep0 k).bcut (by omega) _
  refine ⟨str _, (hcut hD3.kp).str, ?_⟩
  refine use (Read_g ((1 : Nat) : Int) hD3) ?_
  rintro _ w36 ⟨x, rfl, hx, k36⟩
  rw [readF_i _ (by omega), hn] at hx
  replace hD3 := hD3.keep k36
  refine ⟨x, rfl, (hcut hD3.kp).str.2, str _, hx.rds.str, cond_f (by rw [strEq_str]; simp) (cond_e (fun _ => ⟨by trivial, hD3.kp⟩) (fun hne => ?_))⟩
  have hlt : endL (recs (m 1).now) < (m 1).now.length := by rw [e1]; omega
  refine use (Pending_g ((1 : Nat) : Int) hD3 (fun i hi => Nat.le_trans (openM_units m (by omega) i) (hu i hi))) ?_
  rintro _ w40 ⟨rfl, k40⟩
  refine ⟨_, rfl, ?_, hD3.kp.then0 k40⟩
  rw [pendN_i _ (by omega), openM_cut m (by omega) hlt]
  rfl)
theorem WalBytes_walk (a : Option Addr) (c : Nat) (l : List Int) (w : World) (h : Rd .u8 w a l) (hc : l.length ≤ c) :
    Calls Try.prog 7 #[.slice a l.length c] w fun e w' => e = .returned (.bool true) ∧ Below w.heap.size w w' :=
  ret_true (WalBytes_s ⟨a, l.length, c⟩ w (rdb_of_rd h c) hc)
theorem WalWrites_walk (s : Sl) (L : List (List Int)) (w : World) (_ : s.len ≤ s.cap ∧ s.cap ≤ maxLen) (h : IsL w 1 (fun s : Sl => Value.slice s.a s.len s.cap) (fun s L => RdL w 1 (Value.int .u8) s L) s L) (hq : ∀ x ∈ L, ∀ y ∈ x, in8 y) :
    Calls Try.prog 4 #[.slice s.a s.len s.cap] w fun e w' => e = .returned (.bool true) ∧ Below w.heap.size w w' := ret_true (WalWrites_s s w (rl_of_isL h hq))
end Go.Proofs.Ythbablipimdaoaa
