/- The disk's contracts: Pending, Crash. No conditions. -/
import Derived.Test.YtfgepillnemolaaDisk
namespace Go.Proofs.Ytfgepillnemolaa
open Go.RowKit Go.Eng
set_option linter.unusedVariables false
theorem RowsOf.rdA {w : World} {b sz n : Nat} {cs : List Value} {f : Nat → List Value} (hB : Blk w b cs) (h : RowsOf sz cs n f) {i : Nat} (hi : i < n) : Go.Eng.rd w (Addr.add ⟨b, 0, none⟩ (i * sz)) (.agg (f i).toArray) := by
  rw [add_blk, Nat.zero_add]
  exact hB.rd _ _ (fun j v hj => h i hi j v hj)
theorem unitsL_take {l : List Pd} {k : Nat} {p : Pd} (h : l[k]? = some p) : unitsL (l.take (k + 1)) = unitsL (l.take k) + p.units := by
  rw [List.take_add_one, h, unitsL_app]
  simp [unitsL]
theorem unitsL_le : ∀ (l : List Pd) (k : Nat), unitsL (l.take k) ≤ unitsL l
  | [], k => by simp [unitsL]
  | p :: r, 0 => by simp [unitsL]
  | p :: r, k + 1 => by
    have := unitsL_le r k
    simp only [List.take_succ_cons, unitsL]
    omega
theorem Leads.len : ∀ {x : Bs} {p : List Pd} {now : Bs}, Leads x p now → p.length ≤ unitsL p
  | x, [], now, h => Nat.zero_le _
  | x, .app c :: r, now, h => by
    have := Leads.len h.2.2
    have : 0 < c.length := List.length_pos_iff.2 h.2.1
    simp only [List.length_cons, unitsL, Pd.units]
    omega
  | x, .cut m :: r, now, h => by
    have := Leads.len h.2.2
    simp only [List.length_cons, unitsL, Pd.units]
    omega
theorem done_rd {w : World} {s : Sl} {ds : List S.disk_done} (h : Go.Eng.Own w 0 3 s (ds.flatMap doneC)) : RdL w 3 S.disk_done.v s ds := by
  have hl := h.len
  rw [flat_len (n := 3) (fun _ => rfl)] at hl
  exact h.rds.rdl (fun _ => rfl) (fun _ => rfl) (by omega)
theorem Pending_s {F : Nat → Prop} {d : Nat} {m : Nat → Fm} {i : Nat} (hi : i < 2) {w : World} (h : DiskIs w F d m) (hu : unitsL (m i).pend ≤ 1000000000000) :
    C.disk_Disk_Pending (some ⟨d, 0, none⟩) i w (fun v w' => v = .int .i64 (unitsL (m i).pend) ∧ Kp [] w w') noP := disk_Disk_Pending_of (by
  unfold W.disk_Disk_Pending
  refine use (file_s d hi w) ?_
  rintro _ _ ⟨rfl, rfl⟩
  refine ⟨_, rfl, cond_f rfl ?_⟩
  have h0 := h
  obtain ⟨⟨cs, s, FF, hB, hcl, hrow, hfi, hnd, hdj, hFF⟩, hdF, hlt⟩ := h
  have f := hfi i hi
  dsimp only [withSome]
  simp only [add_blk]
  have hc := hB.at (hrow i hi 2 _ rfl)
  obtain ⟨ds, hds, hdl, hdp⟩ := f.pend
  have hL := done_rd hds
  have hLl := hL.len
  have hplen := f.leads.len
  refine ⟨(s i).pending, ⟨rfl, hc⟩, fun a v w' => ∃ k : Nat, v = k ∧ k ≤ ds.length ∧ a = (unitsL ((m i).pend.take k) : Nat) ∧ Kp [] w w', fun _ v _ => ds.length - v.toNat, ⟨_, rfl, _, rfl, 0, rfl, by omega, by simp [unitsL], Kp.refl _ _⟩, fun e0 a v w12 hI => ?_⟩
  obtain ⟨k, rfl, hk, rfl, k12⟩ := hI
  have hle := unitsL_le (m i).pend k
  refine cond_d (fun h1 => ?_) (fun h1 => ?_)
  · refine ⟨(s i).pending, ⟨rfl, (hB.keep k12 (by simp)).at (hrow i hi 2 _ rfl)⟩, ⟨by omega, h1⟩, ?_⟩
    obtain ⟨ad, ha, hx⟩ := (hL.keep0 k12).get (i := k) (by omega)
    rw [ha, Int.toNat_natCast]
    refine ⟨ds[k], ⟨rfl, hx⟩, ?_⟩
    have hpd := hdp k _ _ (List.getElem?_eq_getElem (by omega)) (List.getElem?_eq_getElem (by omega))
    refine use (units_s ds[k] (hpd.keepF (k12.toF (F := fun _ => False) (by simp)) (fun _ _ h => h))) ?_
    rintro _ w17 ⟨rfl, k17, s17⟩
    have ht := unitsL_take (l := (m i).pend) (k := k) (List.getElem?_eq_getElem (by omega))
    have hle2 := unitsL_le (m i).pend (k + 1)
    have hw : IntKind.i64.wrap ((k : Int) + 1) = (k + 1 : Nat) := by rw [IntKind.wrap_i64]; omega
    refine ⟨_, rfl, _, rfl, _, rfl, ⟨k + 1, hw, by omega, ?_, k12.then0 k17⟩, by simp only [hw]; omega⟩
    rw [ht, IntKind.wrap_i64]
    omega
  · have : k = (m i).pend.length := by omega
    subst this
    rw [List.take_length]
    exact ⟨rfl, k12⟩)
/-- What is left of the units, of a file. -/
theorem crash_step (cur : Bs) (p : Pd) (r : List Pd) (n : Nat) : crashB cur (p :: r) n = if n < p.units then (match p with | .app b => cur ++ b.take n | .cut _ => cur) else crashB (match p with | .app b => cur ++ b | .cut k => cur.take k) r (n - p.units) := by
  cases p with
  | app b => rfl
  | cut k => rfl
theorem crash_small : ∀ {x : Bs} {p : List Pd} {now : Bs}, Leads x p now → ∀ n, (crashB x p n).length ≤ 16777216
  | x, [], now, h, n => h.1
  | x, .app c :: r, now, h, n => by
    have h2 := h.2.2.small
    rw [List.length_append] at h2
    rw [crashB]
    split
    · rw [List.length_append, List.length_take]
      omega
    · exact crash_small h.2.2 _
  | x, .cut m :: r, now, h, n => by
    rw [crashB]
    split
    · exact h.1
    · exact crash_small h.2.2 _
theorem DiskIs.congr {w : World} {F : Nat → Prop} {d : Nat} {m m' : Nat → Fm} (h : DiskIs w F d m) (e : ∀ i, i < 2 → m i = m' i) : DiskIs w F d m' := by
  obtain ⟨⟨cs, s, FF, h1, h2, h3, h4, h5⟩, hF, hlt⟩ := h
  exact ⟨⟨cs, s, FF, h1, h2, h3, fun i hi => e i hi ▸ h4 i hi, h5⟩, hF, hlt⟩
theorem min_eq (l : Int) (u : Nat) : (if (if (0 : Int) > l then 0 else l) < (u : Int) then (if (0 : Int) > l then 0 else l) else (u : Int)) = ((min l.toNat u : Nat) : Int) := by
  split <;> split <;> omega
def li : Int → Value := Value.int .i64
set_option maxHeartbeats 2000000 in
set_option maxRecDepth 20000 in
theorem Crash_s {F : Nat → Prop} {d : Nat} {m : Nat → Fm} (a p : Int) (ha : in64 a) (hp : in64 p) {w : World} (h : DiskIs w F d m) (hu : ∀ i, i < 2 → (m i).pend.length ≤ 1000000000) :
    C.disk_Disk_Crash (some ⟨d, 0, none⟩) a p w (fun v w' => ∃ dn F', v = .pointer (some ⟨dn, 0, none⟩) ∧ DiskIs w' F' dn (fun j => crashF (m j) (if j = 0 then a else p)) ∧ (∀ k, F' k → w.heap.size ≤ k) ∧ Kp [] w w') noP := disk_Disk_Crash_of (by
  unfold W.disk_Disk_Crash
  obtain ⟨⟨cs, s, FF, hB, hcl, hrow, hfi, hnd, hdj, hFF⟩, hdF, hlt⟩ := h
  refine use (dNew_s w) ?_
  rintro _ w1 ⟨dn, F0, rfl, hN0, k1, hF0⟩
  refine ⟨some ⟨dn, 0, none⟩, rfl, cond_f rfl ?_⟩
  intro b4 w5 hA4
  have s5 := hA4.eq
  have s1 := k1.size
  have hB4 := hA4.blk
  refine ⟨⟨rfl, hB4.canN _ (Nat.le_refl _)⟩, fun w6 e6 => ?_⟩
  obtain ⟨hB4, k6, s6⟩ := hB4.putAll (by rfl) e6
  have kw6 : Kp [] w w6 := (k1.then0 hA4.kp).then k6 (by simp; omega)
  have hF0b : ∀ x, F0 x → x ≠ b4 := fun x hx => by have := hN0.lt x hx; omega
  have hN6 := (hN0.keep0 hA4.kp).keepF (k6.toF (F := (· = b4)) (by simp)) (fun x hx e => hF0b x hx e)
  obtain ⟨lf, hlf⟩ : ∃ lf : Nat → Int, lf = fun j => if j = 0 then a else p := ⟨_, rfl⟩
  have hlf64 : ∀ j, in64 (lf j) := fun j => by rw [hlf]; dsimp only; split <;> assumption
  refine ⟨fun v w' => ∃ (k : Nat) (mk : Nat → Fm) (F' : Nat → Prop) (ls : List Int), v = k ∧ k ≤ 2 ∧ DiskIs w' F' dn mk ∧ (∀ j, j < 2 → mk j = if j < k then crashF (m j) (lf j) else ⟨[], [], []⟩) ∧ (∀ x, F' x → w.heap.size ≤ x ∧ x ≠ b4) ∧ Blk w' b4 (ls.map li) ∧ ls.length = 2 ∧ (∀ j, k ≤ j → j < 2 → ls[j]? = some (lf j)) ∧ Kp [] w w', fun v _ => 2 - v.toNat,
    ⟨_, rfl, 0, _, _, [a, p], rfl, by omega, hN6, fun j _ => by rw [if_neg (by omega)], fun x hx => ⟨hF0 x hx, hF0b x hx⟩, hB4, rfl, fun j _ hj => ?_, kw6⟩, fun e0 v wr hI => ?_⟩
  · have : j = 0 ∨ j = 1 := by omega
    rcases this with rfl | rfl <;> rw [hlf] <;> rfl
  obtain ⟨k, mk, F', ls, rfl, hk2, hN, hmk, hF', hBl, hll, hls, kw⟩ := hI
  refine cond_d (fun h1 => ?_) (fun h1 => ?_)
  · have hk : k < 2 := by omega
    have f := hfi k hk
    have hBr := hB.keep kw (by simp)
    have hb4w : w.heap.size ≤ b4 := by omega
    have hb4r := hBl.lt
    have swr := kw.size
    refine ⟨⟨by omega, by omega⟩, s k, ⟨rfl, by rw [Int.toNat_natCast]; exact RowsOf.rdA hBr hrow hk⟩, fun b14 w15 hA14 => ?_⟩
    have s15 := hA14.eq
    have hB14 := hA14.blk
    refine ⟨⟨rfl, hB14.canN _ (Nat.le_refl _)⟩, fun w16 e16 => ?_⟩
    obtain ⟨hB14, k16, s16⟩ := hB14.putAll (by rfl) e16
    intro b17 w18 hA17
    have s18 := hA17.eq
    have kr18 : Kp [] wr w18 := (hA14.kp.then k16 (by simp; omega)).then0 hA17.kp
    replace hB14 := hB14.keep hA17.kp (by simp)
    refine ⟨(s k).sure, ⟨rfl, hB14.at rfl⟩, ?_⟩
    have ho17 : OwnB w18 wr.heap.size ⟨some ⟨b17, 0, none⟩, 0, 0⟩ [] := Go.Eng.Own.fresh hA17 (by omega) (Nat.le_refl _) rfl
    have hsure := f.sure.keep0 (kw.then0 kr18)
    have hsml := f.leads.small
    obtain ⟨q20, n21, c22, w23, hrun, hn21, ho20, k23, _⟩ := app_bytes (ty := 27) Try.underlying27 byte_info ho17 hsure (by omega) (by simp; omega)
    rw [List.nil_append] at ho20
    have s23 := k23.size
    have kr23 : Kp [] wr w23 := kr18.then k23 (by simp [blkOf]; omega)
    replace hB14 := hB14.keep k23 (by simp [blkOf]; omega)
    refine ⟨q20, n21, c22, w23, hrun, ?_⟩
    obtain ⟨l0, hl0⟩ : ∃ l0, lf k = l0 := ⟨_, rfl⟩
    have hlsk := hls k (Nat.le_refl _) hk
    rw [hl0] at hlsk
    have hl064 : in64 l0 := hl0 ▸ hlf64 k
    obtain ⟨tg, htg⟩ : ∃ tg, crashB (m k).sure (m k).pend l0.toNat = tg := ⟨_, rfl⟩
    have htgs : tg.length ≤ 16777216 := htg ▸ crash_small f.leads _
    obtain ⟨ds, hds, hdl, hdp⟩ := f.pend
    have hL := done_rd hds
    have hLl := hL.len
    have hplen := hu k hk
    refine ⟨fun x w' => ∃ ls' : List Int, OwnB w' wr.heap.size x tg ∧ Kp [b4] wr w' ∧ Blk w' b4 (ls'.map li) ∧ ls'.length = 2 ∧ (∀ j, j ≠ k → ls'[j]? = ls[j]?), ?_, ?_⟩
    · refine ⟨(s k).pending, ⟨rfl, hB14.at rfl⟩, fun x v w' => ∃ (j : Nat) (cur : Bs) (l : Int) (ls' : List Int), v = j ∧ j ≤ (m k).pend.length ∧ OwnB w' wr.heap.size x cur ∧ crashB cur ((m k).pend.drop j) l.toNat = tg ∧ Leads cur ((m k).pend.drop j) (m k).now ∧ Kp [b4] wr w' ∧ Blk w' b4 (ls'.map li) ∧ ls'.length = 2 ∧ ls'[k]? = some l ∧ in64 l ∧ (∀ j, j ≠ k → ls'[j]? = ls[j]?), fun _ v _ => (m k).pend.length - v.toNat,
        ⟨⟨q20, n21, c22⟩, rfl, _, rfl, 0, _, l0, ls, rfl, by omega, ho20, htg, f.leads, kr23.up _, hBl.keep kr23 (by simp), hll, hlsk, hl064, fun _ _ => rfl⟩, fun e0 x v w32 hI => ?_⟩
      obtain ⟨j, cur, l, ls', rfl, hj, hox, htg', hle, kr, hBl', hll', hlk, hl64, hoth⟩ := hI
      have s32 := kr.size
      have kw32 : Kp [] w w32 := kw.then kr (by simp; omega)
      refine cond_d (fun h2 => ?_) (fun h2 => ?_)
      · have hjp : j < (m k).pend.length := by omega
        obtain ⟨ad, had, hx⟩ := (hL.keep0 kw32).get (i := j) (by omega)
        rw [had, Int.toNat_natCast]
        have hpe : (m k).pend.drop j = (m k).pend[j] :: (m k).pend.drop (j + 1) := List.drop_eq_getElem_cons hjp
        have hpd := hdp j _ _ (List.getElem?_eq_getElem (by omega)) (List.getElem?_eq_getElem hjp)
        obtain ⟨pd, hpde⟩ : ∃ pd, (m k).pend[j] = pd := ⟨_, rfl⟩
        obtain ⟨dd, hdde⟩ : ∃ dd, ds[j] = dd := ⟨_, rfl⟩
        rw [hpde] at hpe hpd
        rw [hdde] at hx hpd
        rw [hpe] at htg' hle
        refine ⟨⟨by omega, h2⟩, dd, ⟨rfl, hx⟩, fun b35 w36 hA35 => ?_⟩
        have s36 := hA35.eq
        have hB35 := hA35.blk
        refine ⟨⟨rfl, hB35.canN _ (Nat.le_refl _)⟩, fun w37 e37 w38 hD => ?_⟩
        obtain ⟨hB35, k37, s37⟩ := hB35.putAll (by rfl) e37
        replace hB35 := hB35.keep hD.kp (by simp)
        have s38 := hD.sz
        have k38 : Kp [] w32 w38 := (hA35.kp.then k37 (by simp; omega)).then0 hD.kp
        have hBl38 := hBl'.keep k38 (by simp)
        have hcl : (ls'.map li)[k]? = some (.int .i64 l) := by rw [List.getElem?_map, hlk]; rfl
        simp only [add_blk, Nat.zero_add, Nat.mul_one, Int.toNat_natCast, ite_same, Nat.sub_zero]
        have toF : ∀ {x y : World}, Kp [] x y → KpF (fun _ => False) x y := fun k => k.toF (by simp)
        have hpd38 := hpd.keepF (toF (kw32.then0 k38)) (fun _ _ h => h)
        refine ⟨dd, ⟨by trivial, hB35.rd0⟩, ⟨by omega, by omega⟩, l, ⟨by trivial, hBl38.at hcl⟩, ?_⟩
        refine use (units_s dd hpd38) ?_
        rintro _ w41 ⟨rfl, k41, s41⟩
        replace hB35 := hB35.keep k41 (by simp)
        have hBl41 := hBl38.keep k41 (by simp)
        have hu0 : 0 < pd.units := by
          cases pd with
          | app b => exact List.length_pos_iff.2 hle.2.1
          | cut n => exact Nat.one_pos
        refine ⟨_, rfl, hBl41.at hcl, ⟨by omega, by omega⟩, l, ⟨by trivial, hBl41.at hcl⟩, ⟨by omega, by omega⟩, ?_⟩
        simp only [min_eq]
        obtain ⟨N, hN⟩ : ∃ N, min l.toNat pd.units = N := ⟨_, rfl⟩
        rw [hN]
        have hw : IntKind.i64.wrap (l - (N : Int)) = l - N := by rw [IntKind.wrap_i64]; omega
        rw [hw]
        refine ⟨⟨by trivial, hBl41.can1 _ rfl (by simp; omega)⟩, fun w45 e45 => ?_⟩
        obtain ⟨hBl45, k45, s45⟩ := hBl41.put1 rfl e45
        replace hB35 := hB35.keep k45 (by simp; omega)
        have hset : (ls'.map li).set k (.int .i64 (l - N)) = (ls'.set k (l - N)).map li := by rw [List.map_set]; rfl
        rw [hset] at hBl45
        have kr45 : Kp [b4] wr w45 := ((kr.then0 k38).then0 k41).then k45 (by simp)
        have hxlo := hox.lo
        have hb4x : b4 ∉ blkOf x := fun hx => by have := hxlo b4 hx; omega
        have hox45 := ((hox.keep0 k38).keep0 k41).keep k45 (fun y hy => by simp; rintro rfl; exact hb4x hy)
        have kw45 : Kp [] w w45 := kw.then kr45 (by simp; omega)
        have hpd45 := hpd.keepF (toF kw45) (fun _ _ h => h)
        have s45' := kr45.size
        have hcurs := hox.rds.bsize
        have hxlc := hox.lc
        have hcs := hle.small
        have hl2 : (ls'.set k (l - N)).length = 2 := by simpa using hll'
        have hlk2 : (ls'.set k (l - N))[k]? = some (l - (N : Int)) := by rw [List.getElem?_set_self (by omega)]
        have hoth2 : ∀ j, j ≠ k → (ls'.set k (l - N))[j]? = ls[j]? := fun j hj => by rw [List.getElem?_set_ne (Ne.symm hj)]; exact hoth j hj
        have hwj : IntKind.i64.wrap ((j : Int) + 1) = (j + 1 : Nat) := by rw [IntKind.wrap_i64]; omega
        refine cond_e (fun hN0 => ?_) (fun hN0 => ?_)
        · refine ⟨dd, ⟨by trivial, hB35.rd0⟩, ?_⟩
          refine use (units_s dd hpd45) ?_
          rintro _ w47 ⟨rfl, k47, s47⟩
          refine ⟨_, rfl, cond_d (fun h3 => ⟨x, rfl, _, ?_, kr45.then0 k47, hBl45.keep k47 (by simp), hl2, hoth2⟩) (fun h3 => by omega)⟩
          have h00 : l.toNat = 0 := by omega
          rw [crash_step, if_pos (by omega), h00] at htg'
          have : cur = tg := by
            rw [← htg']
            cases pd with
            | app b => simp
            | cut n => rfl
          rw [← this]
          exact hox45.keep0 k47
        · refine ⟨_, ⟨by trivial, hB35.at rfl⟩, ?_⟩
          cases pd with
          | cut n =>
            rw [hpd.1]
            have hN1 : N = 1 := by
              have : Pd.units (.cut n) = 1 := rfl
              omega
            have hnl := hle.2.1
            refine cond_t rfl ⟨_, ⟨by trivial, hB35.at rfl⟩, ?_⟩
            rw [hpd.2]
            refine ⟨⟨by omega, by omega⟩, dd, ⟨by trivial, hB35.rd0⟩, ?_⟩
            refine use (units_s dd hpd45) ?_
            rintro _ w47 ⟨rfl, k47, s47⟩
            refine ⟨_, rfl, cond_d (fun h3 => by have : Pd.units (.cut n) = 1 := rfl; omega) (fun h3 => ?_)⟩
            refine ⟨⟨x.a, n, x.cap⟩, by simp, _, rfl, ⟨j + 1, cur.take n, l - N, _, hwj, by omega, (hox45.bcut (by omega)).keep0 k47, ?_, hle.2.2, kr45.then0 k47, hBl45.keep k47 (by simp), hl2, hlk2, ⟨by omega, by omega⟩, hoth2⟩, by simp only [hwj]; omega⟩
            rw [crash_step, if_neg (by have : Pd.units (.cut n) = 1 := rfl; omega)] at htg'
            rw [← htg']
            congr 1
            have : Pd.units (.cut n) = 1 := rfl
            omega
          | app b =>
            rw [hpd.1]
            have hub : Pd.units (.app b) = b.length := rfl
            obtain ⟨hbr, hblc⟩ := hpd45.2.1
            have hbl := hbr.bsize
            have hbs := hle.2.2.small
            rw [List.length_append] at hbs
            refine cond_f rfl ⟨_, ⟨by trivial, hB35.at rfl⟩, ⟨by omega, by omega⟩, ?_⟩
            obtain ⟨q63, n64, c65, w66, hrun66, hn64, ho66, k66, _⟩ := app_bytes (ty := 27) Try.underlying27 byte_info hox45 (hbr.bcut (n := N) (by omega) dd.b_.cap) (by omega) (by simp; omega)
            refine ⟨q63, n64, c65, w66, hrun66, ?_⟩
            have hB35' := hB35.keep k66 (fun hx => by have := hxlo b35 hx; omega)
            have kr66 : Kp [b4] wr w66 := kr45.then k66 (fun y hy => .inr (hxlo y hy).1)
            have kw66 : Kp [] w w66 := kw.then kr66 (by simp; omega)
            have hBl66 := hBl45.keep k66 hb4x
            refine ⟨dd, ⟨by trivial, hB35'.rd0⟩, ?_⟩
            refine use (units_s dd (hpd.keepF (toF kw66) (fun _ _ h => h))) ?_
            rintro _ w47 ⟨rfl, k47, s47⟩
            refine ⟨_, rfl, cond_d (fun h3 => ⟨⟨q63, n64, c65⟩, rfl, _, ?_, kr66.then0 k47, hBl66.keep k47 (by simp), hl2, hoth2⟩) (fun h3 => ⟨⟨q63, n64, c65⟩, rfl, _, rfl, ⟨j + 1, cur ++ b, l - N, _, hwj, by omega, ?_, ?_, hle.2.2, kr66.then0 k47, hBl66.keep k47 (by simp), hl2, hlk2, ⟨by omega, by omega⟩, hoth2⟩, by simp only [hwj]; omega⟩)⟩
            · rw [crash_step, if_pos (by omega)] at htg'
              have hNl : N = l.toNat := by omega
              rw [hNl] at ho66
              rw [← htg']
              exact ho66.keep0 k47
            · rw [List.take_of_length_le (by omega)] at ho66
              exact ho66.keep0 k47
            · rw [crash_step, if_neg (by omega)] at htg'
              rw [← htg']
              congr 1
              omega
      · have hje : j = (m k).pend.length := by omega
        subst hje
        rw [List.drop_length] at htg'
        have : cur = tg := htg'
        subst this
        exact ⟨x, rfl, ls', hox, kr, hBl', hll', hoth⟩
    · rintro e0 x w76 ⟨ls', hox, kr, hBl', hll', hoth⟩ w77 hD
      replace hox := hox.keep0 hD.kp
      have hxlc := hox.lc
      have hxsz := hox.rds.bsize
      have hxlo := hox.lo
      have kr77 := kr.then0 hD.kp
      have s77 := kr77.size
      replace hBl' := hBl'.keep hD.kp (by simp)
      have hN77 := hN.keepF (kr77.toF (F := (· = b4)) (by simp)) (fun y hy e => (hF' y hy).2 e)
      have hN77' := hN77
      obtain ⟨⟨cn, sn, FN, hBn, hcnl, hrown, hfn, hndn, hdjn, hFFn⟩, hdnF, hltn⟩ := hN77
      have hdnw := hN.lt dn hdnF
      have hdnb := (hF' dn hdnF).2
      dsimp only [withSome]
      simp only [add_blk, Nat.zero_add, Int.toNat_natCast, ite_same, Nat.sub_zero]
      refine ⟨⟨by omega, by omega⟩, ⟨by omega, by omega⟩, ⟨by omega, by omega⟩, ?_⟩
      refine ⟨⟨by trivial, hBn.canN _ (by show k * 3 + 3 ≤ _; omega)⟩, fun w79 e79 => ?_⟩
      obtain ⟨hBn79, k79, s79⟩ := hBn.putN (by show k * 3 + 3 ≤ _; omega) e79
      have hxdn : ∀ y ∈ blkOf x, y ≠ dn := fun y hy e => by have := hxlo y hy; omega
      have hput := disk_putX (cs := cn) (X := fun y => y ∈ blkOf x) (f' := crashF (m k) l0) (s' := fun j => if j = k then ⟨⟨x.a, x.len, x.len⟩, x, ⟨none, 0, 0⟩⟩ else sn j) hN77' hk hfn hndn hdjn hFFn (fun y hy hf => by have := hxlo y hy; have := hN.lt y hf; omega) (fun y hy => by have := hxlo y hy; omega) hBn79 ?_ ?_ (fun j hj => if_neg hj) ?_ (k79.toF (by simp))
      · obtain ⟨hD', kF'⟩ := hput
        have hwk : IntKind.i64.wrap ((k : Int) + 1) = (k + 1 : Nat) := by rw [IntKind.wrap_i64]; omega
        refine ⟨_, rfl, ⟨k + 1, _, _, ls', hwk, by omega, hD', fun j hj => ?_, fun y hy => ?_, hBl'.keep k79 (by simp; exact Ne.symm hdnb), hll', fun j hj hj2 => ?_, (kw.then kr77 (by simp; omega)).then k79 (by simp; exact (hF' dn hdnF).1)⟩, by simp only [hwk]; omega⟩
        · by_cases e : j = k
          · subst e
            rw [fup_same, if_pos (by omega), hl0]
          · rw [fup_ne _ _ e, hmk j hj]
            by_cases e2 : j < k
            · rw [if_pos e2, if_pos (by omega)]
            · rw [if_neg e2, if_neg (by omega)]
        · rcases hy with hy | hy
          · exact hF' y hy
          · have := hxlo y hy
            exact ⟨by omega, by omega⟩
        · rw [hoth j (by omega)]
          exact hls j (by omega) hj2
      · show (cn.take (k * 3) ++ [_, _, _] ++ cn.drop (k * 3 + 3)).length = 6
        simp
        omega
      · have hg := hrown.set (r := k) (g := fun j => fileC (if j = k then ⟨⟨x.a, x.len, x.len⟩, x, ⟨none, 0, 0⟩⟩ else sn j)) hk (by omega) (fun _ => rfl) rfl (fun j _ hne => by rw [if_neg hne])
        rw [if_pos rfl] at hg
        exact hg
      · rw [if_pos rfl]
        have hox79 := hox.keep k79 (fun y hy => by simp; exact hxdn y hy)
        have hc := hox79.rds.bcut (n := x.len) (Nat.le_refl _) x.len
        rw [List.take_of_length_le (by omega)] at hc
        unfold crashF
        rw [htg]
        exact ⟨hox79.mono (Nat.zero_le _), hc, fun y hy => .inr hy, fun y hy => ⟨.inr hy, by simp [blkOf]⟩, by simp [blkOf], .inl ⟨rfl, Nat.le_refl _⟩, ⟨[], Go.Eng.Own.nil _ _ _, rfl, by simp⟩, ⟨htgs, rfl⟩, htgs⟩
  · have : k = 2 := by omega
    subst this
    refine ⟨dn, F', rfl, hN.congr (fun i hi => ?_), fun x hx => (hF' x hx).1, kw⟩
    rw [hmk i hi, if_pos hi, hlf])
end Go.Proofs.Ytfgepillnemolaa
