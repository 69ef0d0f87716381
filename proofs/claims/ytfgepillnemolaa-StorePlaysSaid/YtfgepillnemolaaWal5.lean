/- To open a log. No conditions. -/
import Derived.Test.YtfgepillnemolaaWal4
namespace Go.Proofs.Ytfgepillnemolaa
open Go.RowKit Go.Eng
set_option linter.unusedVariables false
def openM (m : Nat → Fm) (f : Nat) : Nat → Fm := if endL (recs (m f).now) < (m f).now.length then syncMf (cutMf m f (endL (recs (m f).now))) f else m
theorem openM_now (m : Nat → Fm) {f : Nat} (hf : f < 2) : (openM m f f).now = flatR (recs (m f).now) := by
  unfold openM
  have h1 := recs_end (m f).now
  have h2 := recs_take (m f).now
  split
  · rename_i h
    rw [syncMf_i _ hf, fup_same, cutMf_i _ hf]
    show (fup m f (cutF (m f) _) f).now = _
    rw [fup_same]
    unfold cutF
    rw [if_neg (by omega)]
    simpa using h2
  · rename_i h
    rw [← h2, List.take_of_length_le (by omega)]
theorem openM_ne (m : Nat → Fm) {f j : Nat} (hf : f < 2) (hj : j ≠ f) : openM m f j = m j := by
  unfold openM
  split
  · rw [syncMf_i _ hf, fup_ne _ _ hj, cutMf_i _ hf, fup_ne _ _ hj]
  · rfl
theorem openM_cut (m : Nat → Fm) {f : Nat} (hf : f < 2) (h : endL (recs (m f).now) < (m f).now.length) : openM m f f = ⟨flatR (recs (m f).now), flatR (recs (m f).now), []⟩ := by
  have h2 := openM_now m hf
  unfold openM at h2 ⊢
  rw [if_pos h] at h2 ⊢
  rw [syncMf_i _ hf, fup_same] at h2 ⊢
  unfold syncF at h2 ⊢
  rw [← h2]
theorem openM_whole (m : Nat → Fm) {f : Nat} (h : ¬ endL (recs (m f).now) < (m f).now.length) : openM m f = m := by
  unfold openM
  rw [if_neg h]
theorem openM_units (m : Nat → Fm) {f : Nat} (hf : f < 2) (i : Nat) : unitsL (openM m f i).pend ≤ unitsL (m i).pend := by
  by_cases h : endL (recs (m f).now) < (m f).now.length
  · by_cases e : i = f
    · subst e; rw [openM_cut m hf h]; exact Nat.zero_le _
    · rw [openM_ne m hf e]; exact Nat.le_refl _
  · rw [openM_whole m h]; exact Nat.le_refl _
theorem push0 {ty T : TypeId} {w w1 : World} {lo b1 : Nat} {El : Nat → Prop} {s : Sl} {L : List (Int × Bs)} (h : LS w lo 1 cf1 El s L) (hlo : lo ≤ w.heap.size) {x : Sl} {b : Bs} (hx : RdB w x b) (hxb : ∀ y ∈ blkOf x, El y ∧ y < w.heap.size ∧ y ∉ blkOf s) (hxc : x.len ≤ x.cap) (hL : L.length ≤ 1000000000) (hA : Alloc w b1 T [slv x] w1) :
    ∃ q n c w2, (Builtin.append_ #[22, 22] ty #[.slice s.a s.len s.cap, .slice (some ⟨b1, 0, none⟩) 1 1]).run Try.prog w1 = .ok (.slice q n c) w2 ∧ n = s.len + 1 ∧ LS w2 lo 1 cf1 El ⟨q, n, c⟩ (L ++ [(0, b)]) ∧ Kp (blkOf s) w w2 ∧ ∀ y ∈ blkOf ⟨q, n, c⟩, y ∈ blkOf s ∨ w.heap.size ≤ y :=
  LS.push Try.underlying22 sl_inf rfl (by decide) (by decide) (fun _ _ => rfl) (fun v x u hu => by simp [cf1] at hu; subst hu; rfl) h hlo 0 hx hxb hxc hL hA
theorem recs_count (l : Bs) : (recs l).length ≤ l.length := by
  have h1 := recs_end l
  have h2 : ∀ L : List Bs, L.length ≤ endL L := by
    intro L
    induction L with
    | nil => exact Nat.le_refl _
    | cons s r ih => simp only [List.length_cons, endL]; omega
  have := h2 (recs l)
  omega
set_option maxHeartbeats 4000000 in
theorem Open_h {w0 w : World} {G : Nat → Prop} {d : Nat} {m : Nat → Fm} {f : Nat} (hf : f < 2) (h : DG w0 w G d m) (hu : uK m) :
    C.wal_Open (PD d) f w (fun v w' => ∃ lg q G', v = .tuple #[.pointer (PD lg), .slice q.a q.len q.cap, .int .i64 0] ∧ DG w0 w' G' d (openM m f) ∧ KG G w w' ∧ (∀ k, G k → G' k) ∧ LogIs w' lg d f ∧ (G' lg ∧ w.heap.size ≤ lg) ∧ LS w' w.heap.size 1 cf1 (fun y => G' y ∧ w.heap.size ≤ y) q (tagL (recs (m f).now)) ∧ ∀ y ∈ blkOf q, G' y) noP := wal_Open_of (by
  unfold W.wal_Open
  refine cond_f rfl (cond_d (fun h => by omega) fun _ => cond_d (fun h => by omega) fun _ => fun b1 w2 h1 => ?_)
  have s2 := h1.eq
  have hsm := h.small hf
  refine use (Read_g f (h.keep h1.kp)) ?_
  rintro _ w3 ⟨p4, rfl, ho4, k3⟩
  rw [readF_i m hf] at ho4
  obtain ⟨b, hb⟩ : ∃ b, (m f).now = b := ⟨_, rfl⟩
  rw [hb] at ho4 hsm
  have s3 := k3.size
  have hp4 := ho4.rds.bsize
  have hlo4 := ho4.lo
  refine ⟨p4, rfl, fun b6 w7 h6 b8 w9 h8 => ?_⟩
  have s7 := h6.eq
  have s9 := h8.eq
  refine ⟨⟨rfl, h8.blk.can1 _ rfl (Nat.le_of_ble_eq_true rfl)⟩, fun w10 e10 => ?_⟩
  obtain ⟨hB8, k10, s10⟩ := h8.blk.put1 rfl e10
  have k310 : Kp [] w3 w10 := (h6.kp.then0 h8.kp).then k10 (by simp; omega)
  have hB6 := (h6.blk.keep h8.kp (by simp)).keep k10 (by simp; omega)
  have k010 := (h1.kp.then0 k3).then0 k310
  have hLg : LogIs w10 b1 d f := ((h1.blk.keep k3 (by simp)).keep k310 (by simp))
  refine use (Records_s b1 p4 (ho4.keep0 k310).rds (by omega)) ?_
  rintro _ w11 ⟨bl, bb, q, rfl, hit, ⟨lo1, lo2, lo3⟩, ⟨hi1, hi2⟩, k11⟩
  have s11 := k11.size
  refine ⟨_, rfl, fun D L lr w17 hS y18 hy18 => ?_⟩
  obtain ⟨eD, eL, s17, hD17, hL17, k17⟩ := hS
  have k017 := (k010.then0 k11).then0 k17
  have hB6' := (hB6.keep k11 (by simp)).keep k17 (by simp)
  have hB8' := (hB8.keep k11 (by simp)).keep k17 (by simp)
  refine ⟨by kernel_rfl, ?_⟩
  change C.wal_Log_Records_1 y18 (PD bl) (PD bb) w17 _ _
  have hcount := recs_count b
  refine use (recs_it (b := b) (lg := b1) (q := q) (by omega) y18 (fun k W => ∃ s : Sl, Blk W b6 [slv s] ∧ LS W w17.heap.size 1 cf1 (fun y => w17.heap.size ≤ y) s (tagL ((recs b).take k)) ∧ Blk W b8 [.int .i64 (endL ((recs b).take k))] ∧ W.heap[L]? = some (lr .ready none) ∧ W.heap[D]? = some (.deferred (some [])) ∧ ItIs W bl bb b1 q b ∧ Kp [b6, b8, L] w17 W) (fun _ => False) ?_ ?_ ?_ ?_) ?_
  · rintro k W ⟨s, _, _, _, _, _, hi, _⟩
    exact hi
  · rintro k W W' ⟨s, x1, x2, x3, x4, x5, x6, x7⟩ kk
    exact ⟨s, x1.keep kk (by simp), x2.keep0 kk, x3.keep kk (by simp), heap_keep x4 kk (by simp), heap_keep x5 kk (by simp), x6.keep0 kk, x7.then0 kk⟩
  · rintro k hk W W1 x ⟨s, x1, x2, x3, x4, x5, x6, x7⟩ k1 hox
    have sW := x7.size
    have sW1 := k1.size
    have y1 := x1.keep k1 (by simp)
    have y2 := x2.keep0 k1
    have y3 := x3.keep k1 (by simp)
    have y4 := heap_keep x4 k1 (by simp)
    have y5 := heap_keep x5 k1 (by simp)
    have y6 := x6.keep0 k1
    have y7 := x7.then0 k1
    have hxlo := hox.lo
    have hslo := x2.lo
    refine hy18 _ x W1 (fun v w' => ∃ p : Bool, v = .bool p ∧ cond p (∃ s : Sl, Blk w' b6 [slv s] ∧ LS w' w17.heap.size 1 cf1 (fun y => w17.heap.size ≤ y) s (tagL ((recs b).take (k + 1))) ∧ Blk w' b8 [.int .i64 (endL ((recs b).take (k + 1)))] ∧ w'.heap[L]? = some (lr .ready none) ∧ w'.heap[D]? = some (.deferred (some [])) ∧ ItIs w' bl bb b1 q b ∧ Kp [b6, b8, L] w17 w') False) y4 ⟨y4, fun w23 e23 => ?_⟩
    have hLlt := heap_lt y4
    have k23 : Kp [L] W1 w23 := e23 ▸ put_kp W1 L _
    have z4 : w23.heap[L]? = some (lr .busy none) := e23 ▸ put_at _ hLlt
    have s23 : w23.heap.size = W1.heap.size := by rw [e23, put_sz]
    clear e23
    have z1 := y1.keep k23 (by simp; omega)
    have z3 := y3.keep k23 (by simp; omega)
    have z5 := heap_keep y5 k23 (by simp; omega)
    have z2 := y2.keepF (k23.toF (F := (· = L)) (by simp)) (fun y hy e => by have := hslo y hy; omega) (fun y hy _ e => by omega)
    have z6 := y6.keep k23 (by simp; omega) (by simp; omega) (fun y hy => by simp; have := lo3 y hy; omega)
    have zx := hox.keep k23 (fun y hy => by simp; have := hxlo y hy; omega)
    refine ⟨s, ⟨rfl, z1.at rfl⟩, fun b25 w26 hA => ?_⟩
    have s26 := hA.eq
    obtain ⟨q27, n28, c29, w30, hrun, hn28, hS2, k30, hq⟩ := push0 (ty := 22) z2 (by omega) zx.rds (fun y hy => ⟨by have := hxlo y hy; omega, by have := hxlo y hy; omega, fun h => by have := hslo y h; have := hxlo y hy; omega⟩) hox.lc (by rw [tagL_len, List.length_take]; omega) hA
    have s30 := k30.size
    refine ⟨q27, n28, c29, w30, hrun, ?_⟩
    have far : ∀ y ∈ blkOf s, w17.heap.size ≤ y := fun y hy => (hslo y hy).1
    have nb : ∀ {r : Nat}, r < w17.heap.size → r ∉ blkOf s := fun h hm => by have := far _ hm; omega
    have z1' := z1.keep k30 (nb (by omega))
    have z3' := z3.keep k30 (nb (by omega))
    have z4' := heap_keep z4 k30 (nb (by omega))
    have z5' := heap_keep z5 k30 (nb (by omega))
    have z6' := z6.keep k30 (nb (by omega)) (nb (by omega)) (fun y hy => nb (by have := lo3 y hy; omega))
    refine ⟨⟨rfl, z1'.can1 _ rfl (Nat.le_of_ble_eq_true rfl)⟩, fun w31 e31 => ?_⟩
    obtain ⟨u1, k31, s31⟩ := z1'.put1 rfl e31
    have hS2lo := hS2.lo
    have u3 := z3'.keep k31 (by simp; omega)
    have u4 := heap_keep z4' k31 (by simp; omega)
    have u5 := heap_keep z5' k31 (by simp; omega)
    have u6 := z6'.keep k31 (by simp; omega) (by simp; omega) (fun y hy => by simp; have := lo3 y hy; omega)
    have u2 := hS2.keepF (k31.toF (F := (· = b6)) (by simp)) (fun y hy e => by have := hS2lo y hy; omega) (fun y hy _ e => by omega)
    refine ⟨⟨rfl, u3.can1 _ rfl (Nat.le_of_ble_eq_true rfl)⟩, fun w32 e32 => ?_⟩
    obtain ⟨v3, k32, s32⟩ := u3.put1 rfl e32
    have v1 := u1.keep k32 (by simp; omega)
    have v4 := heap_keep u4 k32 (by simp; omega)
    have v5 := heap_keep u5 k32 (by simp; omega)
    have v6 := u6.keep k32 (by simp; omega) (by simp; omega) (fun y hy => by simp; have := lo3 y hy; omega)
    have v2 := u2.keepF (k32.toF (F := (· = b8)) (by simp)) (fun y hy e => by have := hS2lo y hy; omega) (fun y hy _ e => by omega)
    refine ⟨v4, fun w33 e33 => ⟨true, rfl, ?_⟩⟩
    have hLlt2 := heap_lt v4
    have k33 : Kp [L] w32 w33 := e33 ▸ put_kp w32 L _
    have t4 : w33.heap[L]? = some (lr .ready none) := e33 ▸ put_at _ hLlt2
    clear e33
    have hbk := hox.rds.bsize
    have hkn : (recs b)[k].length ≤ b.length := by
      have h1 := recs_end b
      have h2 : endL (recs b) = endL ((recs b).take k) + endL ((recs b).drop k) := by rw [← endL_app, List.take_append_drop]
      have h3 := List.drop_eq_getElem_cons hk
      rw [h3, endL] at h2
      omega
    have hen : endL ((recs b).take k) ≤ b.length := by
      have h1 := recs_end b
      have h2 : endL (recs b) = endL ((recs b).take k) + endL ((recs b).drop k) := by rw [← endL_app, List.take_append_drop]
      omega
    have htk : (recs b).take (k + 1) = (recs b).take k ++ [(recs b)[k]] := by rw [List.take_add_one, List.getElem?_eq_getElem hk]; rfl
    have e1 : endL ((recs b).take (k + 1)) = endL ((recs b).take k) + (8 + (recs b)[k].length) := by rw [htk, endL_app]; rfl
    have hv : IntKind.i64.wrap (IntKind.i64.wrap (((endL ((recs b).take k) : Nat) : Int) + 8) + (x.len : Int)) = ((endL ((recs b).take (k + 1)) : Nat) : Int) := by
      have : IntKind.i64.wrap (((endL ((recs b).take k) : Nat) : Int) + 8) = ((endL ((recs b).take k) + 8 : Nat) : Int) := by rw [IntKind.wrap_i64]; omega
      rw [this, IntKind.wrap_i64, e1]
      omega
    rw [hv] at v3
    refine ⟨⟨q27, n28, c29⟩, v1.keep k33 (by simp; omega), ?_, v3.keep k33 (by simp; omega), t4, heap_keep v5 k33 (by simp; omega), v6.keep k33 (by simp; omega) (by simp; omega) (fun y hy => by simp; have := lo3 y hy; omega), ?_⟩
    · rw [htk, tagL_app]
      exact v2.keepF (k33.toF (F := (· = L)) (by simp)) (fun y hy e => by have := hS2lo y hy; omega) (fun y hy _ e => by omega)
    · exact ((((y7.then k23 (by simp)).then k30 (fun y hy => .inr (far y hy))).then k31 (by simp)).then k32 (by simp)).then k33 (by simp)
  · exact ⟨⟨none, 0, 0⟩, hB6', LS.nil _ _ _ _ _, hB8', hL17, hD17, hit.keep0 k17, Kp.refl _ _⟩
  · rintro _ w35 ⟨rfl, ⟨s, x1, x2, x3, x4, x5, x6, x7⟩ | hF⟩
    rotate_left
    · exact hF.elim
    rw [List.take_length] at x2 x3
    have s35 := x7.size
    have hslo := x2.lo
    refine ⟨.ready, none, x4, by simp, fun w36 e36 => ?_⟩
    have hLlt := heap_lt x4
    have k36 : Kp [L] w35 w36 := e36 ▸ put_kp w35 L _
    have s36 : w36.heap.size = w35.heap.size := by rw [e36, put_sz]
    clear e36
    have k036 : Kp [] w w36 := (k017.then x7 (by simp; omega)).then k36 (by simp; omega)
    have y1 := x1.keep k36 (by simp; omega)
    have y3 := x3.keep k36 (by simp; omega)
    have y5 := heap_keep x5 k36 (by simp; omega)
    have y2 := x2.keepF (k36.toF (F := (· = L)) (by simp)) (fun y hy e => by have := hslo y hy; omega) (fun y hy _ e => by omega)
    replace y2 : LS w36 w.heap.size 1 cf1 (fun x => New w w36 x ∧ w17.heap.size ≤ x) s (tagL (recs b)) := y2.mono2 (by omega) (fun y h1 h2 => ⟨⟨by omega, h2⟩, h1⟩)
    have yL : LogIs w36 b1 d f := ((hLg.keep k11).keep k17).keep2 x7 (by simp; omega) |>.keep2 k36 (by simp; omega)
    have hG := h.grow k036
    have nw : ∀ {y : Nat}, w.heap.size ≤ y → y < w36.heap.size → (G y ∨ New w w36 y) := fun h1 h2 => .inr ⟨h1, h2⟩
    have fin : ∀ w47, DG w0 w47 (fun x => G x ∨ New w w36 x) d (openM m f) → KG (fun x => G x ∨ New w w36 x) w36 w47 → ∃ y48 : Sl, (okVal false 1 (.slice y48.a y48.len y48.cap) = true ∧ w47.cell? ⟨b6, 0, none⟩ = some (.slice y48.a y48.len y48.cap)) ∧
        xleave Try.prog [markD D] .returning w47 (xendF (fun w49 => ∃ lg q G', (Value.tuple #[.pointer (some ⟨b1, 0, none⟩), .slice y48.a y48.len y48.cap, .int .i64 0]) = .tuple #[.pointer (PD lg), .slice q.a q.len q.cap, .int .i64 0] ∧ DG w0 w49 G' d (openM m f) ∧ KG G w w49 ∧ (∀ k, G k → G' k) ∧ LogIs w49 lg d f ∧ (G' lg ∧ w.heap.size ≤ lg) ∧ LS w49 w.heap.size 1 cf1 (fun y => G' y ∧ w.heap.size ≤ y) q (tagL (recs b)) ∧ ∀ y ∈ blkOf q, G' y) noP) := fun w47 hg kg => by
      have z1 := y1.keepF kg (fun hn => hn (nw (by omega) (by omega)))
      have z5 := heap_keepF y5 kg (fun hn => hn (nw (by omega) (by omega)))
      have z2 := y2.keepF kg (fun y hy hn => hn (nw (by have := hslo y hy; omega) (by have := hslo y hy; omega))) (fun y hy _ hn => hn (.inr hy.1))
      have zL := LogIs.kg yL kg (nw (by omega) (by omega))
      refine ⟨s, ⟨rfl, z1.at rfl⟩, z5, fun w1 e1 => ?_⟩
      have kD : Kp [D] w47 w1 := e1 ▸ put_kp w47 D _
      have skg := kg.size
      refine ⟨b1, s, fun x => G x ∨ New w w36 x, rfl, hg.write kD (by simp; exact ⟨nw (by omega) (by omega), by have := h.kp.size; omega⟩), ?_, fun k hk => .inl hk, zL.keep2 kD (by simp; omega), ⟨nw (by omega) (by omega), by omega⟩, ?_, fun y hy => nw (by have := hslo y hy; omega) (by have := hslo y hy; omega)⟩
      · have hlt := h.lt
        refine ((k036.kg G).then kg (fun x hx => .inl (fun hg => hx (.inl hg)))).thenK kD (fun x hx => ?_)
        simp at hx
        subst hx
        exact .inr (by omega)
      · exact (z2.keepF (kD.toF (F := (· = D)) (by simp)) (fun y hy e => by have := hslo y hy; omega) (fun y hy _ e => by have := hy.2; omega)).mono (fun y hy => ⟨.inr hy.1, hy.1.1⟩)
    show ∃ y39 : Int, _
    refine ⟨_, ⟨rfl, y3.at rfl⟩, ?_⟩
    rw [hb]
    refine cond_i (fun hlt => ⟨_, ⟨rfl, y3.at rfl⟩, ?_⟩) (fun hge w56 hDr => ?_)
    · replace hlt := of_decide_eq_true hlt
      refine use (Cut_g f _ hG hu) ?_
      rintro _ w41 ⟨rfl, h41, k41⟩
      refine ⟨_, rfl, ?_⟩
      refine use (Sync_g f h41) ?_
      rintro _ w44 ⟨rfl, h44, k44⟩
      refine ⟨_, rfl, fun w47 hDr => ?_⟩
      have : openM m f = syncMf (cutMf m f (endL (recs b))) f := by unfold openM; rw [hb, if_pos (by omega)]
      exact fin w47 (by rw [this]; exact h44.keep hDr.kp) ((k41.kgThen k44).kgThen (hDr.kp.kg _))
    · replace hge := of_decide_eq_false hge
      have : openM m f = m := openM_whole m (by rw [hb]; omega)
      exact fin w56 (by rw [this]; exact hG.keep hDr.kp) (hDr.kp.kg _))
theorem Open_g {w0 w : World} {G : Nat → Prop} {d : Nat} {m : Nat → Fm} {f : Nat} (hf : f < 2) (h : DG w0 w G d m) (hu : uK m) :
    C.wal_Open (PD d) f w (fun v w' => ∃ lg q G', v = .tuple #[.pointer (PD lg), .slice q.a q.len q.cap, .int .i64 0] ∧ DG w0 w' G' d (openM m f) ∧ KG G w w' ∧ (∀ k, G k → G' k) ∧ LogIs w' lg d f ∧ G' lg ∧ LS w' w.heap.size 1 cf1 G' q (tagL (recs (m f).now)) ∧ ∀ y ∈ blkOf q, G' y) noP := by
  refine use (Open_h hf h hu) ?_
  rintro _ w1 ⟨lg, q, G', rfl, h1, h2, h3, h4, h5, h6, h7⟩
  exact ⟨lg, q, G', rfl, h1, h2, h3, h4, h5.1, h6.mono (fun y hy => hy.1), h7⟩
end Go.Proofs.Ytfgepillnemolaa
