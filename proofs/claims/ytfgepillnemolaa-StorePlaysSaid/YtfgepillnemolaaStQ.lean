/- To open a store. No conditions. -/
import Derived.Test.YtfgepillnemolaaStP
namespace Go.Proofs.Ytfgepillnemolaa
open Go.RowKit Go.Eng
set_option linter.unusedVariables false
set_option linter.unusedSimpArgs false
set_option maxHeartbeats 16000000 in
set_option maxRecDepth 20000 in
theorem Open_k {w0 w : World} {G : Nat → Prop} {d : Nat} {m : Nat → Fm} (h : DG w0 w G d m) (hu : ∀ i, i < 2 → unitsL (m i).pend ≤ 500000000) {a b : FL} (ha : recs (m 0).now = recsOf a) (hb : recs (m 1).now = recsOf b) (oa : okFL a) (ob : okFL b) :
    C.store_Open (PD d) w (fun v w' => ∃ st q1 q2 G' L, v = .tuple #[.pointer (PD st), .slice q1.a q1.len q1.cap, .slice q2.a q2.len q2.cap, .int .i64 0] ∧ SW w0 w' G' st d L (openS a b) (openK m a b) ∧ KG G w w' ∧ (∀ k, G k → G' k) ∧ (w.heap.size ≤ st ∧ w.heap.size ≤ L.1 ∧ w.heap.size ≤ L.2) ∧ RdB w' q1 (openT a b).1 ∧ (∀ y ∈ blkOf q1, G' y ∧ y ≠ st) ∧ RG w' (fun y => G' y ∧ y ≠ st) q2 (openT a b).2 ∧ (∀ y ∈ blkOf q1, w.heap.size ≤ y) ∧ RG w' (fun y => w.heap.size ≤ y) q2 (openT a b).2) noP := store_Open_of (by
  unfold W.store_Open
  have z0 := h.kp.size
  have hGlt := h.lt
  have hsa : ∀ s ∈ recsOf a, s.length ≤ 65536 := fun s hs => by rw [← ha] at hs; exact (recs_ok _ s hs).2
  have hsb : ∀ s ∈ recsOf b, s.length ≤ 65536 := fun s hs => by rw [← hb] at hs; exact (recs_ok _ s hs).2
  intro b1 w2 h1 b3 w4 h3 b5 w6 h5 b7 w8 h7
  refine cond_f rfl (fun b17 w18 h17 b19 w20 h19 => ⟨⟨rfl, h19.blk.can1 (i := 0) _ rfl (Nat.le_of_ble_eq_true rfl)⟩, fun w21 e21 b22 w23 h22 b24 w25 h24 => ?_⟩)
  obtain ⟨B19, k21, _⟩ := h19.blk.put1 (i := 0) rfl e21
  have s2 := h1.eq
  have s4 := h3.eq
  have s6 := h5.eq
  have s8 := h7.eq
  have s18 := h17.eq
  have s20 := h19.eq
  have s21 := k21.size
  have s23 := h22.eq
  have s25 := h24.eq
  have t21 : Kp [] w20 w21 ∨ True := .inr trivial
  have k820 : Kp [] w8 w20 := h17.kp.then0 h19.kp
  have k2125 : Kp [] w21 w25 := h22.kp.then0 h24.kp
  have k025 : Kp [] w w25 := (((((h1.kp.then0 h3.kp).then0 h5.kp).then0 h7.kp).then0 k820).then k21 (by simp; omega)).then0 k2125
  have F25 : FR w25 b1 b3 b5 b7 b17 b19 := by
    have a1 := ((h1.blk.keep h3.kp (by simp)).keep h5.kp (by simp)).keep h7.kp (by simp)
    have a3 := (h3.blk.keep h5.kp (by simp)).keep h7.kp (by simp)
    have a5 := h5.blk.keep h7.kp (by simp)
    exact ⟨((a1.keep k820 (by simp)).keep k21 (by simp; omega)).keep k2125 (by simp), ((a3.keep k820 (by simp)).keep k21 (by simp; omega)).keep k2125 (by simp), ((a5.keep k820 (by simp)).keep k21 (by simp; omega)).keep k2125 (by simp), ((h7.blk.keep k820 (by simp)).keep k21 (by simp; omega)).keep k2125 (by simp), B19.keep k2125 (by simp)⟩
  have B17 : Blk w25 b17 [.pointer none, .pointer none, .int .i64 0, .int .i64 0, .int .i64 0, .int .i64 0] := ((h17.blk.keep h19.kp (by simp)).keep k21 (by simp; omega)).keep k2125 (by simp)
  have B22 : Blk w25 b22 [.slice none 0 0, .slice none 0 0] := h22.blk.keep h24.kp (by simp)
  have B24 : Blk w25 b24 [.int .i64 0, .int .i64 0, .slice none 0 0, .bool false, .int .i64 0, .int .i64 0, .slice none 0 0, .bool false] := h24.blk
  have h25 := h.grow k025
  obtain ⟨G0, hG0⟩ : ∃ G0 : Nat → Prop, G0 = fun x => G x ∨ New w w25 x := ⟨_, rfl⟩
  rw [← hG0] at h25
  have gG : ∀ y, G y → G0 y := fun y hy => by rw [hG0]; exact .inl hy
  have gN : ∀ {y}, w.heap.size ≤ y → y < w25.heap.size → G0 y := fun h1 h2 => by rw [hG0]; exact .inr ⟨h1, h2⟩
  have z25 := k025.size
  refine ⟨fun v w' => (v = 0 ∧ w' = w25) ∨ (v = 1 ∧ OP1 w0 w w25.heap.size G G0 b1 b3 b5 b7 b17 b19 b22 b24 d m a w') ∨ (v = 2 ∧ OP2 w0 w w25.heap.size G G0 b1 b3 b5 b7 b17 b19 b22 b24 d m a b w'), fun v _ => 2 - v.toNat, ⟨_, rfl, .inl ⟨rfl, rfl⟩⟩, ?_⟩
  rintro ev v w30 (⟨rfl, rfl⟩ | ⟨rfl, hP⟩ | ⟨rfl, hP⟩)
  · -- file 0
    refine cond_d (fun _ => ?_) (fun hc => absurd (by decide) hc)
    refine one_s (f := 0) (by omega) h25 (fun i hi => by have := hu i hi; omega) ha oa ?_
    intro lg q G1 w31 h31 k31 hG1 hl hg hlo hR
    have zz := k31.size
    have kB : ∀ {y}, w.heap.size ≤ y → y < w30.heap.size → ¬ ¬ G0 y := fun h1 h2 hn => hn (gN h1 h2)
    refine ⟨(PD lg, q, 0), rfl, cond_f rfl fun w42 hD => ?_⟩
    have F42 := (F25.keepF k31 (kB (by omega) (by omega)) (kB (by omega) (by omega)) (kB (by omega) (by omega)) (kB (by omega) (by omega)) (kB (by omega) (by omega))).keep hD.kp (by simp) (by simp) (by simp) (by simp) (by simp)
    refine ⟨PD b17, ⟨rfl, F42.f19.at rfl⟩, use (heads_s oa (hR.keep0 hD.kp) hsa) ?_⟩
    rintro _ w45 ⟨s0, rfl, hq0, k45⟩
    have k3145 := hD.kp.then0 k45
    have F45 := F42.keep k45 (by simp) (by simp) (by simp) (by simp) (by simp)
    have c17 := (B17.keepF k31 (kB (by omega) (by omega))).keep k3145 (by simp)
    have c22 := (B22.keepF k31 (kB (by omega) (by omega))).keep k3145 (by simp)
    have c24 := (B24.keepF k31 (kB (by omega) (by omega))).keep k3145 (by simp)
    refine ⟨hv a s0, rfl, F45.f19.at rfl, ⟨by omega, by omega⟩, ⟨rfl, c17.can1 (i := 0) _ rfl (Nat.le_of_ble_eq_true rfl)⟩, fun w48 e48 => ?_⟩
    obtain ⟨d17, k48, _⟩ := c17.put1 (i := 0) rfl e48
    have c22' := c22.keep k48 (by simp; omega)
    refine ⟨⟨by omega, by omega⟩, ⟨rfl, c22'.can1 (i := 0) _ rfl (Nat.le_of_ble_eq_true rfl)⟩, fun w49 e49 => ?_⟩
    obtain ⟨d22, k49, _⟩ := c22'.put1 (i := 0) rfl e49
    have c24' := (c24.keep k48 (by simp; omega)).keep k49 (by simp; omega)
    refine ⟨⟨by omega, by omega⟩, ⟨rfl, c24'.canN (o := 0) _ (Nat.le_of_ble_eq_true rfl)⟩, fun w50 e50 => ?_⟩
    obtain ⟨d24, k50, _⟩ := c24'.putN (o := 0) (vs := (cellH (hv a s0)).toArray) (Nat.le_of_ble_eq_true rfl) e50
    have kp : Kp [b17, b22, b24] w45 w50 := ((k48.mono (by simp)).then k49 (by simp)).then k50 (by simp)
    have hN : ∀ y, (G1 y ∧ w30.heap.size ≤ y) → y ∉ [b17, b22, b24] := fun y hy => by simp; omega
    have kF := kp.toF (F := fun y => y ∈ [b17, b22, b24]) (fun x hx => .inl hx)
    refine ⟨_, rfl, .inr (.inl ⟨rfl, lg, q, s0, G1, (h31.keep k3145).write kp (fun x hx => ?_), hG1, ?_, F45.keep kp (by simp; omega) (by simp; omega) (by simp; omega) (by simp; omega) (by simp; omega), (d17.keep k49 (by simp; omega)).keep k50 (by simp; omega), d22.keep k50 (by simp; omega), d24, ⟨(hl.keep k3145).keep2 kp (by simp; omega), hg, hlo⟩, (hR.keep0 k3145).keepF kF hN, hq0.keepF kF hN⟩), by show 2 - (IntKind.i64.wrap (0 + 1)).toNat < 2 - (0 : Int).toNat; decide⟩
    · simp at hx
      rcases hx with rfl | rfl | rfl
      · exact ⟨hG1 _ (gN (by omega) (by omega)), by omega⟩
      · exact ⟨hG1 _ (gN (by omega) (by omega)), by omega⟩
      · exact ⟨hG1 _ (gN (by omega) (by omega)), by omega⟩
    · exact ((((k025.kg G).kgThen (KG.less k31 gG)).kgThen (k3145.kg G))).thenK kp (fun x hx => by simp at hx; exact .inr (by omega))
  · -- file 1
    refine cond_d (fun _ => ?_) (fun hc => absurd (by decide) hc)
    obtain ⟨lg0, q0, s0, G1, h30, hG1, k30, F30, c17, c22, c24, ⟨hl0, hg0, hlo0⟩, hR0, hq0⟩ := hP
    have e1 : recs (openM m 0 1).now = recsOf b := by rw [openM_ne m (by omega) (by omega)]; exact hb
    have kz := h30.kp.size
    have g1lt := h30.lt
    have f1 : ∀ {y}, w.heap.size ≤ y → y < w25.heap.size → G1 y := fun h1 h2 => hG1 _ (gN h1 h2)
    refine one_s (f := 1) (by omega) h30 (fun i hi => by have := openM_units m (f := 0) (by omega) i; have := hu i hi; omega) e1 ob ?_
    intro lg q G2 w31 h31 k31 hG2 hl hg hlo hR
    have zz := k31.size
    have kB : ∀ {y}, w.heap.size ≤ y → y < w25.heap.size → ¬ ¬ G1 y := fun h1 h2 hn => hn (f1 h1 h2)
    have z30 : w25.heap.size ≤ w30.heap.size := by have := g1lt _ hg0; omega
    refine ⟨(PD lg, q, 0), rfl, cond_f rfl fun w42 hD => ?_⟩
    have F42 := (F30.keepF k31 (kB (by omega) (by omega)) (kB (by omega) (by omega)) (kB (by omega) (by omega)) (kB (by omega) (by omega)) (kB (by omega) (by omega))).keep hD.kp (by simp) (by simp) (by simp) (by simp) (by simp)
    refine ⟨PD b17, ⟨rfl, F42.f19.at rfl⟩, use (heads_s ob (hR.keep0 hD.kp) hsb) ?_⟩
    rintro _ w45 ⟨s1, rfl, hq1, k45⟩
    have k3145 := hD.kp.then0 k45
    have F45 := F42.keep k45 (by simp) (by simp) (by simp) (by simp) (by simp)
    have c17 := (c17.keepF k31 (kB (by omega) (by omega))).keep k3145 (by simp)
    have c22 := (c22.keepF k31 (kB (by omega) (by omega))).keep k3145 (by simp)
    have c24 := (c24.keepF k31 (kB (by omega) (by omega))).keep k3145 (by simp)
    refine ⟨hv b s1, rfl, F45.f19.at rfl, ⟨by omega, by omega⟩, ⟨rfl, c17.can1 (i := 1) _ rfl (Nat.le_of_ble_eq_true rfl)⟩, fun w48 e48 => ?_⟩
    obtain ⟨d17, k48, _⟩ := c17.put1 (i := 1) rfl e48
    have c22' := c22.keep k48 (by simp; omega)
    refine ⟨⟨by omega, by omega⟩, ⟨rfl, c22'.can1 (i := 1) _ rfl (Nat.le_of_ble_eq_true rfl)⟩, fun w49 e49 => ?_⟩
    obtain ⟨d22, k49, _⟩ := c22'.put1 (i := 1) rfl e49
    have c24' := (c24.keep k48 (by simp; omega)).keep k49 (by simp; omega)
    refine ⟨⟨by omega, by omega⟩, ⟨rfl, c24'.canN (o := 4) _ (Nat.le_of_ble_eq_true rfl)⟩, fun w50 e50 => ?_⟩
    obtain ⟨d24, k50, _⟩ := c24'.putN (o := 4) (vs := (cellH (hv b s1)).toArray) (Nat.le_of_ble_eq_true rfl) e50
    have kp : Kp [b17, b22, b24] w45 w50 := ((k48.mono (by simp)).then k49 (by simp)).then k50 (by simp)
    have hN : ∀ y, (G2 y ∧ w25.heap.size ≤ y) → y ∉ [b17, b22, b24] := fun y hy => by simp; omega
    have kF := kp.toF (F := fun y => y ∈ [b17, b22, b24]) (fun x hx => .inl hx)
    have kR : ∀ y, (G1 y ∧ w25.heap.size ≤ y) → ¬ ¬ G1 y := fun y hy hn => hn hy.1
    have m1 : ∀ y, (G1 y ∧ w25.heap.size ≤ y) → (G2 y ∧ w25.heap.size ≤ y) := fun y hy => ⟨hG2 _ hy.1, hy.2⟩
    have m2 : ∀ y, (G2 y ∧ w30.heap.size ≤ y) → (G2 y ∧ w25.heap.size ≤ y) := fun y hy => ⟨hy.1, by omega⟩
    refine ⟨_, rfl, .inr (.inr ⟨rfl, lg0, lg, q0, q, s0, s1, G2, (h31.keep k3145).write kp (fun x hx => ?_), fun y hy => hG2 _ (hG1 _ hy), ?_, F45.keep kp (by simp; omega) (by simp; omega) (by simp; omega) (by simp; omega) (by simp; omega), (d17.keep k49 (by simp; omega)).keep k50 (by simp; omega), d22.keep k50 (by simp; omega), ?_, ⟨((hl0.kg k31 hg0).keep k3145).keep2 kp (by simp; omega), hG2 _ hg0, hlo0⟩, ⟨(hl.keep k3145).keep2 kp (by simp; omega), hg, by omega⟩, (((hR0.keepF k31 kR).mono m1).keep0 k3145).keepF kF hN, ((hR.mono m2).keep0 k3145).keepF kF hN, (((hq0.keepF k31 kR).mono m1).keep0 k3145).keepF kF hN, (hq1.mono m2).keepF kF hN⟩), by show 2 - (IntKind.i64.wrap (1 + 1)).toNat < 2 - (1 : Int).toNat; decide⟩
    · simp at hx
      rcases hx with rfl | rfl | rfl
      · exact ⟨hG2 _ (f1 (by omega) (by omega)), by omega⟩
      · exact ⟨hG2 _ (f1 (by omega) (by omega)), by omega⟩
      · exact ⟨hG2 _ (f1 (by omega) (by omega)), by omega⟩
    · exact ((k30.kgThen (KG.less k31 (fun y hy => hG1 _ (gG y hy)))).kgThen (k3145.kg G)).thenK kp (fun x hx => by simp at hx; exact .inr (by omega))
    · cases a <;> cases b <;> exact d24
  · -- both are open
    refine cond_d (fun hc => absurd hc (by decide)) (fun _ => ?_)
    obtain ⟨lg0, lg1, q0, q1, s0, s1, G2, h30, hG2, k30, F30, c17, c22, c24, ⟨hl0, hg0, hlo0⟩, ⟨hl1, hg1, hlo1⟩, hR0, hR1, hq0, hq1⟩ := hP
    have g2lt := h30.lt
    have kz := h30.kp.size
    have z30 : w25.heap.size ≤ w30.heap.size := by have := g2lt _ hg0; omega
    have f2 : ∀ {y}, w.heap.size ≤ y → y < w25.heap.size → G2 y := fun h1 h2 => hG2 _ (gN h1 h2)
    have gG2 : ∀ y, G y → G2 y := fun y hy => hG2 _ (gG y hy)
    have hu2 : ∀ i, i < 2 → unitsL (open2 m i).pend ≤ 500000000 := fun i hi => by
      have h1 := openM_units (openM m 0) (f := 1) (by omega) i
      have h2 := openM_units m (f := 0) (by omega) i
      have := hu i hi
      unfold open2
      omega
    have c24f : Blk w30 b24 [.int .i64 (hv a s0).g, .int .i64 (hv a s0).s, slv (hv a s0).snap, .bool (hv a s0).ok, .int .i64 (hv b s1).g, .int .i64 (hv b s1).s, slv (hv b s1).snap, .bool (hv b s1).ok] := c24
    clear c24
    refine ⟨fun w' => w30 = w' ∧ pick a b ≠ none, ?_, ?_⟩
    · refine ⟨⟨by omega, by omega⟩, _, ⟨rfl, c24f.at (i := 3) rfl⟩, ?_⟩
      cases a with
      | some x =>
        refine cond_f rfl ⟨rfl, ?_⟩
        cases b with
        | none => simp [pick]
        | some y =>
          show (if x.g < y.g then some (1, y) else some (0, x)) ≠ none
          split <;> simp
      | none =>
        refine cond_t rfl ⟨⟨by omega, by omega⟩, _, ⟨rfl, c24f.at (i := 7) rfl⟩, ?_⟩
        cases b with
        | some y => exact cond_f rfl ⟨rfl, by simp [pick]⟩
        | none =>
          refine cond_t rfl ⟨PD b17, ⟨rfl, F30.f19.at rfl⟩, ⟨PD lg0, PD lg1⟩, ⟨rfl, c17.rd 0 #[.pointer (PD lg0), .pointer (PD lg1)] (segv rfl)⟩, ?_⟩
          refine ⟨fun v w' => (v = 0 ∧ w' = w30) ∨ (v = 1 ∧ DG w0 w' G2 d (clr (open2 m) 0) ∧ KG G2 w30 w') ∨ (v = 2 ∧ DG w0 w' G2 d (clr (clr (open2 m) 0) 1) ∧ KG G2 w30 w'), fun v _ => 2 - v.toNat, ⟨_, rfl, .inl ⟨rfl, rfl⟩⟩, ?_⟩
          have hu3 : ∀ i, i < 2 → unitsL (clr (open2 m) 0 i).pend ≤ 500000000 := fun i hi => by
            by_cases e : i = 0
            · rw [e, clr_same _ (by omega)]; exact Nat.zero_le _
            · rw [clr_ne _ (by omega) e]; exact hu2 i hi
          have hu4 : ∀ i, i < 2 → unitsL (clr (clr (open2 m) 0) 1 i).pend ≤ 500000000 := fun i hi => by
            by_cases e : i = 1
            · rw [e, clr_same _ (by omega)]; exact Nat.zero_le _
            · rw [clr_ne _ (by omega) e]; exact hu3 i hi
          rintro ev2 v w62 (⟨rfl, rfl⟩ | ⟨rfl, h62, k62⟩ | ⟨rfl, h62, k62⟩)
          · refine cond_d (fun _ => ⟨⟨by omega, by omega⟩, PD lg0, rfl, ?_⟩) (fun hc => absurd (by decide) hc)
            refine use (LErase_g h30 hl0 hg0 (fun i hi => by have := hu2 i hi; omega)) ?_
            rintro _ w64 ⟨rfl, h64, k64⟩
            refine ⟨_, rfl, use (LSync_g h64 (hl0.kg k64 hg0) hg0) ?_⟩
            rintro _ w67 ⟨rfl, h67, k67⟩
            exact ⟨_, rfl, _, rfl, .inr (.inl ⟨rfl, h67, k64.kgThen k67⟩), by show 2 - (IntKind.i64.wrap (0 + 1)).toNat < 2 - (0 : Int).toNat; decide⟩
          · refine cond_d (fun _ => ⟨⟨by omega, by omega⟩, PD lg1, rfl, ?_⟩) (fun hc => absurd (by decide) hc)
            refine use (LErase_g h62 (hl1.kg k62 hg1) hg1 (fun i hi => by have := hu3 i hi; omega)) ?_
            rintro _ w64 ⟨rfl, h64, k64⟩
            refine ⟨_, rfl, use (LSync_g h64 ((hl1.kg k62 hg1).kg k64 hg1) hg1) ?_⟩
            rintro _ w67 ⟨rfl, h67, k67⟩
            exact ⟨_, rfl, _, rfl, .inr (.inr ⟨rfl, h67, (k62.kgThen k64).kgThen k67⟩), by show 2 - (IntKind.i64.wrap (1 + 1)).toNat < 2 - (1 : Int).toNat; decide⟩
          refine cond_d (fun hc => absurd hc (by decide)) (fun _ => ?_)
          have nn : ∀ {y}, w.heap.size ≤ y → y < w25.heap.size → ¬ ¬ G2 y := fun h1 h2 hn => hn (f2 h1 h2)
          have F62 := F30.keepF k62 (nn (by omega) (by omega)) (nn (by omega) (by omega)) (nn (by omega) (by omega)) (nn (by omega) (by omega)) (nn (by omega) (by omega))
          have c62 := c17.keepF k62 (nn (by omega) (by omega))
          have z62 := k62.size
          refine ⟨PD b17, ⟨rfl, F62.f19.at rfl⟩, ⟨rfl, c62.can1 (i := 3) _ rfl (Nat.le_of_ble_eq_true rfl)⟩, fun w73 e73 w74 hD => ?_⟩
          obtain ⟨d17, k73, _⟩ := c62.put1 (i := 3) rfl e73
          have hw : ∀ x ∈ [b17], G2 x ∧ w0.heap.size ≤ x := fun x hx => by simp at hx; subst hx; exact ⟨f2 (by omega) (by omega), by omega⟩
          have h74 := (h62.write k73 hw).keep hD.kp
          have kp : Kp [b17] w62 w74 := k73.then0 hD.kp
          have F74 := F62.keep kp (by simp; omega) (by simp; omega) (by simp; omega) (by simp; omega) (by simp; omega)
          have d74 : Blk w74 b17 [.pointer (PD lg0), .pointer (PD lg1), .int .i64 0, .int .i64 1, .int .i64 0, .int .i64 0] := d17.keep hD.kp (by simp)
          have l74 := (hl0.kg k62 hg0).keep2 kp (by simp; omega)
          have l74' := (hl1.kg k62 hg1).keep2 kp (by simp; omega)
          refine ⟨PD b17, ⟨rfl, F74.f19.at rfl⟩, ⟨by omega, by omega⟩, PD lg0, ⟨rfl, d74.at (i := 0) rfl⟩, use (PutNumber_s (l := []) 1 ⟨by decide, by decide⟩ (Go.Eng.Own.nil w74 0 1).rds (by simp)) ?_⟩
          rintro _ w78 ⟨p79, rfl, o78, k78⟩
          have F78 := F74.keep k78 (by simp) (by simp) (by simp) (by simp) (by simp)
          have d78 := d74.keep k78 (by simp)
          refine ⟨p79, rfl, d78.at (i := 0) rfl, F78.f19.at rfl, use (PutNumber_s 0 ⟨by decide, by decide⟩ o78.rds (by have := (putN_len 1).2; simp; omega)) ?_⟩
          rintro _ w81 ⟨p82, rfl, o81, k81⟩
          have F81 := F78.keep k81 (by simp) (by simp) (by simp) (by simp) (by simp)
          have d81 := d78.keep k81 (by simp)
          have ex : [] ++ putN 1 ++ putN 0 = hdB 1 0 [] := by simp [hdB]
          rw [ex] at o81
          have k7481 := k78.then0 k81
          refine ⟨p82, rfl, d81.at (i := 0) rfl, F81.f19.at rfl, use (LAppend_g (h74.keep k7481) (l74.keep k7481) hg0 (s := hdB 1 0 []) o81.rds (fun i hi => by have := hu4 i hi; omega)) ?_⟩
          rintro _ w84 ⟨rfl, h84, k84⟩
          have hE : logE (clr (clr (open2 m) 0) 1) 0 (hdB 1 0 []) = 0 := logE_0 (o := 0) (by omega) (by rw [clr_ne _ (by omega) (by omega), clr_same _ (by omega)]) ⟨by have := (putN_len 1).1; simp [hdB]; omega, by have := (putN_len 1).2; have := (putN_len 0).2; simp [hdB]; omega⟩
          rw [hE]
          have F84 := F81.keepF k84 (nn (by omega) (by omega)) (nn (by omega) (by omega)) (nn (by omega) (by omega)) (nn (by omega) (by omega)) (nn (by omega) (by omega))
          have d84 := d81.keepF k84 (nn (by omega) (by omega))
          have l84 := (l74.keep k7481).kg k84 hg0
          have l84' := (l74'.keep k7481).kg k84 hg1
          refine ⟨_, rfl, PD b17, ⟨rfl, F84.f19.at rfl⟩, ⟨by omega, by omega⟩, PD lg0, ⟨rfl, d84.at (i := 0) rfl⟩, use (LSync_g h84 l84 hg0) ?_⟩
          rintro _ w90 ⟨rfl, h90, k90⟩
          have F90 := F84.keepF k90 (nn (by omega) (by omega)) (nn (by omega) (by omega)) (nn (by omega) (by omega)) (nn (by omega) (by omega)) (nn (by omega) (by omega))
          have d90 := d84.keepF k90 (nn (by omega) (by omega))
          have l90 := l84.kg k90 hg0
          have l90' := l84'.kg k90 hg1
          have z90 : w30.heap.size ≤ w90.heap.size := by have := kp.size; have := k7481.size; have := k84.size; have := k90.size; omega
          refine ⟨_, rfl, PD b17, ⟨rfl, F90.f19.at rfl⟩, ⟨rfl, F90.f1.can1 (i := 0) _ rfl (Nat.le_of_ble_eq_true rfl)⟩, fun w94 e94 => ?_⟩
          obtain ⟨x1, kx1, _⟩ := F90.f1.put1 (i := 0) rfl e94
          have y3 := F90.f3.keep kx1 (by simp; omega)
          refine ⟨⟨rfl, y3.can1 (i := 0) _ rfl (Nat.le_of_ble_eq_true rfl)⟩, fun w95 e95 => ?_⟩
          obtain ⟨x3, kx3, _⟩ := y3.put1 (i := 0) rfl e95
          have y5 := (F90.f5.keep kx1 (by simp; omega)).keep kx3 (by simp; omega)
          refine ⟨⟨rfl, y5.can1 (i := 0) _ rfl (Nat.le_of_ble_eq_true rfl)⟩, fun w96 e96 => ?_⟩
          obtain ⟨x5, kx5, _⟩ := y5.put1 (i := 0) rfl e96
          have y7 := ((F90.f7.keep kx1 (by simp; omega)).keep kx3 (by simp; omega)).keep kx5 (by simp; omega)
          refine ⟨⟨rfl, y7.can1 (i := 0) _ rfl (Nat.le_of_ble_eq_true rfl)⟩, fun w97 e97 => ?_⟩
          obtain ⟨x7, kx7, _⟩ := y7.put1 (i := 0) rfl e97
          have kx : Kp [b1, b3, b5, b7] w90 w97 := (((kx1.mono (by simp)).then kx3 (by simp)).then kx5 (by simp)).then kx7 (by simp)
          have r1 := ((x1.keep kx3 (by simp; omega)).keep kx5 (by simp; omega)).keep kx7 (by simp; omega)
          have r3 := (x3.keep kx5 (by simp; omega)).keep kx7 (by simp; omega)
          have r5 := x5.keep kx7 (by simp; omega)
          refine ⟨PD b17, ⟨rfl, r1.at (i := 0) rfl⟩, ⟨none, 0, 0⟩, ⟨rfl, r3.at (i := 0) rfl⟩, ⟨none, 0, 0⟩, ⟨rfl, r5.at (i := 0) rfl⟩, 0, ⟨rfl, x7.at (i := 0) rfl⟩, b17, ⟨none, 0, 0⟩, ⟨none, 0, 0⟩, G2, (lg0, lg1), rfl, ⟨h90.write kx (fun x hx => ?_), ⟨d90.keep kx (by simp; omega), l90.keep2 kx (by simp; omega), l90'.keep2 kx (by simp; omega), ⟨f2 (by omega) (by omega), hg0, hg1⟩, ⟨by omega, by omega⟩, by show 0 < 2; omega⟩, by omega⟩, ?_, fun y hy => gG2 y hy, ⟨by omega, by dsimp only; omega, by dsimp only; omega⟩, (Go.Eng.Own.nil w97 0 1).rds, by simp [blkOf], RG.nil _ _, by simp [blkOf], RG.nil _ _⟩
          · simp at hx
            rcases hx with rfl | rfl | rfl | rfl <;> exact ⟨f2 (by omega) (by omega), by omega⟩
          · have ka : KG G w w62 := k30.kgThen (KG.less k62 gG2)
            have kb : KG G w w74 := ka.thenK kp (fun x hx => by simp at hx; exact .inr (by omega))
            exact (((kb.kgThen (k7481.kg G)).kgThen (KG.less k84 gG2)).kgThen (KG.less k90 gG2)).thenK kx (fun x hx => by simp at hx; exact .inr (by omega))
    · rintro ev3 _ ⟨rfl, hpk⟩
      refine ⟨fun w' => ∃ (f : Nat) (x : Lg), pick a b = some (f, x) ∧ Blk w' b17 [.pointer (PD lg0), .pointer (PD lg1), .int .i64 f, .int .i64 0, .int .i64 0, .int .i64 0] ∧ Kp [b17] w30 w', ?_, ?_⟩
      · refine ⟨⟨by omega, by omega⟩, _, ⟨rfl, c24f.at (i := 7) rfl⟩, ?_⟩
        cases b with
        | none =>
          cases a with
          | none => exact absurd rfl hpk
          | some x => exact cond_f rfl ⟨0, x, rfl, c17, Kp.refl _ _⟩
        | some y =>
          refine cond_t rfl ⟨⟨by omega, by omega⟩, _, ⟨rfl, c24f.at (i := 3) rfl⟩, ?_⟩
          cases a with
          | none =>
            refine cond_t rfl ⟨PD b17, ⟨rfl, F30.f19.at rfl⟩, ⟨rfl, c17.can1 (i := 2) _ rfl (Nat.le_of_ble_eq_true rfl)⟩, fun w108 e108 => ?_⟩
            obtain ⟨g1, k1, _⟩ := c17.put1 (i := 2) rfl e108
            exact ⟨1, y, rfl, g1, k1⟩
          | some x =>
            refine cond_f rfl ⟨⟨by omega, by omega⟩, _, ⟨rfl, c24f.at (i := 4) rfl⟩, ⟨by omega, by omega⟩, _, ⟨rfl, c24f.at (i := 0) rfl⟩, cond_d (fun hlt => ?_) (fun hge => ?_)⟩
            · have hlt' : x.g < y.g := hlt
              refine ⟨PD b17, ⟨rfl, F30.f19.at rfl⟩, ⟨rfl, c17.can1 (i := 2) _ rfl (Nat.le_of_ble_eq_true rfl)⟩, fun w108 e108 => ?_⟩
              obtain ⟨g1, k1, _⟩ := c17.put1 (i := 2) rfl e108
              exact ⟨1, y, by show (if x.g < y.g then some (1, y) else some (0, x)) = _; rw [if_pos hlt'], g1, k1⟩
            · have hge' : ¬ x.g < y.g := hge
              exact ⟨0, x, by show (if x.g < y.g then some (1, y) else some (0, x)) = _; rw [if_neg hge'], c17, Kp.refl _ _⟩
      rintro ev4 w114 ⟨f, x, hpx, c114, kp114⟩
      obtain ⟨hf2, hfx⟩ := pick_lt hpx
      obtain ⟨GG, hGG⟩ : ∃ GG : Nat → Prop, GG = fun y => G2 y ∧ w25.heap.size ≤ y := ⟨_, rfl⟩
      have ggo : ∀ y, GG y → w25.heap.size ≤ y ∧ y < w30.heap.size := fun y hy => by rw [hGG] at hy; exact ⟨hy.2, g2lt y hy.1⟩
      have gg2 : ∀ y, GG y → G2 y := fun y hy => by rw [hGG] at hy; exact hy.1
      have gg : ∀ y, (G2 y ∧ w25.heap.size ≤ y) → GG y := fun y hy => by rw [hGG]; exact hy
      have ox : okLg x := by
        rcases hfx with ⟨_, rfl⟩ | ⟨_, rfl⟩
        · exact oa
        · exact ob
      have hsx : ∀ s ∈ x.recs, s.length ≤ 65536 := by
        rcases hfx with ⟨_, rfl⟩ | ⟨_, rfl⟩
        · exact hsa
        · exact hsb
      obtain ⟨⟨x1, x2⟩, ⟨x3, x4⟩, x5⟩ := ox
      have z114 := kp114.size
      have F114 := F30.keep kp114 (by simp; omega) (by simp; omega) (by simp; omega) (by simp; omega) (by simp; omega)
      have kF := kp114.toF (F := fun y => y = b17) (fun y hy => .inl (by simpa using hy))
      have nG : ∀ y, (G2 y ∧ w25.heap.size ≤ y) → ¬ y = b17 := fun y hy e => by omega
      have ch : ∃ sx qx : Sl, Go.Eng.rd w114 (Addr.add ⟨b24, 0, none⟩ (f * 4)) (S.store_head.v ⟨x.g, x.s, sx, true⟩) ∧ w114.cell? (Addr.add ⟨b22, 0, none⟩ (f * 1)) = some (slv qx) ∧ (RdB w114 sx x.snap ∧ ∀ y ∈ blkOf sx, GG y) ∧ RG w114 GG qx x.recs := by
        have c24' := c24f.keep kp114 (by simp; omega)
        have c22' := c22.keep kp114 (by simp; omega)
        rcases hfx with ⟨rfl, rfl⟩ | ⟨rfl, rfl⟩
        · have q1 : hq w114 (fun y => G2 y ∧ w25.heap.size ≤ y) (some x) s0 := hq0.keepF kF nG
          exact ⟨s0, q0, c24'.rd 0 #[.int .i64 x.g, .int .i64 x.s, slv s0, .bool true] (segv rfl), c22'.at (i := 0) rfl, ⟨q1.1, fun y hy => gg y (q1.2 y hy)⟩, (hR0.keepF kF nG).mono gg⟩
        · have q1' : hq w114 (fun y => G2 y ∧ w25.heap.size ≤ y) (some x) s1 := hq1.keepF kF nG
          exact ⟨s1, q1, c24'.rd 4 #[.int .i64 x.g, .int .i64 x.s, slv s1, .bool true] (segv rfl), c22'.at (i := 1) rfl, ⟨q1'.1, fun y hy => gg y (q1'.2 y hy)⟩, (hR1.keepF kF nG).mono gg⟩
      obtain ⟨sx, qx, hrd, hqc, ⟨hsn, hsnG⟩, hRx⟩ := ch
      refine ⟨PD b17, ⟨rfl, F114.f19.at rfl⟩, _, ⟨rfl, c114.at (i := 2) rfl⟩, ⟨by omega, by omega⟩, ⟨x.g, x.s, sx, true⟩, ⟨rfl, by rw [Int.toNat_natCast]; exact hrd⟩, fun b119 w120 h119 => ⟨⟨rfl, h119.blk.canN _ (Nat.le_refl _)⟩, fun w121 e121 w122 hD122 => ?_⟩⟩
      obtain ⟨c119, k121, _⟩ := h119.blk.putAll (vs := #[.int .i64 x.g, .int .i64 x.s, slv sx, .bool true]) rfl e121
      have s120 := h119.eq
      have z121 := k121.size
      have z121' := hD122.kp.size
      have k122 : Kp [] w114 w122 := (h119.kp.then k121 (by simp; omega)).then0 hD122.kp
      have d119 : Blk w122 b119 [.int .i64 x.g, .int .i64 x.s, slv sx, .bool true] := c119.keep hD122.kp (by simp)
      have F122 := F114.keep k122 (by simp) (by simp) (by simp) (by simp) (by simp)
      have c122 := c114.keep k122 (by simp)
      have ne119 : b119 ≠ b17 := by omega
      refine ⟨PD b17, ⟨rfl, F122.f19.at rfl⟩, PD b17, ⟨rfl, F122.f19.at rfl⟩, PD b17, ⟨rfl, F122.f19.at rfl⟩, _, ⟨rfl, d119.at (i := 0) rfl⟩, _, ⟨rfl, d119.at (i := 1) rfl⟩, _, ⟨rfl, d119.at (i := 1) rfl⟩, ⟨rfl, c122.can1 (i := 3) _ rfl (Nat.le_of_ble_eq_true rfl)⟩, fun w130 e130 => ?_⟩
      obtain ⟨c130, k130, _⟩ := c122.put1 (i := 3) rfl e130
      have F130 := F122.keep k130 (by simp; omega) (by simp; omega) (by simp; omega) (by simp; omega) (by simp; omega)
      have d130 := d119.keep k130 (by simpa using ne119)
      refine ⟨d130.at (i := 1) rfl, d130.at (i := 1) rfl, F130.f19.at rfl, F130.f19.at rfl, ⟨rfl, c130.can1 (i := 4) _ rfl (Nat.le_of_ble_eq_true rfl)⟩, fun w132 e132 => ?_⟩
      obtain ⟨c132, k132, _⟩ := c130.put1 (i := 4) rfl e132
      have F132 := F130.keep k132 (by simp; omega) (by simp; omega) (by simp; omega) (by simp; omega) (by simp; omega)
      have d132 := d130.keep k132 (by simpa using ne119)
      refine ⟨d132.at (i := 1) rfl, F132.f19.at rfl, ⟨rfl, c132.can1 (i := 5) _ rfl (Nat.le_of_ble_eq_true rfl)⟩, fun w134 e134 b135 w136 h135 => ?_⟩
      obtain ⟨c134, k134, _⟩ := c132.put1 (i := 5) rfl e134
      have s136 := h135.eq
      have kw : Kp [b17] w122 w136 := ((k130.then k132 (by simp)).then k134 (by simp)).then0 h135.kp
      have zw := kw.size
      have z122 := k122.size
      have z134 := ((k130.then k132 (by simp)).then k134 (by simp)).size
      have kp136 : Kp [b17] w30 w136 := (kp114.then0 k122).then kw (by simp)
      have F136 := F122.keep kw (by simp; omega) (by simp; omega) (by simp; omega) (by simp; omega) (by simp; omega)
      have c136 : Blk w136 b17 [.pointer (PD lg0), .pointer (PD lg1), .int .i64 f, .int .i64 x.g, .int .i64 x.s, .int .i64 x.s] := c134.keep h135.kp (by simp)
      have d136 := d119.keep kw (by simpa using ne119)
      have k114136 : Kp [b17] w114 w136 := (k122.up _).then kw (by simp)
      have hqc136 : w136.cell? (Addr.add ⟨b22, 0, none⟩ (f * 1)) = some (slv qx) := cell_keep hqc k114136 (by rw [add_block]; simp; omega)
      have kF2 := k114136.toF (F := fun y => y = b17) (fun y hy => .inl (by simpa using hy))
      have nG2 : ∀ y, GG y → ¬ y = b17 := fun y hy e => by have := ggo y hy; omega
      have hRx136 := hRx.keepF kF2 nG2
      have hlx := hRx136.len
      rw [show x.recs.length = x.es.length + 1 by simp [Lg.recs, numsL_len]] at hlx
      refine ⟨PD b17, ⟨rfl, F136.f19.at rfl⟩, _, ⟨rfl, c136.at (i := 2) rfl⟩, ⟨by omega, by omega⟩, qx, ⟨rfl, by rw [Int.toNat_natCast]; exact hqc136⟩, ⟨by omega, by omega⟩, ?_⟩
      refine use (numbered_s _ w136) ?_
      rintro _ w141 ⟨bl, rfl, hbl, lobl, k141⟩
      have z141 := k141.size
      have lbl := hbl.lt
      refine ⟨_, rfl, fun D L lr w147 hS y148 hy148 => ?_⟩
      obtain ⟨eD, eL, s147, hD147, hL147, k147⟩ := hS
      refine ⟨by kernel_rfl, ?_⟩
      obtain ⟨qt, hqt⟩ : ∃ qt : Sl, qt = ⟨if qx.cap = 1 then qx.a else qx.a.map (fun x => Addr.add x (1 * 1)), qx.len - 1, qx.cap - 1⟩ := ⟨_, rfl⟩
      rw [← hqt] at hbl
      change C.store_numbered_1 y148 (PD bl) w147 _ _
      have k136147 := k141.then0 k147
      have hRt : RG w147 GG qt (numsL x.s x.es) := by
        have h1 : RG w147 GG qx (hdB x.g x.s x.snap :: numsL x.s x.es) := hRx136.keep0 k136147
        rw [hqt]
        exact h1.tail
      have F147 := F136.keep k136147 (by simp) (by simp) (by simp) (by simp) (by simp)
      have c147 := c136.keep k136147 (by simp)
      have d147 := d136.keep k136147 (by simp)
      have e147 := (h135.blk.keep k136147 (by simp))
      have z147 := k147.size
      refine use (nums_it (bl := bl) (q := qt) (G := GG) (s := x.s) (es := x.es) ⟨x3, x4⟩ x5 (fun e he => by obtain ⟨n, hn⟩ := numsL_mem (s := x.s) he; have := hsx _ (List.mem_cons_of_mem _ hn); simp only [entB, List.length_append] at this; omega) y148 (fun k W => ∃ es : Sl, Blk W b17 [.pointer (PD lg0), .pointer (PD lg1), .int .i64 f, .int .i64 x.g, .int .i64 x.s, .int .i64 (x.s + k)] ∧ Blk W b135 [slv es] ∧ LS W w147.heap.size 1 cf1 (fun y => w147.heap.size ≤ y) es (tagL (x.es.take k)) ∧ W.heap[L]? = some (lr .ready none) ∧ W.heap[D]? = some (.deferred (some [])) ∧ Blk W bl [slv qt] ∧ RG W GG qt (numsL x.s x.es) ∧ Blk W b19 [.pointer (PD b17)] ∧ Kp [b17, b135, L] w147 W) (fun _ => False) ?_ ?_ ?_) ?_
      · rintro k W ⟨es, _, _, _, _, _, a1, a2, _⟩
        exact ⟨a1, a2⟩
      · rintro k hk W y ⟨es, x1', x2', x3', x4', x5', x6', x7', x8', x9'⟩ hyb hyc hyG
        have sW := x9'.size
        have hslo := x3'.lo
        refine hy148 _ y W (fun v w' => ∃ p : Bool, v = .bool p ∧ cond p (∃ es : Sl, Blk w' b17 [.pointer (PD lg0), .pointer (PD lg1), .int .i64 f, .int .i64 x.g, .int .i64 x.s, .int .i64 (x.s + ((k + 1 : Nat) : Int))] ∧ Blk w' b135 [slv es] ∧ LS w' w147.heap.size 1 cf1 (fun y => w147.heap.size ≤ y) es (tagL (x.es.take (k + 1))) ∧ w'.heap[L]? = some (lr .ready none) ∧ w'.heap[D]? = some (.deferred (some [])) ∧ Blk w' bl [slv qt] ∧ RG w' GG qt (numsL x.s x.es) ∧ Blk w' b19 [.pointer (PD b17)] ∧ Kp [b17, b135, L] w147 w') False) x4' ⟨x4', fun w153 e153 => ?_⟩
        have hLlt := heap_lt x4'
        have k153 : Kp [L] W w153 := e153 ▸ put_kp W L _
        have y4 : w153.heap[L]? = some (lr .busy none) := e153 ▸ put_at _ hLlt
        have s153 : w153.heap.size = W.heap.size := by rw [e153, put_sz]
        clear e153
        have nL : ∀ y, GG y → ¬ y = L := fun y hy e => by have := ggo y hy; omega
        have kL := k153.toF (F := fun y => y = L) (fun y hy => .inl (by simpa using hy))
        have y1 := x1'.keep k153 (by simp; omega)
        have y2 := x2'.keep k153 (by simp; omega)
        have y3 := x3'.keepF kL (fun y hy e => by have := hslo y hy; omega) (fun y hy _ e => by omega)
        have y5 := heap_keep x5' k153 (by simp; omega)
        have y6 := x6'.keep k153 (by simp; omega)
        have y7 := x7'.keepF kL nL
        have y8 := x8'.keep k153 (by simp; omega)
        have yy := hyb.keepF kL (fun y hy => nL y (hyG y hy))
        refine ⟨PD b17, ⟨rfl, y8.at rfl⟩, _, ⟨rfl, y1.at (i := 5) rfl⟩, cond_d (fun hc => absurd hc (by omega)) (fun _ => ⟨PD b17, ⟨rfl, y8.at rfl⟩, _, ⟨rfl, y1.at (i := 5) rfl⟩, cond_n (fun hc => absurd (by rw [IntKind.wrap_i64]; omega) hc) (fun _ => ⟨PD b17, ⟨rfl, y8.at rfl⟩, ⟨rfl, y1.can1 (i := 5) _ rfl (Nat.le_of_ble_eq_true rfl)⟩, fun w168 e168 w169 hD169 => ?_⟩)⟩)⟩
        obtain ⟨g1, k168, _⟩ := y1.put1 (i := 5) rfl e168
        have k169 : Kp [b17] w153 w169 := k168.then0 hD169.kp
        have s169 := k169.size
        have kB := k169.toF (F := fun y => y = b17) (fun y hy => .inl (by simpa using hy))
        have v1 : Blk w169 b17 [.pointer (PD lg0), .pointer (PD lg1), .int .i64 f, .int .i64 x.g, .int .i64 x.s, .int .i64 (x.s + 1 + k)] := g1.keep hD169.kp (by simp)
        have v2 := y2.keep k169 (by simp; omega)
        have v3 := y3.keepF kB (fun y hy e => by have := hslo y hy; omega) (fun y hy _ e => by omega)
        have v4 := heap_keep y4 k169 (by simp; omega)
        have v5 := heap_keep y5 k169 (by simp; omega)
        have v6 := y6.keep k169 (by simp; omega)
        have v7 := y7.keepF kB nG2
        have v8 := y8.keep k169 (by simp; omega)
        have vy := yy.keepF kB (fun y hy => nG2 y (hyG y hy))
        refine ⟨es, ⟨rfl, v2.at rfl⟩, fun b171 w172 h171 => ⟨(v2.keep h171.kp (by simp)).at rfl, ?_⟩⟩
        have s172 := h171.eq
        have ho171 : OwnB w172 w169.heap.size ⟨some ⟨b171, 0, none⟩, 0, 0⟩ [] := Go.Eng.Own.fresh h171 (Nat.le_refl _) (Nat.le_refl _) rfl
        have hel := hsx _ (List.mem_cons_of_mem _ (List.mem_of_getElem? (numsL_get x.s x.es k hk)))
        have hyl := hyb.bsize
        obtain ⟨q173, n174, c175, w176, hrun, hn174, ho176, k176, _⟩ := app_bytes (ty := 27) Try.underlying27 byte_inf ho171 (vy.keep0 h171.kp) (by omega) (by simp only [entB, List.length_append, List.length_nil] at hel ⊢; omega)
        rw [List.nil_append] at ho176
        have k169176 : Kp [] w169 w176 := h171.kp.then k176 (by simp [blkOf]; omega)
        have s176 := k169176.size
        refine ⟨q173, n174, c175, w176, hrun, (v2.keep k169176 (by simp)).at rfl, fun b177 w178 h177 => ⟨((v2.keep k169176 (by simp)).keep h177.kp (by simp)).at rfl, ?_⟩⟩
        have s178 := h177.eq
        have hlo176 := ho176.lo
        obtain ⟨q179, n180, c181, w182, hrun2, hn180, hS2, k182, hq2⟩ := push0 (ty := 22) (v3.keep0 k169176) (by omega) ho176.rds (fun y hy => ⟨by have := hlo176 y hy; omega, by have := hlo176 y hy; omega, fun h => by have := hslo y h; have := hlo176 y hy; omega⟩) ho176.lc (by rw [tagL_len, List.length_take]; omega) h177
        have s182 := k182.size
        have far : ∀ y ∈ blkOf es, w147.heap.size ≤ y := fun y hy => (hslo y hy).1
        have nb : ∀ {r : Nat}, r < w147.heap.size → r ∉ blkOf es := fun h hm => by have := far _ hm; omega
        have kk : Kp (blkOf es) w169 w182 := (k169176.up _).then k182 (fun y hy => .inl hy)
        have kkF := kk.toF (F := fun y => y ∈ blkOf es) (fun y hy => .inl hy)
        have u1 := v1.keep kk (nb (by omega))
        have u2 := v2.keep kk (nb (by omega))
        have u4 := heap_keep v4 kk (nb (by omega))
        have u5 := heap_keep v5 kk (nb (by omega))
        have u6 := v6.keep kk (nb (by omega))
        have u7 := v7.keepF kkF (fun y hy hm => by have := ggo y hy; have := far y hm; omega)
        have u8 := v8.keep kk (nb (by omega))
        refine ⟨q179, n180, c181, w182, hrun2, ⟨rfl, u2.can1 (i := 0) _ rfl (Nat.le_of_ble_eq_true rfl)⟩, fun w183 e183 => ?_⟩
        obtain ⟨t2, k183, _⟩ := u2.put1 (i := 0) rfl e183
        have k183F := k183.toF (F := fun y => y = b135) (fun y hy => .inl (by simpa using hy))
        have hS2lo := hS2.lo
        have t1 := u1.keep k183 (by simp; omega)
        have t3 := hS2.keepF k183F (fun y hy e => by have := hS2lo y hy; omega) (fun y hy _ e => by omega)
        have t4 := heap_keep u4 k183 (by simp; omega)
        have t5 := heap_keep u5 k183 (by simp; omega)
        have t6 := u6.keep k183 (by simp; omega)
        have t7 := u7.keepF k183F (fun y hy e => by have := ggo y hy; omega)
        have t8 := u8.keep k183 (by simp; omega)
        refine ⟨t4, fun w184 e184 => ⟨true, rfl, ?_⟩⟩
        have hLlt2 := heap_lt t4
        have k184 : Kp [L] w183 w184 := e184 ▸ put_kp w183 L _
        have r4 : w184.heap[L]? = some (lr .ready none) := e184 ▸ put_at _ hLlt2
        clear e184
        have k184F := k184.toF (F := fun y => y = L) (fun y hy => .inl (by simpa using hy))
        have htk : x.es.take (k + 1) = x.es.take k ++ [x.es[k]] := by rw [List.take_add_one, List.getElem?_eq_getElem hk]; rfl
        refine ⟨⟨q179, n180, c181⟩, ?_, t2.keep k184 (by simp; omega), ?_, r4, heap_keep t5 k184 (by simp; omega), t6.keep k184 (by simp; omega), t7.keepF k184F nL, t8.keep k184 (by simp; omega), ?_⟩
        · have e : x.s + ((k + 1 : Nat) : Int) = x.s + 1 + k := by omega
          rw [e]
          exact t1.keep k184 (by simp; omega)
        · rw [htk, tagL_app]
          exact t3.keepF k184F (fun y hy e => by have := hS2lo y hy; omega) (fun y hy _ e => by omega)
        · exact ((((x9'.then k153 (by simp)).then k169 (by simp)).then kk (fun y hy => .inr (far y hy))).then k183 (by simp)).then k184 (by simp)
      · exact ⟨⟨none, 0, 0⟩, by simpa using c147, e147, LS.nil _ _ _ _ _, hL147, hD147, hbl.keep k147 (by simp), hRt, F147.f19, Kp.refl _ _⟩
      rintro _ W ⟨rfl, ⟨es, v1, v2, v3, v4, v5, v6, v7, v8, v9⟩ | hF⟩
      rotate_left
      · exact hF.elim
      rw [List.take_length] at v3
      have sW := v9.size
      have hslo := v3.lo
      refine ⟨.ready, none, v4, by simp, fun w187 e187 => ?_⟩
      have hLlt := heap_lt v4
      have k187 : Kp [L] W w187 := e187 ▸ put_kp W L _
      have s187 : w187.heap.size = W.heap.size := by rw [e187, put_sz]
      clear e187
      show ∀ w190, Drew w187 w190 → _
      intro w190 hD190
      have z190 := hD190.kp.size
      have kb122 : Kp [b17] w122 w190 := (((kw.then0 k136147).then v9 (fun y hy => by simp at hy; rcases hy with rfl | rfl | rfl <;> simp <;> omega)).then k187 (by simp; omega)).then0 hD190.kp
      have kb114 : Kp [b17] w114 w190 := (k122.up _).then kb122 (by simp)
      have kb190 : Kp [b17] w30 w190 := (kp114.then0 k122).then kb122 (by simp)
      have zb := kb122.size
      obtain ⟨G3, hG3⟩ : ∃ G3 : Nat → Prop, G3 = fun y => G2 y ∨ New w30 w190 y := ⟨_, rfl⟩
      have h190 : DG w0 w190 G3 d (open2 m) := by rw [hG3]; exact h30.wgrow kb190 (fun y hy => by simp at hy; subst hy; exact ⟨f2 (by omega) (by omega), by omega⟩)
      have g23 : ∀ y, G2 y → G3 y := fun y hy => by rw [hG3]; exact .inl hy
      have gN3 : ∀ {y}, w30.heap.size ≤ y → y < w190.heap.size → G3 y := fun h1 h2 => by rw [hG3]; exact .inr ⟨h1, h2⟩
      have F190 := F30.keep kb190 (by simp; omega) (by simp; omega) (by simp; omega) (by simp; omega) (by simp; omega)
      have hDef := heap_keep (heap_keep v5 k187 (by simp; omega)) hD190.kp (by simp)
      have c17' : Blk w190 b17 [.pointer (PD lg0), .pointer (PD lg1), .int .i64 f, .int .i64 x.g, .int .i64 x.s, .int .i64 (x.s + x.es.length)] := (v1.keep k187 (by simp; omega)).keep hD190.kp (by simp)
      have c135' := (v2.keep k187 (by simp; omega)).keep hD190.kp (by simp)
      have c119' := ((d147.keep v9 (by simp; omega)).keep k187 (by simp; omega)).keep hD190.kp (by simp)
      have l0r := g2lt _ hg0
      have l1r := g2lt _ hg1
      have i190 : StoreIs w190 G3 b17 lg0 lg1 d (f, x.g, x.s, x.s + x.es.length) := ⟨c17', hl0.keep2 kb190 (by simp; omega), hl1.keep2 kb190 (by simp; omega), ⟨g23 _ (f2 (by omega) (by omega)), g23 _ hg0, g23 _ hg1⟩, ⟨by omega, by omega⟩, hf2⟩
      have hsn190 : RdB w190 sx x.snap := hsn.keepF (kb114.toF (F := fun y => y = b17) (fun y hy => .inl (by simpa using hy))) (fun y hy => nG2 y (hsnG y hy))
      have k187F := k187.toF (F := fun y => y = L) (fun y hy => .inl (by simpa using hy))
      have es190 : LS w190 w147.heap.size 1 cf1 (fun y => w147.heap.size ≤ y ∧ y < w190.heap.size) es (tagL x.es) := ((v3.keepF k187F (fun y hy e => by have := hslo y hy; omega) (fun y hy _ e => by omega)).keep0 hD190.kp).mono2 (Nat.le_refl _) (fun y h1 h2 => ⟨h1, h2⟩)
      have es190lo := es190.lo
      have hsnl : x.snap.length ≤ 65536 := by
        have := hsx (hdB x.g x.s x.snap) (List.mem_cons_self ..)
        simp only [hdB, List.length_append] at this
        omega
      have hopS : openS a b = (f, x.g, x.s, x.s + x.es.length) := by unfold openS; rw [hpx]
      have hopT : openT a b = (x.snap, x.es) := by unfold openT; rw [hpx]
      rw [hopS, hopT]
      obtain ⟨o, ho⟩ : ∃ o, 1 - f = o := ⟨_, rfl⟩
      have ho2 : o < 2 := by omega
      have hopK : openK m a b = if 0 < (open2 m o).now.length then clr (open2 m) o else open2 m := by unfold openK; rw [hpx]; dsimp only; rw [ho]
      obtain ⟨lgo, hco, hlo', hgo, hneo, hlgo⟩ := i190.lg ho2
      have hw2 : IntKind.i64.wrap (1 - (f : Int)) = ((o : Nat) : Int) := by rw [IntKind.wrap_i64]; omega
      refine ⟨PD b17, ⟨rfl, F190.f19.at rfl⟩, PD b17, ⟨rfl, F190.f19.at rfl⟩, _, ⟨rfl, c17'.at (i := 2) rfl⟩, ?_⟩
      rw [hw2]
      refine ⟨⟨by omega, by omega⟩, PD lgo, ⟨rfl, by rw [Int.toNat_natCast]; exact hco⟩, use (LSize_g h190 hlo') ?_⟩
      rintro _ w197 ⟨rfl, k197⟩
      rw [readF_i (open2 m) ho2]
      refine ⟨_, rfl, cond_d (fun hpos => ?_) (fun hz => ?_)⟩
      · refine use (LErase_g (h190.keep k197) (hlo'.keep k197) hgo (fun i hi => by have := hu2 i hi; omega)) ?_
        rintro _ w200 ⟨rfl, h200, k200⟩
        refine ⟨_, rfl, use (LSync_g h200 ((hlo'.keep k197).kg k200 hgo) hgo) ?_⟩
        rintro _ wX ⟨rfl, h203, k203⟩
        have kX : KG G3 w190 wX := ((k197.kg G3).kgThen k200).kgThen k203
        have hX : DG w0 wX G3 d (openK m a b) := by rw [hopK, if_pos (by omega)]; exact h203
        refine ⟨_, rfl, ?_⟩
        intro w206 hD206
        have kX' := kX.kgThen (hD206.kp.kg G3)
        have h206 := hX.keep hD206.kp
        have z206 := kX'.size
        have n3 : ∀ {y}, w.heap.size ≤ y → y < w25.heap.size → ¬ ¬ G3 y := fun h1 h2 hn => hn (g23 _ (f2 h1 h2))
        have nN : ∀ {y}, w30.heap.size ≤ y → y < w190.heap.size → ¬ ¬ G3 y := fun h1 h2 hn => hn (gN3 h1 h2)
        have F206 := F190.keepF kX' (n3 (by omega) (by omega)) (n3 (by omega) (by omega)) (n3 (by omega) (by omega)) (n3 (by omega) (by omega)) (n3 (by omega) (by omega))
        have i206 := i190.kg kX'
        have c119 := c119'.keepF kX' (nN (by omega) (by omega))
        have c135 := c135'.keepF kX' (nN (by omega) (by omega))
        have def6 := heap_keepF hDef kX' (nN (by omega) (by omega))
        have sn6 := hsn190.keepF kX' (fun y hy hn => hn (g23 _ (gg2 y (hsnG y hy))))
        have es6 := es190.keepF kX' (fun y hy hn => hn (gN3 (by have := (es190lo y hy).1; omega) (es190lo y hy).2)) (fun y hy _ hn => hn (gN3 (by omega) hy.2))
        have es6lo := es6.lo
        refine ⟨PD b17, ⟨rfl, F206.f19.at rfl⟩, sx, ⟨rfl, c119.at (i := 2) rfl⟩, es, ⟨rfl, c135.at rfl⟩, fun b210 w211 h210 => ⟨(c135.keep h210.kp (by simp)).at rfl, (c119.keep h210.kp (by simp)).at (i := 2) rfl, (F206.f19.keep h210.kp (by simp)).at rfl, ?_⟩⟩
        have s211 := h210.eq
        have ho210 : OwnB w211 w206.heap.size ⟨some ⟨b210, 0, none⟩, 0, 0⟩ [] := Go.Eng.Own.fresh h210 (Nat.le_refl _) (Nat.le_refl _) rfl
        obtain ⟨q212, n213, c214, w215, hrun3, hn213, ho215, k215, _⟩ := app_bytes (ty := 27) Try.underlying27 byte_inf ho210 (sn6.keep0 h210.kp) (by omega) (by simp only [List.length_nil]; omega)
        rw [List.nil_append] at ho215
        have k206 : Kp [] w206 w215 := h210.kp.then k215 (by simp [blkOf]; omega)
        have z215 := k206.size
        have hlo215 := ho215.lo
        have F215 := F206.keep k206 (by simp) (by simp) (by simp) (by simp) (by simp)
        have c135b := c135.keep k206 (by simp)
        refine ⟨q212, n213, c214, w215, hrun3, c135b.at rfl, F215.f19.at rfl, ⟨rfl, F215.f1.can1 (i := 0) _ rfl (Nat.le_of_ble_eq_true rfl)⟩, fun w216 e216 => ?_⟩
        obtain ⟨r1, k216, _⟩ := F215.f1.put1 (i := 0) rfl e216
        have F3' := F215.f3.keep k216 (by simp; omega)
        have c135c := c135b.keep k216 (by simp; omega)
        refine ⟨c135c.at rfl, ⟨rfl, F3'.can1 (i := 0) _ rfl (Nat.le_of_ble_eq_true rfl)⟩, fun w217 e217 => ?_⟩
        obtain ⟨r3, k217, _⟩ := F3'.put1 (i := 0) rfl e217
        have F5' := (F215.f5.keep k216 (by simp; omega)).keep k217 (by simp; omega)
        have c135d := c135c.keep k217 (by simp; omega)
        refine ⟨c135d.at rfl, ⟨rfl, F5'.can1 (i := 0) _ rfl (Nat.le_of_ble_eq_true rfl)⟩, fun w218 e218 => ?_⟩
        obtain ⟨r5, k218, _⟩ := F5'.put1 (i := 0) rfl e218
        have F7' := ((F215.f7.keep k216 (by simp; omega)).keep k217 (by simp; omega)).keep k218 (by simp; omega)
        refine ⟨⟨rfl, F7'.can1 (i := 0) _ rfl (Nat.le_of_ble_eq_true rfl)⟩, fun w219 e219 => ?_⟩
        obtain ⟨r7, k219, _⟩ := F7'.put1 (i := 0) rfl e219
        have kq : Kp [b1, b3, b5, b7] w215 w219 := (((k216.mono (by simp)).then k217 (by simp)).then k218 (by simp)).then k219 (by simp)
        have zq := kq.size
        have def9 := heap_keep (heap_keep def6 k206 (by simp)) kq (by simp; omega)
        refine ⟨def9, fun w220 e220 => ?_⟩
        have kD : Kp [D] w219 w220 := e220 ▸ put_kp w219 D _
        clear e220
        have zD := kD.size
        have kx : Kp [b1, b3, b5, b7, D] w206 w220 := ((k206.up _).then kq (by simp)).then kD (by simp)
        have kxF := kx.toF (F := fun y => y ∈ [b1, b3, b5, b7, D]) (fun y hy => .inl hy)
        have R1 := (((r1.keep k217 (by simp; omega)).keep k218 (by simp; omega)).keep k219 (by simp; omega)).keep kD (by simp; omega)
        have R3 := ((r3.keep k218 (by simp; omega)).keep k219 (by simp; omega)).keep kD (by simp; omega)
        have R5 := (r5.keep k219 (by simp; omega)).keep kD (by simp; omega)
        have R7 := r7.keep kD (by simp; omega)
        have l0r := g2lt _ hg0
        have l1r := g2lt _ hg1
        refine ⟨PD b17, ⟨rfl, R1.at (i := 0) rfl⟩, ⟨q212, n213, c214⟩, ⟨rfl, R3.at (i := 0) rfl⟩, es, ⟨rfl, R5.at (i := 0) rfl⟩, 0, ⟨rfl, R7.at (i := 0) rfl⟩, b17, ⟨q212, n213, c214⟩, es, fun y => G3 y ∨ New w206 w220 y, (lg0, lg1), rfl, ⟨h206.wgrow kx (fun y hy => ?_), ⟨i206.b.keep kx (by simp; omega), i206.l0.keep2 kx (by simp; omega), i206.l1.keep2 kx (by simp; omega), ⟨.inl i206.g.1, .inl i206.g.2.1, .inl i206.g.2.2⟩, i206.ne, i206.f⟩, by omega⟩, ?_, fun y hy => .inl (g23 _ (gG2 y hy)), ⟨by omega, by dsimp only; omega, by dsimp only; omega⟩, ?_, ?_, ?_, ?_, ?_⟩
        · simp at hy
          rcases hy with rfl | rfl | rfl | rfl | rfl
          · exact ⟨g23 _ (f2 (by omega) (by omega)), by omega⟩
          · exact ⟨g23 _ (f2 (by omega) (by omega)), by omega⟩
          · exact ⟨g23 _ (f2 (by omega) (by omega)), by omega⟩
          · exact ⟨g23 _ (f2 (by omega) (by omega)), by omega⟩
          · exact ⟨gN3 (by omega) (by omega), by omega⟩
        · have ka : KG G w w190 := k30.thenK kb190 (fun y hy => by simp at hy; exact .inr (by omega))
          exact (ka.kgThen (KG.less kX' (fun y hy => g23 _ (gG2 y hy)))).thenK kx (fun y hy => by simp at hy; exact .inr (by omega))
        · exact (ho215.rds.keepF (kq.toF (F := fun y => y ∈ [b1, b3, b5, b7]) (fun y hy => .inl hy)) (fun y hy hm => by have := hlo215 y hy; simp at hm; omega)).keepF (kD.toF (F := fun y => y = D) (fun y hy => .inl (by simpa using hy))) (fun y hy e => by have := hlo215 y hy; omega)
        · intro y hy
          have := hlo215 y hy
          exact ⟨.inr ⟨by omega, by omega⟩, by omega⟩
        · have hfin := es6.keepF kxF (fun y hy hm => by have := (es190lo y hy).1; have := (es190lo y hy).2; simp at hm; rcases hm with rfl | rfl | rfl | rfl | rfl <;> omega) (fun y hy _ hm => by have := hy.1; simp at hm; rcases hm with rfl | rfl | rfl | rfl | rfl <;> omega)
          have := hfin.rg (G := fun y => (G3 y ∨ New w206 w220 y) ∧ y ≠ b17) (fun y hy => ⟨.inl (gN3 (by have := (es190lo y hy).1; omega) (es190lo y hy).2), by have := (es190lo y hy).1; omega⟩) (fun y hy => ⟨.inl (gN3 (by omega) hy.2), by omega⟩)
          rwa [tagL_snd] at this
        · intro y hy
          have := hlo215 y hy
          omega
        · have hfin := es6.keepF kxF (fun y hy hm => by have := (es190lo y hy).1; have := (es190lo y hy).2; simp at hm; rcases hm with rfl | rfl | rfl | rfl | rfl <;> omega) (fun y hy _ hm => by have := hy.1; simp at hm; rcases hm with rfl | rfl | rfl | rfl | rfl <;> omega)
          have := hfin.rg (G := fun y => w.heap.size ≤ y) (fun y hy => by have := (es190lo y hy).1; omega) (fun y hy => by omega)
          rwa [tagL_snd] at this
      · obtain ⟨wX, hwX⟩ : ∃ wX, wX = w197 := ⟨_, rfl⟩
        rw [← hwX] at k197 ⊢
        have kX : KG G3 w190 wX := k197.kg G3
        have hX : DG w0 wX G3 d (openK m a b) := by rw [hopK, if_neg (by omega)]; exact h190.keep k197
        intro w206 hD206
        have kX' := kX.kgThen (hD206.kp.kg G3)
        have h206 := hX.keep hD206.kp
        have z206 := kX'.size
        have n3 : ∀ {y}, w.heap.size ≤ y → y < w25.heap.size → ¬ ¬ G3 y := fun h1 h2 hn => hn (g23 _ (f2 h1 h2))
        have nN : ∀ {y}, w30.heap.size ≤ y → y < w190.heap.size → ¬ ¬ G3 y := fun h1 h2 hn => hn (gN3 h1 h2)
        have F206 := F190.keepF kX' (n3 (by omega) (by omega)) (n3 (by omega) (by omega)) (n3 (by omega) (by omega)) (n3 (by omega) (by omega)) (n3 (by omega) (by omega))
        have i206 := i190.kg kX'
        have c119 := c119'.keepF kX' (nN (by omega) (by omega))
        have c135 := c135'.keepF kX' (nN (by omega) (by omega))
        have def6 := heap_keepF hDef kX' (nN (by omega) (by omega))
        have sn6 := hsn190.keepF kX' (fun y hy hn => hn (g23 _ (gg2 y (hsnG y hy))))
        have es6 := es190.keepF kX' (fun y hy hn => hn (gN3 (by have := (es190lo y hy).1; omega) (es190lo y hy).2)) (fun y hy _ hn => hn (gN3 (by omega) hy.2))
        have es6lo := es6.lo
        refine ⟨PD b17, ⟨rfl, F206.f19.at rfl⟩, sx, ⟨rfl, c119.at (i := 2) rfl⟩, es, ⟨rfl, c135.at rfl⟩, fun b210 w211 h210 => ⟨(c135.keep h210.kp (by simp)).at rfl, (c119.keep h210.kp (by simp)).at (i := 2) rfl, (F206.f19.keep h210.kp (by simp)).at rfl, ?_⟩⟩
        have s211 := h210.eq
        have ho210 : OwnB w211 w206.heap.size ⟨some ⟨b210, 0, none⟩, 0, 0⟩ [] := Go.Eng.Own.fresh h210 (Nat.le_refl _) (Nat.le_refl _) rfl
        obtain ⟨q212, n213, c214, w215, hrun3, hn213, ho215, k215, _⟩ := app_bytes (ty := 27) Try.underlying27 byte_inf ho210 (sn6.keep0 h210.kp) (by omega) (by simp only [List.length_nil]; omega)
        rw [List.nil_append] at ho215
        have k206 : Kp [] w206 w215 := h210.kp.then k215 (by simp [blkOf]; omega)
        have z215 := k206.size
        have hlo215 := ho215.lo
        have F215 := F206.keep k206 (by simp) (by simp) (by simp) (by simp) (by simp)
        have c135b := c135.keep k206 (by simp)
        refine ⟨q212, n213, c214, w215, hrun3, c135b.at rfl, F215.f19.at rfl, ⟨rfl, F215.f1.can1 (i := 0) _ rfl (Nat.le_of_ble_eq_true rfl)⟩, fun w216 e216 => ?_⟩
        obtain ⟨r1, k216, _⟩ := F215.f1.put1 (i := 0) rfl e216
        have F3' := F215.f3.keep k216 (by simp; omega)
        have c135c := c135b.keep k216 (by simp; omega)
        refine ⟨c135c.at rfl, ⟨rfl, F3'.can1 (i := 0) _ rfl (Nat.le_of_ble_eq_true rfl)⟩, fun w217 e217 => ?_⟩
        obtain ⟨r3, k217, _⟩ := F3'.put1 (i := 0) rfl e217
        have F5' := (F215.f5.keep k216 (by simp; omega)).keep k217 (by simp; omega)
        have c135d := c135c.keep k217 (by simp; omega)
        refine ⟨c135d.at rfl, ⟨rfl, F5'.can1 (i := 0) _ rfl (Nat.le_of_ble_eq_true rfl)⟩, fun w218 e218 => ?_⟩
        obtain ⟨r5, k218, _⟩ := F5'.put1 (i := 0) rfl e218
        have F7' := ((F215.f7.keep k216 (by simp; omega)).keep k217 (by simp; omega)).keep k218 (by simp; omega)
        refine ⟨⟨rfl, F7'.can1 (i := 0) _ rfl (Nat.le_of_ble_eq_true rfl)⟩, fun w219 e219 => ?_⟩
        obtain ⟨r7, k219, _⟩ := F7'.put1 (i := 0) rfl e219
        have kq : Kp [b1, b3, b5, b7] w215 w219 := (((k216.mono (by simp)).then k217 (by simp)).then k218 (by simp)).then k219 (by simp)
        have zq := kq.size
        have def9 := heap_keep (heap_keep def6 k206 (by simp)) kq (by simp; omega)
        refine ⟨def9, fun w220 e220 => ?_⟩
        have kD : Kp [D] w219 w220 := e220 ▸ put_kp w219 D _
        clear e220
        have zD := kD.size
        have kx : Kp [b1, b3, b5, b7, D] w206 w220 := ((k206.up _).then kq (by simp)).then kD (by simp)
        have kxF := kx.toF (F := fun y => y ∈ [b1, b3, b5, b7, D]) (fun y hy => .inl hy)
        have R1 := (((r1.keep k217 (by simp; omega)).keep k218 (by simp; omega)).keep k219 (by simp; omega)).keep kD (by simp; omega)
        have R3 := ((r3.keep k218 (by simp; omega)).keep k219 (by simp; omega)).keep kD (by simp; omega)
        have R5 := (r5.keep k219 (by simp; omega)).keep kD (by simp; omega)
        have R7 := r7.keep kD (by simp; omega)
        have l0r := g2lt _ hg0
        have l1r := g2lt _ hg1
        refine ⟨PD b17, ⟨rfl, R1.at (i := 0) rfl⟩, ⟨q212, n213, c214⟩, ⟨rfl, R3.at (i := 0) rfl⟩, es, ⟨rfl, R5.at (i := 0) rfl⟩, 0, ⟨rfl, R7.at (i := 0) rfl⟩, b17, ⟨q212, n213, c214⟩, es, fun y => G3 y ∨ New w206 w220 y, (lg0, lg1), rfl, ⟨h206.wgrow kx (fun y hy => ?_), ⟨i206.b.keep kx (by simp; omega), i206.l0.keep2 kx (by simp; omega), i206.l1.keep2 kx (by simp; omega), ⟨.inl i206.g.1, .inl i206.g.2.1, .inl i206.g.2.2⟩, i206.ne, i206.f⟩, by omega⟩, ?_, fun y hy => .inl (g23 _ (gG2 y hy)), ⟨by omega, by dsimp only; omega, by dsimp only; omega⟩, ?_, ?_, ?_, ?_, ?_⟩
        · simp at hy
          rcases hy with rfl | rfl | rfl | rfl | rfl
          · exact ⟨g23 _ (f2 (by omega) (by omega)), by omega⟩
          · exact ⟨g23 _ (f2 (by omega) (by omega)), by omega⟩
          · exact ⟨g23 _ (f2 (by omega) (by omega)), by omega⟩
          · exact ⟨g23 _ (f2 (by omega) (by omega)), by omega⟩
          · exact ⟨gN3 (by omega) (by omega), by omega⟩
        · have ka : KG G w w190 := k30.thenK kb190 (fun y hy => by simp at hy; exact .inr (by omega))
          exact (ka.kgThen (KG.less kX' (fun y hy => g23 _ (gG2 y hy)))).thenK kx (fun y hy => by simp at hy; exact .inr (by omega))
        · exact (ho215.rds.keepF (kq.toF (F := fun y => y ∈ [b1, b3, b5, b7]) (fun y hy => .inl hy)) (fun y hy hm => by have := hlo215 y hy; simp at hm; omega)).keepF (kD.toF (F := fun y => y = D) (fun y hy => .inl (by simpa using hy))) (fun y hy e => by have := hlo215 y hy; omega)
        · intro y hy
          have := hlo215 y hy
          exact ⟨.inr ⟨by omega, by omega⟩, by omega⟩
        · have hfin := es6.keepF kxF (fun y hy hm => by have := (es190lo y hy).1; have := (es190lo y hy).2; simp at hm; rcases hm with rfl | rfl | rfl | rfl | rfl <;> omega) (fun y hy _ hm => by have := hy.1; simp at hm; rcases hm with rfl | rfl | rfl | rfl | rfl <;> omega)
          have := hfin.rg (G := fun y => (G3 y ∨ New w206 w220 y) ∧ y ≠ b17) (fun y hy => ⟨.inl (gN3 (by have := (es190lo y hy).1; omega) (es190lo y hy).2), by have := (es190lo y hy).1; omega⟩) (fun y hy => ⟨.inl (gN3 (by omega) hy.2), by omega⟩)
          rwa [tagL_snd] at this
        · intro y hy
          have := hlo215 y hy
          omega
        · have hfin := es6.keepF kxF (fun y hy hm => by have := (es190lo y hy).1; have := (es190lo y hy).2; simp at hm; rcases hm with rfl | rfl | rfl | rfl | rfl <;> omega) (fun y hy _ hm => by have := hy.1; simp at hm; rcases hm with rfl | rfl | rfl | rfl | rfl <;> omega)
          have := hfin.rg (G := fun y => w.heap.size ≤ y) (fun y hy => by have := (es190lo y hy).1; omega) (fun y hy => by omega)
          rwa [tagL_snd] at this)
end Go.Proofs.Ytfgepillnemolaa
