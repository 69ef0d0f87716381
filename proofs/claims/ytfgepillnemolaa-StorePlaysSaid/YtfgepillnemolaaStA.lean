/- The store's small contracts. No conditions. -/
import Derived.Test.YtfgepillnemolaaStM
namespace Go.Proofs.Ytfgepillnemolaa
open Go.RowKit Go.Eng
set_option linter.unusedVariables false
set_option linter.unusedSimpArgs false
theorem ws {q : Option Addr} {a : Addr} {f : Addr → Prop} (h : q = some a) (hf : f a) : withSome q f := by rw [h]; exact hf
theorem wr1 (j : Nat) (h : j ≤ 1000000000) : IntKind.i64.wrap ((j : Int) + 1) = ((j + 1 : Nat) : Int) := by rw [IntKind.wrap_i64]; omega
abbrev Sm := Nat × Int × Int × Int
/-- A store in memory. -/
structure StoreIs (w : World) (G : Nat → Prop) (st lg0 lg1 d : Nat) (sm : Sm) : Prop where
  b : Blk w st [.pointer (PD lg0), .pointer (PD lg1), .int .i64 sm.1, .int .i64 sm.2.1, .int .i64 sm.2.2.1, .int .i64 sm.2.2.2]
  l0 : LogIs w lg0 d 0
  l1 : LogIs w lg1 d 1
  g : G st ∧ G lg0 ∧ G lg1
  ne : st ≠ lg0 ∧ st ≠ lg1
  f : sm.1 < 2
theorem StoreIs.keep {w w' : World} {G : Nat → Prop} {st lg0 lg1 d : Nat} {sm : Sm} (h : StoreIs w G st lg0 lg1 d sm) (k : Kp [] w w') : StoreIs w' G st lg0 lg1 d sm := ⟨h.b.keep k (by simp), h.l0.keep k, h.l1.keep k, h.g, h.ne, h.f⟩
theorem StoreIs.kg {w w' : World} {G : Nat → Prop} {st lg0 lg1 d : Nat} {sm : Sm} (h : StoreIs w G st lg0 lg1 d sm) (k : KG G w w') : StoreIs w' G st lg0 lg1 d sm := ⟨h.b.keepF k (fun hn => hn h.g.1), h.l0.kg k h.g.2.1, h.l1.kg k h.g.2.2, h.g, h.ne, h.f⟩
theorem StoreIs.mono {w : World} {G G' : Nat → Prop} {st lg0 lg1 d : Nat} {sm : Sm} (h : StoreIs w G st lg0 lg1 d sm) (hG : ∀ y, G y → G' y) : StoreIs w G' st lg0 lg1 d sm := ⟨h.b, h.l0, h.l1, ⟨hG _ h.g.1, hG _ h.g.2.1, hG _ h.g.2.2⟩, h.ne, h.f⟩
/-- The log of a file. -/
theorem StoreIs.lg {w : World} {G : Nat → Prop} {st lg0 lg1 d : Nat} {sm : Sm} (h : StoreIs w G st lg0 lg1 d sm) {f : Nat} (hf : f < 2) : ∃ lg, w.cell? (Addr.add ⟨st, 0, none⟩ (f * 1)) = some (.pointer (PD lg)) ∧ LogIs w lg d f ∧ G lg ∧ lg ≠ st ∧ (f = 0 ∧ lg = lg0 ∨ f = 1 ∧ lg = lg1) := by
  have h01 : f = 0 ∨ f = 1 := by omega
  rcases h01 with rfl | rfl
  · exact ⟨lg0, h.b.at rfl, h.l0, h.g.2.1, h.ne.1.symm, .inl ⟨rfl, rfl⟩⟩
  · exact ⟨lg1, h.b.at rfl, h.l1, h.g.2.2, h.ne.2.symm, .inr ⟨rfl, rfl⟩⟩
/-- All of G stays but the store itself. -/
abbrev KS (G : Nat → Prop) (st : Nat) (w w' : World) : Prop := KpF (fun k => ¬ G k ∨ k = st) w w'
theorem KS.of {G : Nat → Prop} {st : Nat} {w w' : World} (h : KG G w w') : KS G st w w' := ⟨h.os, h.tape, h.output, h.size, fun k hk hn => h.block k hk (fun hg => hn (.inl hg))⟩
theorem KS.put {G : Nat → Prop} {st : Nat} {w w' : World} (h : Kp [st] w w') : KS G st w w' := h.toF (fun x hx => by simp at hx; exact .inl (.inr hx))
theorem KS.trans {G : Nat → Prop} {st : Nat} {w w1 w2 : World} (h : KS G st w w1) (k : KS G st w1 w2) : KS G st w w2 := h.then k (fun _ hx => .inl hx)
/-- A store on a disk. -/
structure SW (w0 w : World) (G : Nat → Prop) (st d : Nat) (L : Nat × Nat) (sm : Sm) (m : Nat → Fm) : Prop where
  dg : DG w0 w G d m
  is : StoreIs w G st L.1 L.2 d sm
  lo : w0.heap.size ≤ st
theorem SW.keep {w0 w w' : World} {G : Nat → Prop} {st d : Nat} {L : Nat × Nat} {sm : Sm} {m : Nat → Fm} (h : SW w0 w G st d L sm m) (k : Kp [] w w') : SW w0 w' G st d L sm m := by
  obtain ⟨h1, h2, h3⟩ := h
  exact ⟨h1.keep k, h2.keep k, h3⟩
theorem SW.grow {w0 w w' : World} {G : Nat → Prop} {st d : Nat} {L : Nat × Nat} {sm : Sm} {m : Nat → Fm} (h : SW w0 w G st d L sm m) (k : Kp [] w w') : SW w0 w' (fun x => G x ∨ New w w' x) st d L sm m := by
  obtain ⟨h1, h2, h3⟩ := h
  exact ⟨h1.grow k, (h2.keep k).mono (fun y hy => .inl hy), h3⟩
theorem SW.wgrow {w0 w w' : World} {G : Nat → Prop} {st d : Nat} {L : Nat × Nat} {sm : Sm} {m : Nat → Fm} (h : SW w0 w G st d L sm m) {l : List Nat} (k : Kp l w w') (hl : ∀ x ∈ l, G x ∧ w0.heap.size ≤ x) (hs : st ∉ l) (hlg : ∀ lg, LogIs w lg d 0 ∨ LogIs w lg d 1 → lg ∉ l) : SW w0 w' (fun x => G x ∨ New w w' x) st d L sm m := by
  obtain ⟨h1, h2, h3⟩ := h
  exact ⟨h1.wgrow k hl, ⟨h2.b.keep k hs, h2.l0.keep2 k (hlg _ (.inl h2.l0)), h2.l1.keep2 k (hlg _ (.inr h2.l1)), ⟨.inl h2.g.1, .inl h2.g.2.1, .inl h2.g.2.2⟩, h2.ne, h2.f⟩, h3⟩
theorem Last_s {w0 w : World} {G : Nat → Prop} {st d : Nat} {L : Nat × Nat} {sm : Sm} {m : Nat → Fm} (h : SW w0 w G st d L sm m) : C.store_Store_Last (PD st) w (fun v w' => v = .int .i64 sm.2.2.2 ∧ w = w') noP := store_Store_Last_of (by
  unfold W.store_Store_Last
  obtain ⟨h1, h2, h3⟩ := h
  exact cond_f rfl ⟨_, ⟨rfl, h2.b.at rfl⟩, rfl, rfl⟩)
theorem From_s {w0 w : World} {G : Nat → Prop} {st d : Nat} {L : Nat × Nat} {sm : Sm} {m : Nat → Fm} (h : SW w0 w G st d L sm m) : C.store_Store_From (PD st) w (fun v w' => v = .int .i64 sm.2.2.1 ∧ w = w') noP := store_Store_From_of (by
  unfold W.store_Store_From
  obtain ⟨h1, h2, h3⟩ := h
  exact cond_f rfl ⟨_, ⟨rfl, h2.b.at rfl⟩, rfl, rfl⟩)
theorem SSize_s {w0 w : World} {G : Nat → Prop} {st d : Nat} {L : Nat × Nat} {sm : Sm} {m : Nat → Fm} (h : SW w0 w G st d L sm m) : C.store_Store_Size (PD st) w (fun v w' => v = .int .i64 (m sm.1).now.length ∧ Kp [] w w') noP := store_Store_Size_of (by
  unfold W.store_Store_Size
  obtain ⟨h1, h2, h3⟩ := h
  refine cond_f rfl ⟨⟨by omega, by omega⟩, PD L.1, ⟨rfl, h2.b.at rfl⟩, cond_f rfl fun w3 hD => ?_⟩
  have h2' := h2.keep hD.kp
  obtain ⟨lg, hc, hl, hg, _⟩ := h2'.lg h2.f
  have hf := h2.f
  refine ⟨_, ⟨rfl, h2'.b.at rfl⟩, ⟨by omega, by omega⟩, PD lg, ⟨rfl, by rw [Int.toNat_natCast]; exact hc⟩, ?_⟩
  refine use (LSize_g (h1.keep hD.kp) hl) ?_
  rintro _ w8 ⟨rfl, k8⟩
  rw [readF_i m h2.f]
  exact ⟨_, rfl, rfl, hD.kp.then0 k8⟩)
theorem SSync_s {w0 w : World} {G : Nat → Prop} {st d : Nat} {L : Nat × Nat} {sm : Sm} {m : Nat → Fm} (h : SW w0 w G st d L sm m) : C.store_Store_Sync (PD st) w (fun v w' => v = .int .i64 0 ∧ SW w0 w' G st d L sm (syncMf m sm.1) ∧ KG G w w') noP := store_Store_Sync_of (by
  unfold W.store_Store_Sync
  obtain ⟨h1, h2, h3⟩ := h
  refine cond_f rfl ⟨⟨by omega, by omega⟩, PD L.1, ⟨rfl, h2.b.at rfl⟩, cond_f rfl fun w3 hD => ?_⟩
  have h2' := h2.keep hD.kp
  obtain ⟨lg, hc, hl, hg, _⟩ := h2'.lg h2.f
  have hf := h2.f
  refine ⟨_, ⟨rfl, h2'.b.at rfl⟩, ⟨by omega, by omega⟩, PD lg, ⟨rfl, by rw [Int.toNat_natCast]; exact hc⟩, ?_⟩
  refine use (LSync_g (h1.keep hD.kp) hl hg) ?_
  rintro _ w8 ⟨rfl, h8, k8⟩
  rw [syncEf_i h2.f]
  exact ⟨_, rfl, rfl, ⟨h8, h2'.kg k8, h3⟩, (hD.kp.kg G).kgThen k8⟩)
/-- Append: what it answers, what becomes of the store and of the disk. -/
def appS (sm : Sm) (m : Nat → Fm) (n : Int) (b : Bs) : Int × Sm × (Nat → Fm) :=
  if n < 1 ∨ sm.2.2.2 < n - 1 then (8, sm, m) else if n ≤ sm.2.2.2 then (0, sm, m) else
  (logE m sm.1 (entB n b), if logE m sm.1 (entB n b) = 0 then (sm.1, sm.2.1, sm.2.2.1, n) else sm, logM m sm.1 (entB n b))
set_option maxHeartbeats 1000000 in
theorem SAppend_s {w0 w : World} {G : Nat → Prop} {st d : Nat} {L : Nat × Nat} {sm : Sm} {m : Nat → Fm} (h : SW w0 w G st d L sm m) (n : Int) (hn : in64 n) {p : Sl} {b : Bs} (hp : RdB w p b) (hb : b.length ≤ 100000000000) (hu : uK m) :
    C.store_Store_Append (PD st) n p w (fun v w' => v = .int .i64 (appS sm m n b).1 ∧ SW w0 w' G st d L (appS sm m n b).2.1 (appS sm m n b).2.2 ∧ KS G st w w') noP := store_Store_Append_of (by
  unfold W.store_Store_Append
  have hsw := h
  obtain ⟨h1, h2, h3⟩ := h
  have hpl := hp.bsize
  have hf := h2.f
  refine cond_f rfl ⟨⟨by omega, by omega⟩, PD L.1, ⟨rfl, h2.b.at rfl⟩, cond_f rfl (cond_d (fun c1 => ?_) (fun c1 => ⟨_, ⟨rfl, h2.b.at rfl⟩, ?_⟩))⟩
  · have e : appS sm m n b = (8, sm, m) := by unfold appS; rw [if_pos (.inl c1)]
    rw [e]
    exact ⟨rfl, hsw, KpF.refl _ _⟩
  have hw1 : IntKind.i64.wrap (n - 1) = n - 1 := by rw [IntKind.wrap_i64]; omega
  rw [hw1]
  refine cond_d (fun c2 => ?_) (fun c2 => ⟨_, ⟨rfl, h2.b.at rfl⟩, cond_d (fun c3 => ?_) (fun c3 w7 hD => ?_)⟩)
  · have e : appS sm m n b = (8, sm, m) := by unfold appS; rw [if_pos (.inr c2)]
    rw [e]
    exact ⟨rfl, hsw, KpF.refl _ _⟩
  · have e : appS sm m n b = (0, sm, m) := by unfold appS; rw [if_neg (by omega), if_pos c3]
    rw [e]
    exact ⟨rfl, hsw, KpF.refl _ _⟩
  have h7 := h2.keep hD.kp
  obtain ⟨lg, hc, hl, hg, hne, hlg⟩ := h7.lg h2.f
  refine ⟨_, ⟨rfl, h7.b.at rfl⟩, ⟨by omega, by omega⟩, PD lg, ⟨rfl, by rw [Int.toNat_natCast]; exact hc⟩, ?_⟩
  have lcell : ∀ w', Kp [] w7 w' → w'.cell? (Addr.add ⟨st, 0, none⟩ ((sm.1 : Int).toNat * 1)) = some (.pointer (PD lg)) ∧ w'.cell? (Addr.add ⟨st, 0, none⟩ 2) = some (.int .i64 sm.1) := fun w' k => by
    obtain ⟨lg', hc', _, _, _, hlg'⟩ := (h7.keep k).lg h2.f
    have : lg' = lg := by rcases hlg with ⟨e1, rfl⟩ | ⟨e1, rfl⟩ <;> rcases hlg' with ⟨e2, rfl⟩ | ⟨e2, rfl⟩ <;> first | rfl | omega
    subst this
    exact ⟨by rw [Int.toNat_natCast]; exact hc', (h7.keep k).b.at rfl⟩
  refine use (PutNumber_s (l := []) n hn (Go.Eng.Own.nil w7 0 1).rds (by simp)) ?_
  rintro _ w12 ⟨q, rfl, o12, k12⟩
  rw [List.nil_append] at o12
  refine ⟨q, rfl, (lcell w12 k12).1, (lcell w12 k12).2, ?_⟩
  have hpn := (putN_len n).2
  have kp12 : Kp [] w w12 := hD.kp.then0 k12
  obtain ⟨q15, n16, c17, w18, hrun, hn16, o18, k18, _⟩ := app_bytes (ty := 27) Try.underlying27 byte_inf o12 (hp.keep0 kp12) (by have := k12.size; omega) (by omega)
  have k718 : Kp [] w7 w18 := k12.then k18 (fun y hy => .inr (o12.lo y hy).1)
  refine ⟨q15, n16, c17, w18, hrun, (lcell w18 k718).1, (lcell w18 k718).2, ?_⟩
  have k018 : Kp [] w w18 := hD.kp.then0 k718
  have h18 := h2.keep k018
  obtain ⟨lg', hc', hl', hg', hne', hlg'⟩ := h18.lg h2.f
  have elg : lg' = lg := by rcases hlg with ⟨e1, rfl⟩ | ⟨e1, rfl⟩ <;> rcases hlg' with ⟨e2, rfl⟩ | ⟨e2, rfl⟩ <;> first | rfl | omega
  subst elg
  refine use (LAppend_g (h1.keep k018) hl' hg' (s := entB n b) o18.rds hu) ?_
  rintro _ w19 ⟨rfl, h19, k19⟩
  have i19 := h18.kg k19
  have e : appS sm m n b = (logE m sm.1 (entB n b), if logE m sm.1 (entB n b) = 0 then (sm.1, sm.2.1, sm.2.2.1, n) else sm, logM m sm.1 (entB n b)) := by unfold appS; rw [if_neg (by omega), if_neg (by omega)]
  rw [e]
  have kk := (k018.kg G).kgThen k19
  refine ⟨_, rfl, cond_e (fun c4 => ⟨⟨rfl, i19.b.can1 (i := 5) _ rfl (Nat.le_of_ble_eq_true rfl)⟩, fun w23 e23 => ?_⟩) (fun c4 => ?_)⟩
  · obtain ⟨g1, k23, _⟩ := i19.b.put1 (i := 5) rfl e23
    dsimp only
    rw [if_pos c4]
    refine ⟨by rw [c4], ⟨h19.write k23 (by simp; exact ⟨i19.g.1, h3⟩), ⟨g1, i19.l0.keep2 k23 (by simpa using i19.ne.1.symm), i19.l1.keep2 k23 (by simpa using i19.ne.2.symm), i19.g, i19.ne, i19.f⟩, h3⟩, (KS.of kk).trans (KS.put k23)⟩
  · dsimp only
    rw [if_neg c4]
    exact ⟨rfl, ⟨h19, i19, h3⟩, KS.of kk⟩)
end Go.Proofs.Ytfgepillnemolaa
