/- Operations: their bytes, what is read. No conditions. -/
import Derived.Test.YtocbjadhcfjfiaaCod2
import Derived.Test.YtocbjadhcfjfiaaCatch2
namespace Go.Proofs.Ytocbjadhcfjfiaa
open Go.RowKit Go.Eng
set_option linter.unusedVariables false
theorem callV_mono2 {P : Program} {f : Value} {args : List Value} {w : World} {K K' : Value → World → Prop} {KP KP' : List PanicEntry → World → Prop} {g : Nat} (hf : f = .func (.func g) #[] #[]) (hb : bodied P g = true) (h : Calls P g args.toArray w (Ret K KP)) (k : ∀ v w', K v w' → K' v w') (kp : ∀ c w', KP c w' → KP' c w') : callV P f args w (Ret K' KP') := by
  subst hf
  exact ⟨hb, by simpa using use2 h k kp⟩
def whole {α : Type} (p : Bs → Option (α × Bs)) (l : Bs) : Option α := match p l with
  | some (x, []) => some x
  | _ => none
theorem whole_at {α : Type} {p : Bs → Option (α × Bs)} {l : Bs} {x : α} {k : Nat} (h : p l = some (x, l.drop k)) (hk : k ≤ l.length) : whole p l = if k = l.length then some x else none := by
  unfold whole
  rw [h]
  by_cases e : k = l.length
  · rw [if_pos e, List.drop_eq_nil_of_le (by omega)]
  · rw [if_neg e]
    cases hd : l.drop k with
    | nil =>
      have := congrArg List.length hd
      rw [List.length_drop] at this
      simp at this
      omega
    | cons a b => rfl
theorem whole_none {α : Type} {p : Bs → Option (α × Bs)} {l : Bs} (h : p l = none) : whole p l = none := by unfold whole; rw [h]
/-- What a reading of all the bytes answers. -/
def Got {α : Type} (p : Bs → Option (α × Bs)) (enc : α → Value) (z : α) (l : Bs) (r : Value) : Prop := (∃ o, whole p l = some o ∧ r = .tuple #[enc o, .int .i64 0]) ∨ (whole p l = none ∧ r = .tuple #[enc z, .int .i64 4])
def GotR {α : Type} (p : Bs → Option (α × Bs)) (enc : α → Value) (z : α) (l : Bs) (r : Value) : Prop := (∃ o, whole p l = some o ∧ r = .tuple #[enc o, .bool true]) ∨ (whole p l = none ∧ r = .tuple #[enc z, .bool false])
theorem R_whole_s {w : World} {r : Nat} {s : Sl} {l : Bs} {st : Option Nat} (h : RsR w r s l st) : C.skepref05_R_whole (some ⟨r, 0, none⟩) w (fun v w' => v = .bool (match st with | some k => decide (k = l.length) | none => false) ∧ Kp [] w w') noP := skepref05_R_whole_of (by
  unfold W.skepref05_R_whole
  intro w1 hD
  obtain ⟨⟨at0, bad0, hB, hst⟩, hd, hn, hsm⟩ := h.keep0 hD.kp
  have hsz := hd.bsize
  cases st with
  | none =>
    subst hst
    exact ⟨true, ⟨rfl, hB.at rfl⟩, cond_f rfl ⟨rfl, hD.kp⟩⟩
  | some k =>
    obtain ⟨rfl, rfl, hk⟩ := hst
    refine ⟨false, ⟨rfl, hB.at rfl⟩, cond_t rfl ⟨_, ⟨rfl, hB.at rfl⟩, s, ⟨rfl, hB.at rfl⟩, ?_, hD.kp⟩⟩
    congr 1
    by_cases e : k = l.length
    · rw [beq_t (by omega)]; simp [e]
    · rw [beq_f (by omega)]; simp [e])
theorem whole_st {α : Type} {p : Bs → Option (α × Bs)} {l : Bs} {x : α} {st : Option Nat} (h : Res p l (some 0) x st) (hle : ∀ k, st = some k → k ≤ l.length) : whole p l = (match st with | some k => if k = l.length then some x else none | none => none) := by
  rcases h with ⟨k, k', h1, h2, h3⟩ | ⟨h1, h2⟩
  · injection h1 with h1
    subst h1 h2
    rw [List.drop_zero] at h3
    exact whole_at h3 (hle _ rfl)
  · subst h1
    have := h2 0 rfl
    rw [List.drop_zero] at this
    exact whole_none this
theorem RsR.le {w : World} {r : Nat} {s : Sl} {l : Bs} {st : Option Nat} (h : RsR w r s l st) : ∀ k, st = some k → k ≤ l.length := by
  rintro k rfl
  obtain ⟨⟨at0, bad0, hB, h1, h2, h3⟩, _⟩ := h
  exact h3
theorem RsR.lt {w : World} {r : Nat} {s : Sl} {l : Bs} {st : Option Nat} (h : RsR w r s l st) : r < w.heap.size := by
  obtain ⟨⟨at0, bad0, hB, _⟩, _⟩ := h
  exact hB.lt
theorem Res.next {α β : Type} {p : Bs → Option (α × Bs)} {q : Bs → Option (β × Bs)} {l : Bs} {st st1 st2 : Option Nat} {x : α} {y : β} (h : Res p l st x st1) (k : Res q l st1 y st2) : Res (fun l => (p l).bind fun a => (q a.2).bind fun b => some ((a.1, b.1), b.2)) l st (x, y) st2 := by
  rcases h with ⟨a, b, rfl, rfl, h3⟩ | ⟨rfl, h2⟩
  · rcases k with ⟨c, d, k1, rfl, k3⟩ | ⟨rfl, k2⟩
    · injection k1 with k1
      subst k1
      exact .inl ⟨a, d, rfl, rfl, by simp [h3, k3]⟩
    · exact .inr ⟨rfl, fun i hi => by injection hi with hi; subst hi; simp [h3, k2 b rfl]⟩
  · rcases k with ⟨c, d, k1, rfl, k3⟩ | ⟨rfl, k2⟩
    · cases k1
    · exact .inr ⟨rfl, fun i hi => by simp [h2 i hi]⟩
theorem Res.map {α β : Type} {p : Bs → Option (α × Bs)} {l : Bs} {st st1 : Option Nat} {x : α} (f : α → β) {q : Bs → Option (β × Bs)} (hq : ∀ l, q l = (p l).map fun a => (f a.1, a.2)) (h : Res p l st x st1) : Res q l st (f x) st1 := by
  rcases h with ⟨a, b, rfl, rfl, h3⟩ | ⟨rfl, h2⟩
  · exact .inl ⟨a, b, rfl, rfl, by rw [hq, h3]; rfl⟩
  · exact .inr ⟨rfl, fun i hi => by rw [hq, h2 i hi]; rfl⟩
theorem Apd.two {w : World} {B : Nat} {s : Sl} {l x : Bs} {call : World → (Value → World → Prop) → (List PanicEntry → World → Prop) → Prop} (h : Apd call s x) (ho : OwnB w B s l) (hB : B ≤ w.heap.size) (hl : l.length + x.length ≤ 1000000000) : call w (fun r w' => ∃ s' : Sl, r = slv s' ∧ OwnB w' B s' (l ++ x) ∧ Kp (blkOf s) w w' ∧ ∀ y ∈ blkOf s', y ∈ blkOf s ∨ w.heap.size ≤ y) noP := h w B l ho hB hl
-- operations
def okOp (o : S.api_Op) : Prop := in64 o.Kind ∧ in64 o.A ∧ in64 o.B
def bOp (o : S.api_Op) : Bs := putN o.Kind ++ putN o.A ++ putN o.B
def pOp (l : Bs) : Option (S.api_Op × Bs) := (num l).bind fun a => (num a.2).bind fun b => (num b.2).bind fun c => some (⟨a.1, b.1, c.1⟩, c.2)
theorem bOp_len (o : S.api_Op) : (bOp o).length ≤ 30 := by
  have h1 := putN_len o.Kind; have h2 := putN_len o.A; have h3 := putN_len o.B
  unfold bOp
  simp only [List.length_append]
  omega
theorem p_bOp {o : S.api_Op} (h : okOp o) (r : Bs) : pOp (bOp o ++ r) = some (o, r) := by
  unfold pOp bOp
  simp only [List.append_assoc]
  rw [num_put h.1]
  simp only [Option.bind_some]
  rw [num_put h.2.1]
  simp only [Option.bind_some]
  rw [num_put h.2.2]
  rfl
theorem p_inv {l r : Bs} {o : S.api_Op} (h : pOp l = some (o, r)) : okOp o ∧ l = bOp o ++ r := by
  unfold pOp at h
  cases h1 : num l with
  | none => rw [h1] at h; cases h
  | some a =>
    rw [h1] at h; simp only [Option.bind_some] at h
    cases h2 : num a.2 with
    | none => rw [h2] at h; cases h
    | some b =>
      rw [h2] at h; simp only [Option.bind_some] at h
      cases h3 : num b.2 with
      | none => rw [h3] at h; cases h
      | some c =>
        rw [h3] at h; simp only [Option.bind_some, Option.some.injEq, Prod.mk.injEq] at h
        obtain ⟨rfl, rfl⟩ := h
        obtain ⟨g1, e1⟩ := num_inv h1
        obtain ⟨g2, e2⟩ := num_inv h2
        obtain ⟨g3, e3⟩ := num_inv h3
        refine ⟨⟨g1, g2, g3⟩, ?_⟩
        unfold bOp
        rw [e1, e2, e3]
        simp
set_option maxHeartbeats 1000000 in
theorem PutOp_s (o : S.api_Op) (ho : okOp o) (w : World) : C.codec_PutOp o w (fun r w' => ∃ s : Sl, r = slv s ∧ OwnB w' w.heap.size s (bOp o) ∧ Kp [] w w') noP := codec_PutOp_of (by
  unfold W.codec_PutOp
  have l1 := (putN_len o.Kind).2
  have l2 := (putN_len o.A).2
  have l3 := (putN_len o.B).2
  intro b1 w2 hA w3 hD
  have s2 := hA.eq
  have s3 := hD.sz
  have hB : Blk w3 b1 [.int .i64 o.Kind, .int .i64 o.A, .int .i64 o.B] := hA.blk.keep hD.kp (by simp)
  refine ⟨_, ⟨rfl, hB.at rfl⟩, _, ⟨rfl, hB.at rfl⟩, _, ⟨rfl, hB.at rfl⟩, use ((number_a ⟨none, 0, 0⟩ o.Kind ho.1).two (B := w3.heap.size) (l := []) (Go.Eng.Own.nil _ _ _) (Nat.le_refl _) (by simp; omega)) ?_⟩
  rintro _ w7 ⟨p8, rfl, o8, k7, b8⟩
  replace k7 : Kp [] w3 w7 := k7
  have hB7 := hB.keep k7 (by simp)
  have n8 : b1 ∉ blkOf p8 := fun h => by have := o8.lo _ h; omega
  refine ⟨p8, rfl, hB7.at rfl, hB7.at rfl, use ((number_a p8 o.A ho.2.1).two o8 k7.size (by simp; omega)) ?_⟩
  rintro _ w10 ⟨p11, rfl, o11, k10, b11⟩
  have hB10 := hB7.keep k10 n8
  refine ⟨p11, rfl, hB10.at rfl, use ((number_a p11 o.B ho.2.2).two o11 (Nat.le_trans k7.size k10.size) (by simp; omega)) ?_⟩
  rintro _ w13 ⟨p14, rfl, o14, k13, b14⟩
  have lo8 := o8.lo
  have lo11 := o11.lo
  exact ⟨p14, rfl, p14, rfl, by simpa [bOp] using o14.mono (show w.heap.size ≤ w3.heap.size by omega), (((hA.kp.then0 hD.kp).then0 k7).then k10 (fun y hy => .inr (by have := (lo8 y hy).1; omega))).then k13 (fun y hy => .inr (by have := (lo11 y hy).1; omega))⟩)
set_option maxHeartbeats 1000000 in
theorem rPutOp_s (o : S.api_Op) (ho : okOp o) (w : World) : C.skepref05_PutOp o w (fun r w' => ∃ s : Sl, r = slv s ∧ OwnB w' w.heap.size s (bOp o) ∧ Kp [] w w') noP := skepref05_PutOp_of (by
  unfold W.skepref05_PutOp
  have l1 := (putN_len o.Kind).2
  have l2 := (putN_len o.A).2
  have l3 := (putN_len o.B).2
  intro b1 w2 hA w3 hD
  have s2 := hA.eq
  have s3 := hD.sz
  have hB : Blk w3 b1 [.int .i64 o.Kind, .int .i64 o.A, .int .i64 o.B] := hA.blk.keep hD.kp (by simp)
  refine ⟨_, ⟨rfl, hB.at rfl⟩, _, ⟨rfl, hB.at rfl⟩, _, ⟨rfl, hB.at rfl⟩, use ((rnum_a ⟨none, 0, 0⟩ o.Kind ho.1).two (B := w3.heap.size) (l := []) (Go.Eng.Own.nil _ _ _) (Nat.le_refl _) (by simp; omega)) ?_⟩
  rintro _ w7 ⟨p8, rfl, o8, k7, b8⟩
  replace k7 : Kp [] w3 w7 := k7
  have hB7 := hB.keep k7 (by simp)
  have n8 : b1 ∉ blkOf p8 := fun h => by have := o8.lo _ h; omega
  refine ⟨p8, rfl, hB7.at rfl, hB7.at rfl, use ((rnum_a p8 o.A ho.2.1).two o8 k7.size (by simp; omega)) ?_⟩
  rintro _ w10 ⟨p11, rfl, o11, k10, b11⟩
  have hB10 := hB7.keep k10 n8
  refine ⟨p11, rfl, hB10.at rfl, use ((rnum_a p11 o.B ho.2.2).two o11 (Nat.le_trans k7.size k10.size) (by simp; omega)) ?_⟩
  rintro _ w13 ⟨p14, rfl, o14, k13, b14⟩
  have lo8 := o8.lo
  have lo11 := o11.lo
  exact ⟨p14, rfl, p14, rfl, by simpa [bOp] using o14.mono (show w.heap.size ≤ w3.heap.size by omega), (((hA.kp.then0 hD.kp).then0 k7).then k10 (fun y hy => .inr (by have := (lo8 y hy).1; omega))).then k13 (fun y hy => .inr (by have := (lo11 y hy).1; omega))⟩)
set_option maxHeartbeats 1000000 in
theorem GetOp1_p (r : Nat) : Par pOp S.api_Op.v (fun w K KP => C.codec_GetOp_1 (some ⟨r, 0, none⟩) w K KP) r := fun w s l k h => codec_GetOp_1_of (by
  unfold W.codec_GetOp_1
  intro b1 w2 hA1 b3 w4 hA3
  have s2 := hA1.eq
  have s4 := hA3.eq
  have hr := h.b.lt
  have k4 : Kp [r] w w4 := (hA1.kp.then0 hA3.kp).up _
  refine use2 (reader_number_p r w4 s l k ((h.keep0 hA1.kp).keep0 hA3.kp)) ?_ (fun c w' ⟨h1, h2, h3⟩ => ⟨by unfold pOp; rw [h1]; rfl, h2, k4.then h3 (by simp)⟩)
  rintro _ w5 ⟨x1, k1, e1, rfl, h5, k5⟩
  refine ⟨x1, rfl, use2 (reader_number_p r w5 s l k1 h5) ?_ (fun c w' ⟨h1, h2, h3⟩ => ⟨by unfold pOp; rw [e1]; simp [h1], h2, (k4.then k5 (by simp)).then h3 (by simp)⟩)⟩
  rintro _ w8 ⟨x2, k2, e2, rfl, h8, k8⟩
  refine ⟨x2, rfl, use2 (reader_number_p r w8 s l k2 h8) ?_ (fun c w' ⟨h1, h2, h3⟩ => ⟨by unfold pOp; rw [e1]; simp [e2, h1], h2, ((k4.then k5 (by simp)).then k8 (by simp)).then h3 (by simp)⟩)⟩
  rintro _ w11 ⟨x3, k3, e3, rfl, h11, k11⟩
  have hlt : ∀ y ∈ blkOf s, y < w.heap.size ∨ s.len = 0 := fun y hy => by
    rcases Nat.eq_zero_or_pos s.len with e | e
    · exact .inr e
    · exact .inl (h.d.ltB (by omega) e y hy)
  have k411 : Kp [r] w4 w11 := (k5.then k8 (by simp)).then k11 (by simp)
  have q1 := (hA1.blk.keep hA3.kp (by simp)).keep k411 (by simp; omega)
  have q3 := hA3.blk.keep k411 (by simp; omega)
  refine ⟨x3, rfl, ⟨rfl, q3.can1 _ rfl (Nat.le_of_ble_eq_true rfl)⟩, fun w14 e14 => ?_⟩
  obtain ⟨q3, k14, _⟩ := q3.put1 (i := 0) rfl e14
  refine ⟨⟨rfl, q3.can1 _ rfl (Nat.le_of_ble_eq_true rfl)⟩, fun w15 e15 => ?_⟩
  obtain ⟨q3, k15, _⟩ := q3.put1 (i := 1) rfl e15
  refine ⟨⟨rfl, q3.can1 _ rfl (Nat.le_of_ble_eq_true rfl)⟩, fun w16 e16 => ?_⟩
  obtain ⟨q3, k16, _⟩ := q3.put1 (i := 2) rfl e16
  have kb : Kp [b3] w11 w16 := (k14.then k15 (by simp)).then k16 (by simp)
  have q1' := q1.keep kb (by simp; omega)
  refine ⟨⟨x1, x2, x3⟩, ⟨rfl, q3.rd0⟩, ⟨rfl, q1'.canN _ (Nat.le_refl _)⟩, fun w18 e18 => ?_⟩
  obtain ⟨g1, k18, _⟩ := q1'.putAll (vs := #[.int .i64 x1, .int .i64 x2, .int .i64 x3]) rfl e18
  have kz : Kp [b3, b1] w11 w18 := (kb.mono (by simp)).then k18 (by simp)
  have kw : Kp [] w w18 → True := fun _ => trivial
  refine ⟨⟨x1, x2, x3⟩, ⟨rfl, g1.rd0⟩, ⟨x1, x2, x3⟩, k3, by unfold pOp; rw [e1]; simp [e2, e3], rfl, ?_, (k4.then k411 (by simp)).then kz (by simp; omega)⟩
  refine ⟨h11.b.keep kz (by simp; omega), ?_, h.n, h11.le, h.sm⟩
  rcases Nat.eq_zero_or_pos s.len with e | e
  · exact ⟨h11.d.1, fun h0 => by omega⟩
  · exact Rds.keepL h11.d kz (fun y hy => by have := h.d.ltB (by omega) e y hy; simp; omega))
set_option maxHeartbeats 1000000 in
theorem readOp_s {w : World} {s : Sl} {l : Bs} (hd : RdB w s l) (hl : l.length ≤ 140737488355328) (hs : ∀ y ∈ blkOf s, y < w.heap.size) : C.codec_read_api_Op s (.func (.func 41) #[] #[]) w (fun r w' => Got pOp S.api_Op.v ⟨0, 0, 0⟩ l r ∧ Kp [] w w') noP := codec_read_api_Op_of (by
  unfold W.codec_read_api_Op
  intro b1 w2 hA1 b3 w4 hA3 b5 w6 hA5
  have s2 := hA1.eq
  have s4 := hA3.eq
  have s6 := hA5.eq
  have k6 : Kp [] w w6 := (hA1.kp.then0 hA3.kp).then0 hA5.kp
  have hsz := hd.bsize
  have hR : RdR w6 b5 s l 0 := ⟨hA5.blk, hd.keep0 k6, fun h => by have := hs _ h; omega, Nat.zero_le _, hl⟩
  have y1 := (hA1.blk.keep hA3.kp (by simp)).keep hA5.kp (by simp)
  have y3 := hA3.blk.keep hA5.kp (by simp)
  -- what was deferred, in a panic
  have bad : ∀ (w7 : World) (cs0 : List Value), Blk w7 b1 cs0 → cs0.length = 3 → Blk w7 b3 [.int .i64 0] → Kp [] w w7 → whole pOp l = none → xleave Try.prog [{ target := .fn (.func 103) #[.pointer (some ⟨b1, 0, none⟩), .pointer (some ⟨b3, 0, none⟩)], args := #[] }] (.panicking noneE) w7 (xendF (fun w14 => ∃ y15 : S.api_Op, (okVal true 3 (S.api_Op.v y15) = true ∧ Go.Eng.rd w14 ⟨b1, 0, none⟩ (S.api_Op.v y15)) ∧ ∃ y16 : Int, (okVal false 1 (.int .i64 y16) = true ∧ w14.cell? ⟨b3, 0, none⟩ = some (.int .i64 y16)) ∧ (Got pOp S.api_Op.v ⟨0, 0, 0⟩ l (.tuple #[S.api_Op.v y15, .int .i64 y16]) ∧ Kp [] w w14)) noP) := fun w7 cs0 c1 cl c3 k7 hw => by
    show bodied Try.prog _ = true ∧ _
    refine ⟨by kernel_rfl, CallsDIn.mono (catch_Op c1 cl c3 (by omega)) ?_⟩
    rintro e u' w8 ⟨rfl, rfl, g1, g2, g3⟩
    refine ⟨by simp [settle], ?_⟩
    exact ⟨⟨0, 0, 0⟩, ⟨rfl, g1.rd0⟩, _, ⟨rfl, g2.at rfl⟩, .inr ⟨hw, rfl⟩, k7.then g3 (by simp; omega)⟩
  refine callV_mono2 rfl (by kernel_rfl) (GetOp1_p b5 w6 s l 0 hR) ?_ ?_
  · rintro _ w7 ⟨x, k', e, rfl, h7, k7⟩
    rw [List.drop_zero] at e
    have hw := whole_at e h7.le
    have c1 := y1.keep k7 (by simp; omega)
    have c3 := y3.keep k7 (by simp; omega)
    have kk7 : Kp [] w w7 := k6.then k7 (by simp; omega)
    refine ⟨x, rfl, ⟨rfl, c1.canN _ (Nat.le_refl _)⟩, fun w10 e10 => ?_⟩
    obtain ⟨g1, k10, _⟩ := c1.putAll (vs := #[.int .i64 x.Kind, .int .i64 x.A, .int .i64 x.B]) rfl e10
    have g3 := c3.keep k10 (by simp; omega)
    have g5 := h7.b.keep k10 (by simp; omega)
    have kk10 : Kp [] w w10 := kk7.then k10 (by simp; omega)
    refine ⟨_, ⟨rfl, g5.at rfl⟩, ?_⟩
    by_cases hk : k' = l.length
    · rw [if_pos hk] at hw
      refine cond_f (bne_f (by omega)) ⟨x, ⟨rfl, g1.rd0⟩, ⟨rfl, g1.canN _ (Nat.le_refl _)⟩, fun w18 e18 => ?_⟩
      obtain ⟨j1, k18, _⟩ := g1.putAll (vs := #[.int .i64 x.Kind, .int .i64 x.A, .int .i64 x.B]) rfl e18
      have j3 := g3.keep k18 (by simp; omega)
      refine ⟨⟨rfl, j3.can1 _ rfl (Nat.le_of_ble_eq_true rfl)⟩, fun w19 e19 => ?_⟩
      obtain ⟨m3, k19, _⟩ := j3.put1 (i := 0) rfl e19
      have m1 := j1.keep k19 (by simp; omega)
      show bodied Try.prog _ = true ∧ _
      refine ⟨by kernel_rfl, CallsDIn.mono idle_Op ?_⟩
      rintro e u' w20 ⟨rfl, rfl, rfl⟩
      refine ⟨by simp [settle], ?_⟩
      exact ⟨x, ⟨rfl, m1.rd0⟩, _, ⟨rfl, m3.at rfl⟩, .inl ⟨x, hw, rfl⟩, (kk10.then k18 (by simp; omega)).then k19 (by simp; omega)⟩
    · rw [if_neg hk] at hw
      exact cond_t (bne_t (by omega)) (bad w10 _ g1 rfl g3 kk10 hw)
  · rintro c w7 ⟨e, rfl, k7⟩
    rw [List.drop_zero] at e
    exact bad w7 _ (y1.keep k7 (by simp; omega)) rfl (y3.keep k7 (by simp; omega)) (k6.then k7 (by simp; omega)) (whole_none e))
theorem GetOp_s {w : World} {s : Sl} {l : Bs} (hd : RdB w s l) (hl : l.length ≤ 140737488355328) (hs : ∀ y ∈ blkOf s, y < w.heap.size) : C.codec_GetOp s w (fun r w' => Got pOp S.api_Op.v ⟨0, 0, 0⟩ l r ∧ Kp [] w w') noP := codec_GetOp_of (by
  unfold W.codec_GetOp
  intro b1 w2 hA
  have s2 := hA.eq
  refine use (readOp_s (hd.keep0 hA.kp) hl (fun y hy => by have := hs y hy; omega)) ?_
  rintro r w3 ⟨hG, k3⟩
  have c1 := hA.blk.keep k3 (by simp)
  have go : ∀ (o : S.api_Op) (e : Int), r = .tuple #[S.api_Op.v o, .int .i64 e] → ∃ p4 : S.api_Op × Int, r = .tuple #[S.api_Op.v p4.1, .int .i64 p4.2] ∧ (okVal true 3 (S.api_Op.v p4.1) = true ∧ canPut w3 ⟨b1, 0, none⟩ (S.api_Op.v p4.1)) ∧ ∀ w6 : World, w6 = putAt w3 ⟨b1, 0, none⟩ (S.api_Op.v p4.1) → ∃ y7 : S.api_Op, (okVal true 3 (S.api_Op.v y7) = true ∧ Go.Eng.rd w6 ⟨b1, 0, none⟩ (S.api_Op.v y7)) ∧ (Got pOp S.api_Op.v ⟨0, 0, 0⟩ l (.tuple #[S.api_Op.v y7, .int .i64 p4.2]) ∧ Kp [] w w6) := fun o e he => by
    refine ⟨(o, e), he, ⟨rfl, c1.canN _ (Nat.le_refl _)⟩, fun w6 e6 => ?_⟩
    obtain ⟨g1, k6, _⟩ := c1.putAll (vs := #[.int .i64 o.Kind, .int .i64 o.A, .int .i64 o.B]) rfl e6
    exact ⟨o, ⟨rfl, g1.rd0⟩, he ▸ hG, (hA.kp.then0 k3).then k6 (by simp; omega)⟩
  rcases hG with ⟨o, h1, h2⟩ | ⟨h1, h2⟩
  · exact go o 0 h2
  · exact go _ 4 h2)
end Go.Proofs.Ytocbjadhcfjfiaa
