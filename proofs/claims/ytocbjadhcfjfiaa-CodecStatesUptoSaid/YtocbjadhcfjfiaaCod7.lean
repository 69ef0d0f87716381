/- Cells, poses, moves, telegrams: their bytes, what is read. Printed by gen_tele2.py. No conditions. -/
import Derived.Test.YtocbjadhcfjfiaaCod5
import Derived.Test.YtocbjadhcfjfiaaV1
namespace Go.Proofs.Ytocbjadhcfjfiaa
open Go.RowKit Go.Eng
set_option linter.unusedVariables false
def nx {α β : Type} (p : Bs → Option (α × Bs)) (q : Bs → Option (β × Bs)) : Bs → Option ((α × β) × Bs) := fun l => (p l).bind fun a => (q a.2).bind fun b => some ((a.1, b.1), b.2)
def mp {α β : Type} (f : α → β) (p : Bs → Option (α × Bs)) : Bs → Option (β × Bs) := fun l => (p l).map fun a => (f a.1, a.2)
/-- Bytes and their reading fit. -/
structure Cod {α : Type} (p : Bs → Option (α × Bs)) (b : α → Bs) (ok : α → Prop) : Prop where
  put : ∀ x, ok x → ∀ r, p (b x ++ r) = some (x, r)
  inv : ∀ l x r, p l = some (x, r) → ok x ∧ l = b x ++ r
theorem Cod.nx {α β : Type} {p : Bs → Option (α × Bs)} {b : α → Bs} {ok : α → Prop} {q : Bs → Option (β × Bs)} {c : β → Bs} {ok' : β → Prop} (h : Cod p b ok) (k : Cod q c ok') : Cod (nx p q) (fun x => b x.1 ++ c x.2) (fun x => ok x.1 ∧ ok' x.2) := by
  refine ⟨fun x hx r => ?_, fun l x r hp => ?_⟩
  · unfold Go.Proofs.Ytocbjadhcfjfiaa.nx
    rw [List.append_assoc, h.put _ hx.1, Option.bind_some, k.put _ hx.2]
    rfl
  · unfold Go.Proofs.Ytocbjadhcfjfiaa.nx at hp
    rw [Option.bind_eq_some_iff] at hp
    obtain ⟨a, h1, hp⟩ := hp
    rw [Option.bind_eq_some_iff] at hp
    obtain ⟨d, h2, hp⟩ := hp
    injection hp with hp
    injection hp with e1 e2
    subst e1 e2
    obtain ⟨g1, g2⟩ := h.inv _ a.1 a.2 h1
    obtain ⟨g3, g4⟩ := k.inv _ d.1 d.2 h2
    exact ⟨⟨g1, g3⟩, by rw [g2, g4, List.append_assoc]⟩
theorem Cod.mp {α β : Type} {p : Bs → Option (α × Bs)} {b : α → Bs} {ok : α → Prop} (h : Cod p b ok) (f : α → β) (g : β → α) (h1 : ∀ y, f (g y) = y) (h2 : ∀ x, g (f x) = x) : Cod (mp f p) (fun y => b (g y)) (fun y => ok (g y)) := by
  refine ⟨fun y hy r => ?_, fun l y r hp => ?_⟩
  · unfold Go.Proofs.Ytocbjadhcfjfiaa.mp
    rw [h.put _ hy]
    simp [h1]
  · unfold Go.Proofs.Ytocbjadhcfjfiaa.mp at hp
    rw [Option.map_eq_some_iff] at hp
    obtain ⟨a, e1, e2⟩ := hp
    injection e2 with e2 e3
    subst e2 e3
    rw [h2]
    exact h.inv _ a.1 a.2 e1
theorem num_cod : Cod num putN in64 := ⟨fun v hv r => num_put hv r, fun l v r h => num_inv h⟩
def flagP : Bs → Option (Bool × Bs)
  | [] => none
  | x :: r => if 1 < x.toNat then none else some (x.toNat == 1, r)
def putF (b : Bool) : Bs := [if b then 1 else 0]
theorem flag_cod : Cod flagP putF (fun _ => True) := by
  refine ⟨fun b _ r => by cases b <;> rfl, fun l b r h => ?_⟩
  cases l with
  | nil => cases h
  | cons x l =>
    simp only [flagP] at h
    split at h
    · cases h
    · rename_i hx
      injection h with h
      injection h with e1 e2
      subst e1 e2
      refine ⟨trivial, ?_⟩
      have : x.toNat = 0 ∨ x.toNat = 1 := by omega
      rcases this with e | e
      · have : x = 0 := UInt8.toNat.inj e
        subst this; rfl
      · have : x = 1 := UInt8.toNat.inj e
        subst this; rfl
def fCell (x : Int × Int) : S.api_Cell := ⟨x.1, x.2⟩
def gCell (c : S.api_Cell) : Int × Int := (c.X, c.Y)
def pCell := mp fCell (nx num num)
def bCell (c : S.api_Cell) : Bs := putN c.X ++ putN c.Y
def okCell (c : S.api_Cell) : Prop := in64 c.X ∧ in64 c.Y
theorem cell_cod : Cod pCell bCell okCell := (num_cod.nx num_cod).mp fCell gCell (fun _ => rfl) (fun _ => rfl)
def fPose (x : S.api_Cell × Bool) : S.api_Pose := ⟨x.1, x.2⟩
def gPose (c : S.api_Pose) : S.api_Cell × Bool := (c.At, c.Down)
def pPose := mp fPose (nx pCell flagP)
def bPose (c : S.api_Pose) : Bs := bCell c.At ++ putF c.Down
def okPose (c : S.api_Pose) : Prop := okCell c.At ∧ True
theorem pose_cod : Cod pPose bPose okPose := (cell_cod.nx flag_cod).mp fPose gPose (fun _ => rfl) (fun _ => rfl)
def fMove (x : (((((Int × Int) × Int) × S.api_Pose) × S.api_Pose) × Int) × Int) : S.api_Move := ⟨x.1.1.1.1.1.1, x.1.1.1.1.1.2, x.1.1.1.1.2, x.1.1.1.2, x.1.1.2, x.1.2, x.2⟩
def gMove (m : S.api_Move) : (((((Int × Int) × Int) × S.api_Pose) × S.api_Pose) × Int) × Int := ((((((m.Kind, m.Dir), m.N), m.From), m.To), m.At), m.End)
def pMove := mp fMove (nx (nx (nx (nx (nx (nx num num) num) pPose) pPose) num) num)
def bMove (m : S.api_Move) : Bs := putN m.Kind ++ putN m.Dir ++ putN m.N ++ bPose m.From ++ bPose m.To ++ putN m.At ++ putN m.End
def okMove (m : S.api_Move) : Prop := (((((in64 m.Kind ∧ in64 m.Dir) ∧ in64 m.N) ∧ okPose m.From) ∧ okPose m.To) ∧ in64 m.At) ∧ in64 m.End
theorem move_cod : Cod pMove bMove okMove := ((((((num_cod.nx num_cod).nx num_cod).nx pose_cod).nx pose_cod).nx num_cod).nx num_cod).mp fMove gMove (fun _ => rfl) (fun _ => rfl)
def fTele (x : (((((Int × Int) × Int) × Int) × S.api_Move) × S.api_Pose) × Int) : S.api_Tele := ⟨x.1.1.1.1.1.1, x.1.1.1.1.1.2, x.1.1.1.1.2, x.1.1.1.2, x.1.1.2, x.1.2, x.2⟩
def gTele (m : S.api_Tele) : (((((Int × Int) × Int) × Int) × S.api_Move) × S.api_Pose) × Int := ((((((m.Kind, m.Robot), m.Epoch), m.Num), m.Move), m.Pose), m.Load)
def pTele := mp fTele (nx (nx (nx (nx (nx (nx num num) num) num) pMove) pPose) num)
def bTele (m : S.api_Tele) : Bs := putN m.Kind ++ putN m.Robot ++ putN m.Epoch ++ putN m.Num ++ bMove m.Move ++ bPose m.Pose ++ putN m.Load
def okTele (m : S.api_Tele) : Prop := (((((in64 m.Kind ∧ in64 m.Robot) ∧ in64 m.Epoch) ∧ in64 m.Num) ∧ okMove m.Move) ∧ okPose m.Pose) ∧ in64 m.Load
theorem tele_cod : Cod pTele bTele okTele := ((((((num_cod.nx num_cod).nx num_cod).nx num_cod).nx move_cod).nx pose_cod).nx num_cod).mp fTele gTele (fun _ => rfl) (fun _ => rfl)
theorem bPose_len (c : S.api_Pose) : (bPose c).length ≤ 30 := by
  have h1 := (putN_len c.At.X).2; have h2 := (putN_len c.At.Y).2
  simp only [bPose, bCell, putF, List.length_append, List.length_cons, List.length_nil]
  omega
theorem bMove_len (m : S.api_Move) : (bMove m).length ≤ 120 := by
  have h1 := (putN_len m.Kind).2; have h2 := (putN_len m.Dir).2; have h3 := (putN_len m.N).2; have h4 := (putN_len m.At).2; have h5 := (putN_len m.End).2; have h6 := bPose_len m.From; have h7 := bPose_len m.To
  simp only [bMove, List.length_append]
  omega
theorem bTele_len (m : S.api_Tele) : (bTele m).length ≤ 300 := by
  have h1 := (putN_len m.Kind).2; have h2 := (putN_len m.Robot).2; have h3 := (putN_len m.Epoch).2; have h4 := (putN_len m.Num).2; have h5 := (putN_len m.Load).2; have h6 := bPose_len m.Pose; have h7 := bMove_len m.Move
  simp only [bTele, List.length_append]
  omega
theorem Res.nx {α β : Type} {p : Bs → Option (α × Bs)} {q : Bs → Option (β × Bs)} {l : Bs} {st st1 st2 : Option Nat} {x : α} {y : β} (h : Res p l st x st1) (k : Res q l st1 y st2) : Res (nx p q) l st (x, y) st2 := h.next k
theorem Res.mp {α β : Type} {p : Bs → Option (α × Bs)} {l : Bs} {st st1 : Option Nat} {x : α} (f : α → β) (h : Res p l st x st1) : Res (mp f p) l st (f x) st1 := h.map f (fun _ => rfl)
/-- Bytes that grow. -/
structure Acc (w : World) (B : Nat) (s : Sl) (w' : World) (s' : Sl) (l' : Bs) : Prop where
  own : OwnB w' B s' l'
  kp : Kp (blkOf s) w w'
  hb : ∀ y ∈ blkOf s', y ∈ blkOf s ∨ w.heap.size ≤ y
theorem Acc.start {w : World} {B : Nat} {s : Sl} {l : Bs} (h : OwnB w B s l) : Acc w B s w s l := ⟨h, Kp.refl _ _, fun y hy => .inl hy⟩
theorem Acc.keep0 {w w' w'' : World} {B : Nat} {s s' : Sl} {l' : Bs} (h : Acc w B s w' s' l') (k : Kp [] w' w'') : Acc w B s w'' s' l' := ⟨h.own.keep0 k, h.kp.then0 k, h.hb⟩
theorem Acc.ne {w w' : World} {B b : Nat} {s s' : Sl} {l' : Bs} (h : Acc w B s w' s' l') (h1 : b < w.heap.size) (h2 : b ∉ blkOf s) : b ∉ blkOf s' := fun hm => by
  rcases h.hb b hm with e | e
  · exact h2 e
  · omega
theorem Acc.apd {w w' : World} {B : Nat} {s s' : Sl} {l' x : Bs} {call : World → (Value → World → Prop) → (List PanicEntry → World → Prop) → Prop} (h : Acc w B s w' s' l') (a : Apd call s' x) (hB : B ≤ w.heap.size) (hl : l'.length + x.length ≤ 1000000000) :
    call w' (fun r w'' => ∃ s'' : Sl, r = slv s'' ∧ OwnB w'' B s'' (l' ++ x) ∧ Kp (blkOf s') w' w'' ∧ ∀ y ∈ blkOf s'', y ∈ blkOf s' ∨ w'.heap.size ≤ y) noP := a w' B l' h.own (Nat.le_trans hB h.kp.size) hl
theorem Acc.more {w w' w'' : World} {B : Nat} {s s' s'' : Sl} {l' l'' : Bs} (h : Acc w B s w' s' l') (o : OwnB w'' B s'' l'') (k : Kp (blkOf s') w' w'') (hb : ∀ y ∈ blkOf s'', y ∈ blkOf s' ∨ w'.heap.size ≤ y) : Acc w B s w'' s'' l'' :=
  ⟨o, h.kp.then k (fun y hy => h.hb y hy), fun y hy => by
    have := h.kp.size
    rcases hb y hy with e | e
    · exact h.hb y e
    · exact .inr (by omega)⟩
theorem Acc.fin {w0 w w' : World} {B : Nat} {s s' : Sl} {l' l : Bs} (h : Acc w B s w' s' l') (k : Kp [] w0 w) (e : l' = l) : OwnB w' B s' l ∧ Kp (blkOf s) w0 w' ∧ ∀ y ∈ blkOf s', y ∈ blkOf s ∨ w0.heap.size ≤ y :=
  ⟨e ▸ h.own, (k.up _).then h.kp (fun y hy => .inl hy), fun y hy => by
    have := k.size
    rcases h.hb y hy with e | e
    · exact .inl e
    · exact .inr (by omega)⟩
theorem pre2 {x y z v : Value} {i : Nat} (h : ([x, y] : List Value)[i]? = some v) : ([x, y, z] : List Value)[i]? = some v := by
  match i, h with
  | 0, h => exact h
  | 1, h => exact h
  | i + 2, h => cases h

theorem flag_a (s : Sl) (v : Bool) : Apd (fun w K KP => C.codec_flag s v w K KP) s (putF v) := fun w B l ho hB hl => codec_flag_of (by
  unfold W.codec_flag
  have go : ∀ (b : Nat) (w2 : World) (c : UInt8), Alloc w b 5 [.int .u8 c.toNat] w2 → ∃ (q3 : Option Addr) (n4 c5 : Nat) (w6 : World), (Builtin.append_ #[22, 22] 22 #[slv s, .slice (some ⟨b, 0, none⟩) 1 1]).run Try.prog w2 = .ok (.slice q3 n4 c5) w6 ∧ ∃ s' : Sl, (.slice q3 n4 c5 : Value) = slv s' ∧ OwnB w6 B s' (l ++ [c]) ∧ Kp (blkOf s) w w6 ∧ ∀ y ∈ blkOf s', y ∈ blkOf s ∨ w.heap.size ≤ y := fun b w2 c hA => by
    have s2 := hA.eq
    have hx : RdB w2 ⟨some ⟨b, 0, none⟩, 1, 1⟩ [c] := ⟨rfl, fun _ => ⟨_, rfl, hA.blk.has 0 _ (fun i w hi => by rw [Nat.zero_add]; exact hi)⟩⟩
    obtain ⟨q, n, cc, w6, hrun, hn, ho6, k6, hq⟩ := app_bytes (ty := 22) Try.underlying22 byte_inf (ho.keep0 hA.kp) hx (by omega) (by simp; omega)
    refine ⟨q, n, cc, w6, hrun, ⟨q, n, cc⟩, rfl, ho6, (hA.kp.up _).then k6 (fun y hy => .inl hy), fun y hy => ?_⟩
    rcases hq with e | ⟨hf', _⟩
    · have : y ∈ blkOf s := by unfold blkOf at hy ⊢; rw [e] at hy; exact hy
      exact .inl this
    · have := hf' y hy; exact .inr (by omega)
  cases v
  · exact cond_f rfl (fun b w2 hA => go b w2 0 hA)
  · exact cond_t rfl (fun b w2 hA => go b w2 1 hA))
theorem cell_a (s : Sl) (c : S.api_Cell) (hc : okCell c) : Apd (fun w K KP => C.codec_cell s c w K KP) s (bCell c) := fun w B l ho hB hl => codec_cell_of (by
  unfold W.codec_cell
  intro b1 w2 hA w3 hD
  have s2 := hA.eq
  have s3 := hD.sz
  have k3 := hA.kp.then0 hD.kp
  have n1 : b1 ∉ blkOf s := fun h => by have := ho.lo _ h; omega
  have hB1 : Blk w3 b1 [.int .i64 c.X, .int .i64 c.Y] := hA.blk.keep hD.kp (by simp)
  have a0 := Acc.start (ho.keep0 k3)
  refine ⟨_, ⟨rfl, hB1.at rfl⟩, _, ⟨rfl, hB1.at rfl⟩, use (a0.apd (number_a s c.X hc.1) (by omega) (by simp only [bCell, List.length_append] at hl; omega)) ?_⟩
  rintro _ w6 ⟨p7, rfl, o7, k7, b7⟩
  have a1 := a0.more o7 k7 b7
  refine ⟨p7, rfl, (hB1.keep k7 n1).at rfl, use (a1.apd (number_a p7 c.Y hc.2) (by omega) (by simp only [bCell, List.length_append] at hl ⊢; omega)) ?_⟩
  rintro _ w9 ⟨p10, rfl, o10, k10, b10⟩
  exact ⟨p10, rfl, p10, rfl, (a1.more o10 k10 b10).fin k3 (by simp [bCell])⟩)
theorem pose_a (s : Sl) (c : S.api_Pose) (hc : okPose c) : Apd (fun w K KP => C.codec_pose s c w K KP) s (bPose c) := fun w B l ho hB hl => codec_pose_of (by
  unfold W.codec_pose
  intro b1 w2 hA w3 hD
  have s2 := hA.eq
  have s3 := hD.sz
  have k3 := hA.kp.then0 hD.kp
  have n1 : b1 ∉ blkOf s := fun h => by have := ho.lo _ h; omega
  have hB1 : Blk w3 b1 [.int .i64 c.At.X, .int .i64 c.At.Y, .bool c.Down] := hA.blk.keep hD.kp (by simp)
  have a0 := Acc.start (ho.keep0 k3)
  refine ⟨c.At, ⟨rfl, hB1.rd 0 #[.int .i64 c.At.X, .int .i64 c.At.Y] (fun i v hi => by rw [Nat.zero_add]; exact pre2 hi)⟩, _, ⟨rfl, hB1.at rfl⟩, use (a0.apd (cell_a s c.At hc.1) (by omega) (by simp only [bPose, List.length_append] at hl; omega)) ?_⟩
  rintro _ w6 ⟨p7, rfl, o7, k7, b7⟩
  have a1 := a0.more o7 k7 b7
  refine ⟨p7, rfl, (hB1.keep k7 n1).at rfl, use (a1.apd (flag_a p7 c.Down) (by omega) (by simp only [bPose, List.length_append] at hl ⊢; omega)) ?_⟩
  rintro _ w9 ⟨p10, rfl, o10, k10, b10⟩
  exact ⟨p10, rfl, p10, rfl, (a1.more o10 k10 b10).fin k3 (by simp [bPose])⟩)

theorem rflag_a (s : Sl) (v : Bool) : Apd (fun w K KP => C.skepref05_flag s v w K KP) s (putF v) := fun w B l ho hB hl => skepref05_flag_of (by
  unfold W.skepref05_flag
  have go : ∀ (b : Nat) (w2 : World) (c : UInt8), Alloc w b 5 [.int .u8 c.toNat] w2 → ∃ (q3 : Option Addr) (n4 c5 : Nat) (w6 : World), (Builtin.append_ #[22, 22] 22 #[slv s, .slice (some ⟨b, 0, none⟩) 1 1]).run Try.prog w2 = .ok (.slice q3 n4 c5) w6 ∧ ∃ s' : Sl, (.slice q3 n4 c5 : Value) = slv s' ∧ OwnB w6 B s' (l ++ [c]) ∧ Kp (blkOf s) w w6 ∧ ∀ y ∈ blkOf s', y ∈ blkOf s ∨ w.heap.size ≤ y := fun b w2 c hA => by
    have s2 := hA.eq
    have hx : RdB w2 ⟨some ⟨b, 0, none⟩, 1, 1⟩ [c] := ⟨rfl, fun _ => ⟨_, rfl, hA.blk.has 0 _ (fun i w hi => by rw [Nat.zero_add]; exact hi)⟩⟩
    obtain ⟨q, n, cc, w6, hrun, hn, ho6, k6, hq⟩ := app_bytes (ty := 22) Try.underlying22 byte_inf (ho.keep0 hA.kp) hx (by omega) (by simp; omega)
    refine ⟨q, n, cc, w6, hrun, ⟨q, n, cc⟩, rfl, ho6, (hA.kp.up _).then k6 (fun y hy => .inl hy), fun y hy => ?_⟩
    rcases hq with e | ⟨hf', _⟩
    · have : y ∈ blkOf s := by unfold blkOf at hy ⊢; rw [e] at hy; exact hy
      exact .inl this
    · have := hf' y hy; exact .inr (by omega)
  cases v
  · exact cond_f rfl (fun b w2 hA => go b w2 0 hA)
  · exact cond_t rfl (fun b w2 hA => go b w2 1 hA))
theorem rcell_a (s : Sl) (c : S.api_Cell) (hc : okCell c) : Apd (fun w K KP => C.skepref05_cell s c w K KP) s (bCell c) := fun w B l ho hB hl => skepref05_cell_of (by
  unfold W.skepref05_cell
  intro b1 w2 hA w3 hD
  have s2 := hA.eq
  have s3 := hD.sz
  have k3 := hA.kp.then0 hD.kp
  have n1 : b1 ∉ blkOf s := fun h => by have := ho.lo _ h; omega
  have hB1 : Blk w3 b1 [.int .i64 c.X, .int .i64 c.Y] := hA.blk.keep hD.kp (by simp)
  have a0 := Acc.start (ho.keep0 k3)
  refine ⟨_, ⟨rfl, hB1.at rfl⟩, _, ⟨rfl, hB1.at rfl⟩, use (a0.apd (rnum_a s c.X hc.1) (by omega) (by simp only [bCell, List.length_append] at hl; omega)) ?_⟩
  rintro _ w6 ⟨p7, rfl, o7, k7, b7⟩
  have a1 := a0.more o7 k7 b7
  refine ⟨p7, rfl, (hB1.keep k7 n1).at rfl, use (a1.apd (rnum_a p7 c.Y hc.2) (by omega) (by simp only [bCell, List.length_append] at hl ⊢; omega)) ?_⟩
  rintro _ w9 ⟨p10, rfl, o10, k10, b10⟩
  exact ⟨p10, rfl, p10, rfl, (a1.more o10 k10 b10).fin k3 (by simp [bCell])⟩)
theorem rpose_a (s : Sl) (c : S.api_Pose) (hc : okPose c) : Apd (fun w K KP => C.skepref05_pose s c w K KP) s (bPose c) := fun w B l ho hB hl => skepref05_pose_of (by
  unfold W.skepref05_pose
  intro b1 w2 hA w3 hD
  have s2 := hA.eq
  have s3 := hD.sz
  have k3 := hA.kp.then0 hD.kp
  have n1 : b1 ∉ blkOf s := fun h => by have := ho.lo _ h; omega
  have hB1 : Blk w3 b1 [.int .i64 c.At.X, .int .i64 c.At.Y, .bool c.Down] := hA.blk.keep hD.kp (by simp)
  have a0 := Acc.start (ho.keep0 k3)
  refine ⟨c.At, ⟨rfl, hB1.rd 0 #[.int .i64 c.At.X, .int .i64 c.At.Y] (fun i v hi => by rw [Nat.zero_add]; exact pre2 hi)⟩, _, ⟨rfl, hB1.at rfl⟩, use (a0.apd (rcell_a s c.At hc.1) (by omega) (by simp only [bPose, List.length_append] at hl; omega)) ?_⟩
  rintro _ w6 ⟨p7, rfl, o7, k7, b7⟩
  have a1 := a0.more o7 k7 b7
  refine ⟨p7, rfl, (hB1.keep k7 n1).at rfl, use (a1.apd (rflag_a p7 c.Down) (by omega) (by simp only [bPose, List.length_append] at hl ⊢; omega)) ?_⟩
  rintro _ w9 ⟨p10, rfl, o10, k10, b10⟩
  exact ⟨p10, rfl, p10, rfl, (a1.more o10 k10 b10).fin k3 (by simp [bPose])⟩)
end Go.Proofs.Ytocbjadhcfjfiaa
