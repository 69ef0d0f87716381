/- The log's contracts. No conditions. -/
import Derived.Test.YtfgepillnemolaaDg
import Derived.Test.YtfgepillnemolaaWal1
import Derived.Test.YtfgepillnemolaaLs
import Derived.RangeFuncBound
namespace Go.Proofs.Ytfgepillnemolaa
open Go.RowKit Go.Eng
set_option linter.unusedVariables false
theorem sl_inf : (Try.prog.info? 27).map (fun i => (i.zero, i.size, i.bytes)) = some (some (.slice none 0 0), 1, 24) := by kernel_rfl
def tagL (L : List Bs) : List (Int × Bs) := L.map fun b => (0, b)
theorem tagL_len (L : List Bs) : (tagL L).length = L.length := by simp [tagL]
theorem tagL_app (a b : List Bs) : tagL (a ++ b) = tagL a ++ tagL b := by simp [tagL]
theorem tagL_rl {w : World} {lo : Nat} {El : Nat → Prop} {s : Sl} {L : List Bs} (h : LS w lo 1 cf1 El s (tagL L)) : RL w s L := by
  have := h.rl
  have e : (tagL L).map (·.2) = L := by simp [tagL, Function.comp_def]
  rwa [e] at this
theorem callV_mono {P : Program} {f : Value} {args : List Value} {w : World} {K K' : Value → World → Prop} {KP : List PanicEntry → World → Prop} (h : callV P f args w (Ret K fun _ _ => False)) (k : ∀ v w', K v w' → K' v w') : callV P f args w (Ret K' KP) := by
  unfold callV at h ⊢
  split at h
  · exact ⟨h.1, use h.2 k⟩
  · exact YieldAt.mono h (fun e w he => by cases e <;> first | exact k _ _ he | exact he.elim)
  · exact h.elim
/-- A log in memory. -/
def LogIs (w : World) (lg d : Nat) (f : Int) : Prop := Blk w lg [.pointer (PD d), .int .i64 f]
theorem LogIs.kg {w w' : World} {lg d : Nat} {f : Int} {G : Nat → Prop} (h : LogIs w lg d f) (k : KG G w w') (hg : G lg) : LogIs w' lg d f := Blk.keepF h k (fun h => h hg)
theorem LogIs.keep {w w' : World} {lg d : Nat} {f : Int} (h : LogIs w lg d f) (k : Kp [] w w') : LogIs w' lg d f := Blk.keep h k (by simp)
theorem LogIs.keep2 {w w' : World} {lg d : Nat} {f : Int} {l : List Nat} (h : LogIs w lg d f) (k : Kp l w w') (hn : lg ∉ l) : LogIs w' lg d f := Blk.keep h k hn
theorem LogIs.c0 {w : World} {lg d : Nat} {f : Int} (h : LogIs w lg d f) : w.cell? ⟨lg, 0, none⟩ = some (.pointer (PD d)) := Blk.at h rfl
theorem LogIs.c1 {w : World} {lg d : Nat} {f : Int} (h : LogIs w lg d f) : w.cell? (Addr.add ⟨lg, 0, none⟩ 1) = some (.int .i64 f) := Blk.at h rfl
instance (s : Bs) : Decidable (okR s) := by unfold okR; infer_instance
def logE (m : Nat → Fm) (f : Int) (s : Bs) : Int := if okR s then appEf m f (recB s) else 1
def logM (m : Nat → Fm) (f : Int) (s : Bs) : Nat → Fm := if okR s then appMf m f (recB s) else m
abbrev uK (m : Nat → Fm) : Prop := ∀ i, i < 2 → unitsL (m i).pend ≤ 1000000000
set_option maxHeartbeats 1000000 in
theorem LAppend_g {w0 w : World} {G : Nat → Prop} {lg d : Nat} {m : Nat → Fm} {f : Int} (h : DG w0 w G d m) (hl : LogIs w lg d f) (hg : G lg) {p : Sl} {s : Bs} (hp : RdB w p s) (hu : uK m) :
    C.wal_Log_Append (PD lg) p w (fun v w' => v = .int .i64 (logE m f s) ∧ DG w0 w' G d (logM m f s) ∧ KG G w w') noP := wal_Log_Append_of (by
  unfold W.wal_Log_Append
  have hpl := hp.bsize
  have bad : ¬ okR s → Value.int .i64 1 = .int .i64 (logE m f s) ∧ DG w0 w G d (logM m f s) ∧ KG G w w := fun hn => by
    unfold logE logM
    rw [if_neg hn, if_neg hn]
    exact ⟨rfl, h, KpF.refl _ _⟩
  refine cond_f rfl ⟨PD d, ⟨rfl, hl.c0⟩, cond_f rfl (cond_i (fun h1 => bad (fun hk => by have := of_decide_eq_true h1; have := hk.1; omega)) (fun h1 => cond_i (fun h2 => bad (fun hk => by have := of_decide_eq_true h2; have := hk.2; omega)) (fun h2 => ?_)))⟩
  clear bad
  replace h1 := of_decide_eq_false h1
  replace h2 := of_decide_eq_false h2
  have hok : okR s := ⟨by omega, by omega⟩
  have hw : IntKind.u32.wrap (p.len : Int) = (s.length : Nat) := by rw [IntKind.wrap_u32]; omega
  rw [hw]
  refine use (number_s s.length (by omega) w) ?_
  rintro _ w3 ⟨q4, rfl, ho4, k3⟩
  refine ⟨q4, rfl, ?_⟩
  have s3 := k3.size
  refine use (cOf_s _ ho4.rds (by rw [fourB_len]; omega)) ?_
  rintro _ _ ⟨rfl, rfl⟩
  refine ⟨_, rfl, ?_⟩
  refine use (cMore_s _ p (hp.keep0 k3) (by omega)) ?_
  rintro _ _ ⟨rfl, rfl⟩
  refine ⟨_, rfl, fun w12 hD => ?_⟩
  have k12 := k3.then0 hD.kp
  have hl12 := hl.keep k12
  refine ⟨PD d, ⟨rfl, hl12.c0⟩, f, ⟨rfl, hl12.c1⟩, ?_⟩
  rw [more_more, ← bi_app, ← sumB_val]
  refine use (number_s _ (sumB_lt _) w12) ?_
  rintro _ w17 ⟨q18, rfl, ho18, k17⟩
  have k017 := k12.then0 k17
  have hl17 := hl12.keep k17
  refine ⟨q18, rfl, hl17.c1, hl17.c0, ?_⟩
  have s017 := k017.size
  obtain ⟨q20, n21, c22, w23, hrun23, hn23, ho20, k23, _⟩ := app_bytes (ty := 27) Try.underlying27 byte_inf ((ho4.keep0 hD.kp).keep0 k17) ho18.rds (by omega) (by rw [fourB_len, fourB_len]; omega)
  have k023 : Kp [] w w23 := k017.then k23 (fun y hy => .inr (ho4.lo y hy).1)
  have hl23 := hl.keep k023
  refine ⟨q20, n21, c22, w23, hrun23, hl23.c1, hl23.c0, ?_⟩
  have s023 := k023.size
  obtain ⟨q24, n25, c26, w27, hrun27, hn27, ho24, k27, _⟩ := app_bytes (ty := 27) Try.underlying27 byte_inf ho20 (hp.keep0 k023) (by omega) (by rw [List.length_append, fourB_len, fourB_len]; omega)
  have k027 : Kp [] w w27 := k023.then k27 (fun y hy => .inr (ho20.lo y hy).1)
  have hl27 := hl.keep k027
  refine ⟨q24, n25, c26, w27, hrun27, hl27.c1, hl27.c0, ?_⟩
  have e : recB s = fourB s.length ++ fourB (sumB (fourB s.length ++ s)) ++ s := by unfold recB; rw [List.append_assoc]
  rw [← e] at ho24
  refine use (Append_g f (h.keep k027) ho24.rds hu) ?_
  rintro _ w28 ⟨rfl, h28, k28⟩
  refine ⟨_, rfl, ?_⟩
  unfold logE logM
  rw [if_pos hok, if_pos hok]
  exact ⟨rfl, h28, (k027.kg G).kgThen k28⟩)
theorem LSync_g {w0 w : World} {G : Nat → Prop} {lg d : Nat} {m : Nat → Fm} {f : Int} (h : DG w0 w G d m) (hl : LogIs w lg d f) (hg : G lg) :
    C.wal_Log_Sync (PD lg) w (fun v w' => v = .int .i64 (syncEf f) ∧ DG w0 w' G d (syncMf m f) ∧ KG G w w') noP := wal_Log_Sync_of (by
  unfold W.wal_Log_Sync
  refine cond_f rfl ⟨PD d, ⟨rfl, hl.c0⟩, cond_f rfl fun w3 hD => ?_⟩
  have hl3 := hl.keep hD.kp
  refine ⟨PD d, ⟨rfl, hl3.c0⟩, f, ⟨rfl, hl3.c1⟩, ?_⟩
  refine use (Sync_g f (h.keep hD.kp)) ?_
  rintro _ w8 ⟨rfl, h8, k8⟩
  exact ⟨_, rfl, rfl, h8, (hD.kp.kg G).kgThen k8⟩)
theorem LErase_g {w0 w : World} {G : Nat → Prop} {lg d : Nat} {m : Nat → Fm} {f : Int} (h : DG w0 w G d m) (hl : LogIs w lg d f) (hg : G lg) (hu : uK m) :
    C.wal_Log_Erase (PD lg) w (fun v w' => v = .int .i64 (cutEf m f 0) ∧ DG w0 w' G d (cutMf m f 0) ∧ KG G w w') noP := wal_Log_Erase_of (by
  unfold W.wal_Log_Erase
  refine cond_f rfl ⟨PD d, ⟨rfl, hl.c0⟩, cond_f rfl fun w3 hD => ?_⟩
  have hl3 := hl.keep hD.kp
  refine ⟨PD d, ⟨rfl, hl3.c0⟩, f, ⟨rfl, hl3.c1⟩, ?_⟩
  refine use (Cut_g f 0 (h.keep hD.kp) hu) ?_
  rintro _ w8 ⟨rfl, h8, k8⟩
  exact ⟨_, rfl, rfl, h8, (hD.kp.kg G).kgThen k8⟩)
theorem LSize_g {w0 w : World} {G : Nat → Prop} {lg d : Nat} {m : Nat → Fm} {f : Int} (h : DG w0 w G d m) (hl : LogIs w lg d f) :
    C.wal_Log_Size (PD lg) w (fun v w' => v = .int .i64 (readF m f).length ∧ Kp [] w w') noP := wal_Log_Size_of (by
  unfold W.wal_Log_Size
  refine cond_f rfl ⟨PD d, ⟨rfl, hl.c0⟩, cond_f rfl fun w3 hD => ?_⟩
  have hl3 := hl.keep hD.kp
  refine ⟨PD d, ⟨rfl, hl3.c0⟩, f, ⟨rfl, hl3.c1⟩, ?_⟩
  refine use (Size_g f (h.keep hD.kp)) ?_
  rintro _ _ ⟨rfl, rfl⟩
  exact ⟨_, rfl, rfl, hD.kp⟩)
/-- What goes through a log's records. -/
structure ItIs (w : World) (bl bb lg : Nat) (q : Sl) (b : Bs) : Prop where
  l : Blk w bl [.pointer (PD lg)]
  s : Blk w bb [slv q]
  b : RdB w q b
  c : q.len ≤ q.cap
theorem ItIs.keep {w w' : World} {bl bb lg : Nat} {q : Sl} {b : Bs} {l : List Nat} (h : ItIs w bl bb lg q b) (k : Kp l w w') (h1 : bl ∉ l) (h2 : bb ∉ l) (h3 : ∀ x ∈ blkOf q, x ∉ l) : ItIs w' bl bb lg q b :=
  ⟨h.l.keep k h1, h.s.keep k h2, h.b.keep k (fun a ha => h3 _ (mem_blk ha)), h.c⟩
theorem ItIs.keep0 {w w' : World} {bl bb lg : Nat} {q : Sl} {b : Bs} (h : ItIs w bl bb lg q b) (k : Kp [] w w') : ItIs w' bl bb lg q b := h.keep k (by simp) (by simp) (by simp)
theorem Records_s (lg : Nat) (p : Sl) {b : Bs} {w : World} (hp : RdB w p b) (hl : b.length ≤ 100000000000) :
    C.wal_Log_Records (PD lg) p w (fun v w' => ∃ bl bb q, v = .func (.func 73) #[] #[.pointer (PD bl), .pointer (PD bb)] ∧ ItIs w' bl bb lg q b ∧ (w.heap.size ≤ bl ∧ w.heap.size ≤ bb ∧ ∀ x ∈ blkOf q, w.heap.size ≤ x ∧ x < w'.heap.size) ∧ (bl < w'.heap.size ∧ bb < w'.heap.size) ∧ Kp [] w w') noP := wal_Log_Records_of (by
  unfold W.wal_Log_Records
  intro b1 w2 h1 b3 w4 h3 b5 w6 h5
  have s2 := h1.eq
  have s4 := h3.eq
  have s6 := h5.eq
  have k46 := h5.kp
  have k06 := (h1.kp.then0 h3.kp).then0 k46
  have hB3 := h3.blk.keep k46 (by simp)
  refine ⟨p, ⟨rfl, hB3.at rfl⟩, ?_⟩
  have ho5 : OwnB w6 w.heap.size ⟨some ⟨b5, 0, none⟩, 0, 0⟩ [] := Go.Eng.Own.fresh h5 (by omega) (Nat.le_refl _) rfl
  obtain ⟨q8, n9, c10, w11, hrun, hn9, ho8, k11, hq⟩ := app_bytes (ty := 27) Try.underlying27 byte_inf ho5 (hp.keep0 k06) (by omega) (by simp; omega)
  rw [List.nil_append] at ho8
  have s11 := k11.size
  refine ⟨q8, n9, c10, w11, hrun, ?_⟩
  have hB3' := hB3.keep k11 (by simp [blkOf]; omega)
  refine ⟨⟨rfl, hB3'.can1 _ rfl (Nat.le_of_ble_eq_true rfl)⟩, fun w12 e12 => ?_⟩
  obtain ⟨hB12, k12, s12⟩ := hB3'.put1 rfl e12
  have hB1 := (((h1.blk.keep h3.kp (by simp)).keep k46 (by simp)).keep k11 (by simp [blkOf]; omega)).keep k12 (by simp; omega)
  have hlo := ho8.lo
  have hqb : ∀ x ∈ blkOf ⟨q8, n9, c10⟩, x = b5 ∨ w6.heap.size ≤ x := by
    intro x hx
    rcases hq with e | ⟨hf, _⟩
    · left; unfold blkOf at hx; rw [e] at hx; simpa using hx
    · exact .inr (hf x hx)
  have ho12 := ho8.keep k12 (fun x hx => by simp; rcases hqb x hx with h | h <;> omega)
  exact ⟨b1, b3, ⟨q8, n9, c10⟩, rfl, ⟨hB1, hB12, ho12.rds, ho8.lc⟩, ⟨by omega, by omega, fun x hx => by have := hlo x hx; omega⟩, ⟨by omega, by omega⟩, (k06.then k11 (by simp [blkOf]; omega)).then k12 (by simp; omega)⟩)
set_option maxHeartbeats 1000000 in
/-- Each record is yielded, until yield says no. -/
theorem recs_it {bl bb lg : Nat} {q : Sl} {b : Bs} (hbl : b.length ≤ 100000000000) (yield : Value) (J : Nat → World → Prop) (Q : World → Prop)
    (hJ : ∀ k w, J k w → ItIs w bl bb lg q b) (hk : ∀ k w w', J k w → Kp [] w w' → J k w')
    (hy : ∀ k (hk : k < (recs b).length) w w1 (x : Sl), J k w → Kp [] w w1 → OwnB w1 w.heap.size x (recs b)[k] → callV Try.prog yield [.int .i64 (endL ((recs b).take k)), .slice x.a x.len x.cap] w1 (Ret (fun v w' => ∃ p : Bool, v = .bool p ∧ cond p (J (k + 1) w') (Q w')) noP))
    {w : World} (h0 : J 0 w) : C.wal_Log_Records_1 yield (PD bl) (PD bb) w (fun v w' => v = .tuple #[] ∧ (J (recs b).length w' ∨ Q w')) noP := wal_Log_Records_1_of (by
  unfold W.wal_Log_Records_1
  refine ⟨PD lg, ⟨rfl, (hJ 0 w h0).l.at rfl⟩, cond_f rfl ⟨fun v w' => ∃ k, k ≤ (recs b).length ∧ v = (endL ((recs b).take k) : Nat) ∧ J k w', fun v _ => b.length - v.toNat, ⟨_, rfl, 0, Nat.zero_le _, rfl, h0⟩, fun e0 v w7 hI => ?_⟩⟩
  obtain ⟨k, hk1, rfl, hj⟩ := hI
  have hit := hJ k w7 hj
  refine ⟨q, ⟨rfl, hit.s.at rfl⟩, ?_⟩
  obtain ⟨n, hn⟩ : ∃ n, endL ((recs b).take k) = n := ⟨_, rfl⟩
  -- what is behind the first k records
  have hsplit : recs (b.drop n) = (recs b).drop k := by
    have h1 : flatR ((recs b).take k) ++ (flatR ((recs b).drop k) ++ b.drop (endL (recs b))) = b := by
      rw [← List.append_assoc, ← flatR_app, List.take_append_drop]
      exact ((recs_bytes _ b (Nat.le_refl _)).2.1).symm
    have h2 : b.drop n = flatR ((recs b).drop k) ++ b.drop (endL (recs b)) := by
      have : (flatR ((recs b).take k) ++ (flatR ((recs b).drop k) ++ b.drop (endL (recs b)))).drop n = flatR ((recs b).drop k) ++ b.drop (endL (recs b)) := List.drop_left' (by rw [flatR_len, hn])
      rwa [h1] at this
    have h3 := recs_flat ((recs b).take k) (b.drop n) (fun s hs => recs_ok b s (List.mem_of_mem_take hs))
    rw [h2, h1] at h3
    have h4 : (recs b).take k ++ (recs b).drop k = (recs b).take k ++ recs (flatR ((recs b).drop k) ++ b.drop (endL (recs b))) := by rw [List.take_append_drop]; exact h3
    rw [h2]
    exact (List.append_cancel_left h4).symm
  have hle : n ≤ b.length := by
    have h1 := recs_end b
    have h2 : endL (recs b) = endL ((recs b).take k) + endL ((recs b).drop k) := by rw [← endL_app, List.take_append_drop]
    omega
  rw [hn]
  refine use (record_s q n hit.b hit.c hle hbl) ?_
  rintro _ w10 ⟨x, rfl, k10, hnone, hsome, hxb⟩
  refine ⟨x, rfl, ?_⟩
  cases hr : recAt (b.drop n) with
  | none =>
    rw [hnone hr]
    have : (recs b).drop k = [] := by rw [← hsplit, recs_none hr]
    have hkl : k = (recs b).length := by have := congrArg List.length this; simp at this; omega
    rw [← hkl]
    exact cond_t rfl ⟨rfl, .inl (hk k w7 w10 hj k10)⟩
  | some s =>
    obtain ⟨hx1, hx2, hx3⟩ := hsome s hr
    have hd : (recs b).drop k = s :: recs ((b.drop n).drop (8 + s.length)) := by rw [← hsplit, recs_some hr]
    have hkl : k < (recs b).length := by have := congrArg List.length hd; simp at this; omega
    have hsk : (recs b)[k] = s := by
      have := List.drop_eq_getElem_cons hkl
      rw [hd] at this
      injection this with h _
      exact h.symm
    obtain ⟨hok, h8, _⟩ := recAt_some hr
    rw [List.length_drop] at h8
    refine cond_f hx1 fun b13 w14 hA => ?_
    have s14 := hA.eq
    have ho13 : OwnB w14 w10.heap.size ⟨some ⟨b13, 0, none⟩, 0, 0⟩ [] := Go.Eng.Own.fresh hA (Nat.le_refl _) (Nat.le_refl _) rfl
    have hxs := hx2.bsize
    obtain ⟨q15, n16, c17, w18, hrun, hn16, ho15, k18, _⟩ := app_bytes (ty := 27) Try.underlying27 byte_inf ho13 (hx2.keep0 hA.kp) (by omega) (by simp; omega)
    rw [List.nil_append] at ho15
    refine ⟨q15, n16, c17, w18, hrun, ?_⟩
    have k1018 : Kp [] w10 w18 := hA.kp.then k18 (by simp [blkOf]; omega)
    have hcall := hy k hkl w10 w18 ⟨q15, n16, c17⟩ (hk k w7 w10 hj k10) k1018 (by rw [hsk]; exact ho15)
    rw [hn] at hcall
    have e1 : endL ((recs b).take (k + 1)) = n + (8 + s.length) := by
      rw [List.take_add_one, List.getElem?_eq_getElem hkl, hsk, endL_app, hn]
      rfl
    have w1 : IntKind.i64.wrap ((n : Int) + IntKind.i64.wrap (8 + (x.len : Int))) = ((n + (8 + s.length) : Nat) : Int) := by
      have : IntKind.i64.wrap (8 + (x.len : Int)) = 8 + x.len := by rw [IntKind.wrap_i64]; omega
      rw [this, IntKind.wrap_i64]
      omega
    rw [w1]
    refine callV_mono hcall ?_
    rintro v w19 ⟨p, rfl, hp⟩
    refine ⟨p, rfl, ?_⟩
    cases p with
    | false => exact cond_t rfl ⟨rfl, .inr hp⟩
    | true =>
      refine cond_f rfl ⟨_, rfl, ⟨k + 1, by omega, by rw [e1], hp⟩, ?_⟩
      have := hok.1
      simp only [Int.toNat_natCast]
      omega)
end Go.Proofs.Ytfgepillnemolaa
