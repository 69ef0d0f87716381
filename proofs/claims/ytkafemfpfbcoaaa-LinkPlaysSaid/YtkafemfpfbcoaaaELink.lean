/- The link's contracts, as my engine sees its calls. No conditions. -/
import Derived.Test.YtkafemfpfbcoaaaV0
import Derived.Test.YtkafemfpfbcoaaaLinkLaw2
import Derived.Test.YtkafemfpfbcoaaaOpenT
import Derived.Test.YtkafemfpfbcoaaaAux
namespace Go.Proofs.Ytkafemfpfbcoaaa
open Go.RowKit Go.Eng Go.Proofs.Ytkafemfpfbcoaaa.K
set_option linter.unusedVariables false
def toT (t : S.api_Tele) : Tl := ⟨t.Kind, t.Robot, t.Epoch, t.Num, t.Move.Kind, t.Move.Dir, t.Move.N, t.Move.From.At.X, t.Move.From.At.Y, t.Move.From.Down, t.Move.To.At.X, t.Move.To.At.Y, t.Move.To.Down, t.Move.At, t.Move.End, t.Pose.At.X, t.Pose.At.Y, t.Pose.Down, t.Load⟩
def ofT (t : Tl) : S.api_Tele := ⟨t.k, t.r, t.e, t.n, ⟨t.mq, t.md, t.mn, ⟨⟨t.fx, t.fy⟩, t.fd⟩, ⟨⟨t.tx, t.ty⟩, t.td⟩, t.ma, t.me⟩, ⟨⟨t.px, t.py⟩, t.pd⟩, t.ld⟩
theorem Place_s (v n : Int) (w : World) (h : 0 < n) (h' : n ≤ 4611686018427387904) : C.skeplaw00_Place v n w (fun r w' => r = .int .i64 (v % n) ∧ w = w') noP :=
  (place_calls v n w h h').mono (by rintro e w' ⟨rfl, rfl⟩; exact ⟨rfl, rfl⟩)
theorem K.LinkIs.keep {w w' : World} {b bm : Nat} {ro re : Int} {m : Mp} {l : List Nat} (h : LinkIs w b bm ro re m) (k : Kp l w w') (hn : b ∉ l ∧ bm ∉ l) : LinkIs w' b bm ro re m := by
  obtain ⟨hb, hm⟩ := h
  have hlt := (Array.getElem?_eq_some_iff.1 hb).1
  exact ⟨(k.block b hlt hn.1).trans hb, hm.of_block (k.block bm hm.lt hn.2)⟩
theorem K.LinkIs.lts {w : World} {b bm : Nat} {ro re : Int} {m : Mp} (h : LinkIs w b bm ro re m) : b < w.heap.size ∧ bm < w.heap.size ∧ b ≠ bm := ⟨h.lt, h.map.lt, h.ne⟩
theorem New_s (ro re : Int) (w : World) (h0 : 0 ≤ ro) (h1 : ro ≤ 8) (h2 : 1 ≤ re) : C.link_New ro re w (fun r w' => ∃ b bm, r = .tuple #[.pointer (some ⟨b, 0, none⟩), .int .i64 0] ∧ LinkIs w' b bm ro re (fun _ => none) ∧ Kp [] w w' ∧ w.heap.size ≤ b ∧ w.heap.size ≤ bm) noP :=
  (new_yes ro re w h0 h1 h2).mono (by rintro e w' ⟨rfl, h, hb⟩; exact ⟨_, _, rfl, h, Kp.of_below hb, by omega, Nat.le_refl _⟩)
theorem Send_s {b bm : Nat} {ro re : Int} {m : Mp} (t : S.api_Tele) (now : Int) {w : World} (h : LinkIs w b bm ro re m) (h0 : 0 ≤ t.Robot) (h1 : t.Robot < ro) (h2 : t.Kind = 1 ∨ t.Kind = 2) :
    C.link_Link_Send (some ⟨b, 0, none⟩) t now w (fun r w' => r = .tuple #[S.api_Tele.v t, .int .i64 0] ∧ LinkIs w' b bm ro re (upd m t.Robot (some (toT t, now))) ∧ Kp [bm] w w') noP :=
  (send_yes b bm ro re m (toT t) now w h h0 h1 h2).mono (by rintro e w' ⟨rfl, h, hb⟩; exact ⟨rfl, h, Kp.of_grown hb⟩)
theorem Waits_s {b bm : Nat} {ro re : Int} {m : Mp} (r : Int) {w : World} (h : LinkIs w b bm ro re m) :
    C.link_Link_Waits (some ⟨b, 0, none⟩) r w (fun v w' => v = .tuple #[S.api_Tele.v (ofT (found m r).1), .bool (found m r).2] ∧ Kp [] w w') noP :=
  (waits_calls b bm ro re m r w h).mono (by rintro e w' ⟨rfl, hb⟩; exact ⟨rfl, Kp.of_below hb⟩)
theorem Got_s {b bm : Nat} {ro re : Int} {m : Mp} (r : Int) {w : World} (h : LinkIs w b bm ro re m) :
    C.link_Link_Got (some ⟨b, 0, none⟩) r w (fun v w' => v = .bool (found m r).2 ∧ LinkIs w' b bm ro re (if (found m r).2 then upd m r none else m) ∧ Kp [bm] w w') noP :=
  (got_calls b bm ro re m r w h).mono (by rintro e w' ⟨rfl, h, hb⟩; exact ⟨rfl, h, Kp.of_grown hb⟩)
theorem awake_s (w : World) : C.skeplaw17_awake w (fun v w' => v = .bool true ∧ Kp [] w w') noP :=
  (awake_calls w).mono (by rintro e w' ⟨rfl, hb⟩; exact ⟨rfl, Kp.of_below hb⟩)
theorem tlc_tlcs (t : Tl) : tlc t = tlcs t := rfl
theorem ownT_lo {B : Nat} {w : World} {A : Option Addr} {n c : Nat} {l : List Tl} (h : OwnT B w (.slice A n c) l) : ∀ x ∈ blkOf ⟨A, n, c⟩, B ≤ x := by
  intro x hx
  rcases h.2 with ⟨e, _⟩ | ⟨g, cap, cur, e, hg, _⟩
  · injection e with e1
    subst e1
    simp [blkOf] at hx
  · injection e with e1
    subst e1
    simp [blkOf] at hx
    subst hx
    exact hg
theorem Due_s {b bm n : Nat} {re : Int} {m : Mp} (now : Int) {w : World} (hn : n ≤ 8) (h : LinkIs w b bm n re m) :
    C.link_Link_Due (some ⟨b, 0, none⟩) now w (fun v w' => ∃ s : Sl, v = .slice s.a s.len s.cap ∧ s.len = (dueList m re now n).length ∧ Rds w' 19 s ((dueList m re now n).flatMap tlc) ∧ LinkIs w' b bm n re (dueMap m re now n) ∧ Kp [bm] w w' ∧ ∀ x ∈ blkOf s, w.heap.size ≤ x) noP :=
  (due_calls b bm n re now m w hn h).mono (by
    rintro e w' ⟨v, rfl, ho, h, hb⟩
    obtain ⟨A, c, rfl, hc, hr⟩ := ownT_form ho
    exact ⟨⟨A, _, c⟩, rfl, rfl, ⟨tlc_len _, fun h0 => by
      obtain ⟨a, ha, hh⟩ := hr.at_ h0
      exact ⟨a, ha, hh⟩⟩, h, Kp.of_grown hb, ownT_lo ho⟩)
theorem telesL {w : World} {s : Sl} {L : List Tl} (h : Rds w 19 s (L.flatMap tlc)) (hl : s.len = L.length) : RdL w 19 (fun t => S.api_Tele.v (ofT t)) s L :=
  h.rdl (fun _ => rfl) (fun _ => rfl) hl.symm
/-- A telegram of the argument. -/
theorem RdT.at {w : World} {A : Option Addr} {l : List Tl} (h : RdT w A l) {k : Nat} (hk : k < l.length) : ∃ ad t, A = some ad ∧ Go.Eng.rd w (ad.add (k * 19)) (S.api_Tele.v (ofT t)) := by
  obtain ⟨ad, t, rfl, _, hc⟩ := h.get k hk
  exact ⟨ad, t, rfl, hc⟩
theorem RdT.keep {w w' : World} {A : Option Addr} {l : List Tl} (h : RdT w A l) (k : Kp [] w w') : RdT w' A l := h.below k.below
theorem found_upd (m : Mp) (k : Int) (t : Tl) (x j : Int) : found (upd m k (some (t, x))) j = if j = k then (t, true) else found m j := by
  unfold found upd
  by_cases h : j = k <;> simp [h]
theorem found_del (m : Mp) (k : Int) : (found (upd m k none) k).2 = false := by unfold found upd; simp
end Go.Proofs.Ytkafemfpfbcoaaa
