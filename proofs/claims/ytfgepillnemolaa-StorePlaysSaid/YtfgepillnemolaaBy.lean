/- Bytes that came in; places, copies of bytes. No conditions. -/
import Derived.Test.YtfgepillnemolaaMemF
import Derived.Test.YtfgepillnemolaaCom
import Derived.Test.YtfgepillnemolaaV0
namespace Go.Proofs.Ytfgepillnemolaa
open Go.RowKit Go.Eng
set_option linter.unusedVariables false
def u8of (x : Int) : UInt8 := UInt8.ofNat x.toNat
theorem u8of_val {x : Int} (h : in8 x) : vb (u8of x) = .int .u8 x := by
  unfold vb u8of
  have : (UInt8.ofNat x.toNat).toNat = x.toNat := by
    rw [UInt8.toNat_ofNat']
    have := h.1; have := h.2
    omega
  rw [this, Int.toNat_of_nonneg h.1]
def bso (l : List Int) : Bs := l.map u8of
theorem bso_len (l : List Int) : (bso l).length = l.length := by simp [bso]
theorem bv_bso {l : List Int} (h : ∀ x ∈ l, in8 x) : bv (bso l) = l.map (Value.int .u8) := by
  unfold bv bso
  rw [List.map_map]
  exact List.map_congr_left fun x hx => u8of_val (h x hx)
/-- A slice of numbers that came in, as bytes. -/
theorem rdb_of_rdl {w : World} {s : Sl} {l : List Int} (h : RdL w 1 (Value.int .u8) s l) (hw : ∀ x ∈ l, in8 x) : RdB w s (bso l) := by
  have hl := h.len
  refine ⟨by rw [bv_len, bso_len, hl, Nat.mul_one], fun h0 => ?_⟩
  obtain ⟨a, ha, _⟩ := h.get (i := 0) (by omega)
  refine ⟨a, ha, fun i v hi => ?_⟩
  rw [bv_bso hw, List.getElem?_map, Option.map_eq_some_iff] at hi
  obtain ⟨x, hx, rfl⟩ := hi
  obtain ⟨a', ha', hr⟩ := h.at_ i x hx
  rw [ha] at ha'
  injection ha' with ha'
  subst ha'
  rw [Nat.mul_one] at hr
  exact hr
theorem rdb_of_rd {w : World} {a : Option Addr} {l : List Int} (h : Rd .u8 w a l) (c : Nat) : RdB w ⟨a, l.length, c⟩ (bso l) := by
  refine rdb_of_rdl ⟨rfl, fun i x hx => ?_⟩ (fun x hx => by obtain ⟨h1, h2⟩ := wf_u8 (h.wf x hx); exact ⟨h1, h2⟩)
  have hi : i < l.length := (List.getElem?_eq_some_iff.1 hx).1
  obtain ⟨ad, e, hc⟩ := h.get i hi
  refine ⟨ad, e, ?_⟩
  rw [Nat.mul_one]
  have : rd l i = x := by simp [Go.Proofs.Ytfgepillnemolaa.rd, List.getD_eq_getElem?_getD, hx]
  rw [this] at hc
  exact hc
theorem byte_inf : (Try.prog.info? 5).map (fun i => (i.zero, i.size, i.bytes)) = some (some (.int .u8 0), 1, 1) := by kernel_rfl
theorem Place_s (v n : Int) (w : World) (h : 0 < n) (h' : n ≤ 4611686018427387904) : C.skeplaw00_Place v n w (fun r w' => r = .int .i64 (v % n) ∧ w = w') noP := skeplaw00_Place_of (by
  unfold W.skeplaw00_Place
  have h1 := Int.tmod_lt_of_pos v h
  have h2 := Int.lt_tmod_of_pos v h
  have h3 := Int.tmod_eq_emod (a := v) (b := n)
  have e0 := Int.emod_nonneg v (show n ≠ 0 by omega)
  have e1 := Int.emod_lt_of_pos v h
  have hn : (n.natAbs : Int) = n := by omega
  refine ⟨by omega, cond_d (fun h0 => ?_) (fun h0 => ?_)⟩
  · have hr : v % n = v.tmod n + n := by
      rw [h3] at h0 ⊢
      split at h0
      · omega
      · rename_i hc; rw [if_neg hc]; omega
    rw [hr, IntKind.wrap_i64]
    exact ⟨by congr 1; omega, rfl⟩
  · have hr : v % n = v.tmod n := by
      rw [h3] at h0 ⊢
      split at h0
      · rename_i hc; rw [if_pos hc]; omega
      · omega
    exact ⟨by rw [hr], rfl⟩)
theorem CopyBytes_s (p : Sl) {l : Bs} {w : World} (hp : RdB w p l) (hl : l.length ≤ 140737488355328) : C.skeplaw00_CopyBytes p w (fun v w' => ∃ q : Sl, v = .slice q.a q.len q.cap ∧ OwnB w' w.heap.size q l ∧ Kp [] w w') noP := skeplaw00_CopyBytes_of (by
  unfold W.skeplaw00_CopyBytes
  obtain ⟨q4, n5, c6, w7, hrun, hn5, ho4, k7, _⟩ := app_bytes (l := []) (s := ⟨none, 0, 0⟩) (ty := 27) Try.underlying27 byte_inf (Go.Eng.Own.nil w w.heap.size 1) hp (Nat.le_refl _) (by simpa using hl)
  rw [List.nil_append] at ho4
  exact ⟨q4, n5, c6, w7, hrun, ⟨q4, n5, c6⟩, rfl, ho4, k7⟩)
end Go.Proofs.Ytfgepillnemolaa
