/- Printed by vc.py: what functions of this seat come to, as predicates of typed values, each with its proof. No conditions. -/
import Derived.Test.YtfgepillnemolaaTab
namespace Go.Proofs.Ytfgepillnemolaa
open Go.Eng
set_option linter.unusedVariables false
set_option maxRecDepth 100000
def W.skepref06_log (d : (Option Addr)) (file : Int) (w : World) (K : Value → World → Prop) (KP : List PanicEntry → World → Prop) : Prop :=
   C.skepref03_Disk_Read d file w (fun r3 w1 => ∃ p2 : Sl, r3 = .slice p2.a p2.len p2.cap ∧
    C.skepref04_Records p2 w1 (fun r6 w4 => ∃ p5 : (Sl × Int), r6 = .tuple #[.slice p5.1.a p5.1.len p5.1.cap, .int .i64 p5.2] ∧
    (cond (decide ((p5.2 : Int) < (p2.len : Int)))
    (C.skepref03_Disk_Cut d file p5.2 w4 (fun r9 w7 => ∃ p8 : Int, r9 = .int .i64 p8 ∧
    C.skepref03_Disk_Sync d file w7 (fun r12 w10 => ∃ p11 : Int, r12 = .int .i64 p11 ∧
    K (.slice p5.1.a p5.1.len p5.1.cap) w10) KP) KP)
    (K (.slice p5.1.a p5.1.len p5.1.cap) w4))) KP) KP
theorem skepref06_log_of {d : (Option Addr)} {file : Int} {w : World} {K : Value → World → Prop} {KP : List PanicEntry → World → Prop} (h : W.skepref06_log d file w K KP) : C.skepref06_log d file w K KP :=
  xcall (E := E) (T := mkTab [] [] [] [] [] [] [] []) (c := Try.f67.body.getD .skip) (rs := [.tmp 4]) ⟨⟩ mixed Try.func67 (by kernel_rfl) (by kernel_rfl) [.pointer d, .int .i64 file] (by kernel_rfl) (by kernel_rfl) (.inr (by kernel_rfl)) (Eq.mp (by kernel_rfl) h)

def W.skepref06_head (p0_ : Sl) (w : World) (K : Value → World → Prop) (KP : List PanicEntry → World → Prop) : Prop :=
   ∀ (b1 : Nat) (w2 : World), Alloc w b1 130 [.slice p0_.a p0_.len p0_.cap, .int .i64 0, .bool false] w2 →
    C.skepref05_R_Number (some ⟨b1, 0, none⟩) w2 (fun r5 w3 => ∃ p4 : Int, r5 = .int .i64 p4 ∧
    C.skepref05_R_Number (some ⟨b1, 0, none⟩) w3 (fun r8 w6 => ∃ p7 : Int, r8 = .int .i64 p7 ∧
    ∃ y9 : Bool, (okVal false 1 (.bool y9) = true ∧ w6.cell? ⟨b1, 2, none⟩ = some (.bool y9)) ∧
    (cond y9
    (K (.tuple #[.int .i64 0, .int .i64 0, .slice none 0 0, .bool false]) w6)
    ((cond (decide ((p4 : Int) < 1))
    (K (.tuple #[.int .i64 0, .int .i64 0, .slice none 0 0, .bool false]) w6)
    ((cond (decide ((p4 : Int) > 1152921504606846976))
    (K (.tuple #[.int .i64 0, .int .i64 0, .slice none 0 0, .bool false]) w6)
    ((cond (decide ((p7 : Int) < 0))
    (K (.tuple #[.int .i64 0, .int .i64 0, .slice none 0 0, .bool false]) w6)
    ((cond (decide ((p7 : Int) > 1152921504606846976))
    (K (.tuple #[.int .i64 0, .int .i64 0, .slice none 0 0, .bool false]) w6)
    (∀ w10, Drew w6 w10 →
    ∃ y11 : Int, (okVal false 1 (.int .i64 y11) = true ∧ w10.cell? ⟨b1, 1, none⟩ = some (.int .i64 y11)) ∧
    ((0 : Int) ≤ y11 ∧ (y11 : Int) ≤ (p0_.len : Int)) ∧ K (.tuple #[.int .i64 p4, .int .i64 p7, .slice (if p0_.cap = y11.toNat then p0_.a else Option.map (fun x => Addr.add x (y11.toNat * 1)) p0_.a) (p0_.len - y11.toNat) (p0_.cap - y11.toNat), .bool true]) w10))))))))))) KP) KP
theorem skepref06_head_of {p0_ : Sl} {w : World} {K : Value → World → Prop} {KP : List PanicEntry → World → Prop} (h : W.skepref06_head p0_ w K KP) : C.skepref06_head p0_ w K KP :=
  xcall (E := E) (T := mkTab [] [] [] [] [(6, [0, 1, 2, 3, 4, 5, 6, 7, 8, 9, 10, 11])] [(6, [0, 0, 0, 0, 8, 24, 56, 124, 1, 259, 1023, 2047])] [] []) (c := Try.f68.body.getD .skip) (rs := [.tmp 2, .tmp 3, .tmp 4, .tmp 5]) ⟨⟩ mixed Try.func68 (by kernel_rfl) (by kernel_rfl) [.slice p0_.a p0_.len p0_.cap] (by kernel_rfl) (by kernel_rfl) (.inr (by kernel_rfl)) (Eq.mp (by kernel_rfl) h)

def W.skepref06_clear (d : (Option Addr)) (file : Int) (w : World) (K : Value → World → Prop) (KP : List PanicEntry → World → Prop) : Prop :=
   C.skepref03_Disk_Cut d file 0 w (fun r3 w1 => ∃ p2 : Int, r3 = .int .i64 p2 ∧
    C.skepref03_Disk_Sync d file w1 (fun r6 w4 => ∃ p5 : Int, r6 = .int .i64 p5 ∧
    K (.tuple #[]) w4) KP) KP
theorem skepref06_clear_of {d : (Option Addr)} {file : Int} {w : World} {K : Value → World → Prop} {KP : List PanicEntry → World → Prop} (h : W.skepref06_clear d file w K KP) : C.skepref06_clear d file w K KP :=
  xcall (E := E) (T := mkTab [] [] [] [] [] [] [] []) (c := Try.f69.body.getD .skip) (rs := []) ⟨⟩ mixed Try.func69 (by kernel_rfl) (by kernel_rfl) [.pointer d, .int .i64 file] (by kernel_rfl) (by kernel_rfl) (.inr (by kernel_rfl)) (Eq.mp (by kernel_rfl) h)

def W.skepref05_R_Number (r : (Option Addr)) (w : World) (K : Value → World → Prop) (KP : List PanicEntry → World → Prop) : Prop :=
   ∃ (I1 : Int → Int → World → Prop) (M2 : Int → Int → World → Nat),
    (∃ u3 : Int, (.int .u64 0 : Value) = .int .u64 u3 ∧ ∃ u4 : Int, (.int .i64 0 : Value) = .int .i64 u4 ∧ I1 u3 u4 w) ∧
    ∀ e0 : Env, ∀ v5 : Int, ∀ v6 : Int, ∀ w7 : World, I1 v5 v6 w7 →
    (cond (decide ((v6 : Int) < 10))
    (∀ w8, Drew w7 w8 →
    withSome r fun a9 =>
    ∃ y10 : Bool, (okVal false 1 (.bool y10) = true ∧ w8.cell? (Addr.add a9 2) = some (.bool y10)) ∧
    (cond y10
    (withSome r fun a11 =>
    (okVal false 1 (.bool true) = true ∧ canPut w8 (Addr.add a11 2) (.bool true)) ∧ ∀ w12 : World, w12 = putAt w8 (Addr.add a11 2) (.bool true) →
    K (.int .i64 0) w12)
    (withSome r fun a13 =>
    ∃ y14 : Int, (okVal false 1 (.int .i64 y14) = true ∧ w8.cell? (Addr.add a13 1) = some (.int .i64 y14)) ∧
    withSome r fun a15 =>
    ∃ y16 : Sl, (okVal false 1 (.slice y16.a y16.len y16.cap) = true ∧ w8.cell? a15 = some (.slice y16.a y16.len y16.cap)) ∧
    (cond (decide ((y14 : Int) ≥ (y16.len : Int)))
    (withSome r fun a17 =>
    (okVal false 1 (.bool true) = true ∧ canPut w8 (Addr.add a17 2) (.bool true)) ∧ ∀ w18 : World, w18 = putAt w8 (Addr.add a17 2) (.bool true) →
    K (.int .i64 0) w18)
    (∀ w19, Drew w8 w19 →
    withSome r fun a20 =>
    ∃ y21 : Sl, (okVal false 1 (.slice y21.a y21.len y21.cap) = true ∧ w19.cell? a20 = some (.slice y21.a y21.len y21.cap)) ∧
    withSome r fun a22 =>
    ∃ y23 : Int, (okVal false 1 (.int .i64 y23) = true ∧ w19.cell? (Addr.add a22 1) = some (.int .i64 y23)) ∧
    ((0 : Int) ≤ y23 ∧ (y23 : Int) < (y21.len : Int)) ∧ withSome y21.a fun a24 =>
    ∃ y25 : Int, (okVal false 1 (.int .u8 y25) = true ∧ w19.cell? (Addr.add a24 (y23.toNat * 1)) = some (.int .u8 y25)) ∧
    withSome r fun a26 =>
    ∃ y27 : Int, (okVal false 1 (.int .i64 y27) = true ∧ w19.cell? (Addr.add a26 1) = some (.int .i64 y27)) ∧
    withSome r fun a28 =>
    (okVal false 1 (.int .i64 (IntKind.i64.wrap (y27 + 1))) = true ∧ canPut w19 (Addr.add a28 1) (.int .i64 (IntKind.i64.wrap (y27 + 1)))) ∧ ∀ w29 : World, w29 = putAt w19 (Addr.add a28 1) (.int .i64 (IntKind.i64.wrap (y27 + 1))) →
    ∃ J30 : World → Prop,
    ((cond ((v6 : Int) == 9)
    ((cond (decide ((y25 : Int) > 1))
    (withSome r fun a31 =>
    (okVal false 1 (.bool true) = true ∧ canPut w29 (Addr.add a31 2) (.bool true)) ∧ ∀ w32 : World, w32 = putAt w29 (Addr.add a31 2) (.bool true) →
    K (.int .i64 0) w32)
    (J30 w29)))
    (J30 w29))) ∧
    ∀ e0 : Env, ∀ w33 : World, J30 w33 →
    (128 : Int) ≠ 0 ∧ (0 : Int) ≤ (IntKind.u64.wrap (IntKind.i64.wrap (7 * v6))) ∧ (cond (decide ((y25 : Int) < 128))
    (∃ J34 : World → Prop,
    ((cond ((y25 : Int) == 0)
    ((cond (decide ((v6 : Int) > 0))
    (withSome r fun a35 =>
    (okVal false 1 (.bool true) = true ∧ canPut w33 (Addr.add a35 2) (.bool true)) ∧ ∀ w36 : World, w36 = putAt w33 (Addr.add a35 2) (.bool true) →
    K (.int .i64 0) w36)
    (J34 w33)))
    (J34 w33))) ∧
    ∀ e0 : Env, ∀ w37 : World, J34 w37 →
    (2 : Int) ≠ 0 ∧ (cond (((Int.tmod (IntKind.u64.wrap (v5 + (shlI .u64 (IntKind.u64.wrap (Int.tmod y25 128)) (IntKind.u64.wrap (IntKind.i64.wrap (7 * v6)))))) 2) : Int) == 1)
    ((2 : Int) ≠ 0 ∧ K (.int .i64 (IntKind.i64.wrap ((IntKind.i64.wrap (0 - (IntKind.i64.wrap (IntKind.u64.wrap (Int.tdiv (IntKind.u64.wrap (v5 + (shlI .u64 (IntKind.u64.wrap (Int.tmod y25 128)) (IntKind.u64.wrap (IntKind.i64.wrap (7 * v6)))))) 2))))) - 1))) w37)
    ((2 : Int) ≠ 0 ∧ K (.int .i64 (IntKind.i64.wrap (IntKind.u64.wrap (Int.tdiv (IntKind.u64.wrap (v5 + (shlI .u64 (IntKind.u64.wrap (Int.tmod y25 128)) (IntKind.u64.wrap (IntKind.i64.wrap (7 * v6)))))) 2)))) w37)))
    (∃ u38 : Int, (.int .u64 (IntKind.u64.wrap (v5 + (shlI .u64 (IntKind.u64.wrap (Int.tmod y25 128)) (IntKind.u64.wrap (IntKind.i64.wrap (7 * v6)))))) : Value) = .int .u64 u38 ∧ ∃ u39 : Int, (.int .i64 (IntKind.i64.wrap (v6 + 1)) : Value) = .int .i64 u39 ∧ (I1 u38 u39 w33 ∧ M2 u38 u39 w33 < M2 v5 v6 w7))))))))
    (withSome r fun a40 =>
    (okVal false 1 (.bool true) = true ∧ canPut w7 (Addr.add a40 2) (.bool true)) ∧ ∀ w41 : World, w41 = putAt w7 (Addr.add a40 2) (.bool true) →
    K (.int .i64 0) w41))
theorem skepref05_R_Number_of {r : (Option Addr)} {w : World} {K : Value → World → Prop} {KP : List PanicEntry → World → Prop} (h : W.skepref05_R_Number r w K KP) : C.skepref05_R_Number r w K KP :=
  xcall (E := E) (T := mkTab [(3, [(3, 119), (4, 3)])] [(3, [2, 3, 4, 5, 6, 7, 8, 9, 10, 11, 12, 13, 14, 15, 16, 17, 18, 19, 20, 21, 22, 23, 24, 25, 26, 27, 28, 29, 30, 31, 32, 33, 34, 35, 36, 37, 38, 39, 40, 41, 42, 43, 44, 45, 46, 47, 48, 49, 50, 51, 52, 53, 54, 55, 56, 57, 58, 59, 60, 61, 62, 63, 64, 65, 66, 67, 68, 69, 70, 71, 72, 73, 74, 75, 76, 77, 78, 79, 80, 81, 82, 83, 84, 85])] [(18, []), (13, [])] [(18, [2, 66, 67, 68, 69, 70, 71, 72, 73, 74]), (13, [2, 46, 47, 48, 49, 50, 51, 52, 53, 54])] [(5, [0, 1, 2, 3, 4, 5, 6, 7, 8, 9, 10, 11, 12, 13, 14, 15]), (8, [0, 1, 2, 3, 4, 5, 6, 7, 8, 9, 10])] [(5, [0, 1, 3, 7, 15, 31, 63, 127, 255, 31, 543, 1567, 3615, 7711, 16383, 32767]), (8, [0, 1, 3, 7, 0, 16, 48, 112, 255, 511, 1023])] [] []) (c := Try.f70.body.getD .skip) (rs := [.tmp 2]) ⟨⟩ mixed Try.func70 (by kernel_rfl) (by kernel_rfl) [.pointer r] (by kernel_rfl) (by kernel_rfl) (.inr (by kernel_rfl)) (Eq.mp (by kernel_rfl) h)

def W.skepref03_Disk_Cut (d : (Option Addr)) (file : Int) (size : Int) (w : World) (K : Value → World → Prop) (KP : List PanicEntry → World → Prop) : Prop :=
   ∃ J1 : World → Prop,
    ((cond ((file : Int) != 0)
    ((cond ((file : Int) != 1)
    (K (.int .i64 1) w)
    ((cond (decide ((size : Int) < 0))
    (K (.int .i64 1) w)
    (C.skepref03_Disk_Size d file w (fun r4 w2 => ∃ p3 : Int, r4 = .int .i64 p3 ∧
    (cond (decide ((size : Int) > p3))
    (K (.int .i64 1) w2)
    (J1 w2))) KP)))))
    ((cond (decide ((size : Int) < 0))
    (K (.int .i64 1) w)
    (C.skepref03_Disk_Size d file w (fun r7 w5 => ∃ p6 : Int, r7 = .int .i64 p6 ∧
    (cond (decide ((size : Int) > p6))
    (K (.int .i64 1) w5)
    (J1 w5))) KP))))) ∧
    ∀ e0 : Env, ∀ w8 : World, J1 w8 →
    ∀ w9, Drew w8 w9 →
    withSome d fun a10 =>
    ((0 : Int) ≤ file ∧ (file : Int) < (2 : Int)) ∧ ∃ y11 : Sl, (okVal false 1 (.slice y11.a y11.len y11.cap) = true ∧ w9.cell? (Addr.add (Addr.add a10 (file.toNat * 2)) 1) = some (.slice y11.a y11.len y11.cap)) ∧
    withSome d fun a12 =>
    ∀ (b13 : Nat) (w14 : World), Alloc w9 b13 109 [.int .u8 0, .bool true, .int .i64 size] w14 →
    (w14.cell? (Addr.add (Addr.add a10 (file.toNat * 2)) 1) = some (.slice y11.a y11.len y11.cap)) ∧ ∃ (q15 : Option Addr) (n16 c17 : Nat) (w18 : World), (Builtin.append_ #[99, 99] 99 #[.slice y11.a y11.len y11.cap, .slice (some ⟨b13, 0, none⟩) 1 1]).run Try.prog w14 = .ok (.slice q15 n16 c17) w18 ∧
    ((0 : Int) ≤ file ∧ (file : Int) < (2 : Int)) ∧ (okVal false 1 (.slice q15 n16 c17) = true ∧ canPut w18 (Addr.add (Addr.add a12 (file.toNat * 2)) 1) (.slice q15 n16 c17)) ∧ ∀ w19 : World, w19 = putAt w18 (Addr.add (Addr.add a12 (file.toNat * 2)) 1) (.slice q15 n16 c17) →
    K (.int .i64 0) w19
theorem skepref03_Disk_Cut_of {d : (Option Addr)} {file : Int} {size : Int} {w : World} {K : Value → World → Prop} {KP : List PanicEntry → World → Prop} (h : W.skepref03_Disk_Cut d file size w K KP) : C.skepref03_Disk_Cut d file size w K KP :=
  xcall (E := E) (T := mkTab [] [] [(3, [])] [(3, [6, 7, 8, 9, 10, 11, 12, 13, 14, 15, 16, 17, 18, 19, 20, 21, 22, 23])] [(3, [0, 1, 2, 3, 4, 5, 6, 7, 8, 9, 10, 13, 14, 11, 12, 15, 16, 17])] [(3, [0, 0, 0, 0, 4, 20, 60, 124, 252, 0, 512, 1536, 4092, 1, 8193, 32767, 65535, 131071])] [] []) (c := Try.f71.body.getD .skip) (rs := [.tmp 6]) ⟨⟩ mixed Try.func71 (by kernel_rfl) (by kernel_rfl) [.pointer d, .int .i64 file, .int .i64 size] (by kernel_rfl) (by kernel_rfl) (.inr (by kernel_rfl)) (Eq.mp (by kernel_rfl) h)

def W.skepref03_with (f : S.skepref03_F) (n : Int) (w : World) (K : Value → World → Prop) (KP : List PanicEntry → World → Prop) : Prop :=
   ∀ (b1 : Nat) (w2 : World), Alloc w b1 101 (S.skepref03_F.v f : Value).cells.toList w2 →
    ∃ y3 : Sl, (okVal false 1 (.slice y3.a y3.len y3.cap) = true ∧ w2.cell? ⟨b1, 0, none⟩ = some (.slice y3.a y3.len y3.cap)) ∧
    ∃ (q4 : Option Addr) (n5 c6 : Nat) (w7 : World), (Builtin.append_ #[27, 27] 27 #[.slice none 0 0, .slice y3.a y3.len y3.cap]).run Try.prog w2 = .ok (.slice q4 n5 c6) w7 ∧
    ∃ (I8 : Sl → Int → World → Prop) (M9 : Sl → Int → World → Nat),
    (∃ u10 : Sl, (.slice q4 n5 c6 : Value) = .slice u10.a u10.len u10.cap ∧ ∃ u11 : Int, (.int .i64 0 : Value) = .int .i64 u11 ∧ I8 u10 u11 w7) ∧
    ∀ e0 : Env, ∀ v12 : Sl, ∀ v13 : Int, ∀ w14 : World, I8 v12 v13 w14 →
    ∃ y15 : Sl, (okVal false 1 (.slice y15.a y15.len y15.cap) = true ∧ w14.cell? ⟨b1, 1, none⟩ = some (.slice y15.a y15.len y15.cap)) ∧
    (cond (decide ((v13 : Int) < (y15.len : Int)))
    ((cond (decide ((v13 : Int) < n))
    (∃ y16 : Sl, (okVal false 1 (.slice y16.a y16.len y16.cap) = true ∧ w14.cell? ⟨b1, 1, none⟩ = some (.slice y16.a y16.len y16.cap)) ∧
    ((0 : Int) ≤ v13 ∧ (v13 : Int) < (y16.len : Int)) ∧ withSome y16.a fun a17 =>
    ∃ y18 : Bool, (okVal false 1 (.bool y18) = true ∧ w14.cell? (Addr.add (Addr.add a17 (v13.toNat * 3)) 1) = some (.bool y18)) ∧
    (cond y18
    (∃ y19 : Sl, (okVal false 1 (.slice y19.a y19.len y19.cap) = true ∧ w14.cell? ⟨b1, 1, none⟩ = some (.slice y19.a y19.len y19.cap)) ∧
    ((0 : Int) ≤ v13 ∧ (v13 : Int) < (y19.len : Int)) ∧ withSome y19.a fun a20 =>
    ∃ y21 : Int, (okVal false 1 (.int .i64 y21) = true ∧ w14.cell? (Addr.add (Addr.add a20 (v13.toNat * 3)) 2) = some (.int .i64 y21)) ∧
    ((0 : Int) ≤ y21 ∧ (y21 : Int) ≤ (v12.cap : Int)) ∧ ∃ u22 : Sl, (.slice (if v12.cap = 0 then v12.a else Option.map (fun x => Addr.add x (0 * 1)) v12.a) (y21.toNat - 0) (v12.cap - 0) : Value) = .slice u22.a u22.len u22.cap ∧ ∃ u23 : Int, (.int .i64 (IntKind.i64.wrap (v13 + 1)) : Value) = .int .i64 u23 ∧ (I8 u22 u23 w14 ∧ M9 u22 u23 w14 < M9 v12 v13 w14))
    (∃ y24 : Sl, (okVal false 1 (.slice y24.a y24.len y24.cap) = true ∧ w14.cell? ⟨b1, 1, none⟩ = some (.slice y24.a y24.len y24.cap)) ∧
    ((0 : Int) ≤ v13 ∧ (v13 : Int) < (y24.len : Int)) ∧ withSome y24.a fun a25 =>
    ∃ y26 : Int, (okVal false 1 (.int .u8 y26) = true ∧ w14.cell? (Addr.add a25 (v13.toNat * 3)) = some (.int .u8 y26)) ∧
    ∀ (b27 : Nat) (w28 : World), Alloc w14 b27 5 [.int .u8 y26] w28 →
    ∃ (q29 : Option Addr) (n30 c31 : Nat) (w32 : World), (Builtin.append_ #[27, 27] 27 #[.slice v12.a v12.len v12.cap, .slice (some ⟨b27, 0, none⟩) 1 1]).run Try.prog w28 = .ok (.slice q29 n30 c31) w32 ∧
    ∃ u33 : Sl, (.slice q29 n30 c31 : Value) = .slice u33.a u33.len u33.cap ∧ ∃ u34 : Int, (.int .i64 (IntKind.i64.wrap (v13 + 1)) : Value) = .int .i64 u34 ∧ (I8 u33 u34 w32 ∧ M9 u33 u34 w32 < M9 v12 v13 w14))))
    (K (.slice v12.a v12.len v12.cap) w14)))
    (K (.slice v12.a v12.len v12.cap) w14))
theorem skepref03_with_of {f : S.skepref03_F} {n : Int} {w : World} {K : Value → World → Prop} {KP : List PanicEntry → World → Prop} (h : W.skepref03_with f n w K KP) : C.skepref03_with f n w K KP :=
  xcall (E := E) (T := mkTab [(3, [(5, 27), (6, 3)])] [(3, [5, 6, 10, 11, 12, 13, 14, 15, 16, 17, 18, 19, 20, 21, 22, 23, 24, 25, 26, 27, 28, 29, 30, 31, 32, 33, 34, 35, 36, 37, 38, 39, 40, 41, 42, 43, 44])] [] [] [] [] [] []) (c := Try.f72.body.getD .skip) (rs := [.tmp 4]) ⟨⟩ mixed Try.func72 (by kernel_rfl) (by kernel_rfl) [S.skepref03_F.v f, .int .i64 n] (by kernel_rfl) (by kernel_rfl) (.inr (by kernel_rfl)) (Eq.mp (by kernel_rfl) h)

def W.wal_Log_Records_1 (yield : Value) (p1_ : (Option Addr)) (p2_ : (Option Addr)) (w : World) (K : Value → World → Prop) (KP : List PanicEntry → World → Prop) : Prop :=
   withSome p1_ fun a2 =>
    ∃ y1 : (Option Addr), (okVal false 1 (.pointer y1) = true ∧ w.cell? a2 = some (.pointer y1)) ∧
    (cond y1.isNone
    (K (.tuple #[]) w)
    (∃ (I3 : Int → World → Prop) (M4 : Int → World → Nat),
    (∃ u5 : Int, (.int .i64 0 : Value) = .int .i64 u5 ∧ I3 u5 w) ∧
    ∀ e0 : Env, ∀ v6 : Int, ∀ w7 : World, I3 v6 w7 →
    withSome p2_ fun a9 =>
    ∃ y8 : Sl, (okVal false 1 (.slice y8.a y8.len y8.cap) = true ∧ w7.cell? a9 = some (.slice y8.a y8.len y8.cap)) ∧
    C.wal_record y8 v6 w7 (fun r12 w10 => ∃ p11 : Sl, r12 = .slice p11.a p11.len p11.cap ∧
    (cond p11.a.isNone
    (K (.tuple #[]) w10)
    (∀ (b13 : Nat) (w14 : World), Alloc w10 b13 5 [] w14 →
    ∃ (q15 : Option Addr) (n16 c17 : Nat) (w18 : World), (Builtin.append_ #[27, 27] 27 #[.slice (some ⟨b13, 0, none⟩) 0 0, .slice p11.a p11.len p11.cap]).run Try.prog w14 = .ok (.slice q15 n16 c17) w18 ∧
    callV Try.prog yield [.int .i64 v6, .slice q15 n16 c17] w18 (Ret (fun r21 w19 => ∃ p20 : Bool, r21 = .bool p20 ∧
    (cond (!p20)
    (K (.tuple #[]) w19)
    (∃ u22 : Int, (.int .i64 (IntKind.i64.wrap (v6 + (IntKind.i64.wrap (8 + (p11.len : Int))))) : Value) = .int .i64 u22 ∧ (I3 u22 w19 ∧ M4 u22 w19 < M4 v6 w7)))) KP)))) KP))
theorem wal_Log_Records_1_of {yield : Value} {p1_ : (Option Addr)} {p2_ : (Option Addr)} {w : World} {K : Value → World → Prop} {KP : List PanicEntry → World → Prop} (h : W.wal_Log_Records_1 yield p1_ p2_ w K KP) : C.wal_Log_Records_1 yield p1_ p2_ w K KP :=
  xcall (E := E) (T := mkTab [(2, [(4, 3)])] [(2, [4, 5, 8, 9, 10, 11, 12, 13, 14, 15, 16, 17, 18, 19, 20, 21, 22, 23, 24, 25, 26])] [] [] [] [] [] []) (c := Try.f73.body.getD .skip) (rs := []) ⟨⟩ mixed Try.func73 (by kernel_rfl) (by kernel_rfl) [yield, .pointer p1_, .pointer p2_] (by kernel_rfl) (by kernel_rfl) (.inr (by kernel_rfl)) (Eq.mp (by kernel_rfl) h)

def W.wal_record (p0_ : Sl) (p1_ : Int) (w : World) (K : Value → World → Prop) (KP : List PanicEntry → World → Prop) : Prop :=
   (cond (decide (((IntKind.i64.wrap ((p0_.len : Int) - p1_)) : Int) < 8))
    (K (.slice none 0 0) w)
    (((0 : Int) ≤ p1_ ∧ (p1_ : Int) ≤ (p0_.len : Int)) ∧ C.wal_told (⟨(if p0_.cap = p1_.toNat then p0_.a else Option.map (fun x => Addr.add x (p1_.toNat * 1)) p0_.a), p0_.len - p1_.toNat, p0_.cap - p1_.toNat⟩) w (fun r3 w1 => ∃ p2 : Int, r3 = .int .u32 p2 ∧
    (cond (decide ((p2 : Int) < 1))
    (K (.slice none 0 0) w1)
    ((cond (decide ((p2 : Int) > 65536))
    (K (.slice none 0 0) w1)
    ((cond (decide (((IntKind.i64.wrap p2) : Int) > (IntKind.i64.wrap ((IntKind.i64.wrap ((p0_.len : Int) - p1_)) - 8))))
    (K (.slice none 0 0) w1)
    (((0 : Int) ≤ (IntKind.i64.wrap ((IntKind.i64.wrap (p1_ + 8)) + (IntKind.i64.wrap p2))) ∧ ((IntKind.i64.wrap ((IntKind.i64.wrap (p1_ + 8)) + (IntKind.i64.wrap p2))) : Int) ≤ (p0_.cap : Int)) ∧ ((0 : Int) ≤ (IntKind.i64.wrap (p1_ + 8)) ∧ ((IntKind.i64.wrap (p1_ + 8)) : Int) ≤ ((IntKind.i64.wrap ((IntKind.i64.wrap (p1_ + 8)) + (IntKind.i64.wrap p2))).toNat : Int)) ∧ ∀ w4, Drew w1 w4 →
    ((0 : Int) ≤ (IntKind.i64.wrap (p1_ + 4)) ∧ ((IntKind.i64.wrap (p1_ + 4)) : Int) ≤ (p0_.cap : Int)) ∧ ((0 : Int) ≤ p1_ ∧ (p1_ : Int) ≤ ((IntKind.i64.wrap (p1_ + 4)).toNat : Int)) ∧ ((0 : Int) ≤ (IntKind.i64.wrap (p1_ + 4)) ∧ ((IntKind.i64.wrap (p1_ + 4)) : Int) ≤ (p0_.len : Int)) ∧ C.crc_Of (⟨(if p0_.cap = p1_.toNat then p0_.a else Option.map (fun x => Addr.add x (p1_.toNat * 1)) p0_.a), (IntKind.i64.wrap (p1_ + 4)).toNat - p1_.toNat, p0_.cap - p1_.toNat⟩) w4 (fun r7 w5 => ∃ p6 : Int, r7 = .int .u32 p6 ∧
    C.crc_More p6 (⟨(if p0_.cap = (IntKind.i64.wrap (p1_ + 8)).toNat then p0_.a else Option.map (fun x => Addr.add x (((IntKind.i64.wrap (p1_ + 8)).toNat) * 1)) p0_.a), (IntKind.i64.wrap ((IntKind.i64.wrap (p1_ + 8)) + (IntKind.i64.wrap p2))).toNat - (IntKind.i64.wrap (p1_ + 8)).toNat, p0_.cap - (IntKind.i64.wrap (p1_ + 8)).toNat⟩) w5 (fun r10 w8 => ∃ p9 : Int, r10 = .int .u32 p9 ∧
    C.wal_told (⟨(if p0_.cap = (IntKind.i64.wrap (p1_ + 4)).toNat then p0_.a else Option.map (fun x => Addr.add x (((IntKind.i64.wrap (p1_ + 4)).toNat) * 1)) p0_.a), p0_.len - (IntKind.i64.wrap (p1_ + 4)).toNat, p0_.cap - (IntKind.i64.wrap (p1_ + 4)).toNat⟩) w8 (fun r13 w11 => ∃ p12 : Int, r13 = .int .u32 p12 ∧
    (cond ((p9 : Int) != p12)
    (K (.slice none 0 0) w11)
    (K (.slice (if p0_.cap = (IntKind.i64.wrap (p1_ + 8)).toNat then p0_.a else Option.map (fun x => Addr.add x (((IntKind.i64.wrap (p1_ + 8)).toNat) * 1)) p0_.a) ((IntKind.i64.wrap ((IntKind.i64.wrap (p1_ + 8)) + (IntKind.i64.wrap p2))).toNat - (IntKind.i64.wrap (p1_ + 8)).toNat) (p0_.cap - (IntKind.i64.wrap (p1_ + 8)).toNat)) w11))) KP) KP) KP))))))) KP))
theorem wal_record_of {p0_ : Sl} {p1_ : Int} {w : World} {K : Value → World → Prop} {KP : List PanicEntry → World → Prop} (h : W.wal_record p0_ p1_ w K KP) : C.wal_record p0_ p1_ w K KP :=
  xcall (E := E) (T := mkTab [] [] [] [] [(7, [0, 1, 2, 3, 4, 6, 8, 9, 10, 11, 5, 7, 12, 13])] [(7, [0, 0, 0, 4, 15, 31, 0, 127, 0, 0, 512, 1792, 4095, 8191])] [] []) (c := Try.f74.body.getD .skip) (rs := [.tmp 4]) ⟨⟩ mixed Try.func74 (by kernel_rfl) (by kernel_rfl) [.slice p0_.a p0_.len p0_.cap, .int .i64 p1_] (by kernel_rfl) (by kernel_rfl) (.inr (by kernel_rfl)) (Eq.mp (by kernel_rfl) h)

def W.skepref02_step (r : Int) (p1_ : Int) (w : World) (K : Value → World → Prop) (KP : List PanicEntry → World → Prop) : Prop :=
   ∃ (I1 : Int → Int → World → Prop) (M2 : Int → Int → World → Nat),
    (∃ u3 : Int, (.int .u32 r : Value) = .int .u32 u3 ∧ ∃ u4 : Int, (.int .i64 0 : Value) = .int .i64 u4 ∧ I1 u3 u4 w) ∧
    ∀ e0 : Env, ∀ v5 : Int, ∀ v6 : Int, ∀ w7 : World, I1 v5 v6 w7 →
    (cond (decide ((v6 : Int) < 8))
    ((2 : Int) ≠ 0 ∧ (0 : Int) ≤ (IntKind.u64.wrap v6) ∧ (2 : Int) ≠ 0 ∧ (0 : Int) ≤ 1 ∧ (cond (((Int.tmod v5 2) : Int) != (IntKind.u32.wrap (Int.tmod (shrI .u8 p1_ (IntKind.u64.wrap v6)) 2)))
    (∃ u8 : Int, (.int .u32 (xorI .u32 (shrI .u32 v5 1) 3988292384) : Value) = .int .u32 u8 ∧ ∃ u9 : Int, (.int .i64 (IntKind.i64.wrap (v6 + 1)) : Value) = .int .i64 u9 ∧ (I1 u8 u9 w7 ∧ M2 u8 u9 w7 < M2 v5 v6 w7))
    (∃ u10 : Int, (.int .u32 (shrI .u32 v5 1) : Value) = .int .u32 u10 ∧ ∃ u11 : Int, (.int .i64 (IntKind.i64.wrap (v6 + 1)) : Value) = .int .i64 u11 ∧ (I1 u10 u11 w7 ∧ M2 u10 u11 w7 < M2 v5 v6 w7))))
    (K (.int .u32 v5) w7))
theorem skepref02_step_of {r : Int} {p1_ : Int} {w : World} {K : Value → World → Prop} {KP : List PanicEntry → World → Prop} (h : W.skepref02_step r p1_ w K KP) : C.skepref02_step r p1_ w K KP :=
  xcall (E := E) (T := mkTab [(2, [(0, 89), (5, 3)])] [(2, [0, 5, 6, 7, 8, 9, 10, 11, 12, 13, 14, 15, 16, 17, 18, 19, 20, 21, 22, 23, 24])] [] [] [] [] [] []) (c := Try.f75.body.getD .skip) (rs := [.tmp 4]) ⟨⟩ mixed Try.func75 (by kernel_rfl) (by kernel_rfl) [.int .u32 r, .int .u8 p1_] (by kernel_rfl) (by kernel_rfl) (.inr (by kernel_rfl)) (Eq.mp (by kernel_rfl) h)

def W.skepref04_Records (p0_ : Sl) (w : World) (K : Value → World → Prop) (KP : List PanicEntry → World → Prop) : Prop :=
   ∃ (I1 : Sl → Int → World → Prop) (M2 : Sl → Int → World → Nat),
    (∃ u3 : Sl, (.slice none 0 0 : Value) = .slice u3.a u3.len u3.cap ∧ ∃ u4 : Int, (.int .i64 0 : Value) = .int .i64 u4 ∧ I1 u3 u4 w) ∧
    ∀ e0 : Env, ∀ v5 : Sl, ∀ v6 : Int, ∀ w7 : World, I1 v5 v6 w7 →
    (cond (decide (((IntKind.i64.wrap ((p0_.len : Int) - v6)) : Int) ≥ 8))
    (((0 : Int) ≤ (IntKind.i64.wrap (v6 + 4)) ∧ ((IntKind.i64.wrap (v6 + 4)) : Int) ≤ (p0_.cap : Int)) ∧ ((0 : Int) ≤ v6 ∧ (v6 : Int) ≤ ((IntKind.i64.wrap (v6 + 4)).toNat : Int)) ∧ C.skepref04_four (⟨(if p0_.cap = v6.toNat then p0_.a else Option.map (fun x => Addr.add x (v6.toNat * 1)) p0_.a), (IntKind.i64.wrap (v6 + 4)).toNat - v6.toNat, p0_.cap - v6.toNat⟩) w7 (fun r10 w8 => ∃ p9 : Int, r10 = .int .u32 p9 ∧
    (cond (decide (((IntKind.i64.wrap p9) : Int) < 1))
    (K (.tuple #[.slice v5.a v5.len v5.cap, .int .i64 v6]) w8)
    ((cond (decide (((IntKind.i64.wrap p9) : Int) > 65536))
    (K (.tuple #[.slice v5.a v5.len v5.cap, .int .i64 v6]) w8)
    ((cond (decide (((IntKind.i64.wrap p9) : Int) > (IntKind.i64.wrap ((IntKind.i64.wrap ((p0_.len : Int) - v6)) - 8))))
    (K (.tuple #[.slice v5.a v5.len v5.cap, .int .i64 v6]) w8)
    (((0 : Int) ≤ (IntKind.i64.wrap ((IntKind.i64.wrap (v6 + 8)) + (IntKind.i64.wrap p9))) ∧ ((IntKind.i64.wrap ((IntKind.i64.wrap (v6 + 8)) + (IntKind.i64.wrap p9))) : Int) ≤ (p0_.cap : Int)) ∧ ((0 : Int) ≤ (IntKind.i64.wrap (v6 + 8)) ∧ ((IntKind.i64.wrap (v6 + 8)) : Int) ≤ ((IntKind.i64.wrap ((IntKind.i64.wrap (v6 + 8)) + (IntKind.i64.wrap p9))).toNat : Int)) ∧ ((0 : Int) ≤ (IntKind.i64.wrap (v6 + 4)) ∧ ((IntKind.i64.wrap (v6 + 4)) : Int) ≤ (p0_.cap : Int)) ∧ ((0 : Int) ≤ v6 ∧ (v6 : Int) ≤ ((IntKind.i64.wrap (v6 + 4)).toNat : Int)) ∧ ∃ (q11 : Option Addr) (n12 c13 : Nat) (w14 : World), (Builtin.append_ #[27, 27] 27 #[.slice none 0 0, .slice (if p0_.cap = v6.toNat then p0_.a else Option.map (fun x => Addr.add x (v6.toNat * 1)) p0_.a) ((IntKind.i64.wrap (v6 + 4)).toNat - v6.toNat) (p0_.cap - v6.toNat)]).run Try.prog w8 = .ok (.slice q11 n12 c13) w14 ∧
    ∃ (q15 : Option Addr) (n16 c17 : Nat) (w18 : World), (Builtin.append_ #[27, 27] 27 #[.slice q11 n12 c13, .slice (if p0_.cap = (IntKind.i64.wrap (v6 + 8)).toNat then p0_.a else Option.map (fun x => Addr.add x (((IntKind.i64.wrap (v6 + 8)).toNat) * 1)) p0_.a) ((IntKind.i64.wrap ((IntKind.i64.wrap (v6 + 8)) + (IntKind.i64.wrap p9))).toNat - (IntKind.i64.wrap (v6 + 8)).toNat) (p0_.cap - (IntKind.i64.wrap (v6 + 8)).toNat)]).run Try.prog w14 = .ok (.slice q15 n16 c17) w18 ∧
    C.skepref02_Of (⟨q15, n16, c17⟩) w18 (fun r21 w19 => ∃ p20 : Int, r21 = .int .u32 p20 ∧
    ((0 : Int) ≤ (IntKind.i64.wrap (v6 + 8)) ∧ ((IntKind.i64.wrap (v6 + 8)) : Int) ≤ (p0_.cap : Int)) ∧ ((0 : Int) ≤ (IntKind.i64.wrap (v6 + 4)) ∧ ((IntKind.i64.wrap (v6 + 4)) : Int) ≤ ((IntKind.i64.wrap (v6 + 8)).toNat : Int)) ∧ C.skepref04_four (⟨(if p0_.cap = (IntKind.i64.wrap (v6 + 4)).toNat then p0_.a else Option.map (fun x => Addr.add x (((IntKind.i64.wrap (v6 + 4)).toNat) * 1)) p0_.a), (IntKind.i64.wrap (v6 + 8)).toNat - (IntKind.i64.wrap (v6 + 4)).toNat, p0_.cap - (IntKind.i64.wrap (v6 + 4)).toNat⟩) w19 (fun r24 w22 => ∃ p23 : Int, r24 = .int .u32 p23 ∧
    (cond ((p20 : Int) != p23)
    (K (.tuple #[.slice v5.a v5.len v5.cap, .int .i64 v6]) w22)
    (∃ (q25 : Option Addr) (n26 c27 : Nat) (w28 : World), (Builtin.append_ #[27, 27] 27 #[.slice none 0 0, .slice (if p0_.cap = (IntKind.i64.wrap (v6 + 8)).toNat then p0_.a else Option.map (fun x => Addr.add x (((IntKind.i64.wrap (v6 + 8)).toNat) * 1)) p0_.a) ((IntKind.i64.wrap ((IntKind.i64.wrap (v6 + 8)) + (IntKind.i64.wrap p9))).toNat - (IntKind.i64.wrap (v6 + 8)).toNat) (p0_.cap - (IntKind.i64.wrap (v6 + 8)).toNat)]).run Try.prog w22 = .ok (.slice q25 n26 c27) w28 ∧
    ∀ (b29 : Nat) (w30 : World), Alloc w28 b29 126 [.int .i64 v6, .slice q25 n26 c27] w30 →
    ∃ (q31 : Option Addr) (n32 c33 : Nat) (w34 : World), (Builtin.append_ #[120, 120] 120 #[.slice v5.a v5.len v5.cap, .slice (some ⟨b29, 0, none⟩) 1 1]).run Try.prog w30 = .ok (.slice q31 n32 c33) w34 ∧
    ∃ u35 : Sl, (.slice q31 n32 c33 : Value) = .slice u35.a u35.len u35.cap ∧ ∃ u36 : Int, (.int .i64 (IntKind.i64.wrap ((IntKind.i64.wrap (v6 + 8)) + (IntKind.i64.wrap p9))) : Value) = .int .i64 u36 ∧ (I1 u35 u36 w34 ∧ M2 u35 u36 w34 < M2 v5 v6 w7)))) KP) KP))))))) KP)
    (K (.tuple #[.slice v5.a v5.len v5.cap, .int .i64 v6]) w7))
theorem skepref04_Records_of {p0_ : Sl} {w : World} {K : Value → World → Prop} {KP : List PanicEntry → World → Prop} (h : W.skepref04_Records p0_ w K KP) : C.skepref04_Records p0_ w K KP :=
  xcall (E := E) (T := mkTab [(3, [(4, 120), (5, 3)])] [(3, [4, 5, 6, 7, 8, 9, 10, 11, 12, 13, 14, 15, 16, 17, 18, 19, 20, 21, 22, 23, 24, 25, 26, 27, 28, 29, 30, 31, 32, 33, 34, 35, 36, 37, 38, 39, 40, 41, 42, 43, 44, 45, 46, 47, 48, 49, 50, 51, 52, 53, 54, 55, 56, 57, 58, 59, 60, 61, 62, 63, 64, 65, 66, 67, 68, 69, 70, 71, 72])] [] [] [] [] [] []) (c := Try.f76.body.getD .skip) (rs := [.tmp 2, .tmp 3]) ⟨⟩ mixed Try.func76 (by kernel_rfl) (by kernel_rfl) [.slice p0_.a p0_.len p0_.cap] (by kernel_rfl) (by kernel_rfl) (.inr (by kernel_rfl)) (Eq.mp (by kernel_rfl) h)

def W.wal_told (p0_ : Sl) (w : World) (K : Value → World → Prop) (KP : List PanicEntry → World → Prop) : Prop :=
   ∀ w1, Drew w w1 →
    ((0 : Int) ≤ 0 ∧ (0 : Int) < (p0_.len : Int)) ∧ withSome p0_.a fun a2 =>
    ∃ y3 : Int, (okVal false 1 (.int .u8 y3) = true ∧ w1.cell? a2 = some (.int .u8 y3)) ∧
    ((0 : Int) ≤ 1 ∧ (1 : Int) < (p0_.len : Int)) ∧ withSome p0_.a fun a4 =>
    ∃ y5 : Int, (okVal false 1 (.int .u8 y5) = true ∧ w1.cell? (Addr.add a4 1) = some (.int .u8 y5)) ∧
    (0 : Int) ≤ 8 ∧ ((0 : Int) ≤ 2 ∧ (2 : Int) < (p0_.len : Int)) ∧ withSome p0_.a fun a6 =>
    ∃ y7 : Int, (okVal false 1 (.int .u8 y7) = true ∧ w1.cell? (Addr.add a6 2) = some (.int .u8 y7)) ∧
    (0 : Int) ≤ 16 ∧ ((0 : Int) ≤ 3 ∧ (3 : Int) < (p0_.len : Int)) ∧ withSome p0_.a fun a8 =>
    ∃ y9 : Int, (okVal false 1 (.int .u8 y9) = true ∧ w1.cell? (Addr.add a8 3) = some (.int .u8 y9)) ∧
    (0 : Int) ≤ 24 ∧ K (.int .u32 (orI .u32 (orI .u32 (orI .u32 (IntKind.u32.wrap y3) (shlI .u32 (IntKind.u32.wrap y5) 8)) (shlI .u32 (IntKind.u32.wrap y7) 16)) (shlI .u32 (IntKind.u32.wrap y9) 24))) w1
theorem wal_told_of {p0_ : Sl} {w : World} {K : Value → World → Prop} {KP : List PanicEntry → World → Prop} (h : W.wal_told p0_ w K KP) : C.wal_told p0_ w K KP :=
  xcall (E := E) (T := mkTab [] [] [] [] [(1, [0, 1, 2, 3, 4, 5, 6, 7, 8, 9, 10, 11, 12, 13, 14, 15, 16, 17, 18, 19, 20, 21, 22])] [(1, [0, 1, 3, 7, 0, 16, 48, 112, 240, 511, 0, 1024, 3072, 7168, 15360, 32767, 0, 65536, 196608, 458752, 983040, 2097151, 4194303])] [] []) (c := Try.f77.body.getD .skip) (rs := [.tmp 2]) ⟨⟩ mixed Try.func77 (by kernel_rfl) (by kernel_rfl) [.slice p0_.a p0_.len p0_.cap] (by kernel_rfl) (by kernel_rfl) (.inr (by kernel_rfl)) (Eq.mp (by kernel_rfl) h)

def W.skepref04_four (p0_ : Sl) (w : World) (K : Value → World → Prop) (KP : List PanicEntry → World → Prop) : Prop :=
   ∀ w1, Drew w w1 →
    ((0 : Int) ≤ 0 ∧ (0 : Int) < (p0_.len : Int)) ∧ withSome p0_.a fun a2 =>
    ∃ y3 : Int, (okVal false 1 (.int .u8 y3) = true ∧ w1.cell? a2 = some (.int .u8 y3)) ∧
    ((0 : Int) ≤ 1 ∧ (1 : Int) < (p0_.len : Int)) ∧ withSome p0_.a fun a4 =>
    ∃ y5 : Int, (okVal false 1 (.int .u8 y5) = true ∧ w1.cell? (Addr.add a4 1) = some (.int .u8 y5)) ∧
    (0 : Int) ≤ 8 ∧ ((0 : Int) ≤ 2 ∧ (2 : Int) < (p0_.len : Int)) ∧ withSome p0_.a fun a6 =>
    ∃ y7 : Int, (okVal false 1 (.int .u8 y7) = true ∧ w1.cell? (Addr.add a6 2) = some (.int .u8 y7)) ∧
    (0 : Int) ≤ 16 ∧ ((0 : Int) ≤ 3 ∧ (3 : Int) < (p0_.len : Int)) ∧ withSome p0_.a fun a8 =>
    ∃ y9 : Int, (okVal false 1 (.int .u8 y9) = true ∧ w1.cell? (Addr.add a8 3) = some (.int .u8 y9)) ∧
    (0 : Int) ≤ 24 ∧ K (.int .u32 (IntKind.u32.wrap ((IntKind.u32.wrap ((IntKind.u32.wrap ((IntKind.u32.wrap y3) + (shlI .u32 (IntKind.u32.wrap y5) 8))) + (shlI .u32 (IntKind.u32.wrap y7) 16))) + (shlI .u32 (IntKind.u32.wrap y9) 24)))) w1
theorem skepref04_four_of {p0_ : Sl} {w : World} {K : Value → World → Prop} {KP : List PanicEntry → World → Prop} (h : W.skepref04_four p0_ w K KP) : C.skepref04_four p0_ w K KP :=
  xcall (E := E) (T := mkTab [] [] [] [] [(1, [0, 1, 2, 3, 4, 5, 6, 7, 8, 9, 10, 11, 12, 13, 14, 15, 16, 17, 18, 19, 20, 21, 22])] [(1, [0, 1, 3, 7, 0, 16, 48, 112, 240, 511, 0, 1024, 3072, 7168, 15360, 32767, 0, 65536, 196608, 458752, 983040, 2097151, 4194303])] [] []) (c := Try.f78.body.getD .skip) (rs := [.tmp 2]) ⟨⟩ mixed Try.func78 (by kernel_rfl) (by kernel_rfl) [.slice p0_.a p0_.len p0_.cap] (by kernel_rfl) (by kernel_rfl) (.inr (by kernel_rfl)) (Eq.mp (by kernel_rfl) h)
end Go.Proofs.Ytfgepillnemolaa
