/- Printed by vc.py: what functions of this seat come to, as predicates of typed values, each with its proof. No conditions. -/
import Derived.Test.YtfgepillnemolaaTab
namespace Go.Proofs.Ytfgepillnemolaa
open Go.Eng
set_option linter.unusedVariables false
set_option maxRecDepth 100000
def W.skeplaw06_StoreOnce (l : Sl) (again : Sl) (w : World) (K : Value → World → Prop) (KP : List PanicEntry → World → Prop) : Prop :=
   C.disk_New  w (fun r3 w1 => ∃ p2 : (Option Addr), r3 = .pointer p2 ∧
    C.store_Open p2 w1 (fun r6 w4 => ∃ p5 : ((Option Addr) × Sl × Sl × Int), r6 = .tuple #[.pointer p5.1, .slice p5.2.1.a p5.2.1.len p5.2.1.cap, .slice p5.2.2.1.a p5.2.2.1.len p5.2.2.1.cap, .int .i64 p5.2.2.2] ∧
    (cond ((p5.2.2.2 : Int) != 0)
    (K (.bool false) w4)
    ((cond p5.1.isNone
    (K (.bool false) w4)
    (∃ J7 : Int → World → Prop,
    (∃ (I8 : Int → Int → World → Prop) (M9 : Int → Int → World → Nat),
    (∃ u10 : Int, (.int .i64 0 : Value) = .int .i64 u10 ∧ ∃ u11 : Int, (.int .i64 0 : Value) = .int .i64 u11 ∧ I8 u10 u11 w4) ∧
    ∀ e0 : Env, ∀ v12 : Int, ∀ v13 : Int, ∀ w14 : World, I8 v12 v13 w14 →
    (cond (decide ((v13 : Int) < (l.len : Int)))
    ((cond (decide ((v13 : Int) < 20))
    (((0 : Int) ≤ v13 ∧ (v13 : Int) < (l.len : Int)) ∧ withSome l.a fun a15 =>
    ∃ y16 : Sl, (okVal false 1 (.slice y16.a y16.len y16.cap) = true ∧ w14.cell? (Addr.add a15 (v13.toNat * 1)) = some (.slice y16.a y16.len y16.cap)) ∧
    (cond (decide (((y16.len : Int) : Int) > 500))
    (C.skeplaw06_awake  w14 (fun r19 w17 => ∃ p18 : Bool, r19 = .bool p18 ∧
    K (.bool p18) w17) KP)
    (((0 : Int) ≤ v13 ∧ (v13 : Int) < (l.len : Int)) ∧ withSome l.a fun a20 =>
    ∃ y21 : Sl, (okVal false 1 (.slice y21.a y21.len y21.cap) = true ∧ w14.cell? (Addr.add a20 (v13.toNat * 1)) = some (.slice y21.a y21.len y21.cap)) ∧
    C.skeplaw00_CopyBytes y21 w14 (fun r24 w22 => ∃ p23 : Sl, r24 = .slice p23.a p23.len p23.cap ∧
    C.store_Store_Append p5.1 (IntKind.i64.wrap (v12 + 1)) p23 w22 (fun r27 w25 => ∃ p26 : Int, r27 = .int .i64 p26 ∧
    (cond ((p26 : Int) != 0)
    (K (.bool false) w25)
    (∃ u28 : Int, (.int .i64 (IntKind.i64.wrap (v12 + 1)) : Value) = .int .i64 u28 ∧ ∃ u29 : Int, (.int .i64 (IntKind.i64.wrap (v13 + 1)) : Value) = .int .i64 u29 ∧ (I8 u28 u29 w25 ∧ M9 u28 u29 w25 < M9 v12 v13 w14)))) KP) KP)))
    (∃ u30 : Int, (.int .i64 v12 : Value) = .int .i64 u30 ∧ J7 u30 w14)))
    (∃ u31 : Int, (.int .i64 v12 : Value) = .int .i64 u31 ∧ J7 u31 w14))) ∧
    ∀ e0 : Env, ∀ v32 : Int, ∀ w33 : World, J7 v32 w33 →
    C.disk_Disk_Read p2 0 w33 (fun r36 w34 => ∃ p35 : Sl, r36 = .slice p35.a p35.len p35.cap ∧
    ∃ s37 : ByteArray, (s37.size = p35.len ∧ (0 < p35.len → withSome p35.a fun a => Go.Eng.World.has w34 a (bytesV s37))) ∧
    ∃ J38 : World → Prop,
    (∃ (I39 : Int → World → Prop) (M40 : Int → World → Nat),
    (∃ u41 : Int, (.int .i64 0 : Value) = .int .i64 u41 ∧ I39 u41 w34) ∧
    ∀ e0 : Env, ∀ v42 : Int, ∀ w43 : World, I39 v42 w43 →
    (cond (decide ((v42 : Int) < (again.len : Int)))
    ((cond (decide ((v42 : Int) < 20))
    (((0 : Int) ≤ v42 ∧ (v42 : Int) < (again.len : Int)) ∧ withSome again.a fun a44 =>
    ∃ y45 : Int, (okVal false 1 (.int .i64 y45) = true ∧ w43.cell? (Addr.add a44 (v42.toNat * 1)) = some (.int .i64 y45)) ∧
    ∀ (b46 : Nat) (w47 : World), Alloc w43 b46 5 [.int .u8 111, .int .u8 110, .int .u8 99, .int .u8 101, .int .u8 32, .int .u8 109, .int .u8 111, .int .u8 114, .int .u8 101] w47 →
    ∀ w48 : World, Marked w47 ⟨b46, 0, none⟩ w48 →
    C.store_Store_Append p5.1 y45 (⟨(some ⟨b46, 0, none⟩), 9, 9⟩) w48 (fun r51 w49 => ∃ p50 : Int, r51 = .int .i64 p50 ∧
    ((0 : Int) ≤ v42 ∧ (v42 : Int) < (again.len : Int)) ∧ withSome again.a fun a52 =>
    ∃ y53 : Int, (okVal false 1 (.int .i64 y53) = true ∧ w49.cell? (Addr.add a52 (v42.toNat * 1)) = some (.int .i64 y53)) ∧
    (cond (decide ((y53 : Int) ≥ 1))
    (((0 : Int) ≤ v42 ∧ (v42 : Int) < (again.len : Int)) ∧ withSome again.a fun a54 =>
    ∃ y55 : Int, (okVal false 1 (.int .i64 y55) = true ∧ w49.cell? (Addr.add a54 (v42.toNat * 1)) = some (.int .i64 y55)) ∧
    (cond (decide ((y55 : Int) ≤ v32))
    ((cond ((p50 : Int) != 0)
    (K (.bool false) w49)
    (∃ u56 : Int, (.int .i64 (IntKind.i64.wrap (v42 + 1)) : Value) = .int .i64 u56 ∧ (I39 u56 w49 ∧ M40 u56 w49 < M40 v42 w43))))
    (((0 : Int) ≤ v42 ∧ (v42 : Int) < (again.len : Int)) ∧ withSome again.a fun a57 =>
    ∃ y58 : Int, (okVal false 1 (.int .i64 y58) = true ∧ w49.cell? (Addr.add a57 (v42.toNat * 1)) = some (.int .i64 y58)) ∧
    (cond ((y58 : Int) != (IntKind.i64.wrap (v32 + 1)))
    ((cond ((p50 : Int) != 8)
    (K (.bool false) w49)
    (((0 : Int) ≤ v42 ∧ (v42 : Int) < (again.len : Int)) ∧ withSome again.a fun a59 =>
    ∃ y60 : Int, (okVal false 1 (.int .i64 y60) = true ∧ w49.cell? (Addr.add a59 (v42.toNat * 1)) = some (.int .i64 y60)) ∧
    (cond ((y60 : Int) == (IntKind.i64.wrap (v32 + 1)))
    (C.skeplaw06_awake  w49 (fun r63 w61 => ∃ p62 : Bool, r63 = .bool p62 ∧
    K (.bool p62) w61) KP)
    (∃ u64 : Int, (.int .i64 (IntKind.i64.wrap (v42 + 1)) : Value) = .int .i64 u64 ∧ (I39 u64 w49 ∧ M40 u64 w49 < M40 v42 w43))))))
    (((0 : Int) ≤ v42 ∧ (v42 : Int) < (again.len : Int)) ∧ withSome again.a fun a65 =>
    ∃ y66 : Int, (okVal false 1 (.int .i64 y66) = true ∧ w49.cell? (Addr.add a65 (v42.toNat * 1)) = some (.int .i64 y66)) ∧
    (cond ((y66 : Int) == (IntKind.i64.wrap (v32 + 1)))
    (C.skeplaw06_awake  w49 (fun r69 w67 => ∃ p68 : Bool, r69 = .bool p68 ∧
    K (.bool p68) w67) KP)
    (∃ u70 : Int, (.int .i64 (IntKind.i64.wrap (v42 + 1)) : Value) = .int .i64 u70 ∧ (I39 u70 w49 ∧ M40 u70 w49 < M40 v42 w43))))))))
    (((0 : Int) ≤ v42 ∧ (v42 : Int) < (again.len : Int)) ∧ withSome again.a fun a71 =>
    ∃ y72 : Int, (okVal false 1 (.int .i64 y72) = true ∧ w49.cell? (Addr.add a71 (v42.toNat * 1)) = some (.int .i64 y72)) ∧
    (cond ((y72 : Int) != (IntKind.i64.wrap (v32 + 1)))
    ((cond ((p50 : Int) != 8)
    (K (.bool false) w49)
    (((0 : Int) ≤ v42 ∧ (v42 : Int) < (again.len : Int)) ∧ withSome again.a fun a73 =>
    ∃ y74 : Int, (okVal false 1 (.int .i64 y74) = true ∧ w49.cell? (Addr.add a73 (v42.toNat * 1)) = some (.int .i64 y74)) ∧
    (cond ((y74 : Int) == (IntKind.i64.wrap (v32 + 1)))
    (C.skeplaw06_awake  w49 (fun r77 w75 => ∃ p76 : Bool, r77 = .bool p76 ∧
    K (.bool p76) w75) KP)
    (∃ u78 : Int, (.int .i64 (IntKind.i64.wrap (v42 + 1)) : Value) = .int .i64 u78 ∧ (I39 u78 w49 ∧ M40 u78 w49 < M40 v42 w43))))))
    (((0 : Int) ≤ v42 ∧ (v42 : Int) < (again.len : Int)) ∧ withSome again.a fun a79 =>
    ∃ y80 : Int, (okVal false 1 (.int .i64 y80) = true ∧ w49.cell? (Addr.add a79 (v42.toNat * 1)) = some (.int .i64 y80)) ∧
    (cond ((y80 : Int) == (IntKind.i64.wrap (v32 + 1)))
    (C.skeplaw06_awake  w49 (fun r83 w81 => ∃ p82 : Bool, r83 = .bool p82 ∧
    K (.bool p82) w81) KP)
    (∃ u84 : Int, (.int .i64 (IntKind.i64.wrap (v42 + 1)) : Value) = .int .i64 u84 ∧ (I39 u84 w49 ∧ M40 u84 w49 < M40 v42 w43)))))))) KP)
    (J38 w43)))
    (J38 w43))) ∧
    ∀ e0 : Env, ∀ w85 : World, J38 w85 →
    C.disk_Disk_Read p2 0 w85 (fun r88 w86 => ∃ p87 : Sl, r88 = .slice p87.a p87.len p87.cap ∧
    ∃ s89 : ByteArray, (s89.size = p87.len ∧ (0 < p87.len → withSome p87.a fun a => Go.Eng.World.has w86 a (bytesV s89))) ∧
    (cond (strEq s89 s37)
    (C.store_Store_Last p5.1 w86 (fun r92 w90 => ∃ p91 : Int, r92 = .int .i64 p91 ∧
    (cond ((p91 : Int) == v32)
    (C.skeplaw06_awake  w90 (fun r95 w93 => ∃ p94 : Bool, r95 = .bool p94 ∧
    K (.bool p94) w93) KP)
    (K (.bool false) w90))) KP)
    (K (.bool false) w86))) KP) KP))))) KP) KP
theorem skeplaw06_StoreOnce_of {l : Sl} {again : Sl} {w : World} {K : Value → World → Prop} {KP : List PanicEntry → World → Prop} (h : W.skeplaw06_StoreOnce l again w K KP) : C.skeplaw06_StoreOnce l again w K KP :=
  xcall (E := E) (T := mkTab [(7, [(10, 3), (11, 3)]), (16, [(13, 3)])] [(7, [4, 10, 11, 29, 30, 31, 32, 33, 34, 35, 36, 37, 38, 39, 40, 41, 42, 43, 44, 45, 46, 47, 48, 49, 50, 51, 52, 53, 54, 55, 56]), (16, [4, 13, 14, 60, 61, 62, 63, 64, 65, 66, 67, 68, 69, 70, 71, 72, 73, 74, 75, 76, 77, 78, 79, 80, 81, 82, 83, 84, 85, 86, 87, 88, 89, 90, 91, 92, 93, 94, 95, 96, 97, 98, 99, 100, 101, 102, 103, 104, 105, 106, 107, 108, 109, 110, 111])] [(26, []), (14, [(10, 3)])] [(26, [4, 13, 14, 60, 61, 62, 63, 64, 65, 66, 67, 68, 69, 70, 71, 72, 73, 74, 75, 76, 77, 78, 79, 80, 81, 82, 83, 84, 85, 86, 87, 88, 89, 90, 91, 92, 93, 94, 95, 96, 97, 98, 99, 100, 101, 102, 103, 104, 105, 106, 107, 108, 109, 110, 111]), (14, [4, 10, 11, 29, 30, 31, 32, 33, 34, 35, 36, 37, 38, 39, 40, 41, 42, 43, 44, 45, 46, 47, 48, 49, 50, 51, 52, 53, 54, 55, 56])] [] [] [] []) (c := Try.f3.body.getD .skip) (rs := [.tmp 4]) ⟨⟩ mixed Try.func3 (by kernel_rfl) (by kernel_rfl) [.slice l.a l.len l.cap, .slice again.a again.len again.cap] (by kernel_rfl) (by kernel_rfl) (.inr (by kernel_rfl)) (Eq.mp (by kernel_rfl) h)

def W.skeplaw06_StoreSmall (l : Sl) (snap : Sl) (times : Int) (w : World) (K : Value → World → Prop) (KP : List PanicEntry → World → Prop) : Prop :=
   C.disk_New  w (fun r3 w1 => ∃ p2 : (Option Addr), r3 = .pointer p2 ∧
    C.store_Open p2 w1 (fun r6 w4 => ∃ p5 : ((Option Addr) × Sl × Sl × Int), r6 = .tuple #[.pointer p5.1, .slice p5.2.1.a p5.2.1.len p5.2.1.cap, .slice p5.2.2.1.a p5.2.2.1.len p5.2.2.1.cap, .int .i64 p5.2.2.2] ∧
    (cond ((p5.2.2.2 : Int) != 0)
    ((cond ((p5.2.2.2 : Int) == 0)
    ((cond (!p5.1.isNone)
    (C.skeplaw06_awake  w4 (fun r9 w7 => ∃ p8 : Bool, r9 = .bool p8 ∧
    K (.bool p8) w7) KP)
    (K (.bool false) w4)))
    (K (.bool false) w4)))
    ((cond p5.1.isNone
    ((cond ((p5.2.2.2 : Int) == 0)
    ((cond (!p5.1.isNone)
    (C.skeplaw06_awake  w4 (fun r12 w10 => ∃ p11 : Bool, r12 = .bool p11 ∧
    K (.bool p11) w10) KP)
    (K (.bool false) w4)))
    (K (.bool false) w4)))
    ((cond (decide (((snap.len : Int) : Int) > 3000))
    ((cond ((p5.2.2.2 : Int) == 0)
    ((cond (!p5.1.isNone)
    (C.skeplaw06_awake  w4 (fun r15 w13 => ∃ p14 : Bool, r15 = .bool p14 ∧
    K (.bool p14) w13) KP)
    (K (.bool false) w4)))
    (K (.bool false) w4)))
    (∃ (I16 : Int → Int → World → Prop) (M17 : Int → Int → World → Nat),
    (∃ u18 : Int, (.int .i64 0 : Value) = .int .i64 u18 ∧ ∃ u19 : Int, (.int .i64 0 : Value) = .int .i64 u19 ∧ I16 u18 u19 w4) ∧
    ∀ e0 : Env, ∀ v20 : Int, ∀ v21 : Int, ∀ w22 : World, I16 v20 v21 w22 →
    C.skeplaw00_Place times 4 w22 (fun r25 w23 => ∃ p24 : Int, r25 = .int .i64 p24 ∧
    (cond (decide ((v21 : Int) < (IntKind.i64.wrap (1 + p24))))
    (∃ J26 : Int → World → Prop,
    (∃ (I27 : Int → Int → World → Prop) (M28 : Int → Int → World → Nat),
    (∃ u29 : Int, (.int .i64 v20 : Value) = .int .i64 u29 ∧ ∃ u30 : Int, (.int .i64 0 : Value) = .int .i64 u30 ∧ I27 u29 u30 w23) ∧
    ∀ e0 : Env, ∀ v31 : Int, ∀ v32 : Int, ∀ w33 : World, I27 v31 v32 w33 →
    (cond (decide ((v32 : Int) < (l.len : Int)))
    ((cond (decide ((v32 : Int) < 10))
    (((0 : Int) ≤ v32 ∧ (v32 : Int) < (l.len : Int)) ∧ withSome l.a fun a34 =>
    ∃ y35 : Sl, (okVal false 1 (.slice y35.a y35.len y35.cap) = true ∧ w33.cell? (Addr.add a34 (v32.toNat * 1)) = some (.slice y35.a y35.len y35.cap)) ∧
    (cond (decide (((y35.len : Int) : Int) > 500))
    (C.skeplaw06_awake  w33 (fun r38 w36 => ∃ p37 : Bool, r38 = .bool p37 ∧
    K (.bool p37) w36) KP)
    (((0 : Int) ≤ v32 ∧ (v32 : Int) < (l.len : Int)) ∧ withSome l.a fun a39 =>
    ∃ y40 : Sl, (okVal false 1 (.slice y40.a y40.len y40.cap) = true ∧ w33.cell? (Addr.add a39 (v32.toNat * 1)) = some (.slice y40.a y40.len y40.cap)) ∧
    C.skeplaw00_CopyBytes y40 w33 (fun r43 w41 => ∃ p42 : Sl, r43 = .slice p42.a p42.len p42.cap ∧
    C.store_Store_Append p5.1 (IntKind.i64.wrap (v31 + 1)) p42 w41 (fun r46 w44 => ∃ p45 : Int, r46 = .int .i64 p45 ∧
    (cond ((p45 : Int) != 0)
    (K (.bool false) w44)
    (∃ u47 : Int, (.int .i64 (IntKind.i64.wrap (v31 + 1)) : Value) = .int .i64 u47 ∧ ∃ u48 : Int, (.int .i64 (IntKind.i64.wrap (v32 + 1)) : Value) = .int .i64 u48 ∧ (I27 u47 u48 w44 ∧ M28 u47 u48 w44 < M28 v31 v32 w33)))) KP) KP)))
    (∃ u49 : Int, (.int .i64 v31 : Value) = .int .i64 u49 ∧ J26 u49 w33)))
    (∃ u50 : Int, (.int .i64 v31 : Value) = .int .i64 u50 ∧ J26 u50 w33))) ∧
    ∀ e0 : Env, ∀ v51 : Int, ∀ w52 : World, J26 v51 w52 →
    C.store_Store_Size p5.1 w52 (fun r55 w53 => ∃ p54 : Int, r55 = .int .i64 p54 ∧
    ((0 : Int) ≤ 65536 ∧ (65536 : Int) ≤ 65536 ∧ (1 : Int) * 65536 ≤ 281474976710656 ∧ (65536 : Int) ≤ 9223372036854775807) ∧ ∀ (b56 : Nat) (w57 : World), Alloc w53 b56 5 (madeCells #[.int .u8 0] (65536 * 1)).toList w57 →
    C.store_Store_Check p5.1 (⟨(some ⟨b56, 0, none⟩), 65536, 65536⟩) w57 (fun r60 w58 => ∃ p59 : Int, r60 = .int .i64 p59 ∧
    (cond ((p59 : Int) != 1)
    (K (.bool false) w58)
    (C.store_Store_Size p5.1 w58 (fun r63 w61 => ∃ p62 : Int, r63 = .int .i64 p62 ∧
    (cond ((p62 : Int) != p54)
    (K (.bool false) w61)
    (((0 : Int) ≤ 65536 ∧ (65536 : Int) ≤ 65536 ∧ (1 : Int) * 65536 ≤ 281474976710656 ∧ (65536 : Int) ≤ 9223372036854775807) ∧ ∀ (b64 : Nat) (w65 : World), Alloc w61 b64 5 (madeCells #[.int .u8 0] (65536 * 1)).toList w65 →
    C.store_Store_Append p5.1 (IntKind.i64.wrap (v51 + 1)) (⟨(some ⟨b64, 0, none⟩), 65536, 65536⟩) w65 (fun r68 w66 => ∃ p67 : Int, r68 = .int .i64 p67 ∧
    (cond ((p67 : Int) != 1)
    (K (.bool false) w66)
    (C.skeplaw00_CopyBytes snap w66 (fun r71 w69 => ∃ p70 : Sl, r71 = .slice p70.a p70.len p70.cap ∧
    C.store_Store_Check p5.1 p70 w69 (fun r74 w72 => ∃ p73 : Int, r74 = .int .i64 p73 ∧
    (cond ((p73 : Int) != 0)
    (K (.bool false) w72)
    (C.store_Store_Size p5.1 w72 (fun r77 w75 => ∃ p76 : Int, r77 = .int .i64 p76 ∧
    C.skepref06_Head (IntKind.i64.wrap (v21 + 2)) v51 snap w75 (fun r80 w78 => ∃ p79 : Sl, r80 = .slice p79.a p79.len p79.cap ∧
    C.skepref04_Record p79 w78 (fun r83 w81 => ∃ p82 : Sl, r83 = .slice p82.a p82.len p82.cap ∧
    (cond ((p76 : Int) != (p82.len : Int))
    (K (.bool false) w81)
    (C.disk_Disk_Size p2 0 w81 (fun r86 w84 => ∃ p85 : Int, r86 = .int .i64 p85 ∧
    C.disk_Disk_Size p2 1 w84 (fun r89 w87 => ∃ p88 : Int, r89 = .int .i64 p88 ∧
    C.store_Store_Size p5.1 w87 (fun r92 w90 => ∃ p91 : Int, r92 = .int .i64 p91 ∧
    (cond (((IntKind.i64.wrap (p85 + p88)) : Int) != p91)
    (K (.bool false) w90)
    (C.store_Store_From p5.1 w90 (fun r95 w93 => ∃ p94 : Int, r95 = .int .i64 p94 ∧
    (cond ((p94 : Int) != v51)
    (K (.bool false) w93)
    (C.store_Store_Last p5.1 w93 (fun r98 w96 => ∃ p97 : Int, r98 = .int .i64 p97 ∧
    (cond ((p97 : Int) != v51)
    (K (.bool false) w96)
    (∃ u99 : Int, (.int .i64 v51 : Value) = .int .i64 u99 ∧ ∃ u100 : Int, (.int .i64 (IntKind.i64.wrap (v21 + 1)) : Value) = .int .i64 u100 ∧ (I16 u99 u100 w96 ∧ M17 u99 u100 w96 < M17 v20 v21 w22)))) KP))) KP))) KP) KP) KP))) KP) KP) KP))) KP) KP))) KP))) KP))) KP) KP)
    (C.skeplaw06_awake  w23 (fun r103 w101 => ∃ p102 : Bool, r103 = .bool p102 ∧
    K (.bool p102) w101) KP))) KP))))))) KP) KP
theorem skeplaw06_StoreSmall_of {l : Sl} {snap : Sl} {times : Int} {w : World} {K : Value → World → Prop} {KP : List PanicEntry → World → Prop} (h : W.skeplaw06_StoreSmall l snap times w K KP) : C.skeplaw06_StoreSmall l snap times w K KP :=
  xcall (E := E) (T := mkTab [(7, [(12, 3), (13, 3)]), (10, [(12, 3), (14, 3)])] [(7, [6, 12, 13, 14, 15, 44, 45, 46, 47, 48, 49, 50, 51, 52, 53, 54, 55, 56, 57, 58, 59, 60, 61, 62, 63, 64, 65, 66, 67, 68, 69, 70, 71, 72, 73, 74, 75, 76, 77, 78, 79, 80, 81, 82, 83, 84, 85, 86, 87, 88, 89, 90, 91, 92, 93, 94, 95, 96, 97, 98, 99, 100, 101, 102, 103, 104, 105, 106, 107, 108, 109, 110, 111, 112, 113, 114, 115, 116, 117, 118, 119, 120, 121, 122, 123, 124, 125, 126, 127, 128, 129, 130, 131, 132, 133, 134, 135, 136, 137]), (10, [6, 12, 14, 51, 52, 53, 54, 55, 56, 57, 58, 59, 60, 61, 62, 63, 64, 65, 66, 67, 68, 69, 70, 71, 72, 73, 74, 75, 76, 77, 78])] [(17, [(12, 3)])] [(17, [6, 12, 14, 51, 52, 53, 54, 55, 56, 57, 58, 59, 60, 61, 62, 63, 64, 65, 66, 67, 68, 69, 70, 71, 72, 73, 74, 75, 76, 77, 78])] [] [] [] []) (c := Try.f4.body.getD .skip) (rs := [.tmp 6]) ⟨⟩ mixed Try.func4 (by kernel_rfl) (by kernel_rfl) [.slice l.a l.len l.cap, .slice snap.a snap.len snap.cap, .int .i64 times] (by kernel_rfl) (by kernel_rfl) (.inr (by kernel_rfl)) (Eq.mp (by kernel_rfl) h)

def W.skeplaw06_StoreAgain (life : Sl) (times : Int) (w : World) (K : Value → World → Prop) (KP : List PanicEntry → World → Prop) : Prop :=
   C.disk_New  w (fun r3 w1 => ∃ p2 : (Option Addr), r3 = .pointer p2 ∧
    C.store_Open p2 w1 (fun r6 w4 => ∃ p5 : ((Option Addr) × Sl × Sl × Int), r6 = .tuple #[.pointer p5.1, .slice p5.2.1.a p5.2.1.len p5.2.1.cap, .slice p5.2.2.1.a p5.2.2.1.len p5.2.2.1.cap, .int .i64 p5.2.2.2] ∧
    (cond ((p5.2.2.2 : Int) != 0)
    (K (.bool false) w4)
    ((cond p5.1.isNone
    (K (.bool false) w4)
    (∃ J7 : Int → World → Prop,
    (∃ (I8 : Int → Int → World → Prop) (M9 : Int → Int → World → Nat),
    (∃ u10 : Int, (.int .i64 0 : Value) = .int .i64 u10 ∧ ∃ u11 : Int, (.int .i64 0 : Value) = .int .i64 u11 ∧ I8 u10 u11 w4) ∧
    ∀ e0 : Env, ∀ v12 : Int, ∀ v13 : Int, ∀ w14 : World, I8 v12 v13 w14 →
    (cond (decide ((v13 : Int) < (life.len : Int)))
    ((cond (decide ((v13 : Int) < 8))
    (((0 : Int) ≤ v13 ∧ (v13 : Int) < (life.len : Int)) ∧ withSome life.a fun a15 =>
    ∃ y16 : Sl, (okVal false 1 (.slice y16.a y16.len y16.cap) = true ∧ w14.cell? (Addr.add (Addr.add a15 (v13.toNat * 3)) 2) = some (.slice y16.a y16.len y16.cap)) ∧
    (cond (decide (((y16.len : Int) : Int) > 300))
    (C.skeplaw06_awake  w14 (fun r19 w17 => ∃ p18 : Bool, r19 = .bool p18 ∧
    K (.bool p18) w17) KP)
    (∃ J20 : Int → World → Prop,
    (∃ (I21 : Int → Int → World → Prop) (M22 : Int → Int → World → Nat),
    (∃ u23 : Int, (.int .i64 v12 : Value) = .int .i64 u23 ∧ ∃ u24 : Int, (.int .i64 0 : Value) = .int .i64 u24 ∧ I21 u23 u24 w14) ∧
    ∀ e0 : Env, ∀ v25 : Int, ∀ v26 : Int, ∀ w27 : World, I21 v25 v26 w27 →
    ((0 : Int) ≤ v13 ∧ (v13 : Int) < (life.len : Int)) ∧ withSome life.a fun a28 =>
    ∃ y29 : Sl, (okVal false 1 (.slice y29.a y29.len y29.cap) = true ∧ w27.cell? (Addr.add a28 (v13.toNat * 3)) = some (.slice y29.a y29.len y29.cap)) ∧
    (cond (decide ((v26 : Int) < (y29.len : Int)))
    ((cond (decide ((v26 : Int) < 6))
    (((0 : Int) ≤ v13 ∧ (v13 : Int) < (life.len : Int)) ∧ withSome life.a fun a30 =>
    ∃ y31 : Sl, (okVal false 1 (.slice y31.a y31.len y31.cap) = true ∧ w27.cell? (Addr.add a30 (v13.toNat * 3)) = some (.slice y31.a y31.len y31.cap)) ∧
    ((0 : Int) ≤ v26 ∧ (v26 : Int) < (y31.len : Int)) ∧ withSome y31.a fun a32 =>
    ∃ y33 : Sl, (okVal false 1 (.slice y33.a y33.len y33.cap) = true ∧ w27.cell? (Addr.add a32 (v26.toNat * 1)) = some (.slice y33.a y33.len y33.cap)) ∧
    (cond (decide (((y33.len : Int) : Int) > 300))
    (C.skeplaw06_awake  w27 (fun r36 w34 => ∃ p35 : Bool, r36 = .bool p35 ∧
    K (.bool p35) w34) KP)
    (((0 : Int) ≤ v13 ∧ (v13 : Int) < (life.len : Int)) ∧ withSome life.a fun a37 =>
    ∃ y38 : Sl, (okVal false 1 (.slice y38.a y38.len y38.cap) = true ∧ w27.cell? (Addr.add a37 (v13.toNat * 3)) = some (.slice y38.a y38.len y38.cap)) ∧
    ((0 : Int) ≤ v26 ∧ (v26 : Int) < (y38.len : Int)) ∧ withSome y38.a fun a39 =>
    ∃ y40 : Sl, (okVal false 1 (.slice y40.a y40.len y40.cap) = true ∧ w27.cell? (Addr.add a39 (v26.toNat * 1)) = some (.slice y40.a y40.len y40.cap)) ∧
    C.skeplaw00_CopyBytes y40 w27 (fun r43 w41 => ∃ p42 : Sl, r43 = .slice p42.a p42.len p42.cap ∧
    C.store_Store_Append p5.1 (IntKind.i64.wrap (v25 + 1)) p42 w41 (fun r46 w44 => ∃ p45 : Int, r46 = .int .i64 p45 ∧
    (cond ((p45 : Int) != 0)
    (K (.bool false) w44)
    (∃ u47 : Int, (.int .i64 (IntKind.i64.wrap (v25 + 1)) : Value) = .int .i64 u47 ∧ ∃ u48 : Int, (.int .i64 (IntKind.i64.wrap (v26 + 1)) : Value) = .int .i64 u48 ∧ (I21 u47 u48 w44 ∧ M22 u47 u48 w44 < M22 v25 v26 w27)))) KP) KP)))
    (∃ u49 : Int, (.int .i64 v25 : Value) = .int .i64 u49 ∧ J20 u49 w27)))
    (∃ u50 : Int, (.int .i64 v25 : Value) = .int .i64 u50 ∧ J20 u50 w27))) ∧
    ∀ e0 : Env, ∀ v51 : Int, ∀ w52 : World, J20 v51 w52 →
    ((0 : Int) ≤ v13 ∧ (v13 : Int) < (life.len : Int)) ∧ withSome life.a fun a53 =>
    ∃ y54 : Int, (okVal false 1 (.int .i64 y54) = true ∧ w52.cell? (Addr.add (Addr.add a53 (v13.toNat * 3)) 1) = some (.int .i64 y54)) ∧
    C.skeplaw00_Place y54 3 w52 (fun r57 w55 => ∃ p56 : Int, r57 = .int .i64 p56 ∧
    (cond ((p56 : Int) == 2)
    (((0 : Int) ≤ v13 ∧ (v13 : Int) < (life.len : Int)) ∧ withSome life.a fun a58 =>
    ∃ y59 : Sl, (okVal false 1 (.slice y59.a y59.len y59.cap) = true ∧ w55.cell? (Addr.add (Addr.add a58 (v13.toNat * 3)) 2) = some (.slice y59.a y59.len y59.cap)) ∧
    C.skeplaw00_CopyBytes y59 w55 (fun r62 w60 => ∃ p61 : Sl, r62 = .slice p61.a p61.len p61.cap ∧
    C.store_Store_Check p5.1 p61 w60 (fun r65 w63 => ∃ p64 : Int, r65 = .int .i64 p64 ∧
    (cond ((p64 : Int) != 0)
    (K (.bool false) w63)
    (∃ u66 : Int, (.int .i64 v51 : Value) = .int .i64 u66 ∧ ∃ u67 : Int, (.int .i64 (IntKind.i64.wrap (v13 + 1)) : Value) = .int .i64 u67 ∧ (I8 u66 u67 w63 ∧ M9 u66 u67 w63 < M9 v12 v13 w14)))) KP) KP)
    (∃ u68 : Int, (.int .i64 v51 : Value) = .int .i64 u68 ∧ ∃ u69 : Int, (.int .i64 (IntKind.i64.wrap (v13 + 1)) : Value) = .int .i64 u69 ∧ (I8 u68 u69 w55 ∧ M9 u68 u69 w55 < M9 v12 v13 w14)))) KP)))
    (∃ u70 : Int, (.int .i64 v12 : Value) = .int .i64 u70 ∧ J7 u70 w14)))
    (∃ u71 : Int, (.int .i64 v12 : Value) = .int .i64 u71 ∧ J7 u71 w14))) ∧
    ∀ e0 : Env, ∀ v72 : Int, ∀ w73 : World, J7 v72 w73 →
    C.skeplaw06_told p2 w73 (fun r76 w74 => ∃ p75 : (Sl × Sl × Int × Bool), r76 = .tuple #[.slice p75.1.a p75.1.len p75.1.cap, .slice p75.2.1.a p75.2.1.len p75.2.1.cap, .int .i64 p75.2.2.1, .bool p75.2.2.2] ∧
    (cond (!p75.2.2.2)
    (K (.bool false) w74)
    (∃ J77 : (Option Addr) → World → Prop,
    (∀ w78, Drew w74 w78 →
    (C.disk_Disk_Read p2 0 w78 (fun r81 w79 => ∃ p80 : Sl, r81 = .slice p80.a p80.len p80.cap ∧
    ∃ s82 : ByteArray, (s82.size = p80.len ∧ (0 < p80.len → withSome p80.a fun a => Go.Eng.World.has w79 a (bytesV s82))) ∧
    (C.disk_Disk_Read p2 1 w79 (fun r85 w83 => ∃ p84 : Sl, r85 = .slice p84.a p84.len p84.cap ∧
    (0 < p80.len → withSome p80.a fun a => Go.Eng.World.has w83 a (bytesV s82)) ∧ ∃ s86 : ByteArray, (s86.size = p84.len ∧ (0 < p84.len → withSome p84.a fun a => Go.Eng.World.has w83 a (bytesV s86))) ∧
    ∀ (b87 : Nat) (w88 : World), Alloc w83 b87 47 [.string ByteArray.empty, .string ByteArray.empty] w88 →
    (0 < p84.len → withSome p84.a fun a => Go.Eng.World.has w88 a (bytesV s86)) ∧ (0 < p80.len → withSome p80.a fun a => Go.Eng.World.has w88 a (bytesV s82)) ∧ (okVal true 2 (.agg #[.string s82, .string s86]) = true ∧ canPut w88 ⟨b87, 0, none⟩ (.agg #[.string s82, .string s86])) ∧ ∀ w89 : World, w89 = putAt w88 ⟨b87, 0, none⟩ (.agg #[.string s82, .string s86]) →
    ∃ u90 : (Option Addr), (.pointer (some ⟨b87, 0, none⟩) : Value) = .pointer u90 ∧ J77 u90 w89) KP) ∧
    (∀ (b91 : Nat) (w92 : World), Alloc w79 b91 47 [.string ByteArray.empty, .string ByteArray.empty] w92 →
    (0 < p80.len → withSome p80.a fun a => Go.Eng.World.has w92 a (bytesV s82)) ∧ C.disk_Disk_Read p2 1 w92 (fun r95 w93 => ∃ p94 : Sl, r95 = .slice p94.a p94.len p94.cap ∧
    (0 < p80.len → withSome p80.a fun a => Go.Eng.World.has w93 a (bytesV s82)) ∧ ∃ s96 : ByteArray, (s96.size = p94.len ∧ (0 < p94.len → withSome p94.a fun a => Go.Eng.World.has w93 a (bytesV s96))) ∧
    (okVal true 2 (.agg #[.string s82, .string s96]) = true ∧ canPut w93 ⟨b91, 0, none⟩ (.agg #[.string s82, .string s96])) ∧ ∀ w97 : World, w97 = putAt w93 ⟨b91, 0, none⟩ (.agg #[.string s82, .string s96]) →
    ∃ u98 : (Option Addr), (.pointer (some ⟨b91, 0, none⟩) : Value) = .pointer u98 ∧ J77 u98 w97) KP)) KP) ∧
    (∀ (b99 : Nat) (w100 : World), Alloc w78 b99 47 [.string ByteArray.empty, .string ByteArray.empty] w100 →
    C.disk_Disk_Read p2 0 w100 (fun r103 w101 => ∃ p102 : Sl, r103 = .slice p102.a p102.len p102.cap ∧
    ∃ s104 : ByteArray, (s104.size = p102.len ∧ (0 < p102.len → withSome p102.a fun a => Go.Eng.World.has w101 a (bytesV s104))) ∧
    C.disk_Disk_Read p2 1 w101 (fun r107 w105 => ∃ p106 : Sl, r107 = .slice p106.a p106.len p106.cap ∧
    (0 < p102.len → withSome p102.a fun a => Go.Eng.World.has w105 a (bytesV s104)) ∧ ∃ s108 : ByteArray, (s108.size = p106.len ∧ (0 < p106.len → withSome p106.a fun a => Go.Eng.World.has w105 a (bytesV s108))) ∧
    (okVal true 2 (.agg #[.string s104, .string s108]) = true ∧ canPut w105 ⟨b99, 0, none⟩ (.agg #[.string s104, .string s108])) ∧ ∀ w109 : World, w109 = putAt w105 ⟨b99, 0, none⟩ (.agg #[.string s104, .string s108]) →
    ∃ u110 : (Option Addr), (.pointer (some ⟨b99, 0, none⟩) : Value) = .pointer u110 ∧ J77 u110 w109) KP) KP)) ∧
    ∀ e0 : Env, ∀ v111 : (Option Addr), ∀ w112 : World, J77 v111 w112 →
    ∃ (I113 : Int → World → Prop) (M114 : Int → World → Nat),
    (∃ u115 : Int, (.int .i64 0 : Value) = .int .i64 u115 ∧ I113 u115 w112) ∧
    ∀ e0 : Env, ∀ v116 : Int, ∀ w117 : World, I113 v116 w117 →
    C.skeplaw00_Place times 4 w117 (fun r120 w118 => ∃ p119 : Int, r120 = .int .i64 p119 ∧
    (cond (decide ((v116 : Int) < (IntKind.i64.wrap (1 + p119))))
    (C.skeplaw06_told p2 w118 (fun r123 w121 => ∃ p122 : (Sl × Sl × Int × Bool), r123 = .tuple #[.slice p122.1.a p122.1.len p122.1.cap, .slice p122.2.1.a p122.2.1.len p122.2.1.cap, .int .i64 p122.2.2.1, .bool p122.2.2.2] ∧
    ∀ w124, Drew w121 w124 →
    (cond (!p122.2.2.2)
    (K (.bool false) w124)
    (∃ s125 : ByteArray, (s125.size = p122.1.len ∧ (0 < p122.1.len → withSome p122.1.a fun a => Go.Eng.World.has w124 a (bytesV s125))) ∧
    ∃ s126 : ByteArray, (s126.size = p75.1.len ∧ (0 < p75.1.len → withSome p75.1.a fun a => Go.Eng.World.has w124 a (bytesV s126))) ∧
    (cond (!(strEq s125 s126))
    (K (.bool false) w124)
    (C.skeplaw06_same p75.2.1 p122.2.1 w124 (fun r129 w127 => ∃ p128 : Bool, r129 = .bool p128 ∧
    (cond (!p128)
    (K (.bool false) w127)
    ((cond ((p122.2.2.1 : Int) != p75.2.2.1)
    (K (.bool false) w127)
    (((0 : Int) ≤ 0 ∧ (0 : Int) < (2 : Int)) ∧ withSome v111 fun a130 =>
    ∃ y131 : ByteArray, (okVal false 1 (.string y131) = true ∧ w127.cell? a130 = some (.string y131)) ∧
    C.disk_Disk_Read p2 0 w127 (fun r134 w132 => ∃ p133 : Sl, r134 = .slice p133.a p133.len p133.cap ∧
    (w132.cell? a130 = some (.string y131)) ∧ ∃ s135 : ByteArray, (s135.size = p133.len ∧ (0 < p133.len → withSome p133.a fun a => Go.Eng.World.has w132 a (bytesV s135))) ∧
    (cond (!(strEq s135 y131))
    (K (.bool false) w132)
    (((0 : Int) ≤ 1 ∧ (1 : Int) < (2 : Int)) ∧ withSome v111 fun a136 =>
    ∃ y137 : ByteArray, (okVal false 1 (.string y137) = true ∧ w132.cell? (Addr.add a136 1) = some (.string y137)) ∧
    C.disk_Disk_Read p2 1 w132 (fun r140 w138 => ∃ p139 : Sl, r140 = .slice p139.a p139.len p139.cap ∧
    (w138.cell? (Addr.add a136 1) = some (.string y137)) ∧ ∃ s141 : ByteArray, (s141.size = p139.len ∧ (0 < p139.len → withSome p139.a fun a => Go.Eng.World.has w138 a (bytesV s141))) ∧
    (cond (!(strEq s141 y137))
    (K (.bool false) w138)
    (∃ u142 : Int, (.int .i64 (IntKind.i64.wrap (v116 + 1)) : Value) = .int .i64 u142 ∧ (I113 u142 w138 ∧ M114 u142 w138 < M114 v116 w117)))) KP))) KP))))) KP))))) KP)
    ((cond (((IntKind.i64.wrap (p75.2.2.1 + (p75.2.1.len : Int))) : Int) == v72)
    (C.skeplaw06_awake  w118 (fun r145 w143 => ∃ p144 : Bool, r145 = .bool p144 ∧
    K (.bool p144) w143) KP)
    (K (.bool false) w118))))) KP))) KP))))) KP) KP
theorem skeplaw06_StoreAgain_of {life : Sl} {times : Int} {w : World} {K : Value → World → Prop} {KP : List PanicEntry → World → Prop} (h : W.skeplaw06_StoreAgain life times w K KP) : C.skeplaw06_StoreAgain life times w K KP :=
  xcall (E := E) (T := mkTab [(7, [(10, 3), (11, 3)]), (12, [(10, 3), (12, 3)]), (26, [(18, 3)])] [(7, [4, 10, 11, 12, 37, 38, 39, 40, 41, 42, 43, 44, 45, 46, 47, 48, 49, 50, 51, 52, 53, 54, 55, 56, 57, 58, 59, 60, 61, 62, 63, 64, 65, 66, 67, 68, 69, 70, 71, 72, 73, 74, 75, 76, 77, 78, 79, 80, 81, 82, 83, 84, 85, 86, 87, 88, 89, 90, 91, 92, 93, 94, 95, 96, 97, 98, 99, 100, 101, 102, 103, 104, 105, 106, 107, 108, 109, 110, 111, 112]), (12, [4, 10, 12, 55, 56, 57, 58, 59, 60, 61, 62, 63, 64, 65, 66, 67, 68, 69, 70, 71, 72, 73, 74, 75, 76, 77, 78, 79, 80, 81, 82, 83, 84, 85, 86, 87, 88, 89, 90, 91, 92, 93, 94]), (26, [4, 18, 19, 20, 21, 22, 129, 130, 131, 132, 133, 134, 135, 136, 137, 138, 139, 140, 141, 142, 143, 144, 145, 146, 147, 148, 149, 150, 151, 152, 153, 154, 155, 156, 157, 158, 159, 160, 161, 162, 163, 164, 165, 166, 167, 168, 169, 170, 171, 172, 173, 174, 175, 176, 177, 178])] [(19, [(10, 3)]), (25, [(17, 1000001)]), (21, [(10, 3)])] [(19, [4, 10, 12, 55, 56, 57, 58, 59, 60, 61, 62, 63, 64, 65, 66, 67, 68, 69, 70, 71, 72, 73, 74, 75, 76, 77, 78, 79, 80, 81, 82, 83, 84, 85, 86, 87, 88, 89, 90, 91, 92, 93, 94]), (25, [17, 122, 123, 124, 125, 126, 127, 128]), (21, [4, 10, 11, 12, 37, 38, 39, 40, 41, 42, 43, 44, 45, 46, 47, 48, 49, 50, 51, 52, 53, 54, 55, 56, 57, 58, 59, 60, 61, 62, 63, 64, 65, 66, 67, 68, 69, 70, 71, 72, 73, 74, 75, 76, 77, 78, 79, 80, 81, 82, 83, 84, 85, 86, 87, 88, 89, 90, 91, 92, 93, 94, 95, 96, 97, 98, 99, 100, 101, 102, 103, 104, 105, 106, 107, 108, 109, 110, 111, 112])] [(29, [0, 1, 2, 3, 4, 5, 6, 7, 8, 9, 10, 11, 12, 13, 14, 15, 16, 17, 18, 19, 20, 21, 24, 25, 22, 23, 26, 27, 28, 29, 32, 33, 30, 31, 34, 35])] [(24, [0, 1, 3, 0, 11, 27, 63, 0, 255]), (29, [0, 1, 3, 7, 15, 7, 39, 127, 255, 511, 1023, 1023, 4095, 8191, 16383, 32767, 65535, 65535, 262143, 524287, 1048575, 2097151, 4194303, 8388607, 2097151, 18874367, 67108863, 134217727, 268435455, 536870911, 1073741823, 2147483647, 536870911, 4831838207, 17179869183, 34359738367])] [] [(24, some (.quiet 0 (.quiet 3 (.fork 1 (.quiet 2 (.fork 4 (.quiet 5 (.quiet 6 (.loud 7 (.loud 8 .done)))) (.loud 7 (.loud 4 (.quiet 5 (.quiet 6 (.loud 8 .done))))))) (.loud 7 (.loud 1 (.quiet 2 (.loud 4 (.quiet 5 (.quiet 6 (.loud 8 .done)))))))))))]) (c := Try.f5.body.getD .skip) (rs := [.tmp 4]) ⟨⟩ mixed Try.func5 (by kernel_rfl) (by kernel_rfl) [.slice life.a life.len life.cap, .int .i64 times] (by kernel_rfl) (by kernel_rfl) (.inr (by kernel_rfl)) (Eq.mp (by kernel_rfl) h)

def W.skeplaw06_StoreKeeps (life : Sl) (a : Int) (p2_ : Int) (w : World) (K : Value → World → Prop) (KP : List PanicEntry → World → Prop) : Prop :=
   C.disk_New  w (fun r3 w1 => ∃ p2 : (Option Addr), r3 = .pointer p2 ∧
    C.store_Open p2 w1 (fun r6 w4 => ∃ p5 : ((Option Addr) × Sl × Sl × Int), r6 = .tuple #[.pointer p5.1, .slice p5.2.1.a p5.2.1.len p5.2.1.cap, .slice p5.2.2.1.a p5.2.2.1.len p5.2.2.1.cap, .int .i64 p5.2.2.2] ∧
    (cond ((p5.2.2.2 : Int) != 0)
    (K (.bool false) w4)
    ((cond p5.1.isNone
    (K (.bool false) w4)
    (∃ J7 : Sl → Int → Int → ByteArray → World → Prop,
    (∃ (I8 : Sl → Int → Int → ByteArray → Int → World → Prop) (M9 : Sl → Int → Int → ByteArray → Int → World → Nat),
    (∃ u10 : Sl, (.slice none 0 0 : Value) = .slice u10.a u10.len u10.cap ∧ ∃ u11 : Int, (.int .i64 0 : Value) = .int .i64 u11 ∧ ∃ u12 : Int, (.int .i64 0 : Value) = .int .i64 u12 ∧ ∃ u13 : ByteArray, (.string ByteArray.empty : Value) = .string u13 ∧ ∃ u14 : Int, (.int .i64 0 : Value) = .int .i64 u14 ∧ I8 u10 u11 u12 u13 u14 w4) ∧
    ∀ e0 : Env, ∀ v15 : Sl, ∀ v16 : Int, ∀ v17 : Int, ∀ v18 : ByteArray, ∀ v19 : Int, ∀ w20 : World, I8 v15 v16 v17 v18 v19 w20 →
    (cond (decide ((v19 : Int) < (life.len : Int)))
    ((cond (decide ((v19 : Int) < 10))
    (∃ J21 : Sl → World → Prop,
    (∃ (I22 : Sl → Int → World → Prop) (M23 : Sl → Int → World → Nat),
    (∃ u24 : Sl, (.slice v15.a v15.len v15.cap : Value) = .slice u24.a u24.len u24.cap ∧ ∃ u25 : Int, (.int .i64 0 : Value) = .int .i64 u25 ∧ I22 u24 u25 w20) ∧
    ∀ e0 : Env, ∀ v26 : Sl, ∀ v27 : Int, ∀ w28 : World, I22 v26 v27 w28 →
    ((0 : Int) ≤ v19 ∧ (v19 : Int) < (life.len : Int)) ∧ withSome life.a fun a29 =>
    ∃ y30 : Sl, (okVal false 1 (.slice y30.a y30.len y30.cap) = true ∧ w28.cell? (Addr.add a29 (v19.toNat * 3)) = some (.slice y30.a y30.len y30.cap)) ∧
    (cond (decide ((v27 : Int) < (y30.len : Int)))
    ((cond (decide ((v27 : Int) < 8))
    (((0 : Int) ≤ v19 ∧ (v19 : Int) < (life.len : Int)) ∧ withSome life.a fun a31 =>
    ∃ y32 : Sl, (okVal false 1 (.slice y32.a y32.len y32.cap) = true ∧ w28.cell? (Addr.add a31 (v19.toNat * 3)) = some (.slice y32.a y32.len y32.cap)) ∧
    ((0 : Int) ≤ v27 ∧ (v27 : Int) < (y32.len : Int)) ∧ withSome y32.a fun a33 =>
    ∃ y34 : Sl, (okVal false 1 (.slice y34.a y34.len y34.cap) = true ∧ w28.cell? (Addr.add a33 (v27.toNat * 1)) = some (.slice y34.a y34.len y34.cap)) ∧
    (cond (decide (((y34.len : Int) : Int) > 500))
    (C.skeplaw06_awake  w28 (fun r37 w35 => ∃ p36 : Bool, r37 = .bool p36 ∧
    K (.bool p36) w35) KP)
    (((0 : Int) ≤ v19 ∧ (v19 : Int) < (life.len : Int)) ∧ withSome life.a fun a38 =>
    ∃ y39 : Sl, (okVal false 1 (.slice y39.a y39.len y39.cap) = true ∧ w28.cell? (Addr.add a38 (v19.toNat * 3)) = some (.slice y39.a y39.len y39.cap)) ∧
    ((0 : Int) ≤ v27 ∧ (v27 : Int) < (y39.len : Int)) ∧ withSome y39.a fun a40 =>
    ∃ y41 : Sl, (okVal false 1 (.slice y41.a y41.len y41.cap) = true ∧ w28.cell? (Addr.add a40 (v27.toNat * 1)) = some (.slice y41.a y41.len y41.cap)) ∧
    C.skeplaw00_CopyBytes y41 w28 (fun r44 w42 => ∃ p43 : Sl, r44 = .slice p43.a p43.len p43.cap ∧
    C.store_Store_Append p5.1 (IntKind.i64.wrap ((v26.len : Int) + 1)) p43 w42 (fun r47 w45 => ∃ p46 : Int, r47 = .int .i64 p46 ∧
    (cond ((p46 : Int) != 0)
    (K (.bool false) w45)
    (((0 : Int) ≤ v19 ∧ (v19 : Int) < (life.len : Int)) ∧ withSome life.a fun a48 =>
    ∃ y49 : Sl, (okVal false 1 (.slice y49.a y49.len y49.cap) = true ∧ w45.cell? (Addr.add a48 (v19.toNat * 3)) = some (.slice y49.a y49.len y49.cap)) ∧
    ((0 : Int) ≤ v27 ∧ (v27 : Int) < (y49.len : Int)) ∧ withSome y49.a fun a50 =>
    ∃ y51 : Sl, (okVal false 1 (.slice y51.a y51.len y51.cap) = true ∧ w45.cell? (Addr.add a50 (v27.toNat * 1)) = some (.slice y51.a y51.len y51.cap)) ∧
    ∀ (b52 : Nat) (w53 : World), Alloc w45 b52 27 [.slice y51.a y51.len y51.cap] w53 →
    ∃ (q54 : Option Addr) (n55 c56 : Nat) (w57 : World), (Builtin.append_ #[22, 22] 22 #[.slice v26.a v26.len v26.cap, .slice (some ⟨b52, 0, none⟩) 1 1]).run Try.prog w53 = .ok (.slice q54 n55 c56) w57 ∧
    ∃ u58 : Sl, (.slice q54 n55 c56 : Value) = .slice u58.a u58.len u58.cap ∧ ∃ u59 : Int, (.int .i64 (IntKind.i64.wrap (v27 + 1)) : Value) = .int .i64 u59 ∧ (I22 u58 u59 w57 ∧ M23 u58 u59 w57 < M23 v26 v27 w28)))) KP) KP)))
    (∃ u60 : Sl, (.slice v26.a v26.len v26.cap : Value) = .slice u60.a u60.len u60.cap ∧ J21 u60 w28)))
    (∃ u61 : Sl, (.slice v26.a v26.len v26.cap : Value) = .slice u61.a u61.len u61.cap ∧ J21 u61 w28))) ∧
    ∀ e0 : Env, ∀ v62 : Sl, ∀ w63 : World, J21 v62 w63 →
    ((0 : Int) ≤ v19 ∧ (v19 : Int) < (life.len : Int)) ∧ withSome life.a fun a64 =>
    ∃ y65 : Int, (okVal false 1 (.int .i64 y65) = true ∧ w63.cell? (Addr.add (Addr.add a64 (v19.toNat * 3)) 1) = some (.int .i64 y65)) ∧
    C.skeplaw00_Place y65 3 w63 (fun r68 w66 => ∃ p67 : Int, r68 = .int .i64 p67 ∧
    (cond ((p67 : Int) == 1)
    (C.store_Store_Sync p5.1 w66 (fun r71 w69 => ∃ p70 : Int, r71 = .int .i64 p70 ∧
    (cond ((p70 : Int) != 0)
    (K (.bool false) w69)
    (∃ u72 : Sl, (.slice v62.a v62.len v62.cap : Value) = .slice u72.a u72.len u72.cap ∧ ∃ u73 : Int, (.int .i64 (v62.len : Int) : Value) = .int .i64 u73 ∧ ∃ u74 : Int, (.int .i64 v17 : Value) = .int .i64 u74 ∧ ∃ u75 : ByteArray, (.string v18 : Value) = .string u75 ∧ ∃ u76 : Int, (.int .i64 (IntKind.i64.wrap (v19 + 1)) : Value) = .int .i64 u76 ∧ (I8 u72 u73 u74 u75 u76 w69 ∧ M9 u72 u73 u74 u75 u76 w69 < M9 v15 v16 v17 v18 v19 w20)))) KP)
    ((cond ((p67 : Int) == 2)
    (((0 : Int) ≤ v19 ∧ (v19 : Int) < (life.len : Int)) ∧ withSome life.a fun a77 =>
    ∃ y78 : Sl, (okVal false 1 (.slice y78.a y78.len y78.cap) = true ∧ w66.cell? (Addr.add (Addr.add a77 (v19.toNat * 3)) 2) = some (.slice y78.a y78.len y78.cap)) ∧
    (cond (decide (((y78.len : Int) : Int) > 500))
    (C.skeplaw06_awake  w66 (fun r81 w79 => ∃ p80 : Bool, r81 = .bool p80 ∧
    K (.bool p80) w79) KP)
    (((0 : Int) ≤ v19 ∧ (v19 : Int) < (life.len : Int)) ∧ withSome life.a fun a82 =>
    ∃ y83 : Sl, (okVal false 1 (.slice y83.a y83.len y83.cap) = true ∧ w66.cell? (Addr.add (Addr.add a82 (v19.toNat * 3)) 2) = some (.slice y83.a y83.len y83.cap)) ∧
    C.skeplaw00_CopyBytes y83 w66 (fun r86 w84 => ∃ p85 : Sl, r86 = .slice p85.a p85.len p85.cap ∧
    C.store_Store_Check p5.1 p85 w84 (fun r89 w87 => ∃ p88 : Int, r89 = .int .i64 p88 ∧
    (cond ((p88 : Int) != 0)
    (K (.bool false) w87)
    (((0 : Int) ≤ v19 ∧ (v19 : Int) < (life.len : Int)) ∧ withSome life.a fun a90 =>
    ∃ y91 : Sl, (okVal false 1 (.slice y91.a y91.len y91.cap) = true ∧ w87.cell? (Addr.add (Addr.add a90 (v19.toNat * 3)) 2) = some (.slice y91.a y91.len y91.cap)) ∧
    ∃ s92 : ByteArray, (s92.size = y91.len ∧ (0 < y91.len → withSome y91.a fun a => Go.Eng.World.has w87 a (bytesV s92))) ∧
    ∃ u93 : Sl, (.slice v62.a v62.len v62.cap : Value) = .slice u93.a u93.len u93.cap ∧ ∃ u94 : Int, (.int .i64 (v62.len : Int) : Value) = .int .i64 u94 ∧ ∃ u95 : Int, (.int .i64 (v62.len : Int) : Value) = .int .i64 u95 ∧ ∃ u96 : ByteArray, (.string s92 : Value) = .string u96 ∧ ∃ u97 : Int, (.int .i64 (IntKind.i64.wrap (v19 + 1)) : Value) = .int .i64 u97 ∧ (I8 u93 u94 u95 u96 u97 w87 ∧ M9 u93 u94 u95 u96 u97 w87 < M9 v15 v16 v17 v18 v19 w20)))) KP) KP)))
    (∃ u98 : Sl, (.slice v62.a v62.len v62.cap : Value) = .slice u98.a u98.len u98.cap ∧ ∃ u99 : Int, (.int .i64 v16 : Value) = .int .i64 u99 ∧ ∃ u100 : Int, (.int .i64 v17 : Value) = .int .i64 u100 ∧ ∃ u101 : ByteArray, (.string v18 : Value) = .string u101 ∧ ∃ u102 : Int, (.int .i64 (IntKind.i64.wrap (v19 + 1)) : Value) = .int .i64 u102 ∧ (I8 u98 u99 u100 u101 u102 w66 ∧ M9 u98 u99 u100 u101 u102 w66 < M9 v15 v16 v17 v18 v19 w20)))))) KP)
    (∃ u103 : Sl, (.slice v15.a v15.len v15.cap : Value) = .slice u103.a u103.len u103.cap ∧ ∃ u104 : Int, (.int .i64 v16 : Value) = .int .i64 u104 ∧ ∃ u105 : Int, (.int .i64 v17 : Value) = .int .i64 u105 ∧ ∃ u106 : ByteArray, (.string v18 : Value) = .string u106 ∧ J7 u103 u104 u105 u106 w20)))
    (∃ u107 : Sl, (.slice v15.a v15.len v15.cap : Value) = .slice u107.a u107.len u107.cap ∧ ∃ u108 : Int, (.int .i64 v16 : Value) = .int .i64 u108 ∧ ∃ u109 : Int, (.int .i64 v17 : Value) = .int .i64 u109 ∧ ∃ u110 : ByteArray, (.string v18 : Value) = .string u110 ∧ J7 u107 u108 u109 u110 w20))) ∧
    ∀ e0 : Env, ∀ v111 : Sl, ∀ v112 : Int, ∀ v113 : Int, ∀ v114 : ByteArray, ∀ w115 : World, J7 v111 v112 v113 v114 w115 →
    C.disk_Disk_Crash p2 a p2_ w115 (fun r118 w116 => ∃ p117 : (Option Addr), r118 = .pointer p117 ∧
    C.skeplaw06_told p117 w116 (fun r121 w119 => ∃ p120 : (Sl × Sl × Int × Bool), r121 = .tuple #[.slice p120.1.a p120.1.len p120.1.cap, .slice p120.2.1.a p120.2.1.len p120.2.1.cap, .int .i64 p120.2.2.1, .bool p120.2.2.2] ∧
    (cond (!p120.2.2.2)
    (K (.bool false) w119)
    (∃ s122 : ByteArray, (s122.size = p120.1.len ∧ (0 < p120.1.len → withSome p120.1.a fun a => Go.Eng.World.has w119 a (bytesV s122))) ∧
    (cond (!(strEq s122 v114))
    (K (.bool false) w119)
    ((cond ((p120.2.2.1 : Int) != v113)
    (K (.bool false) w119)
    ((cond (decide (((IntKind.i64.wrap (p120.2.2.1 + (p120.2.1.len : Int))) : Int) < v112))
    (K (.bool false) w119)
    ((cond (decide (((IntKind.i64.wrap (p120.2.2.1 + (p120.2.1.len : Int))) : Int) > (v111.len : Int)))
    (K (.bool false) w119)
    (((0 : Int) ≤ (IntKind.i64.wrap (v113 + (p120.2.1.len : Int))) ∧ ((IntKind.i64.wrap (v113 + (p120.2.1.len : Int))) : Int) ≤ (v111.cap : Int)) ∧ ((0 : Int) ≤ v113 ∧ (v113 : Int) ≤ ((IntKind.i64.wrap (v113 + (p120.2.1.len : Int))).toNat : Int)) ∧ C.skeplaw06_same p120.2.1 (⟨(if v111.cap = v113.toNat then v111.a else Option.map (fun x => Addr.add x (v113.toNat * 1)) v111.a), (IntKind.i64.wrap (v113 + (p120.2.1.len : Int))).toNat - v113.toNat, v111.cap - v113.toNat⟩) w119 (fun r125 w123 => ∃ p124 : Bool, r125 = .bool p124 ∧
    (cond p124
    (C.skeplaw06_awake  w123 (fun r128 w126 => ∃ p127 : Bool, r128 = .bool p127 ∧
    K (.bool p127) w126) KP)
    (K (.bool false) w123))) KP))))))))))) KP) KP))))) KP) KP
theorem skeplaw06_StoreKeeps_of {life : Sl} {a : Int} {p2_ : Int} {w : World} {K : Value → World → Prop} {KP : List PanicEntry → World → Prop} (h : W.skeplaw06_StoreKeeps life a p2_ w K KP) : C.skeplaw06_StoreKeeps life a p2_ w K KP :=
  xcall (E := E) (T := mkTab [(10, [(12, 22), (13, 3), (14, 3), (15, 9), (16, 3)]), (13, [(12, 22), (17, 3)])] [(10, [6, 12, 13, 14, 15, 16, 17, 36, 37, 38, 39, 40, 41, 42, 43, 44, 45, 46, 47, 48, 49, 50, 51, 52, 53, 54, 55, 56, 57, 58, 59, 60, 61, 62, 63, 64, 65, 66, 67, 68, 69, 70, 71, 72, 73, 74, 75, 76, 77, 78, 79, 80, 81, 82, 83, 84, 85, 86, 87, 88, 89, 90, 91, 92, 93, 94, 95, 96, 97, 98, 99, 100, 101, 102, 103, 104, 105, 106, 107, 108, 109, 110, 111, 112, 113, 114, 115, 116, 117, 118, 119, 120, 121, 122, 123, 124, 125, 126, 127, 128, 129, 130, 131, 132, 133, 134, 135, 136, 137, 138]), (13, [6, 12, 17, 46, 47, 48, 49, 50, 51, 52, 53, 54, 55, 56, 57, 58, 59, 60, 61, 62, 63, 64, 65, 66, 67, 68, 69, 70, 71, 72, 73, 74, 75, 76, 77, 78, 79, 80, 81, 82, 83, 84, 85, 86, 87, 88, 89, 90, 91, 92, 93, 94, 95, 96])] [(20, [(12, 22)]), (33, [(12, 22), (13, 3), (14, 3), (15, 9)])] [(20, [6, 12, 17, 46, 47, 48, 49, 50, 51, 52, 53, 54, 55, 56, 57, 58, 59, 60, 61, 62, 63, 64, 65, 66, 67, 68, 69, 70, 71, 72, 73, 74, 75, 76, 77, 78, 79, 80, 81, 82, 83, 84, 85, 86, 87, 88, 89, 90, 91, 92, 93, 94, 95, 96]), (33, [6, 12, 13, 14, 15, 16, 17, 36, 37, 38, 39, 40, 41, 42, 43, 44, 45, 46, 47, 48, 49, 50, 51, 52, 53, 54, 55, 56, 57, 58, 59, 60, 61, 62, 63, 64, 65, 66, 67, 68, 69, 70, 71, 72, 73, 74, 75, 76, 77, 78, 79, 80, 81, 82, 83, 84, 85, 86, 87, 88, 89, 90, 91, 92, 93, 94, 95, 96, 97, 98, 99, 100, 101, 102, 103, 104, 105, 106, 107, 108, 109, 110, 111, 112, 113, 114, 115, 116, 117, 118, 119, 120, 121, 122, 123, 124, 125, 126, 127, 128, 129, 130, 131, 132, 133, 134, 135, 136, 137, 138])] [] [] [] []) (c := Try.f6.body.getD .skip) (rs := [.tmp 6]) ⟨⟩ mixed Try.func6 (by kernel_rfl) (by kernel_rfl) [.slice life.a life.len life.cap, .int .i64 a, .int .i64 p2_] (by kernel_rfl) (by kernel_rfl) (.inr (by kernel_rfl)) (Eq.mp (by kernel_rfl) h)

def W.skeplaw06_StorePlays (script : Sl) (w : World) (K : Value → World → Prop) (KP : List PanicEntry → World → Prop) : Prop :=
   C.disk_New  w (fun r3 w1 => ∃ p2 : (Option Addr), r3 = .pointer p2 ∧
    C.skepref03_New  w1 (fun r6 w4 => ∃ p5 : (Option Addr), r6 = .pointer p5 ∧
    C.skeplaw06_open p2 p5 w4 (fun r9 w7 => ∃ p8 : ((Option Addr) × Bool), r9 = .tuple #[.pointer p8.1, .bool p8.2] ∧
    (cond (!p8.2)
    (K (.bool false) w7)
    ((cond p8.1.isNone
    (K (.bool false) w7)
    (∃ (I10 : (Option Addr) → Int → World → Prop) (M11 : (Option Addr) → Int → World → Nat),
    (∃ u12 : (Option Addr), (.pointer p8.1 : Value) = .pointer u12 ∧ ∃ u13 : Int, (.int .i64 0 : Value) = .int .i64 u13 ∧ I10 u12 u13 w7) ∧
    ∀ e0 : Env, ∀ v14 : (Option Addr), ∀ v15 : Int, ∀ w16 : World, I10 v14 v15 w16 →
    (cond (decide ((v15 : Int) < (script.len : Int)))
    ((cond (decide ((v15 : Int) < 40))
    (((0 : Int) ≤ v15 ∧ (v15 : Int) < (script.len : Int)) ∧ withSome script.a fun a17 =>
    ∃ y18 : Sl, (okVal false 1 (.slice y18.a y18.len y18.cap) = true ∧ w16.cell? (Addr.add (Addr.add a17 (v15.toNat * 4)) 3) = some (.slice y18.a y18.len y18.cap)) ∧
    (cond (decide (((y18.len : Int) : Int) > 2000))
    (C.skeplaw06_awake  w16 (fun r21 w19 => ∃ p20 : Bool, r21 = .bool p20 ∧
    K (.bool p20) w19) KP)
    (((0 : Int) ≤ v15 ∧ (v15 : Int) < (script.len : Int)) ∧ withSome script.a fun a22 =>
    ∃ y23 : S.skeplaw06_Op, (okVal true 4 (S.skeplaw06_Op.v y23) = true ∧ rd w16 (Addr.add a22 (v15.toNat * 4)) (S.skeplaw06_Op.v y23)) ∧
    C.skeplaw06_On_do v14 y23 w16 (fun r26 w24 => ∃ p25 : ((Option Addr) × Bool), r26 = .tuple #[.pointer p25.1, .bool p25.2] ∧
    (cond (!p25.2)
    ((cond p25.2
    (C.skeplaw06_awake  w24 (fun r29 w27 => ∃ p28 : Bool, r29 = .bool p28 ∧
    K (.bool p28) w27) KP)
    (K (.bool false) w24)))
    ((cond p25.1.isNone
    ((cond p25.2
    (C.skeplaw06_awake  w24 (fun r32 w30 => ∃ p31 : Bool, r32 = .bool p31 ∧
    K (.bool p31) w30) KP)
    (K (.bool false) w24)))
    (C.skeplaw06_On_alike p25.1 w24 (fun r35 w33 => ∃ p34 : Bool, r35 = .bool p34 ∧
    (cond (!p34)
    (K (.bool false) w33)
    (∃ u36 : (Option Addr), (.pointer p25.1 : Value) = .pointer u36 ∧ ∃ u37 : Int, (.int .i64 (IntKind.i64.wrap (v15 + 1)) : Value) = .int .i64 u37 ∧ (I10 u36 u37 w33 ∧ M11 u36 u37 w33 < M11 v14 v15 w16)))) KP))))) KP)))
    (C.skeplaw06_awake  w16 (fun r40 w38 => ∃ p39 : Bool, r40 = .bool p39 ∧
    K (.bool p39) w38) KP)))
    (C.skeplaw06_awake  w16 (fun r43 w41 => ∃ p42 : Bool, r43 = .bool p42 ∧
    K (.bool p42) w41) KP))))))) KP) KP) KP
theorem skeplaw06_StorePlays_of {script : Sl} {w : World} {K : Value → World → Prop} {KP : List PanicEntry → World → Prop} (h : W.skeplaw06_StorePlays script w K KP) : C.skeplaw06_StorePlays script w K KP :=
  xcall (E := E) (T := mkTab [(5, [(3, 54), (5, 3)])] [(5, [2, 3, 4, 5, 18, 19, 20, 21, 22, 23, 24, 25, 26, 27, 28, 29, 30, 31, 32, 33, 34, 35, 36, 37, 38, 39, 40, 41, 42, 43, 44, 45, 46, 47, 48, 49, 50, 51, 52, 53, 54, 55, 56, 57])] [] [] [] [] [] []) (c := Try.f7.body.getD .skip) (rs := [.tmp 2]) ⟨⟩ mixed Try.func7 (by kernel_rfl) (by kernel_rfl) [.slice script.a script.len script.cap] (by kernel_rfl) (by kernel_rfl) (.inr (by kernel_rfl)) (Eq.mp (by kernel_rfl) h)

def W.skeplaw06_StoreBytes (a : Sl) (p1_ : Sl) (script : Sl) (w : World) (K : Value → World → Prop) (KP : List PanicEntry → World → Prop) : Prop :=
   C.disk_New  w (fun r3 w1 => ∃ p2 : (Option Addr), r3 = .pointer p2 ∧
    C.skepref03_New  w1 (fun r6 w4 => ∃ p5 : (Option Addr), r6 = .pointer p5 ∧
    ∃ (I7 : Int → World → Prop) (M8 : Int → World → Nat),
    (∃ u9 : Int, (.int .i64 0 : Value) = .int .i64 u9 ∧ I7 u9 w4) ∧
    ∀ e0 : Env, ∀ v10 : Int, ∀ w11 : World, I7 v10 w11 →
    (cond (decide ((v10 : Int) < 2))
    (∃ J12 : Sl → World → Prop,
    ((cond ((v10 : Int) == 1)
    (∃ u13 : Sl, (.slice p1_.a p1_.len p1_.cap : Value) = .slice u13.a u13.len u13.cap ∧ J12 u13 w11)
    (∃ u14 : Sl, (.slice a.a a.len a.cap : Value) = .slice u14.a u14.len u14.cap ∧ J12 u14 w11))) ∧
    ∀ e0 : Env, ∀ v15 : Sl, ∀ w16 : World, J12 v15 w16 →
    ∃ (I17 : Int → World → Prop) (M18 : Int → World → Nat),
    (∃ u19 : Int, (.int .i64 0 : Value) = .int .i64 u19 ∧ I17 u19 w16) ∧
    ∀ e0 : Env, ∀ v20 : Int, ∀ w21 : World, I17 v20 w21 →
    (cond (decide ((v20 : Int) < (v15.len : Int)))
    ((cond (decide ((v20 : Int) < 12))
    (((0 : Int) ≤ v20 ∧ (v20 : Int) < (v15.len : Int)) ∧ withSome v15.a fun a22 =>
    ∃ y23 : Sl, (okVal false 1 (.slice y23.a y23.len y23.cap) = true ∧ w21.cell? (Addr.add a22 (v20.toNat * 1)) = some (.slice y23.a y23.len y23.cap)) ∧
    (cond (((y23.len : Int) : Int) == 0)
    (∃ u24 : Int, (.int .i64 (IntKind.i64.wrap (v20 + 1)) : Value) = .int .i64 u24 ∧ (I17 u24 w21 ∧ M18 u24 w21 < M18 v20 w21))
    (((0 : Int) ≤ v20 ∧ (v20 : Int) < (v15.len : Int)) ∧ withSome v15.a fun a25 =>
    ∃ y26 : Sl, (okVal false 1 (.slice y26.a y26.len y26.cap) = true ∧ w21.cell? (Addr.add a25 (v20.toNat * 1)) = some (.slice y26.a y26.len y26.cap)) ∧
    (cond (decide (((y26.len : Int) : Int) > 2000))
    (∃ u27 : Int, (.int .i64 (IntKind.i64.wrap (v20 + 1)) : Value) = .int .i64 u27 ∧ (I17 u27 w21 ∧ M18 u27 w21 < M18 v20 w21))
    (((0 : Int) ≤ v20 ∧ (v20 : Int) < (v15.len : Int)) ∧ withSome v15.a fun a28 =>
    ∃ y29 : Sl, (okVal false 1 (.slice y29.a y29.len y29.cap) = true ∧ w21.cell? (Addr.add a28 (v20.toNat * 1)) = some (.slice y29.a y29.len y29.cap)) ∧
    C.skepref04_Record y29 w21 (fun r32 w30 => ∃ p31 : Sl, r32 = .slice p31.a p31.len p31.cap ∧
    C.skeplaw00_CopyBytes p31 w30 (fun r35 w33 => ∃ p34 : Sl, r35 = .slice p34.a p34.len p34.cap ∧
    C.disk_Disk_Append p2 v10 p34 w33 (fun r38 w36 => ∃ p37 : Int, r38 = .int .i64 p37 ∧
    (cond ((p37 : Int) != 0)
    (K (.bool false) w36)
    (C.skepref03_Disk_Append p5 v10 p31 w36 (fun r41 w39 => ∃ p40 : Int, r41 = .int .i64 p40 ∧
    (cond ((p40 : Int) != 0)
    (K (.bool false) w39)
    (∃ u42 : Int, (.int .i64 (IntKind.i64.wrap (v20 + 1)) : Value) = .int .i64 u42 ∧ (I17 u42 w39 ∧ M18 u42 w39 < M18 v20 w21)))) KP))) KP) KP) KP)))))
    (C.disk_Disk_Sync p2 v10 w21 (fun r45 w43 => ∃ p44 : Int, r45 = .int .i64 p44 ∧
    (cond ((p44 : Int) != 0)
    (K (.bool false) w43)
    (C.skepref03_Disk_Sync p5 v10 w43 (fun r48 w46 => ∃ p47 : Int, r48 = .int .i64 p47 ∧
    (cond ((p47 : Int) != 0)
    (K (.bool false) w46)
    (∃ u49 : Int, (.int .i64 (IntKind.i64.wrap (v10 + 1)) : Value) = .int .i64 u49 ∧ (I7 u49 w46 ∧ M8 u49 w46 < M8 v10 w11)))) KP))) KP)))
    (C.disk_Disk_Sync p2 v10 w21 (fun r52 w50 => ∃ p51 : Int, r52 = .int .i64 p51 ∧
    (cond ((p51 : Int) != 0)
    (K (.bool false) w50)
    (C.skepref03_Disk_Sync p5 v10 w50 (fun r55 w53 => ∃ p54 : Int, r55 = .int .i64 p54 ∧
    (cond ((p54 : Int) != 0)
    (K (.bool false) w53)
    (∃ u56 : Int, (.int .i64 (IntKind.i64.wrap (v10 + 1)) : Value) = .int .i64 u56 ∧ (I7 u56 w53 ∧ M8 u56 w53 < M8 v10 w11)))) KP))) KP)))
    (C.skeplaw06_open p2 p5 w11 (fun r59 w57 => ∃ p58 : ((Option Addr) × Bool), r59 = .tuple #[.pointer p58.1, .bool p58.2] ∧
    (cond (!p58.2)
    ((cond p58.2
    (C.skeplaw06_awake  w57 (fun r62 w60 => ∃ p61 : Bool, r62 = .bool p61 ∧
    K (.bool p61) w60) KP)
    (K (.bool false) w57)))
    ((cond p58.1.isNone
    ((cond p58.2
    (C.skeplaw06_awake  w57 (fun r65 w63 => ∃ p64 : Bool, r65 = .bool p64 ∧
    K (.bool p64) w63) KP)
    (K (.bool false) w57)))
    (∃ (I66 : (Option Addr) → Int → World → Prop) (M67 : (Option Addr) → Int → World → Nat),
    (∃ u68 : (Option Addr), (.pointer p58.1 : Value) = .pointer u68 ∧ ∃ u69 : Int, (.int .i64 0 : Value) = .int .i64 u69 ∧ I66 u68 u69 w57) ∧
    ∀ e0 : Env, ∀ v70 : (Option Addr), ∀ v71 : Int, ∀ w72 : World, I66 v70 v71 w72 →
    (cond (decide ((v71 : Int) < (script.len : Int)))
    ((cond (decide ((v71 : Int) < 12))
    (((0 : Int) ≤ v71 ∧ (v71 : Int) < (script.len : Int)) ∧ withSome script.a fun a73 =>
    ∃ y74 : Sl, (okVal false 1 (.slice y74.a y74.len y74.cap) = true ∧ w72.cell? (Addr.add (Addr.add a73 (v71.toNat * 4)) 3) = some (.slice y74.a y74.len y74.cap)) ∧
    (cond (decide (((y74.len : Int) : Int) > 2000))
    (C.skeplaw06_awake  w72 (fun r77 w75 => ∃ p76 : Bool, r77 = .bool p76 ∧
    K (.bool p76) w75) KP)
    (((0 : Int) ≤ v71 ∧ (v71 : Int) < (script.len : Int)) ∧ withSome script.a fun a78 =>
    ∃ y79 : S.skeplaw06_Op, (okVal true 4 (S.skeplaw06_Op.v y79) = true ∧ rd w72 (Addr.add a78 (v71.toNat * 4)) (S.skeplaw06_Op.v y79)) ∧
    C.skeplaw06_On_do v70 y79 w72 (fun r82 w80 => ∃ p81 : ((Option Addr) × Bool), r82 = .tuple #[.pointer p81.1, .bool p81.2] ∧
    (cond (!p81.2)
    ((cond p81.2
    (C.skeplaw06_awake  w80 (fun r85 w83 => ∃ p84 : Bool, r85 = .bool p84 ∧
    K (.bool p84) w83) KP)
    (K (.bool false) w80)))
    ((cond p81.1.isNone
    ((cond p81.2
    (C.skeplaw06_awake  w80 (fun r88 w86 => ∃ p87 : Bool, r88 = .bool p87 ∧
    K (.bool p87) w86) KP)
    (K (.bool false) w80)))
    (C.skeplaw06_On_alike p81.1 w80 (fun r91 w89 => ∃ p90 : Bool, r91 = .bool p90 ∧
    (cond (!p90)
    (K (.bool false) w89)
    (∃ u92 : (Option Addr), (.pointer p81.1 : Value) = .pointer u92 ∧ ∃ u93 : Int, (.int .i64 (IntKind.i64.wrap (v71 + 1)) : Value) = .int .i64 u93 ∧ (I66 u92 u93 w89 ∧ M67 u92 u93 w89 < M67 v70 v71 w72)))) KP))))) KP)))
    (C.skeplaw06_On_alike v70 w72 (fun r96 w94 => ∃ p95 : Bool, r96 = .bool p95 ∧
    (cond p95
    (C.skeplaw06_awake  w94 (fun r99 w97 => ∃ p98 : Bool, r99 = .bool p98 ∧
    K (.bool p98) w97) KP)
    (K (.bool false) w94))) KP)))
    (C.skeplaw06_On_alike v70 w72 (fun r102 w100 => ∃ p101 : Bool, r102 = .bool p101 ∧
    (cond p101
    (C.skeplaw06_awake  w100 (fun r105 w103 => ∃ p104 : Bool, r105 = .bool p104 ∧
    K (.bool p104) w103) KP)
    (K (.bool false) w100))) KP))))))) KP))) KP) KP
theorem skeplaw06_StoreBytes_of {a : Sl} {p1_ : Sl} {script : Sl} {w : World} {K : Value → World → Prop} {KP : List PanicEntry → World → Prop} (h : W.skeplaw06_StoreBytes a p1_ script w K KP) : C.skeplaw06_StoreBytes a p1_ script w K KP :=
  xcall (E := E) (T := mkTab [(4, [(9, 3)]), (10, [(11, 3)]), (22, [(13, 54), (15, 3)])] [(4, [6, 9, 10, 11, 12, 18, 19, 20, 21, 22, 23, 24, 25, 26, 27, 28, 29, 30, 31, 32, 33, 34, 35, 36, 37, 38, 39, 40, 41, 42, 43, 44, 45, 46, 47, 48, 49, 50, 51, 52, 53, 54, 55, 56, 57, 58, 59, 60, 61, 62, 63, 64, 65, 66, 67, 68, 69, 70, 71, 72, 73, 74, 75, 76, 77]), (10, [6, 11, 12, 26, 27, 28, 29, 30, 31, 32, 33, 34, 35, 36, 37, 38, 39, 40, 41, 42, 43, 44, 45, 46, 47, 48, 49, 50, 51, 52, 53, 54, 55, 56, 57, 58, 59, 60, 61, 62, 63, 64, 65, 66, 67]), (22, [6, 13, 14, 15, 94, 95, 96, 97, 98, 99, 100, 101, 102, 103, 104, 105, 106, 107, 108, 109, 110, 111, 112, 113, 114, 115, 116, 117, 118, 119, 120, 121, 122, 123, 124, 125, 126, 127, 128, 129, 130, 131, 132, 133])] [(9, [(10, 22)])] [(9, [10, 23, 24, 25])] [] [] [] []) (c := Try.f8.body.getD .skip) (rs := [.tmp 6]) ⟨⟩ mixed Try.func8 (by kernel_rfl) (by kernel_rfl) [.slice a.a a.len a.cap, .slice p1_.a p1_.len p1_.cap, .slice script.a script.len script.cap] (by kernel_rfl) (by kernel_rfl) (.inr (by kernel_rfl)) (Eq.mp (by kernel_rfl) h)

def W.disk_New (w : World) (K : Value → World → Prop) (KP : List PanicEntry → World → Prop) : Prop :=
   ∀ (b1 : Nat) (w2 : World), Alloc w b1 70 [.slice none 0 0, .slice none 0 0, .slice none 0 0, .slice none 0 0, .slice none 0 0, .slice none 0 0] w2 →
    K (.pointer (some ⟨b1, 0, none⟩)) w2
theorem disk_New_of {w : World} {K : Value → World → Prop} {KP : List PanicEntry → World → Prop} (h : W.disk_New  w K KP) : C.disk_New  w K KP :=
  xcall (E := E) (T := mkTab [] [] [] [] [] [] [] []) (c := Try.f9.body.getD .skip) (rs := [.tmp 0]) ⟨⟩ mixed Try.func9 (by kernel_rfl) (by kernel_rfl) [] (by kernel_rfl) (by kernel_rfl) (.inr (by kernel_rfl)) (Eq.mp (by kernel_rfl) h)

def W.store_Open (d : (Option Addr)) (w : World) (K : Value → World → Prop) (KP : List PanicEntry → World → Prop) : Prop :=
   ∀ (b1 : Nat) (w2 : World), Alloc w b1 26 [.pointer none] w2 →
    ∀ (b3 : Nat) (w4 : World), Alloc w2 b3 27 [.slice none 0 0] w4 →
    ∀ (b5 : Nat) (w6 : World), Alloc w4 b5 22 [.slice none 0 0] w6 →
    ∀ (b7 : Nat) (w8 : World), Alloc w6 b7 28 [.int .i64 0] w8 →
    (cond d.isNone
    ((okVal false 1 (.pointer none) = true ∧ canPut w8 ⟨b1, 0, none⟩ (.pointer none)) ∧ ∀ w9 : World, w9 = putAt w8 ⟨b1, 0, none⟩ (.pointer none) →
    (okVal false 1 (.slice none 0 0) = true ∧ canPut w9 ⟨b3, 0, none⟩ (.slice none 0 0)) ∧ ∀ w10 : World, w10 = putAt w9 ⟨b3, 0, none⟩ (.slice none 0 0) →
    (okVal false 1 (.slice none 0 0) = true ∧ canPut w10 ⟨b5, 0, none⟩ (.slice none 0 0)) ∧ ∀ w11 : World, w11 = putAt w10 ⟨b5, 0, none⟩ (.slice none 0 0) →
    (okVal false 1 (.int .i64 1) = true ∧ canPut w11 ⟨b7, 0, none⟩ (.int .i64 1)) ∧ ∀ w12 : World, w12 = putAt w11 ⟨b7, 0, none⟩ (.int .i64 1) →
    ∃ y13 : (Option Addr), (okVal false 1 (.pointer y13) = true ∧ w12.cell? ⟨b1, 0, none⟩ = some (.pointer y13)) ∧ ∃ y14 : Sl, (okVal false 1 (.slice y14.a y14.len y14.cap) = true ∧ w12.cell? ⟨b3, 0, none⟩ = some (.slice y14.a y14.len y14.cap)) ∧ ∃ y15 : Sl, (okVal false 1 (.slice y15.a y15.len y15.cap) = true ∧ w12.cell? ⟨b5, 0, none⟩ = some (.slice y15.a y15.len y15.cap)) ∧ ∃ y16 : Int, (okVal false 1 (.int .i64 y16) = true ∧ w12.cell? ⟨b7, 0, none⟩ = some (.int .i64 y16)) ∧ K (.tuple #[.pointer y13, .slice y14.a y14.len y14.cap, .slice y15.a y15.len y15.cap, .int .i64 y16]) w12)
    (∀ (b17 : Nat) (w18 : World), Alloc w8 b17 74 [.pointer none, .pointer none, .int .i64 0, .int .i64 0, .int .i64 0, .int .i64 0] w18 →
    ∀ (b19 : Nat) (w20 : World), Alloc w18 b19 26 [.pointer none] w20 →
    (okVal false 1 (.pointer (some ⟨b17, 0, none⟩)) = true ∧ canPut w20 ⟨b19, 0, none⟩ (.pointer (some ⟨b17, 0, none⟩))) ∧ ∀ w21 : World, w21 = putAt w20 ⟨b19, 0, none⟩ (.pointer (some ⟨b17, 0, none⟩)) →
    ∀ (b22 : Nat) (w23 : World), Alloc w21 b22 75 [.slice none 0 0, .slice none 0 0] w23 →
    ∀ (b24 : Nat) (w25 : World), Alloc w23 b24 78 [.int .i64 0, .int .i64 0, .slice none 0 0, .bool false, .int .i64 0, .int .i64 0, .slice none 0 0, .bool false] w25 →
    ∃ (I26 : Int → World → Prop) (M27 : Int → World → Nat),
    (∃ u28 : Int, (.int .i64 0 : Value) = .int .i64 u28 ∧ I26 u28 w25) ∧
    ∀ e0 : Env, ∀ v29 : Int, ∀ w30 : World, I26 v29 w30 →
    (cond (decide ((v29 : Int) < 2))
    (C.wal_Open d v29 w30 (fun r33 w31 => ∃ p32 : ((Option Addr) × Sl × Int), r33 = .tuple #[.pointer p32.1, .slice p32.2.1.a p32.2.1.len p32.2.1.cap, .int .i64 p32.2.2] ∧
    (cond ((p32.2.2 : Int) != 0)
    ((okVal false 1 (.pointer none) = true ∧ canPut w31 ⟨b1, 0, none⟩ (.pointer none)) ∧ ∀ w34 : World, w34 = putAt w31 ⟨b1, 0, none⟩ (.pointer none) →
    (okVal false 1 (.slice none 0 0) = true ∧ canPut w34 ⟨b3, 0, none⟩ (.slice none 0 0)) ∧ ∀ w35 : World, w35 = putAt w34 ⟨b3, 0, none⟩ (.slice none 0 0) →
    (okVal false 1 (.slice none 0 0) = true ∧ canPut w35 ⟨b5, 0, none⟩ (.slice none 0 0)) ∧ ∀ w36 : World, w36 = putAt w35 ⟨b5, 0, none⟩ (.slice none 0 0) →
    (okVal false 1 (.int .i64 p32.2.2) = true ∧ canPut w36 ⟨b7, 0, none⟩ (.int .i64 p32.2.2)) ∧ ∀ w37 : World, w37 = putAt w36 ⟨b7, 0, none⟩ (.int .i64 p32.2.2) →
    ∃ y38 : (Option Addr), (okVal false 1 (.pointer y38) = true ∧ w37.cell? ⟨b1, 0, none⟩ = some (.pointer y38)) ∧ ∃ y39 : Sl, (okVal false 1 (.slice y39.a y39.len y39.cap) = true ∧ w37.cell? ⟨b3, 0, none⟩ = some (.slice y39.a y39.len y39.cap)) ∧ ∃ y40 : Sl, (okVal false 1 (.slice y40.a y40.len y40.cap) = true ∧ w37.cell? ⟨b5, 0, none⟩ = some (.slice y40.a y40.len y40.cap)) ∧ ∃ y41 : Int, (okVal false 1 (.int .i64 y41) = true ∧ w37.cell? ⟨b7, 0, none⟩ = some (.int .i64 y41)) ∧ K (.tuple #[.pointer y38, .slice y39.a y39.len y39.cap, .slice y40.a y40.len y40.cap, .int .i64 y41]) w37)
    (∀ w42, Drew w31 w42 →
    ∃ y43 : (Option Addr), (okVal false 1 (.pointer y43) = true ∧ w42.cell? ⟨b19, 0, none⟩ = some (.pointer y43)) ∧
    withSome y43 fun a44 =>
    C.store_heads p32.2.1 w42 (fun r47 w45 => ∃ p46 : S.store_head, r47 = S.store_head.v p46 ∧
    (w45.cell? ⟨b19, 0, none⟩ = some (.pointer y43)) ∧ ((0 : Int) ≤ v29 ∧ (v29 : Int) < (2 : Int)) ∧ (okVal false 1 (.pointer p32.1) = true ∧ canPut w45 (Addr.add a44 (v29.toNat * 1)) (.pointer p32.1)) ∧ ∀ w48 : World, w48 = putAt w45 (Addr.add a44 (v29.toNat * 1)) (.pointer p32.1) →
    ((0 : Int) ≤ v29 ∧ (v29 : Int) < (2 : Int)) ∧ (okVal false 1 (.slice p32.2.1.a p32.2.1.len p32.2.1.cap) = true ∧ canPut w48 (Addr.add ⟨b22, 0, none⟩ (v29.toNat * 1)) (.slice p32.2.1.a p32.2.1.len p32.2.1.cap)) ∧ ∀ w49 : World, w49 = putAt w48 (Addr.add ⟨b22, 0, none⟩ (v29.toNat * 1)) (.slice p32.2.1.a p32.2.1.len p32.2.1.cap) →
    ((0 : Int) ≤ v29 ∧ (v29 : Int) < (2 : Int)) ∧ (okVal true 4 (S.store_head.v p46) = true ∧ canPut w49 (Addr.add ⟨b24, 0, none⟩ (v29.toNat * 4)) (S.store_head.v p46)) ∧ ∀ w50 : World, w50 = putAt w49 (Addr.add ⟨b24, 0, none⟩ (v29.toNat * 4)) (S.store_head.v p46) →
    ∃ u51 : Int, (.int .i64 (IntKind.i64.wrap (v29 + 1)) : Value) = .int .i64 u51 ∧ (I26 u51 w50 ∧ M27 u51 w50 < M27 v29 w30)) KP))) KP)
    (∃ J52 : World → Prop,
    (((0 : Int) ≤ 0 ∧ (0 : Int) < (2 : Int)) ∧ ∃ y53 : Bool, (okVal false 1 (.bool y53) = true ∧ w30.cell? ⟨b24, 3, none⟩ = some (.bool y53)) ∧
    (cond (!y53)
    (((0 : Int) ≤ 1 ∧ (1 : Int) < (2 : Int)) ∧ ∃ y54 : Bool, (okVal false 1 (.bool y54) = true ∧ w30.cell? ⟨b24, 7, none⟩ = some (.bool y54)) ∧
    (cond (!y54)
    (∃ y55 : (Option Addr), (okVal false 1 (.pointer y55) = true ∧ w30.cell? ⟨b19, 0, none⟩ = some (.pointer y55)) ∧
    withSome y55 fun a56 =>
    ∃ y57 : S.Ar72, (okVal true 2 (S.Ar72.v y57) = true ∧ rd w30 a56 (S.Ar72.v y57)) ∧
    ∃ (I58 : Int → World → Prop) (M59 : Int → World → Nat),
    (∃ u60 : Int, (.int .i64 0 : Value) = .int .i64 u60 ∧ I58 u60 w30) ∧
    ∀ e0 : Env, ∀ v61 : Int, ∀ w62 : World, I58 v61 w62 →
    (cond (decide ((v61 : Int) < 2))
    (((0 : Int) ≤ v61 ∧ (v61 : Int) < (2 : Int)) ∧ ∃ y63 : (Option Addr), partV Try.prog 71 #[.pointer y57.i0, .pointer y57.i1] (v61.toNat * 1) = some (.pointer y63) ∧
    C.wal_Log_Erase y63 w62 (fun r66 w64 => ∃ p65 : Int, r66 = .int .i64 p65 ∧
    C.wal_Log_Sync y63 w64 (fun r69 w67 => ∃ p68 : Int, r69 = .int .i64 p68 ∧
    ∃ u70 : Int, (.int .i64 (IntKind.i64.wrap (v61 + 1)) : Value) = .int .i64 u70 ∧ (I58 u70 w67 ∧ M59 u70 w67 < M59 v61 w62)) KP) KP)
    (∃ y71 : (Option Addr), (okVal false 1 (.pointer y71) = true ∧ w62.cell? ⟨b19, 0, none⟩ = some (.pointer y71)) ∧
    withSome y71 fun a72 =>
    (okVal false 1 (.int .i64 1) = true ∧ canPut w62 (Addr.add a72 3) (.int .i64 1)) ∧ ∀ w73 : World, w73 = putAt w62 (Addr.add a72 3) (.int .i64 1) →
    ∀ w74, Drew w73 w74 →
    ∃ y75 : (Option Addr), (okVal false 1 (.pointer y75) = true ∧ w74.cell? ⟨b19, 0, none⟩ = some (.pointer y75)) ∧
    withSome y75 fun a76 =>
    ((0 : Int) ≤ 0 ∧ (0 : Int) < (2 : Int)) ∧ ∃ y77 : (Option Addr), (okVal false 1 (.pointer y77) = true ∧ w74.cell? a76 = some (.pointer y77)) ∧
    C.codec_PutNumber (⟨none, 0, 0⟩) 1 w74 (fun r80 w78 => ∃ p79 : Sl, r80 = .slice p79.a p79.len p79.cap ∧
    (w78.cell? a76 = some (.pointer y77)) ∧ (w78.cell? ⟨b19, 0, none⟩ = some (.pointer y75)) ∧ C.codec_PutNumber p79 0 w78 (fun r83 w81 => ∃ p82 : Sl, r83 = .slice p82.a p82.len p82.cap ∧
    (w81.cell? a76 = some (.pointer y77)) ∧ (w81.cell? ⟨b19, 0, none⟩ = some (.pointer y75)) ∧ C.wal_Log_Append y77 p82 w81 (fun r86 w84 => ∃ p85 : Int, r86 = .int .i64 p85 ∧
    ∃ y87 : (Option Addr), (okVal false 1 (.pointer y87) = true ∧ w84.cell? ⟨b19, 0, none⟩ = some (.pointer y87)) ∧
    withSome y87 fun a88 =>
    ((0 : Int) ≤ 0 ∧ (0 : Int) < (2 : Int)) ∧ ∃ y89 : (Option Addr), (okVal false 1 (.pointer y89) = true ∧ w84.cell? a88 = some (.pointer y89)) ∧
    C.wal_Log_Sync y89 w84 (fun r92 w90 => ∃ p91 : Int, r92 = .int .i64 p91 ∧
    ∃ y93 : (Option Addr), (okVal false 1 (.pointer y93) = true ∧ w90.cell? ⟨b19, 0, none⟩ = some (.pointer y93)) ∧
    (okVal false 1 (.pointer y93) = true ∧ canPut w90 ⟨b1, 0, none⟩ (.pointer y93)) ∧ ∀ w94 : World, w94 = putAt w90 ⟨b1, 0, none⟩ (.pointer y93) →
    (okVal false 1 (.slice none 0 0) = true ∧ canPut w94 ⟨b3, 0, none⟩ (.slice none 0 0)) ∧ ∀ w95 : World, w95 = putAt w94 ⟨b3, 0, none⟩ (.slice none 0 0) →
    (okVal false 1 (.slice none 0 0) = true ∧ canPut w95 ⟨b5, 0, none⟩ (.slice none 0 0)) ∧ ∀ w96 : World, w96 = putAt w95 ⟨b5, 0, none⟩ (.slice none 0 0) →
    (okVal false 1 (.int .i64 p85) = true ∧ canPut w96 ⟨b7, 0, none⟩ (.int .i64 p85)) ∧ ∀ w97 : World, w97 = putAt w96 ⟨b7, 0, none⟩ (.int .i64 p85) →
    ∃ y98 : (Option Addr), (okVal false 1 (.pointer y98) = true ∧ w97.cell? ⟨b1, 0, none⟩ = some (.pointer y98)) ∧ ∃ y99 : Sl, (okVal false 1 (.slice y99.a y99.len y99.cap) = true ∧ w97.cell? ⟨b3, 0, none⟩ = some (.slice y99.a y99.len y99.cap)) ∧ ∃ y100 : Sl, (okVal false 1 (.slice y100.a y100.len y100.cap) = true ∧ w97.cell? ⟨b5, 0, none⟩ = some (.slice y100.a y100.len y100.cap)) ∧ ∃ y101 : Int, (okVal false 1 (.int .i64 y101) = true ∧ w97.cell? ⟨b7, 0, none⟩ = some (.int .i64 y101)) ∧ K (.tuple #[.pointer y98, .slice y99.a y99.len y99.cap, .slice y100.a y100.len y100.cap, .int .i64 y101]) w97) KP) KP) KP) KP)))
    (J52 w30)))
    (J52 w30))) ∧
    ∀ e0 : Env, ∀ w102 : World, J52 w102 →
    ∃ J103 : World → Prop,
    (((0 : Int) ≤ 1 ∧ (1 : Int) < (2 : Int)) ∧ ∃ y104 : Bool, (okVal false 1 (.bool y104) = true ∧ w102.cell? ⟨b24, 7, none⟩ = some (.bool y104)) ∧
    (cond y104
    (((0 : Int) ≤ 0 ∧ (0 : Int) < (2 : Int)) ∧ ∃ y105 : Bool, (okVal false 1 (.bool y105) = true ∧ w102.cell? ⟨b24, 3, none⟩ = some (.bool y105)) ∧
    (cond (!y105)
    (∃ y106 : (Option Addr), (okVal false 1 (.pointer y106) = true ∧ w102.cell? ⟨b19, 0, none⟩ = some (.pointer y106)) ∧
    withSome y106 fun a107 =>
    (okVal false 1 (.int .i64 1) = true ∧ canPut w102 (Addr.add a107 2) (.int .i64 1)) ∧ ∀ w108 : World, w108 = putAt w102 (Addr.add a107 2) (.int .i64 1) →
    J103 w108)
    (((0 : Int) ≤ 1 ∧ (1 : Int) < (2 : Int)) ∧ ∃ y109 : Int, (okVal false 1 (.int .i64 y109) = true ∧ w102.cell? ⟨b24, 4, none⟩ = some (.int .i64 y109)) ∧
    ((0 : Int) ≤ 0 ∧ (0 : Int) < (2 : Int)) ∧ ∃ y110 : Int, (okVal false 1 (.int .i64 y110) = true ∧ w102.cell? ⟨b24, 0, none⟩ = some (.int .i64 y110)) ∧
    (cond (decide ((y109 : Int) > y110))
    (∃ y111 : (Option Addr), (okVal false 1 (.pointer y111) = true ∧ w102.cell? ⟨b19, 0, none⟩ = some (.pointer y111)) ∧
    withSome y111 fun a112 =>
    (okVal false 1 (.int .i64 1) = true ∧ canPut w102 (Addr.add a112 2) (.int .i64 1)) ∧ ∀ w113 : World, w113 = putAt w102 (Addr.add a112 2) (.int .i64 1) →
    J103 w113)
    (J103 w102)))))
    (J103 w102))) ∧
    ∀ e0 : Env, ∀ w114 : World, J103 w114 →
    ∃ y115 : (Option Addr), (okVal false 1 (.pointer y115) = true ∧ w114.cell? ⟨b19, 0, none⟩ = some (.pointer y115)) ∧
    withSome y115 fun a116 =>
    ∃ y117 : Int, (okVal false 1 (.int .i64 y117) = true ∧ w114.cell? (Addr.add a116 2) = some (.int .i64 y117)) ∧
    ((0 : Int) ≤ y117 ∧ (y117 : Int) < (2 : Int)) ∧ ∃ y118 : S.store_head, (okVal true 4 (S.store_head.v y118) = true ∧ rd w114 (Addr.add ⟨b24, 0, none⟩ (y117.toNat * 4)) (S.store_head.v y118)) ∧
    ∀ (b119 : Nat) (w120 : World), Alloc w114 b119 77 [.int .i64 0, .int .i64 0, .slice none 0 0, .bool false] w120 →
    (okVal true 4 (S.store_head.v y118) = true ∧ canPut w120 ⟨b119, 0, none⟩ (S.store_head.v y118)) ∧ ∀ w121 : World, w121 = putAt w120 ⟨b119, 0, none⟩ (S.store_head.v y118) →
    ∀ w122, Drew w121 w122 →
    ∃ y123 : (Option Addr), (okVal false 1 (.pointer y123) = true ∧ w122.cell? ⟨b19, 0, none⟩ = some (.pointer y123)) ∧
    ∃ y124 : (Option Addr), (okVal false 1 (.pointer y124) = true ∧ w122.cell? ⟨b19, 0, none⟩ = some (.pointer y124)) ∧
    ∃ y125 : (Option Addr), (okVal false 1 (.pointer y125) = true ∧ w122.cell? ⟨b19, 0, none⟩ = some (.pointer y125)) ∧
    ∃ y126 : Int, (okVal false 1 (.int .i64 y126) = true ∧ w122.cell? ⟨b119, 0, none⟩ = some (.int .i64 y126)) ∧
    ∃ y127 : Int, (okVal false 1 (.int .i64 y127) = true ∧ w122.cell? ⟨b119, 1, none⟩ = some (.int .i64 y127)) ∧
    ∃ y128 : Int, (okVal false 1 (.int .i64 y128) = true ∧ w122.cell? ⟨b119, 1, none⟩ = some (.int .i64 y128)) ∧
    withSome y123 fun a129 =>
    (okVal false 1 (.int .i64 y126) = true ∧ canPut w122 (Addr.add a129 3) (.int .i64 y126)) ∧ ∀ w130 : World, w130 = putAt w122 (Addr.add a129 3) (.int .i64 y126) →
    (w130.cell? ⟨b119, 1, none⟩ = some (.int .i64 y128)) ∧ (w130.cell? ⟨b119, 1, none⟩ = some (.int .i64 y127)) ∧ (w130.cell? ⟨b19, 0, none⟩ = some (.pointer y125)) ∧ (w130.cell? ⟨b19, 0, none⟩ = some (.pointer y124)) ∧ withSome y124 fun a131 =>
    (okVal false 1 (.int .i64 y127) = true ∧ canPut w130 (Addr.add a131 4) (.int .i64 y127)) ∧ ∀ w132 : World, w132 = putAt w130 (Addr.add a131 4) (.int .i64 y127) →
    (w132.cell? ⟨b119, 1, none⟩ = some (.int .i64 y128)) ∧ (w132.cell? ⟨b19, 0, none⟩ = some (.pointer y125)) ∧ withSome y125 fun a133 =>
    (okVal false 1 (.int .i64 y128) = true ∧ canPut w132 (Addr.add a133 5) (.int .i64 y128)) ∧ ∀ w134 : World, w134 = putAt w132 (Addr.add a133 5) (.int .i64 y128) →
    ∀ (b135 : Nat) (w136 : World), Alloc w134 b135 22 [.slice none 0 0] w136 →
    ∃ y137 : (Option Addr), (okVal false 1 (.pointer y137) = true ∧ w136.cell? ⟨b19, 0, none⟩ = some (.pointer y137)) ∧
    withSome y137 fun a138 =>
    ∃ y139 : Int, (okVal false 1 (.int .i64 y139) = true ∧ w136.cell? (Addr.add a138 2) = some (.int .i64 y139)) ∧
    ((0 : Int) ≤ y139 ∧ (y139 : Int) < (2 : Int)) ∧ ∃ y140 : Sl, (okVal false 1 (.slice y140.a y140.len y140.cap) = true ∧ w136.cell? (Addr.add ⟨b22, 0, none⟩ (y139.toNat * 1)) = some (.slice y140.a y140.len y140.cap)) ∧
    ((0 : Int) ≤ 1 ∧ (1 : Int) ≤ (y140.len : Int)) ∧ C.store_numbered (⟨(if y140.cap = 1 then y140.a else Option.map (fun x => Addr.add x (1 * 1)) y140.a), y140.len - 1, y140.cap - 1⟩) w136 (fun r143 w141 => ∃ p142 : Value, r143 = p142 ∧
    ∀ (D144 L145 : Nat) (lr146 : LoopState → Option Code → Obj) (w147 : World), RFstart w141 D144 L145 lr146 w147 →
    ∀ y148 : Value, (∀ x151 : Int, ∀ x152 : Sl, ∀ (W149 : World) (RR150 : Value → World → Prop), W149.heap[L145]? = some (lr146 .ready none) →
    (W149.heap[L145]? = some (lr146 .ready none) ∧ ∀ w153 : World, w153 = W149.putObj L145 (lr146 .busy none) →
    ∃ y154 : (Option Addr), (okVal false 1 (.pointer y154) = true ∧ w153.cell? ⟨b19, 0, none⟩ = some (.pointer y154)) ∧
    withSome y154 fun a155 =>
    ∃ y156 : Int, (okVal false 1 (.int .i64 y156) = true ∧ w153.cell? (Addr.add a155 5) = some (.int .i64 y156)) ∧
    (cond (decide ((x151 : Int) ≤ y156))
    (w153.heap[L145]? = some (lr146 .busy none) ∧ ∀ w157 : World, w157 = w153.putObj L145 (lr146 .ready none) → RR150 (.bool true) w157)
    (∃ y158 : (Option Addr), (okVal false 1 (.pointer y158) = true ∧ w153.cell? ⟨b19, 0, none⟩ = some (.pointer y158)) ∧
    withSome y158 fun a159 =>
    ∃ y160 : Int, (okVal false 1 (.int .i64 y160) = true ∧ w153.cell? (Addr.add a159 5) = some (.int .i64 y160)) ∧
    (cond ((x151 : Int) != (IntKind.i64.wrap (y160 + 1)))
    ((okVal false 1 (.pointer none) = true ∧ canPut w153 ⟨b1, 0, none⟩ (.pointer none)) ∧ ∀ w161 : World, w161 = putAt w153 ⟨b1, 0, none⟩ (.pointer none) →
    (okVal false 1 (.slice none 0 0) = true ∧ canPut w161 ⟨b3, 0, none⟩ (.slice none 0 0)) ∧ ∀ w162 : World, w162 = putAt w161 ⟨b3, 0, none⟩ (.slice none 0 0) →
    (okVal false 1 (.slice none 0 0) = true ∧ canPut w162 ⟨b5, 0, none⟩ (.slice none 0 0)) ∧ ∀ w163 : World, w163 = putAt w162 ⟨b5, 0, none⟩ (.slice none 0 0) →
    (okVal false 1 (.int .i64 4) = true ∧ canPut w163 ⟨b7, 0, none⟩ (.int .i64 4)) ∧ ∀ w164 : World, w164 = putAt w163 ⟨b7, 0, none⟩ (.int .i64 4) →
    w164.heap[L145]? = some (lr146 .busy none) ∧ ∀ w165 : World, w165 = w164.putObj L145 (lr146 .done (some .ret)) → RR150 (.bool false) w165)
    (∃ y166 : (Option Addr), (okVal false 1 (.pointer y166) = true ∧ w153.cell? ⟨b19, 0, none⟩ = some (.pointer y166)) ∧
    withSome y166 fun a167 =>
    (okVal false 1 (.int .i64 x151) = true ∧ canPut w153 (Addr.add a167 5) (.int .i64 x151)) ∧ ∀ w168 : World, w168 = putAt w153 (Addr.add a167 5) (.int .i64 x151) →
    ∀ w169, Drew w168 w169 →
    ∃ y170 : Sl, (okVal false 1 (.slice y170.a y170.len y170.cap) = true ∧ w169.cell? ⟨b135, 0, none⟩ = some (.slice y170.a y170.len y170.cap)) ∧
    ∀ (b171 : Nat) (w172 : World), Alloc w169 b171 5 [] w172 →
    (w172.cell? ⟨b135, 0, none⟩ = some (.slice y170.a y170.len y170.cap)) ∧ ∃ (q173 : Option Addr) (n174 c175 : Nat) (w176 : World), (Builtin.append_ #[27, 27] 27 #[.slice (some ⟨b171, 0, none⟩) 0 0, .slice x152.a x152.len x152.cap]).run Try.prog w172 = .ok (.slice q173 n174 c175) w176 ∧
    (w176.cell? ⟨b135, 0, none⟩ = some (.slice y170.a y170.len y170.cap)) ∧ ∀ (b177 : Nat) (w178 : World), Alloc w176 b177 27 [.slice q173 n174 c175] w178 →
    (w178.cell? ⟨b135, 0, none⟩ = some (.slice y170.a y170.len y170.cap)) ∧ ∃ (q179 : Option Addr) (n180 c181 : Nat) (w182 : World), (Builtin.append_ #[22, 22] 22 #[.slice y170.a y170.len y170.cap, .slice (some ⟨b177, 0, none⟩) 1 1]).run Try.prog w178 = .ok (.slice q179 n180 c181) w182 ∧
    (okVal false 1 (.slice q179 n180 c181) = true ∧ canPut w182 ⟨b135, 0, none⟩ (.slice q179 n180 c181)) ∧ ∀ w183 : World, w183 = putAt w182 ⟨b135, 0, none⟩ (.slice q179 n180 c181) →
    w183.heap[L145]? = some (lr146 .busy none) ∧ ∀ w184 : World, w184 = w183.putObj L145 (lr146 .ready none) → RR150 (.bool true) w184))))) →
    callV Try.prog y148 [.int .i64 x151, .slice x152.a x152.len x152.cap] W149 (Ret RR150 fun _ _ => False)) →
    callF Try.prog p142 [y148] w147 (Ret (fun r185 w186 => ∃ (st188 : LoopState) (jump189 : Option Code), w186.heap[L145]? = some (lr146 st188 jump189) ∧ st188 ≠ .busy ∧ ∀ w187 : World, w187 = w186.putObj L145 (lr146 .exhausted jump189) →
    (match jump189 with
    | none => ∀ w190, Drew w187 w190 →
    ∃ y191 : (Option Addr), (okVal false 1 (.pointer y191) = true ∧ w190.cell? ⟨b19, 0, none⟩ = some (.pointer y191)) ∧
    ∃ y192 : (Option Addr), (okVal false 1 (.pointer y192) = true ∧ w190.cell? ⟨b19, 0, none⟩ = some (.pointer y192)) ∧
    withSome y192 fun a193 =>
    ∃ y194 : Int, (okVal false 1 (.int .i64 y194) = true ∧ w190.cell? (Addr.add a193 2) = some (.int .i64 y194)) ∧
    withSome y191 fun a195 =>
    ((0 : Int) ≤ (IntKind.i64.wrap (1 - y194)) ∧ ((IntKind.i64.wrap (1 - y194)) : Int) < (2 : Int)) ∧ ∃ y196 : (Option Addr), (okVal false 1 (.pointer y196) = true ∧ w190.cell? (Addr.add a195 ((IntKind.i64.wrap (1 - y194)).toNat * 1)) = some (.pointer y196)) ∧
    C.wal_Log_Size y196 w190 (fun r199 w197 => ∃ p198 : Int, r199 = .int .i64 p198 ∧
    (cond (decide ((p198 : Int) > 0))
    (C.wal_Log_Erase y196 w197 (fun r202 w200 => ∃ p201 : Int, r202 = .int .i64 p201 ∧
    C.wal_Log_Sync y196 w200 (fun r205 w203 => ∃ p204 : Int, r205 = .int .i64 p204 ∧
    ∀ w206, Drew w203 w206 →
    ∃ y207 : (Option Addr), (okVal false 1 (.pointer y207) = true ∧ w206.cell? ⟨b19, 0, none⟩ = some (.pointer y207)) ∧
    ∃ y208 : Sl, (okVal false 1 (.slice y208.a y208.len y208.cap) = true ∧ w206.cell? ⟨b119, 2, none⟩ = some (.slice y208.a y208.len y208.cap)) ∧
    ∃ y209 : Sl, (okVal false 1 (.slice y209.a y209.len y209.cap) = true ∧ w206.cell? ⟨b135, 0, none⟩ = some (.slice y209.a y209.len y209.cap)) ∧
    ∀ (b210 : Nat) (w211 : World), Alloc w206 b210 5 [] w211 →
    (w211.cell? ⟨b135, 0, none⟩ = some (.slice y209.a y209.len y209.cap)) ∧ (w211.cell? ⟨b119, 2, none⟩ = some (.slice y208.a y208.len y208.cap)) ∧ (w211.cell? ⟨b19, 0, none⟩ = some (.pointer y207)) ∧ ∃ (q212 : Option Addr) (n213 c214 : Nat) (w215 : World), (Builtin.append_ #[27, 27] 27 #[.slice (some ⟨b210, 0, none⟩) 0 0, .slice y208.a y208.len y208.cap]).run Try.prog w211 = .ok (.slice q212 n213 c214) w215 ∧
    (w215.cell? ⟨b135, 0, none⟩ = some (.slice y209.a y209.len y209.cap)) ∧ (w215.cell? ⟨b19, 0, none⟩ = some (.pointer y207)) ∧ (okVal false 1 (.pointer y207) = true ∧ canPut w215 ⟨b1, 0, none⟩ (.pointer y207)) ∧ ∀ w216 : World, w216 = putAt w215 ⟨b1, 0, none⟩ (.pointer y207) →
    (w216.cell? ⟨b135, 0, none⟩ = some (.slice y209.a y209.len y209.cap)) ∧ (okVal false 1 (.slice q212 n213 c214) = true ∧ canPut w216 ⟨b3, 0, none⟩ (.slice q212 n213 c214)) ∧ ∀ w217 : World, w217 = putAt w216 ⟨b3, 0, none⟩ (.slice q212 n213 c214) →
    (w217.cell? ⟨b135, 0, none⟩ = some (.slice y209.a y209.len y209.cap)) ∧ (okVal false 1 (.slice y209.a y209.len y209.cap) = true ∧ canPut w217 ⟨b5, 0, none⟩ (.slice y209.a y209.len y209.cap)) ∧ ∀ w218 : World, w218 = putAt w217 ⟨b5, 0, none⟩ (.slice y209.a y209.len y209.cap) →
    (okVal false 1 (.int .i64 0) = true ∧ canPut w218 ⟨b7, 0, none⟩ (.int .i64 0)) ∧ ∀ w219 : World, w219 = putAt w218 ⟨b7, 0, none⟩ (.int .i64 0) →
    xleave Try.prog [markD D144] .returning w219 (xendF (fun w220 => ∃ y221 : (Option Addr), (okVal false 1 (.pointer y221) = true ∧ w220.cell? ⟨b1, 0, none⟩ = some (.pointer y221)) ∧ ∃ y222 : Sl, (okVal false 1 (.slice y222.a y222.len y222.cap) = true ∧ w220.cell? ⟨b3, 0, none⟩ = some (.slice y222.a y222.len y222.cap)) ∧ ∃ y223 : Sl, (okVal false 1 (.slice y223.a y223.len y223.cap) = true ∧ w220.cell? ⟨b5, 0, none⟩ = some (.slice y223.a y223.len y223.cap)) ∧ ∃ y224 : Int, (okVal false 1 (.int .i64 y224) = true ∧ w220.cell? ⟨b7, 0, none⟩ = some (.int .i64 y224)) ∧ K (.tuple #[.pointer y221, .slice y222.a y222.len y222.cap, .slice y223.a y223.len y223.cap, .int .i64 y224]) w220) KP)) (fun ch225 w226 => xleave Try.prog [markD D144] (.panicking ch225) w226 (xendF (fun w227 => ∃ y228 : (Option Addr), (okVal false 1 (.pointer y228) = true ∧ w227.cell? ⟨b1, 0, none⟩ = some (.pointer y228)) ∧ ∃ y229 : Sl, (okVal false 1 (.slice y229.a y229.len y229.cap) = true ∧ w227.cell? ⟨b3, 0, none⟩ = some (.slice y229.a y229.len y229.cap)) ∧ ∃ y230 : Sl, (okVal false 1 (.slice y230.a y230.len y230.cap) = true ∧ w227.cell? ⟨b5, 0, none⟩ = some (.slice y230.a y230.len y230.cap)) ∧ ∃ y231 : Int, (okVal false 1 (.int .i64 y231) = true ∧ w227.cell? ⟨b7, 0, none⟩ = some (.int .i64 y231)) ∧ K (.tuple #[.pointer y228, .slice y229.a y229.len y229.cap, .slice y230.a y230.len y230.cap, .int .i64 y231]) w227) KP))) (fun ch232 w233 => xleave Try.prog [markD D144] (.panicking ch232) w233 (xendF (fun w234 => ∃ y235 : (Option Addr), (okVal false 1 (.pointer y235) = true ∧ w234.cell? ⟨b1, 0, none⟩ = some (.pointer y235)) ∧ ∃ y236 : Sl, (okVal false 1 (.slice y236.a y236.len y236.cap) = true ∧ w234.cell? ⟨b3, 0, none⟩ = some (.slice y236.a y236.len y236.cap)) ∧ ∃ y237 : Sl, (okVal false 1 (.slice y237.a y237.len y237.cap) = true ∧ w234.cell? ⟨b5, 0, none⟩ = some (.slice y237.a y237.len y237.cap)) ∧ ∃ y238 : Int, (okVal false 1 (.int .i64 y238) = true ∧ w234.cell? ⟨b7, 0, none⟩ = some (.int .i64 y238)) ∧ K (.tuple #[.pointer y235, .slice y236.a y236.len y236.cap, .slice y237.a y237.len y237.cap, .int .i64 y238]) w234) KP)))
    (∀ w239, Drew w197 w239 →
    ∃ y240 : (Option Addr), (okVal false 1 (.pointer y240) = true ∧ w239.cell? ⟨b19, 0, none⟩ = some (.pointer y240)) ∧
    ∃ y241 : Sl, (okVal false 1 (.slice y241.a y241.len y241.cap) = true ∧ w239.cell? ⟨b119, 2, none⟩ = some (.slice y241.a y241.len y241.cap)) ∧
    ∃ y242 : Sl, (okVal false 1 (.slice y242.a y242.len y242.cap) = true ∧ w239.cell? ⟨b135, 0, none⟩ = some (.slice y242.a y242.len y242.cap)) ∧
    ∀ (b243 : Nat) (w244 : World), Alloc w239 b243 5 [] w244 →
    (w244.cell? ⟨b135, 0, none⟩ = some (.slice y242.a y242.len y242.cap)) ∧ (w244.cell? ⟨b119, 2, none⟩ = some (.slice y241.a y241.len y241.cap)) ∧ (w244.cell? ⟨b19, 0, none⟩ = some (.pointer y240)) ∧ ∃ (q245 : Option Addr) (n246 c247 : Nat) (w248 : World), (Builtin.append_ #[27, 27] 27 #[.slice (some ⟨b243, 0, none⟩) 0 0, .slice y241.a y241.len y241.cap]).run Try.prog w244 = .ok (.slice q245 n246 c247) w248 ∧
    (w248.cell? ⟨b135, 0, none⟩ = some (.slice y242.a y242.len y242.cap)) ∧ (w248.cell? ⟨b19, 0, none⟩ = some (.pointer y240)) ∧ (okVal false 1 (.pointer y240) = true ∧ canPut w248 ⟨b1, 0, none⟩ (.pointer y240)) ∧ ∀ w249 : World, w249 = putAt w248 ⟨b1, 0, none⟩ (.pointer y240) →
    (w249.cell? ⟨b135, 0, none⟩ = some (.slice y242.a y242.len y242.cap)) ∧ (okVal false 1 (.slice q245 n246 c247) = true ∧ canPut w249 ⟨b3, 0, none⟩ (.slice q245 n246 c247)) ∧ ∀ w250 : World, w250 = putAt w249 ⟨b3, 0, none⟩ (.slice q245 n246 c247) →
    (w250.cell? ⟨b135, 0, none⟩ = some (.slice y242.a y242.len y242.cap)) ∧ (okVal false 1 (.slice y242.a y242.len y242.cap) = true ∧ canPut w250 ⟨b5, 0, none⟩ (.slice y242.a y242.len y242.cap)) ∧ ∀ w251 : World, w251 = putAt w250 ⟨b5, 0, none⟩ (.slice y242.a y242.len y242.cap) →
    (okVal false 1 (.int .i64 0) = true ∧ canPut w251 ⟨b7, 0, none⟩ (.int .i64 0)) ∧ ∀ w252 : World, w252 = putAt w251 ⟨b7, 0, none⟩ (.int .i64 0) →
    xleave Try.prog [markD D144] .returning w252 (xendF (fun w253 => ∃ y254 : (Option Addr), (okVal false 1 (.pointer y254) = true ∧ w253.cell? ⟨b1, 0, none⟩ = some (.pointer y254)) ∧ ∃ y255 : Sl, (okVal false 1 (.slice y255.a y255.len y255.cap) = true ∧ w253.cell? ⟨b3, 0, none⟩ = some (.slice y255.a y255.len y255.cap)) ∧ ∃ y256 : Sl, (okVal false 1 (.slice y256.a y256.len y256.cap) = true ∧ w253.cell? ⟨b5, 0, none⟩ = some (.slice y256.a y256.len y256.cap)) ∧ ∃ y257 : Int, (okVal false 1 (.int .i64 y257) = true ∧ w253.cell? ⟨b7, 0, none⟩ = some (.int .i64 y257)) ∧ K (.tuple #[.pointer y254, .slice y255.a y255.len y255.cap, .slice y256.a y256.len y256.cap, .int .i64 y257]) w253) KP)))) (fun ch258 w259 => xleave Try.prog [markD D144] (.panicking ch258) w259 (xendF (fun w260 => ∃ y261 : (Option Addr), (okVal false 1 (.pointer y261) = true ∧ w260.cell? ⟨b1, 0, none⟩ = some (.pointer y261)) ∧ ∃ y262 : Sl, (okVal false 1 (.slice y262.a y262.len y262.cap) = true ∧ w260.cell? ⟨b3, 0, none⟩ = some (.slice y262.a y262.len y262.cap)) ∧ ∃ y263 : Sl, (okVal false 1 (.slice y263.a y263.len y263.cap) = true ∧ w260.cell? ⟨b5, 0, none⟩ = some (.slice y263.a y263.len y263.cap)) ∧ ∃ y264 : Int, (okVal false 1 (.int .i64 y264) = true ∧ w260.cell? ⟨b7, 0, none⟩ = some (.int .i64 y264)) ∧ K (.tuple #[.pointer y261, .slice y262.a y262.len y262.cap, .slice y263.a y263.len y263.cap, .int .i64 y264]) w260) KP))
    | some (.exit i265) => (cond (Nat.beq i265 4)
    (∀ w266, Drew w187 w266 →
    ∃ y267 : (Option Addr), (okVal false 1 (.pointer y267) = true ∧ w266.cell? ⟨b19, 0, none⟩ = some (.pointer y267)) ∧
    ∃ y268 : (Option Addr), (okVal false 1 (.pointer y268) = true ∧ w266.cell? ⟨b19, 0, none⟩ = some (.pointer y268)) ∧
    withSome y268 fun a269 =>
    ∃ y270 : Int, (okVal false 1 (.int .i64 y270) = true ∧ w266.cell? (Addr.add a269 2) = some (.int .i64 y270)) ∧
    withSome y267 fun a271 =>
    ((0 : Int) ≤ (IntKind.i64.wrap (1 - y270)) ∧ ((IntKind.i64.wrap (1 - y270)) : Int) < (2 : Int)) ∧ ∃ y272 : (Option Addr), (okVal false 1 (.pointer y272) = true ∧ w266.cell? (Addr.add a271 ((IntKind.i64.wrap (1 - y270)).toNat * 1)) = some (.pointer y272)) ∧
    C.wal_Log_Size y272 w266 (fun r275 w273 => ∃ p274 : Int, r275 = .int .i64 p274 ∧
    (cond (decide ((p274 : Int) > 0))
    (C.wal_Log_Erase y272 w273 (fun r278 w276 => ∃ p277 : Int, r278 = .int .i64 p277 ∧
    C.wal_Log_Sync y272 w276 (fun r281 w279 => ∃ p280 : Int, r281 = .int .i64 p280 ∧
    ∀ w282, Drew w279 w282 →
    ∃ y283 : (Option Addr), (okVal false 1 (.pointer y283) = true ∧ w282.cell? ⟨b19, 0, none⟩ = some (.pointer y283)) ∧
    ∃ y284 : Sl, (okVal false 1 (.slice y284.a y284.len y284.cap) = true ∧ w282.cell? ⟨b119, 2, none⟩ = some (.slice y284.a y284.len y284.cap)) ∧
    ∃ y285 : Sl, (okVal false 1 (.slice y285.a y285.len y285.cap) = true ∧ w282.cell? ⟨b135, 0, none⟩ = some (.slice y285.a y285.len y285.cap)) ∧
    ∀ (b286 : Nat) (w287 : World), Alloc w282 b286 5 [] w287 →
    (w287.cell? ⟨b135, 0, none⟩ = some (.slice y285.a y285.len y285.cap)) ∧ (w287.cell? ⟨b119, 2, none⟩ = some (.slice y284.a y284.len y284.cap)) ∧ (w287.cell? ⟨b19, 0, none⟩ = some (.pointer y283)) ∧ ∃ (q288 : Option Addr) (n289 c290 : Nat) (w291 : World), (Builtin.append_ #[27, 27] 27 #[.slice (some ⟨b286, 0, none⟩) 0 0, .slice y284.a y284.len y284.cap]).run Try.prog w287 = .ok (.slice q288 n289 c290) w291 ∧
    (w291.cell? ⟨b135, 0, none⟩ = some (.slice y285.a y285.len y285.cap)) ∧ (w291.cell? ⟨b19, 0, none⟩ = some (.pointer y283)) ∧ (okVal false 1 (.pointer y283) = true ∧ canPut w291 ⟨b1, 0, none⟩ (.pointer y283)) ∧ ∀ w292 : World, w292 = putAt w291 ⟨b1, 0, none⟩ (.pointer y283) →
    (w292.cell? ⟨b135, 0, none⟩ = some (.slice y285.a y285.len y285.cap)) ∧ (okVal false 1 (.slice q288 n289 c290) = true ∧ canPut w292 ⟨b3, 0, none⟩ (.slice q288 n289 c290)) ∧ ∀ w293 : World, w293 = putAt w292 ⟨b3, 0, none⟩ (.slice q288 n289 c290) →
    (w293.cell? ⟨b135, 0, none⟩ = some (.slice y285.a y285.len y285.cap)) ∧ (okVal false 1 (.slice y285.a y285.len y285.cap) = true ∧ canPut w293 ⟨b5, 0, none⟩ (.slice y285.a y285.len y285.cap)) ∧ ∀ w294 : World, w294 = putAt w293 ⟨b5, 0, none⟩ (.slice y285.a y285.len y285.cap) →
    (okVal false 1 (.int .i64 0) = true ∧ canPut w294 ⟨b7, 0, none⟩ (.int .i64 0)) ∧ ∀ w295 : World, w295 = putAt w294 ⟨b7, 0, none⟩ (.int .i64 0) →
    xleave Try.prog [markD D144] .returning w295 (xendF (fun w296 => ∃ y297 : (Option Addr), (okVal false 1 (.pointer y297) = true ∧ w296.cell? ⟨b1, 0, none⟩ = some (.pointer y297)) ∧ ∃ y298 : Sl, (okVal false 1 (.slice y298.a y298.len y298.cap) = true ∧ w296.cell? ⟨b3, 0, none⟩ = some (.slice y298.a y298.len y298.cap)) ∧ ∃ y299 : Sl, (okVal false 1 (.slice y299.a y299.len y299.cap) = true ∧ w296.cell? ⟨b5, 0, none⟩ = some (.slice y299.a y299.len y299.cap)) ∧ ∃ y300 : Int, (okVal false 1 (.int .i64 y300) = true ∧ w296.cell? ⟨b7, 0, none⟩ = some (.int .i64 y300)) ∧ K (.tuple #[.pointer y297, .slice y298.a y298.len y298.cap, .slice y299.a y299.len y299.cap, .int .i64 y300]) w296) KP)) (fun ch301 w302 => xleave Try.prog [markD D144] (.panicking ch301) w302 (xendF (fun w303 => ∃ y304 : (Option Addr), (okVal false 1 (.pointer y304) = true ∧ w303.cell? ⟨b1, 0, none⟩ = some (.pointer y304)) ∧ ∃ y305 : Sl, (okVal false 1 (.slice y305.a y305.len y305.cap) = true ∧ w303.cell? ⟨b3, 0, none⟩ = some (.slice y305.a y305.len y305.cap)) ∧ ∃ y306 : Sl, (okVal false 1 (.slice y306.a y306.len y306.cap) = true ∧ w303.cell? ⟨b5, 0, none⟩ = some (.slice y306.a y306.len y306.cap)) ∧ ∃ y307 : Int, (okVal false 1 (.int .i64 y307) = true ∧ w303.cell? ⟨b7, 0, none⟩ = some (.int .i64 y307)) ∧ K (.tuple #[.pointer y304, .slice y305.a y305.len y305.cap, .slice y306.a y306.len y306.cap, .int .i64 y307]) w303) KP))) (fun ch308 w309 => xleave Try.prog [markD D144] (.panicking ch308) w309 (xendF (fun w310 => ∃ y311 : (Option Addr), (okVal false 1 (.pointer y311) = true ∧ w310.cell? ⟨b1, 0, none⟩ = some (.pointer y311)) ∧ ∃ y312 : Sl, (okVal false 1 (.slice y312.a y312.len y312.cap) = true ∧ w310.cell? ⟨b3, 0, none⟩ = some (.slice y312.a y312.len y312.cap)) ∧ ∃ y313 : Sl, (okVal false 1 (.slice y313.a y313.len y313.cap) = true ∧ w310.cell? ⟨b5, 0, none⟩ = some (.slice y313.a y313.len y313.cap)) ∧ ∃ y314 : Int, (okVal false 1 (.int .i64 y314) = true ∧ w310.cell? ⟨b7, 0, none⟩ = some (.int .i64 y314)) ∧ K (.tuple #[.pointer y311, .slice y312.a y312.len y312.cap, .slice y313.a y313.len y313.cap, .int .i64 y314]) w310) KP)))
    (∀ w315, Drew w273 w315 →
    ∃ y316 : (Option Addr), (okVal false 1 (.pointer y316) = true ∧ w315.cell? ⟨b19, 0, none⟩ = some (.pointer y316)) ∧
    ∃ y317 : Sl, (okVal false 1 (.slice y317.a y317.len y317.cap) = true ∧ w315.cell? ⟨b119, 2, none⟩ = some (.slice y317.a y317.len y317.cap)) ∧
    ∃ y318 : Sl, (okVal false 1 (.slice y318.a y318.len y318.cap) = true ∧ w315.cell? ⟨b135, 0, none⟩ = some (.slice y318.a y318.len y318.cap)) ∧
    ∀ (b319 : Nat) (w320 : World), Alloc w315 b319 5 [] w320 →
    (w320.cell? ⟨b135, 0, none⟩ = some (.slice y318.a y318.len y318.cap)) ∧ (w320.cell? ⟨b119, 2, none⟩ = some (.slice y317.a y317.len y317.cap)) ∧ (w320.cell? ⟨b19, 0, none⟩ = some (.pointer y316)) ∧ ∃ (q321 : Option Addr) (n322 c323 : Nat) (w324 : World), (Builtin.append_ #[27, 27] 27 #[.slice (some ⟨b319, 0, none⟩) 0 0, .slice y317.a y317.len y317.cap]).run Try.prog w320 = .ok (.slice q321 n322 c323) w324 ∧
    (w324.cell? ⟨b135, 0, none⟩ = some (.slice y318.a y318.len y318.cap)) ∧ (w324.cell? ⟨b19, 0, none⟩ = some (.pointer y316)) ∧ (okVal false 1 (.pointer y316) = true ∧ canPut w324 ⟨b1, 0, none⟩ (.pointer y316)) ∧ ∀ w325 : World, w325 = putAt w324 ⟨b1, 0, none⟩ (.pointer y316) →
    (w325.cell? ⟨b135, 0, none⟩ = some (.slice y318.a y318.len y318.cap)) ∧ (okVal false 1 (.slice q321 n322 c323) = true ∧ canPut w325 ⟨b3, 0, none⟩ (.slice q321 n322 c323)) ∧ ∀ w326 : World, w326 = putAt w325 ⟨b3, 0, none⟩ (.slice q321 n322 c323) →
    (w326.cell? ⟨b135, 0, none⟩ = some (.slice y318.a y318.len y318.cap)) ∧ (okVal false 1 (.slice y318.a y318.len y318.cap) = true ∧ canPut w326 ⟨b5, 0, none⟩ (.slice y318.a y318.len y318.cap)) ∧ ∀ w327 : World, w327 = putAt w326 ⟨b5, 0, none⟩ (.slice y318.a y318.len y318.cap) →
    (okVal false 1 (.int .i64 0) = true ∧ canPut w327 ⟨b7, 0, none⟩ (.int .i64 0)) ∧ ∀ w328 : World, w328 = putAt w327 ⟨b7, 0, none⟩ (.int .i64 0) →
    xleave Try.prog [markD D144] .returning w328 (xendF (fun w329 => ∃ y330 : (Option Addr), (okVal false 1 (.pointer y330) = true ∧ w329.cell? ⟨b1, 0, none⟩ = some (.pointer y330)) ∧ ∃ y331 : Sl, (okVal false 1 (.slice y331.a y331.len y331.cap) = true ∧ w329.cell? ⟨b3, 0, none⟩ = some (.slice y331.a y331.len y331.cap)) ∧ ∃ y332 : Sl, (okVal false 1 (.slice y332.a y332.len y332.cap) = true ∧ w329.cell? ⟨b5, 0, none⟩ = some (.slice y332.a y332.len y332.cap)) ∧ ∃ y333 : Int, (okVal false 1 (.int .i64 y333) = true ∧ w329.cell? ⟨b7, 0, none⟩ = some (.int .i64 y333)) ∧ K (.tuple #[.pointer y330, .slice y331.a y331.len y331.cap, .slice y332.a y332.len y332.cap, .int .i64 y333]) w329) KP)))) (fun ch334 w335 => xleave Try.prog [markD D144] (.panicking ch334) w335 (xendF (fun w336 => ∃ y337 : (Option Addr), (okVal false 1 (.pointer y337) = true ∧ w336.cell? ⟨b1, 0, none⟩ = some (.pointer y337)) ∧ ∃ y338 : Sl, (okVal false 1 (.slice y338.a y338.len y338.cap) = true ∧ w336.cell? ⟨b3, 0, none⟩ = some (.slice y338.a y338.len y338.cap)) ∧ ∃ y339 : Sl, (okVal false 1 (.slice y339.a y339.len y339.cap) = true ∧ w336.cell? ⟨b5, 0, none⟩ = some (.slice y339.a y339.len y339.cap)) ∧ ∃ y340 : Int, (okVal false 1 (.int .i64 y340) = true ∧ w336.cell? ⟨b7, 0, none⟩ = some (.int .i64 y340)) ∧ K (.tuple #[.pointer y337, .slice y338.a y338.len y338.cap, .slice y339.a y339.len y339.cap, .int .i64 y340]) w336) KP)))
    (False))
    | some .ret => xleave Try.prog [markD D144] .returning w187 (xendF (fun w341 => ∃ y342 : (Option Addr), (okVal false 1 (.pointer y342) = true ∧ w341.cell? ⟨b1, 0, none⟩ = some (.pointer y342)) ∧ ∃ y343 : Sl, (okVal false 1 (.slice y343.a y343.len y343.cap) = true ∧ w341.cell? ⟨b3, 0, none⟩ = some (.slice y343.a y343.len y343.cap)) ∧ ∃ y344 : Sl, (okVal false 1 (.slice y344.a y344.len y344.cap) = true ∧ w341.cell? ⟨b5, 0, none⟩ = some (.slice y344.a y344.len y344.cap)) ∧ ∃ y345 : Int, (okVal false 1 (.int .i64 y345) = true ∧ w341.cell? ⟨b7, 0, none⟩ = some (.int .i64 y345)) ∧ K (.tuple #[.pointer y342, .slice y343.a y343.len y343.cap, .slice y344.a y344.len y344.cap, .int .i64 y345]) w341) KP)
    | _ => False)) (fun ch346 w347 => xleave Try.prog [markD D144] (.panicking ch346) w347 (xendF (fun w348 => ∃ y349 : (Option Addr), (okVal false 1 (.pointer y349) = true ∧ w348.cell? ⟨b1, 0, none⟩ = some (.pointer y349)) ∧ ∃ y350 : Sl, (okVal false 1 (.slice y350.a y350.len y350.cap) = true ∧ w348.cell? ⟨b3, 0, none⟩ = some (.slice y350.a y350.len y350.cap)) ∧ ∃ y351 : Sl, (okVal false 1 (.slice y351.a y351.len y351.cap) = true ∧ w348.cell? ⟨b5, 0, none⟩ = some (.slice y351.a y351.len y351.cap)) ∧ ∃ y352 : Int, (okVal false 1 (.int .i64 y352) = true ∧ w348.cell? ⟨b7, 0, none⟩ = some (.int .i64 y352)) ∧ K (.tuple #[.pointer y349, .slice y350.a y350.len y350.cap, .slice y351.a y351.len y351.cap, .int .i64 y352]) w348) KP)))) KP))))
theorem store_Open_of {d : (Option Addr)} {w : World} {K : Value → World → Prop} {KP : List PanicEntry → World → Prop} (h : W.store_Open d w K KP) : C.store_Open d w K KP :=
  xcall (E := E) (T := mkTab [(7, [(25, 3)]), (16, [(66, 3)]), (1000033, [(143, 3), (144, 27)])] [(7, [9, 10, 11, 12, 25, 26, 27, 28, 29, 30, 31, 32, 33, 34, 35, 36, 37, 38, 39, 40, 41, 42, 43, 44, 45, 46, 47, 48, 49, 50, 51]), (16, [14, 66, 67, 68, 69, 70, 71, 72, 73]), (1000033, [])] [(27, []), (25, [])] [(27, [93, 94, 95, 96, 97, 98, 99, 100, 101, 102, 103, 104, 105, 106, 107, 108, 109, 110, 111, 112, 113]), (25, [14, 15, 52, 53, 54, 55, 56, 57, 58, 59, 60, 61, 62, 63, 64, 65, 66, 67, 68, 69, 70, 71, 72, 73, 74, 75, 76, 77, 78, 79, 80, 81, 82, 83, 84, 85, 86, 87, 88, 89, 90, 91, 92])] [(12, [0, 1, 2, 3, 4, 5, 6, 8, 9, 7, 10, 11, 12, 13, 14, 15]), (22, [0, 1, 2, 3, 4, 5, 6, 7, 8]), (28, [0, 1, 2, 3, 4, 5, 6, 7, 8, 9, 10, 11, 12, 13, 14, 15, 16, 17]), (37, [0, 2, 1, 3, 4, 5, 6]), (38, [0, 1, 2, 3, 4, 5, 6, 7, 8, 9, 10]), (42, [0, 2, 3, 5, 1, 4, 6, 7, 8, 9])] [(12, [0, 0, 0, 0, 0, 0, 0, 64, 1, 257, 979, 2003, 4087, 8183, 16383, 32767]), (22, [0, 1, 3, 7, 15, 0, 32, 127, 255]), (28, [0, 0, 0, 0, 8, 0, 32, 0, 128, 25, 537, 1561, 3707, 7803, 15995, 32767, 65535, 131071]), (37, [0, 0, 0, 6, 14, 31, 63]), (38, [0, 0, 2, 6, 14, 30, 1, 65, 255, 511, 1023]), (42, [0, 0, 0, 4, 14, 0, 31, 95, 255, 511])] [] []) (c := Try.f10.body.getD .skip) (rs := [.cell 2 26, .cell 3 27, .cell 4 22, .cell 5 28]) ⟨⟩ mixed Try.func10 (by kernel_rfl) (by kernel_rfl) [.pointer d] (by kernel_rfl) (by kernel_rfl) (.inr (by kernel_rfl)) (Eq.mp (by kernel_rfl) h)

def W.skeplaw06_awake (w : World) (K : Value → World → Prop) (KP : List PanicEntry → World → Prop) : Prop :=
   C.disk_New  w (fun r3 w1 => ∃ p2 : (Option Addr), r3 = .pointer p2 ∧
    C.store_Open p2 w1 (fun r6 w4 => ∃ p5 : ((Option Addr) × Sl × Sl × Int), r6 = .tuple #[.pointer p5.1, .slice p5.2.1.a p5.2.1.len p5.2.1.cap, .slice p5.2.2.1.a p5.2.2.1.len p5.2.2.1.cap, .int .i64 p5.2.2.2] ∧
    (cond ((p5.2.2.2 : Int) != 0)
    (K (.bool false) w4)
    ((cond p5.1.isNone
    (K (.bool false) w4)
    ((cond (decide (((IntKind.i64.wrap ((p5.2.1.len : Int) + (p5.2.2.1.len : Int))) : Int) > 0))
    (K (.bool false) w4)
    (∀ (b7 : Nat) (w8 : World), Alloc w4 b7 5 [.int .u8 97] w8 →
    ∀ w9 : World, Marked w8 ⟨b7, 0, none⟩ w9 →
    C.store_Store_Append p5.1 1 (⟨(some ⟨b7, 0, none⟩), 1, 1⟩) w9 (fun r12 w10 => ∃ p11 : Int, r12 = .int .i64 p11 ∧
    (cond ((p11 : Int) != 0)
    (K (.bool false) w10)
    (∀ (b13 : Nat) (w14 : World), Alloc w10 b13 5 [.int .u8 98] w14 →
    ∀ w15 : World, Marked w14 ⟨b13, 0, none⟩ w15 →
    C.store_Store_Append p5.1 1 (⟨(some ⟨b13, 0, none⟩), 1, 1⟩) w15 (fun r18 w16 => ∃ p17 : Int, r18 = .int .i64 p17 ∧
    (cond ((p17 : Int) != 0)
    (K (.bool false) w16)
    (C.store_Store_Append p5.1 3 (⟨none, 0, 0⟩) w16 (fun r21 w19 => ∃ p20 : Int, r21 = .int .i64 p20 ∧
    (cond ((p20 : Int) != 8)
    (K (.bool false) w19)
    (C.store_Store_Last p5.1 w19 (fun r24 w22 => ∃ p23 : Int, r24 = .int .i64 p23 ∧
    (cond ((p23 : Int) == 1)
    (C.store_Store_From p5.1 w22 (fun r27 w25 => ∃ p26 : Int, r27 = .int .i64 p26 ∧
    (cond ((p26 : Int) == 0)
    (C.disk_Disk_Size p2 0 w25 (fun r30 w28 => ∃ p29 : Int, r30 = .int .i64 p29 ∧
    (cond ((p29 : Int) == 20)
    (C.store_Store_Size p5.1 w28 (fun r33 w31 => ∃ p32 : Int, r33 = .int .i64 p32 ∧
    K (.bool ((p32 : Int) == 20)) w31) KP)
    (K (.bool false) w28))) KP)
    (K (.bool false) w25))) KP)
    (K (.bool false) w22))) KP))) KP))) KP))) KP))))))) KP) KP
theorem skeplaw06_awake_of {w : World} {K : Value → World → Prop} {KP : List PanicEntry → World → Prop} (h : W.skeplaw06_awake  w K KP) : C.skeplaw06_awake  w K KP :=
  xcall (E := E) (T := mkTab [] [] [] [] [] [] [] []) (c := Try.f11.body.getD .skip) (rs := [.tmp 0]) ⟨⟩ mixed Try.func11 (by kernel_rfl) (by kernel_rfl) [] (by kernel_rfl) (by kernel_rfl) (.inr (by kernel_rfl)) (Eq.mp (by kernel_rfl) h)

def W.store_Store_Append (s : (Option Addr)) (n : Int) (p2_ : Sl) (w : World) (K : Value → World → Prop) (KP : List PanicEntry → World → Prop) : Prop :=
   (cond s.isNone
    (K (.int .i64 1) w)
    (withSome s fun a1 =>
    ((0 : Int) ≤ 0 ∧ (0 : Int) < (2 : Int)) ∧ ∃ y2 : (Option Addr), (okVal false 1 (.pointer y2) = true ∧ w.cell? a1 = some (.pointer y2)) ∧
    (cond y2.isNone
    (K (.int .i64 1) w)
    ((cond (decide ((n : Int) < 1))
    (K (.int .i64 8) w)
    (withSome s fun a3 =>
    ∃ y4 : Int, (okVal false 1 (.int .i64 y4) = true ∧ w.cell? (Addr.add a3 5) = some (.int .i64 y4)) ∧
    (cond (decide (((IntKind.i64.wrap (n - 1)) : Int) > y4))
    (K (.int .i64 8) w)
    (withSome s fun a5 =>
    ∃ y6 : Int, (okVal false 1 (.int .i64 y6) = true ∧ w.cell? (Addr.add a5 5) = some (.int .i64 y6)) ∧
    (cond (decide ((n : Int) ≤ y6))
    (K (.int .i64 0) w)
    (∀ w7, Drew w w7 →
    withSome s fun a8 =>
    ∃ y9 : Int, (okVal false 1 (.int .i64 y9) = true ∧ w7.cell? (Addr.add a8 2) = some (.int .i64 y9)) ∧
    withSome s fun a10 =>
    ((0 : Int) ≤ y9 ∧ (y9 : Int) < (2 : Int)) ∧ ∃ y11 : (Option Addr), (okVal false 1 (.pointer y11) = true ∧ w7.cell? (Addr.add a10 (y9.toNat * 1)) = some (.pointer y11)) ∧
    C.codec_PutNumber (⟨none, 0, 0⟩) n w7 (fun r14 w12 => ∃ p13 : Sl, r14 = .slice p13.a p13.len p13.cap ∧
    (w12.cell? (Addr.add a10 (y9.toNat * 1)) = some (.pointer y11)) ∧ (w12.cell? (Addr.add a8 2) = some (.int .i64 y9)) ∧ ∃ (q15 : Option Addr) (n16 c17 : Nat) (w18 : World), (Builtin.append_ #[27, 27] 27 #[.slice p13.a p13.len p13.cap, .slice p2_.a p2_.len p2_.cap]).run Try.prog w12 = .ok (.slice q15 n16 c17) w18 ∧
    (w18.cell? (Addr.add a10 (y9.toNat * 1)) = some (.pointer y11)) ∧ (w18.cell? (Addr.add a8 2) = some (.int .i64 y9)) ∧ C.wal_Log_Append y11 (⟨q15, n16, c17⟩) w18 (fun r21 w19 => ∃ p20 : Int, r21 = .int .i64 p20 ∧
    (cond ((p20 : Int) == 0)
    (withSome s fun a22 =>
    (okVal false 1 (.int .i64 n) = true ∧ canPut w19 (Addr.add a22 5) (.int .i64 n)) ∧ ∀ w23 : World, w23 = putAt w19 (Addr.add a22 5) (.int .i64 n) →
    K (.int .i64 p20) w23)
    (K (.int .i64 p20) w19))) KP) KP))))))))))
theorem store_Store_Append_of {s : (Option Addr)} {n : Int} {p2_ : Sl} {w : World} {K : Value → World → Prop} {KP : List PanicEntry → World → Prop} (h : W.store_Store_Append s n p2_ w K KP) : C.store_Store_Append s n p2_ w K KP :=
  xcall (E := E) (T := mkTab [] [] [] [] [(7, [0, 1, 2, 3, 4, 5, 6, 7, 8, 9, 11, 10, 12, 13, 14])] [(7, [0, 0, 2, 6, 14, 1, 33, 127, 255, 0, 512, 0, 3584, 8191, 16383])] [] []) (c := Try.f12.body.getD .skip) (rs := [.tmp 6]) ⟨⟩ mixed Try.func12 (by kernel_rfl) (by kernel_rfl) [.pointer s, .int .i64 n, .slice p2_.a p2_.len p2_.cap] (by kernel_rfl) (by kernel_rfl) (.inr (by kernel_rfl)) (Eq.mp (by kernel_rfl) h)

def W.skeplaw00_CopyBytes (p0_ : Sl) (w : World) (K : Value → World → Prop) (KP : List PanicEntry → World → Prop) : Prop :=
   ∃ (q1 : Option Addr) (n2 c3 : Nat) (w4 : World), (Builtin.append_ #[27, 27] 27 #[.slice none 0 0, .slice p0_.a p0_.len p0_.cap]).run Try.prog w = .ok (.slice q1 n2 c3) w4 ∧
    K (.slice q1 n2 c3) w4
theorem skeplaw00_CopyBytes_of {p0_ : Sl} {w : World} {K : Value → World → Prop} {KP : List PanicEntry → World → Prop} (h : W.skeplaw00_CopyBytes p0_ w K KP) : C.skeplaw00_CopyBytes p0_ w K KP :=
  xcall (E := E) (T := mkTab [] [] [] [] [] [] [] []) (c := Try.f13.body.getD .skip) (rs := [.tmp 2]) ⟨⟩ mixed Try.func13 (by kernel_rfl) (by kernel_rfl) [.slice p0_.a p0_.len p0_.cap] (by kernel_rfl) (by kernel_rfl) (.inr (by kernel_rfl)) (Eq.mp (by kernel_rfl) h)

def W.disk_Disk_Read (d : (Option Addr)) (file : Int) (w : World) (K : Value → World → Prop) (KP : List PanicEntry → World → Prop) : Prop :=
   C.disk_Disk_file d file w (fun r3 w1 => ∃ p2 : (Option Addr), r3 = .pointer p2 ∧
    (cond p2.isNone
    (K (.slice none 0 0) w1)
    (∀ (b4 : Nat) (w5 : World), Alloc w1 b4 5 [] w5 →
    withSome p2 fun a6 =>
    ∃ y7 : Sl, (okVal false 1 (.slice y7.a y7.len y7.cap) = true ∧ w5.cell? (Addr.add a6 1) = some (.slice y7.a y7.len y7.cap)) ∧
    ∃ (q8 : Option Addr) (n9 c10 : Nat) (w11 : World), (Builtin.append_ #[27, 27] 27 #[.slice (some ⟨b4, 0, none⟩) 0 0, .slice y7.a y7.len y7.cap]).run Try.prog w5 = .ok (.slice q8 n9 c10) w11 ∧
    K (.slice q8 n9 c10) w11))) KP
theorem disk_Disk_Read_of {d : (Option Addr)} {file : Int} {w : World} {K : Value → World → Prop} {KP : List PanicEntry → World → Prop} (h : W.disk_Disk_Read d file w K KP) : C.disk_Disk_Read d file w K KP :=
  xcall (E := E) (T := mkTab [] [] [] [] [] [] [] []) (c := Try.f14.body.getD .skip) (rs := [.tmp 4]) ⟨⟩ mixed Try.func14 (by kernel_rfl) (by kernel_rfl) [.pointer d, .int .i64 file] (by kernel_rfl) (by kernel_rfl) (.inr (by kernel_rfl)) (Eq.mp (by kernel_rfl) h)

def W.store_Store_Last (s : (Option Addr)) (w : World) (K : Value → World → Prop) (KP : List PanicEntry → World → Prop) : Prop :=
   (cond s.isNone
    (K (.int .i64 0) w)
    (withSome s fun a1 =>
    ∃ y2 : Int, (okVal false 1 (.int .i64 y2) = true ∧ w.cell? (Addr.add a1 5) = some (.int .i64 y2)) ∧
    K (.int .i64 y2) w))
theorem store_Store_Last_of {s : (Option Addr)} {w : World} {K : Value → World → Prop} {KP : List PanicEntry → World → Prop} (h : W.store_Store_Last s w K KP) : C.store_Store_Last s w K KP :=
  xcall (E := E) (T := mkTab [] [] [] [] [] [] [] []) (c := Try.f15.body.getD .skip) (rs := [.tmp 2]) ⟨⟩ mixed Try.func15 (by kernel_rfl) (by kernel_rfl) [.pointer s] (by kernel_rfl) (by kernel_rfl) (.inr (by kernel_rfl)) (Eq.mp (by kernel_rfl) h)

def W.skeplaw00_Place (v : Int) (n : Int) (w : World) (K : Value → World → Prop) (KP : List PanicEntry → World → Prop) : Prop :=
   (n : Int) ≠ 0 ∧ (cond (decide (((Int.tmod v n) : Int) < 0))
    (K (.int .i64 (IntKind.i64.wrap ((Int.tmod v n) + n))) w)
    (K (.int .i64 (Int.tmod v n)) w))
theorem skeplaw00_Place_of {v : Int} {n : Int} {w : World} {K : Value → World → Prop} {KP : List PanicEntry → World → Prop} (h : W.skeplaw00_Place v n w K KP) : C.skeplaw00_Place v n w K KP :=
  xcall (E := E) (T := mkTab [] [] [] [] [] [] [] []) (c := Try.f16.body.getD .skip) (rs := [.tmp 4]) ⟨⟩ mixed Try.func16 (by kernel_rfl) (by kernel_rfl) [.int .i64 v, .int .i64 n] (by kernel_rfl) (by kernel_rfl) (.inr (by kernel_rfl)) (Eq.mp (by kernel_rfl) h)

def W.store_Store_Size (s : (Option Addr)) (w : World) (K : Value → World → Prop) (KP : List PanicEntry → World → Prop) : Prop :=
   (cond s.isNone
    (K (.int .i64 0) w)
    (withSome s fun a1 =>
    ((0 : Int) ≤ 0 ∧ (0 : Int) < (2 : Int)) ∧ ∃ y2 : (Option Addr), (okVal false 1 (.pointer y2) = true ∧ w.cell? a1 = some (.pointer y2)) ∧
    (cond y2.isNone
    (K (.int .i64 0) w)
    (∀ w3, Drew w w3 →
    withSome s fun a4 =>
    ∃ y5 : Int, (okVal false 1 (.int .i64 y5) = true ∧ w3.cell? (Addr.add a4 2) = some (.int .i64 y5)) ∧
    withSome s fun a6 =>
    ((0 : Int) ≤ y5 ∧ (y5 : Int) < (2 : Int)) ∧ ∃ y7 : (Option Addr), (okVal false 1 (.pointer y7) = true ∧ w3.cell? (Addr.add a6 (y5.toNat * 1)) = some (.pointer y7)) ∧
    C.wal_Log_Size y7 w3 (fun r10 w8 => ∃ p9 : Int, r10 = .int .i64 p9 ∧
    K (.int .i64 p9) w8) KP))))
theorem store_Store_Size_of {s : (Option Addr)} {w : World} {K : Value → World → Prop} {KP : List PanicEntry → World → Prop} (h : W.store_Store_Size s w K KP) : C.store_Store_Size s w K KP :=
  xcall (E := E) (T := mkTab [] [] [] [] [(3, [0, 1, 2, 3, 4, 5, 6, 7, 8, 9, 10])] [(3, [0, 0, 2, 6, 14, 1, 33, 127, 255, 511, 1023])] [] []) (c := Try.f17.body.getD .skip) (rs := [.tmp 2]) ⟨⟩ mixed Try.func17 (by kernel_rfl) (by kernel_rfl) [.pointer s] (by kernel_rfl) (by kernel_rfl) (.inr (by kernel_rfl)) (Eq.mp (by kernel_rfl) h)

def W.store_Store_Check (s : (Option Addr)) (snap : Sl) (w : World) (K : Value → World → Prop) (KP : List PanicEntry → World → Prop) : Prop :=
   (cond s.isNone
    (K (.int .i64 1) w)
    (withSome s fun a1 =>
    ((0 : Int) ≤ 0 ∧ (0 : Int) < (2 : Int)) ∧ ∃ y2 : (Option Addr), (okVal false 1 (.pointer y2) = true ∧ w.cell? a1 = some (.pointer y2)) ∧
    (cond y2.isNone
    (K (.int .i64 1) w)
    (∀ w3, Drew w w3 →
    withSome s fun a4 =>
    ∃ y5 : Int, (okVal false 1 (.int .i64 y5) = true ∧ w3.cell? (Addr.add a4 3) = some (.int .i64 y5)) ∧
    withSome s fun a6 =>
    ∃ y7 : Int, (okVal false 1 (.int .i64 y7) = true ∧ w3.cell? (Addr.add a6 5) = some (.int .i64 y7)) ∧
    C.codec_PutNumber (⟨none, 0, 0⟩) (IntKind.i64.wrap (y5 + 1)) w3 (fun r10 w8 => ∃ p9 : Sl, r10 = .slice p9.a p9.len p9.cap ∧
    (w8.cell? (Addr.add a6 5) = some (.int .i64 y7)) ∧ C.codec_PutNumber p9 y7 w8 (fun r13 w11 => ∃ p12 : Sl, r13 = .slice p12.a p12.len p12.cap ∧
    ∃ (q14 : Option Addr) (n15 c16 : Nat) (w17 : World), (Builtin.append_ #[27, 27] 27 #[.slice p12.a p12.len p12.cap, .slice snap.a snap.len snap.cap]).run Try.prog w11 = .ok (.slice q14 n15 c16) w17 ∧
    (cond (decide (((n15 : Int) : Int) > 65536))
    (K (.int .i64 1) w17)
    (∀ w18, Drew w17 w18 →
    withSome s fun a19 =>
    ∃ y20 : Int, (okVal false 1 (.int .i64 y20) = true ∧ w18.cell? (Addr.add a19 2) = some (.int .i64 y20)) ∧
    withSome s fun a21 =>
    ((0 : Int) ≤ y20 ∧ (y20 : Int) < (2 : Int)) ∧ ∃ y22 : (Option Addr), (okVal false 1 (.pointer y22) = true ∧ w18.cell? (Addr.add a21 (y20.toNat * 1)) = some (.pointer y22)) ∧
    withSome s fun a23 =>
    ∃ y24 : Int, (okVal false 1 (.int .i64 y24) = true ∧ w18.cell? (Addr.add a23 2) = some (.int .i64 y24)) ∧
    withSome s fun a25 =>
    ((0 : Int) ≤ (IntKind.i64.wrap (1 - y24)) ∧ ((IntKind.i64.wrap (1 - y24)) : Int) < (2 : Int)) ∧ ∃ y26 : (Option Addr), (okVal false 1 (.pointer y26) = true ∧ w18.cell? (Addr.add a25 ((IntKind.i64.wrap (1 - y24)).toNat * 1)) = some (.pointer y26)) ∧
    C.wal_Log_Erase y26 w18 (fun r29 w27 => ∃ p28 : Int, r29 = .int .i64 p28 ∧
    C.wal_Log_Append y26 (⟨q14, n15, c16⟩) w27 (fun r32 w30 => ∃ p31 : Int, r32 = .int .i64 p31 ∧
    (cond ((p31 : Int) != 0)
    (K (.int .i64 p31) w30)
    (C.wal_Log_Sync y26 w30 (fun r35 w33 => ∃ p34 : Int, r35 = .int .i64 p34 ∧
    ∀ w36, Drew w33 w36 →
    withSome s fun a37 =>
    ∃ y38 : Int, (okVal false 1 (.int .i64 y38) = true ∧ w36.cell? (Addr.add a37 2) = some (.int .i64 y38)) ∧
    withSome s fun a39 =>
    ∃ y40 : Int, (okVal false 1 (.int .i64 y40) = true ∧ w36.cell? (Addr.add a39 3) = some (.int .i64 y40)) ∧
    withSome s fun a41 =>
    ∃ y42 : Int, (okVal false 1 (.int .i64 y42) = true ∧ w36.cell? (Addr.add a41 5) = some (.int .i64 y42)) ∧
    withSome s fun a43 =>
    (okVal false 1 (.int .i64 (IntKind.i64.wrap (1 - y38))) = true ∧ canPut w36 (Addr.add a43 2) (.int .i64 (IntKind.i64.wrap (1 - y38)))) ∧ ∀ w44 : World, w44 = putAt w36 (Addr.add a43 2) (.int .i64 (IntKind.i64.wrap (1 - y38))) →
    withSome s fun a45 =>
    (okVal false 1 (.int .i64 (IntKind.i64.wrap (y40 + 1))) = true ∧ canPut w44 (Addr.add a45 3) (.int .i64 (IntKind.i64.wrap (y40 + 1)))) ∧ ∀ w46 : World, w46 = putAt w44 (Addr.add a45 3) (.int .i64 (IntKind.i64.wrap (y40 + 1))) →
    withSome s fun a47 =>
    (okVal false 1 (.int .i64 y42) = true ∧ canPut w46 (Addr.add a47 4) (.int .i64 y42)) ∧ ∀ w48 : World, w48 = putAt w46 (Addr.add a47 4) (.int .i64 y42) →
    C.wal_Log_Erase y22 w48 (fun r51 w49 => ∃ p50 : Int, r51 = .int .i64 p50 ∧
    C.wal_Log_Sync y22 w49 (fun r54 w52 => ∃ p53 : Int, r54 = .int .i64 p53 ∧
    K (.int .i64 0) w52) KP) KP) KP))) KP) KP))) KP) KP))))
theorem store_Store_Check_of {s : (Option Addr)} {snap : Sl} {w : World} {K : Value → World → Prop} {KP : List PanicEntry → World → Prop} (h : W.store_Store_Check s snap w K KP) : C.store_Store_Check s snap w K KP :=
  xcall (E := E) (T := mkTab [] [] [] [] [(3, [0, 1, 2, 3, 4, 6, 7, 8, 9, 11, 5, 10, 12, 13]), (6, [0, 1, 2, 3, 4, 5, 6, 7, 8, 9, 10, 11, 12, 13, 14, 15, 16, 17, 18, 19, 20]), (12, [0, 1, 2, 3, 4, 5, 6, 7, 8, 9, 10, 11, 12, 13, 14, 15, 16, 17, 18, 19, 20, 21, 22, 23, 24, 25])] [(3, [0, 1, 3, 7, 15, 31, 0, 64, 192, 448, 1023, 0, 4095, 8191]), (6, [0, 0, 2, 6, 14, 1, 33, 127, 255, 0, 0, 1024, 3072, 7168, 15360, 512, 33280, 130560, 261632, 511, 1048575]), (12, [0, 0, 0, 0, 8, 24, 56, 120, 0, 256, 768, 1792, 3840, 0, 8192, 24576, 57344, 126969, 258041, 520185, 1048571, 2097147, 4194299, 8388607, 16777215, 33554431])] [] []) (c := Try.f18.body.getD .skip) (rs := [.tmp 4]) ⟨⟩ mixed Try.func18 (by kernel_rfl) (by kernel_rfl) [.pointer s, .slice snap.a snap.len snap.cap] (by kernel_rfl) (by kernel_rfl) (.inr (by kernel_rfl)) (Eq.mp (by kernel_rfl) h)

def W.skepref04_Record (p0_ : Sl) (w : World) (K : Value → World → Prop) (KP : List PanicEntry → World → Prop) : Prop :=
   C.skepref04_Four (IntKind.u32.wrap (p0_.len : Int)) w (fun r3 w1 => ∃ p2 : Sl, r3 = .slice p2.a p2.len p2.cap ∧
    ∃ (q4 : Option Addr) (n5 c6 : Nat) (w7 : World), (Builtin.append_ #[27, 27] 27 #[.slice none 0 0, .slice p2.a p2.len p2.cap]).run Try.prog w1 = .ok (.slice q4 n5 c6) w7 ∧
    ∃ (q8 : Option Addr) (n9 c10 : Nat) (w11 : World), (Builtin.append_ #[27, 27] 27 #[.slice q4 n5 c6, .slice p0_.a p0_.len p0_.cap]).run Try.prog w7 = .ok (.slice q8 n9 c10) w11 ∧
    C.skepref02_Of (⟨q8, n9, c10⟩) w11 (fun r14 w12 => ∃ p13 : Int, r14 = .int .u32 p13 ∧
    ∃ (q15 : Option Addr) (n16 c17 : Nat) (w18 : World), (Builtin.append_ #[27, 27] 27 #[.slice none 0 0, .slice p2.a p2.len p2.cap]).run Try.prog w12 = .ok (.slice q15 n16 c17) w18 ∧
    C.skepref04_Four p13 w18 (fun r21 w19 => ∃ p20 : Sl, r21 = .slice p20.a p20.len p20.cap ∧
    ∃ (q22 : Option Addr) (n23 c24 : Nat) (w25 : World), (Builtin.append_ #[27, 27] 27 #[.slice q15 n16 c17, .slice p20.a p20.len p20.cap]).run Try.prog w19 = .ok (.slice q22 n23 c24) w25 ∧
    ∃ (q26 : Option Addr) (n27 c28 : Nat) (w29 : World), (Builtin.append_ #[27, 27] 27 #[.slice q22 n23 c24, .slice p0_.a p0_.len p0_.cap]).run Try.prog w25 = .ok (.slice q26 n27 c28) w29 ∧
    K (.slice q26 n27 c28) w29) KP) KP) KP
theorem skepref04_Record_of {p0_ : Sl} {w : World} {K : Value → World → Prop} {KP : List PanicEntry → World → Prop} (h : W.skepref04_Record p0_ w K KP) : C.skepref04_Record p0_ w K KP :=
  xcall (E := E) (T := mkTab [] [] [] [] [] [] [] []) (c := Try.f19.body.getD .skip) (rs := [.tmp 2]) ⟨⟩ mixed Try.func19 (by kernel_rfl) (by kernel_rfl) [.slice p0_.a p0_.len p0_.cap] (by kernel_rfl) (by kernel_rfl) (.inr (by kernel_rfl)) (Eq.mp (by kernel_rfl) h)

def W.skepref06_Head (g : Int) (s : Int) (snap : Sl) (w : World) (K : Value → World → Prop) (KP : List PanicEntry → World → Prop) : Prop :=
   C.skepref05_Number g w (fun r3 w1 => ∃ p2 : Sl, r3 = .slice p2.a p2.len p2.cap ∧
    C.skepref05_Number s w1 (fun r6 w4 => ∃ p5 : Sl, r6 = .slice p5.a p5.len p5.cap ∧
    ∃ (q7 : Option Addr) (n8 c9 : Nat) (w10 : World), (Builtin.append_ #[27, 27] 27 #[.slice p2.a p2.len p2.cap, .slice p5.a p5.len p5.cap]).run Try.prog w4 = .ok (.slice q7 n8 c9) w10 ∧
    ∃ (q11 : Option Addr) (n12 c13 : Nat) (w14 : World), (Builtin.append_ #[27, 27] 27 #[.slice q7 n8 c9, .slice snap.a snap.len snap.cap]).run Try.prog w10 = .ok (.slice q11 n12 c13) w14 ∧
    K (.slice q11 n12 c13) w14) KP) KP
theorem skepref06_Head_of {g : Int} {s : Int} {snap : Sl} {w : World} {K : Value → World → Prop} {KP : List PanicEntry → World → Prop} (h : W.skepref06_Head g s snap w K KP) : C.skepref06_Head g s snap w K KP :=
  xcall (E := E) (T := mkTab [] [] [] [] [] [] [] []) (c := Try.f20.body.getD .skip) (rs := [.tmp 6]) ⟨⟩ mixed Try.func20 (by kernel_rfl) (by kernel_rfl) [.int .i64 g, .int .i64 s, .slice snap.a snap.len snap.cap] (by kernel_rfl) (by kernel_rfl) (.inr (by kernel_rfl)) (Eq.mp (by kernel_rfl) h)

def W.disk_Disk_Size (d : (Option Addr)) (file : Int) (w : World) (K : Value → World → Prop) (KP : List PanicEntry → World → Prop) : Prop :=
   C.disk_Disk_file d file w (fun r3 w1 => ∃ p2 : (Option Addr), r3 = .pointer p2 ∧
    (cond p2.isNone
    (K (.int .i64 0) w1)
    (withSome p2 fun a4 =>
    ∃ y5 : Sl, (okVal false 1 (.slice y5.a y5.len y5.cap) = true ∧ w1.cell? (Addr.add a4 1) = some (.slice y5.a y5.len y5.cap)) ∧
    K (.int .i64 (y5.len : Int)) w1))) KP
theorem disk_Disk_Size_of {d : (Option Addr)} {file : Int} {w : World} {K : Value → World → Prop} {KP : List PanicEntry → World → Prop} (h : W.disk_Disk_Size d file w K KP) : C.disk_Disk_Size d file w K KP :=
  xcall (E := E) (T := mkTab [] [] [] [] [] [] [] []) (c := Try.f21.body.getD .skip) (rs := [.tmp 4]) ⟨⟩ mixed Try.func21 (by kernel_rfl) (by kernel_rfl) [.pointer d, .int .i64 file] (by kernel_rfl) (by kernel_rfl) (.inr (by kernel_rfl)) (Eq.mp (by kernel_rfl) h)

def W.store_Store_From (s : (Option Addr)) (w : World) (K : Value → World → Prop) (KP : List PanicEntry → World → Prop) : Prop :=
   (cond s.isNone
    (K (.int .i64 0) w)
    (withSome s fun a1 =>
    ∃ y2 : Int, (okVal false 1 (.int .i64 y2) = true ∧ w.cell? (Addr.add a1 4) = some (.int .i64 y2)) ∧
    K (.int .i64 y2) w))
theorem store_Store_From_of {s : (Option Addr)} {w : World} {K : Value → World → Prop} {KP : List PanicEntry → World → Prop} (h : W.store_Store_From s w K KP) : C.store_Store_From s w K KP :=
  xcall (E := E) (T := mkTab [] [] [] [] [] [] [] []) (c := Try.f22.body.getD .skip) (rs := [.tmp 2]) ⟨⟩ mixed Try.func22 (by kernel_rfl) (by kernel_rfl) [.pointer s] (by kernel_rfl) (by kernel_rfl) (.inr (by kernel_rfl)) (Eq.mp (by kernel_rfl) h)

def W.skeplaw06_told (d : (Option Addr)) (w : World) (K : Value → World → Prop) (KP : List PanicEntry → World → Prop) : Prop :=
   C.store_Open d w (fun r3 w1 => ∃ p2 : ((Option Addr) × Sl × Sl × Int), r3 = .tuple #[.pointer p2.1, .slice p2.2.1.a p2.2.1.len p2.2.1.cap, .slice p2.2.2.1.a p2.2.2.1.len p2.2.2.1.cap, .int .i64 p2.2.2.2] ∧
    (cond ((p2.2.2.2 : Int) != 0)
    (K (.tuple #[.slice none 0 0, .slice none 0 0, .int .i64 0, .bool false]) w1)
    ((cond p2.1.isNone
    (K (.tuple #[.slice none 0 0, .slice none 0 0, .int .i64 0, .bool false]) w1)
    (C.store_Store_From p2.1 w1 (fun r6 w4 => ∃ p5 : Int, r6 = .int .i64 p5 ∧
    C.store_Store_Last p2.1 w4 (fun r9 w7 => ∃ p8 : Int, r9 = .int .i64 p8 ∧
    C.store_Store_From p2.1 w7 (fun r12 w10 => ∃ p11 : Int, r12 = .int .i64 p11 ∧
    K (.tuple #[.slice p2.2.1.a p2.2.1.len p2.2.1.cap, .slice p2.2.2.1.a p2.2.2.1.len p2.2.2.1.cap, .int .i64 p5, .bool ((p8 : Int) == (IntKind.i64.wrap (p11 + (p2.2.2.1.len : Int))))]) w10) KP) KP) KP))))) KP
theorem skeplaw06_told_of {d : (Option Addr)} {w : World} {K : Value → World → Prop} {KP : List PanicEntry → World → Prop} (h : W.skeplaw06_told d w K KP) : C.skeplaw06_told d w K KP :=
  xcall (E := E) (T := mkTab [] [] [] [] [] [] [] []) (c := Try.f23.body.getD .skip) (rs := [.tmp 2, .tmp 3, .tmp 4, .tmp 5]) ⟨⟩ mixed Try.func23 (by kernel_rfl) (by kernel_rfl) [.pointer d] (by kernel_rfl) (by kernel_rfl) (.inr (by kernel_rfl)) (Eq.mp (by kernel_rfl) h)

def W.skeplaw06_same (a : Sl) (p1_ : Sl) (w : World) (K : Value → World → Prop) (KP : List PanicEntry → World → Prop) : Prop :=
   (cond (((a.len : Int) : Int) != (p1_.len : Int))
    (K (.bool false) w)
    (∃ (I1 : Int → World → Prop) (M2 : Int → World → Nat),
    (∃ u3 : Int, (.int .i64 0 : Value) = .int .i64 u3 ∧ I1 u3 w) ∧
    ∀ e0 : Env, ∀ v4 : Int, ∀ w5 : World, I1 v4 w5 →
    (cond (decide ((v4 : Int) < (a.len : Int)))
    (∀ w6, Drew w5 w6 →
    ((0 : Int) ≤ v4 ∧ (v4 : Int) < (a.len : Int)) ∧ withSome a.a fun a7 =>
    ∃ y8 : Sl, (okVal false 1 (.slice y8.a y8.len y8.cap) = true ∧ w6.cell? (Addr.add a7 (v4.toNat * 1)) = some (.slice y8.a y8.len y8.cap)) ∧
    ∃ s9 : ByteArray, (s9.size = y8.len ∧ (0 < y8.len → withSome y8.a fun a => Go.Eng.World.has w6 a (bytesV s9))) ∧
    ((0 : Int) ≤ v4 ∧ (v4 : Int) < (p1_.len : Int)) ∧ withSome p1_.a fun a10 =>
    ∃ y11 : Sl, (okVal false 1 (.slice y11.a y11.len y11.cap) = true ∧ w6.cell? (Addr.add a10 (v4.toNat * 1)) = some (.slice y11.a y11.len y11.cap)) ∧
    ∃ s12 : ByteArray, (s12.size = y11.len ∧ (0 < y11.len → withSome y11.a fun a => Go.Eng.World.has w6 a (bytesV s12))) ∧
    (cond (!(strEq s9 s12))
    (K (.bool false) w6)
    (∃ u13 : Int, (.int .i64 (IntKind.i64.wrap (v4 + 1)) : Value) = .int .i64 u13 ∧ (I1 u13 w6 ∧ M2 u13 w6 < M2 v4 w5))))
    (K (.bool true) w5))))
theorem skeplaw06_same_of {a : Sl} {p1_ : Sl} {w : World} {K : Value → World → Prop} {KP : List PanicEntry → World → Prop} (h : W.skeplaw06_same a p1_ w K KP) : C.skeplaw06_same a p1_ w K KP :=
  xcall (E := E) (T := mkTab [(4, [(5, 3)])] [(4, [4, 5, 11, 12, 13, 14, 15, 16, 17, 18, 19, 20, 21, 22, 23, 24, 25, 26, 27])] [] [] [(6, [0, 1, 2, 3, 4, 5, 6, 7, 8, 9, 10])] [(6, [0, 0, 3, 7, 15, 0, 0, 96, 224, 480, 1023])] [] []) (c := Try.f24.body.getD .skip) (rs := [.tmp 4]) ⟨⟩ mixed Try.func24 (by kernel_rfl) (by kernel_rfl) [.slice a.a a.len a.cap, .slice p1_.a p1_.len p1_.cap] (by kernel_rfl) (by kernel_rfl) (.inr (by kernel_rfl)) (Eq.mp (by kernel_rfl) h)

def W.store_Store_Sync (s : (Option Addr)) (w : World) (K : Value → World → Prop) (KP : List PanicEntry → World → Prop) : Prop :=
   (cond s.isNone
    (K (.int .i64 1) w)
    (withSome s fun a1 =>
    ((0 : Int) ≤ 0 ∧ (0 : Int) < (2 : Int)) ∧ ∃ y2 : (Option Addr), (okVal false 1 (.pointer y2) = true ∧ w.cell? a1 = some (.pointer y2)) ∧
    (cond y2.isNone
    (K (.int .i64 1) w)
    (∀ w3, Drew w w3 →
    withSome s fun a4 =>
    ∃ y5 : Int, (okVal false 1 (.int .i64 y5) = true ∧ w3.cell? (Addr.add a4 2) = some (.int .i64 y5)) ∧
    withSome s fun a6 =>
    ((0 : Int) ≤ y5 ∧ (y5 : Int) < (2 : Int)) ∧ ∃ y7 : (Option Addr), (okVal false 1 (.pointer y7) = true ∧ w3.cell? (Addr.add a6 (y5.toNat * 1)) = some (.pointer y7)) ∧
    C.wal_Log_Sync y7 w3 (fun r10 w8 => ∃ p9 : Int, r10 = .int .i64 p9 ∧
    K (.int .i64 p9) w8) KP))))
theorem store_Store_Sync_of {s : (Option Addr)} {w : World} {K : Value → World → Prop} {KP : List PanicEntry → World → Prop} (h : W.store_Store_Sync s w K KP) : C.store_Store_Sync s w K KP :=
  xcall (E := E) (T := mkTab [] [] [] [] [(3, [0, 1, 2, 3, 4, 5, 6, 7, 8, 9, 10])] [(3, [0, 0, 2, 6, 14, 1, 33, 127, 255, 511, 1023])] [] []) (c := Try.f25.body.getD .skip) (rs := [.tmp 2]) ⟨⟩ mixed Try.func25 (by kernel_rfl) (by kernel_rfl) [.pointer s] (by kernel_rfl) (by kernel_rfl) (.inr (by kernel_rfl)) (Eq.mp (by kernel_rfl) h)

def W.disk_Disk_Crash (d : (Option Addr)) (a : Int) (p2_ : Int) (w : World) (K : Value → World → Prop) (KP : List PanicEntry → World → Prop) : Prop :=
   C.disk_New  w (fun r3 w1 => ∃ p2 : (Option Addr), r3 = .pointer p2 ∧
    (cond d.isNone
    (K (.pointer p2) w1)
    (∀ (b4 : Nat) (w5 : World), Alloc w1 b4 91 [.int .i64 0, .int .i64 0] w5 →
    (okVal true 2 (.agg #[.int .i64 a, .int .i64 p2_]) = true ∧ canPut w5 ⟨b4, 0, none⟩ (.agg #[.int .i64 a, .int .i64 p2_])) ∧ ∀ w6 : World, w6 = putAt w5 ⟨b4, 0, none⟩ (.agg #[.int .i64 a, .int .i64 p2_]) →
    ∃ (I7 : Int → World → Prop) (M8 : Int → World → Nat),
    (∃ u9 : Int, (.int .i64 0 : Value) = .int .i64 u9 ∧ I7 u9 w6) ∧
    ∀ e0 : Env, ∀ v10 : Int, ∀ w11 : World, I7 v10 w11 →
    (cond (decide ((v10 : Int) < 2))
    (withSome d fun a12 =>
    ((0 : Int) ≤ v10 ∧ (v10 : Int) < (2 : Int)) ∧ ∃ y13 : S.disk_file, (okVal true 3 (S.disk_file.v y13) = true ∧ rd w11 (Addr.add a12 (v10.toNat * 3)) (S.disk_file.v y13)) ∧
    ∀ (b14 : Nat) (w15 : World), Alloc w11 b14 67 [.slice none 0 0, .slice none 0 0, .slice none 0 0] w15 →
    (okVal true 3 (S.disk_file.v y13) = true ∧ canPut w15 ⟨b14, 0, none⟩ (S.disk_file.v y13)) ∧ ∀ w16 : World, w16 = putAt w15 ⟨b14, 0, none⟩ (S.disk_file.v y13) →
    ∀ (b17 : Nat) (w18 : World), Alloc w16 b17 5 [] w18 →
    ∃ y19 : Sl, (okVal false 1 (.slice y19.a y19.len y19.cap) = true ∧ w18.cell? ⟨b14, 0, none⟩ = some (.slice y19.a y19.len y19.cap)) ∧
    ∃ (q20 : Option Addr) (n21 c22 : Nat) (w23 : World), (Builtin.append_ #[27, 27] 27 #[.slice (some ⟨b17, 0, none⟩) 0 0, .slice y19.a y19.len y19.cap]).run Try.prog w18 = .ok (.slice q20 n21 c22) w23 ∧
    ∃ J24 : Sl → World → Prop,
    (∃ y25 : Sl, (okVal false 1 (.slice y25.a y25.len y25.cap) = true ∧ w23.cell? ⟨b14, 2, none⟩ = some (.slice y25.a y25.len y25.cap)) ∧
    ∃ (I26 : Sl → Int → World → Prop) (M27 : Sl → Int → World → Nat),
    (∃ u28 : Sl, (.slice q20 n21 c22 : Value) = .slice u28.a u28.len u28.cap ∧ ∃ u29 : Int, (.int .i64 0 : Value) = .int .i64 u29 ∧ I26 u28 u29 w23) ∧
    ∀ e0 : Env, ∀ v30 : Sl, ∀ v31 : Int, ∀ w32 : World, I26 v30 v31 w32 →
    (cond (decide ((v31 : Int) < (y25.len : Int)))
    (((0 : Int) ≤ v31 ∧ (v31 : Int) < (y25.len : Int)) ∧ withSome y25.a fun a33 =>
    ∃ y34 : S.disk_done, (okVal true 3 (S.disk_done.v y34) = true ∧ rd w32 (Addr.add a33 (v31.toNat * 3)) (S.disk_done.v y34)) ∧
    ∀ (b35 : Nat) (w36 : World), Alloc w32 b35 93 [.bool false, .int .i64 0, .slice none 0 0] w36 →
    (okVal true 3 (S.disk_done.v y34) = true ∧ canPut w36 ⟨b35, 0, none⟩ (S.disk_done.v y34)) ∧ ∀ w37 : World, w37 = putAt w36 ⟨b35, 0, none⟩ (S.disk_done.v y34) →
    ∀ w38, Drew w37 w38 →
    ∃ y39 : S.disk_done, (okVal true 3 (S.disk_done.v y39) = true ∧ rd w38 ⟨b35, 0, none⟩ (S.disk_done.v y39)) ∧
    ((0 : Int) ≤ v10 ∧ (v10 : Int) < (2 : Int)) ∧ ∃ y40 : Int, (okVal false 1 (.int .i64 y40) = true ∧ w38.cell? (Addr.add ⟨b4, 0, none⟩ (v10.toNat * 1)) = some (.int .i64 y40)) ∧
    C.disk_done_units y39 w38 (fun r43 w41 => ∃ p42 : Int, r43 = .int .i64 p42 ∧
    (w41.cell? (Addr.add ⟨b4, 0, none⟩ (v10.toNat * 1)) = some (.int .i64 y40)) ∧ ((0 : Int) ≤ v10 ∧ (v10 : Int) < (2 : Int)) ∧ ∃ y44 : Int, (okVal false 1 (.int .i64 y44) = true ∧ w41.cell? (Addr.add ⟨b4, 0, none⟩ (v10.toNat * 1)) = some (.int .i64 y44)) ∧
    ((0 : Int) ≤ v10 ∧ (v10 : Int) < (2 : Int)) ∧ (okVal false 1 (.int .i64 (IntKind.i64.wrap (y44 - (if ((if (0 : Int) > y40 then 0 else y40) : Int) < p42 then (if (0 : Int) > y40 then 0 else y40) else p42)))) = true ∧ canPut w41 (Addr.add ⟨b4, 0, none⟩ (v10.toNat * 1)) (.int .i64 (IntKind.i64.wrap (y44 - (if ((if (0 : Int) > y40 then 0 else y40) : Int) < p42 then (if (0 : Int) > y40 then 0 else y40) else p42))))) ∧ ∀ w45 : World, w45 = putAt w41 (Addr.add ⟨b4, 0, none⟩ (v10.toNat * 1)) (.int .i64 (IntKind.i64.wrap (y44 - (if ((if (0 : Int) > y40 then 0 else y40) : Int) < p42 then (if (0 : Int) > y40 then 0 else y40) else p42)))) →
    (cond (((if ((if (0 : Int) > y40 then 0 else y40) : Int) < p42 then (if (0 : Int) > y40 then 0 else y40) else p42) : Int) == 0)
    (∃ y46 : S.disk_done, (okVal true 3 (S.disk_done.v y46) = true ∧ rd w45 ⟨b35, 0, none⟩ (S.disk_done.v y46)) ∧
    C.disk_done_units y46 w45 (fun r49 w47 => ∃ p48 : Int, r49 = .int .i64 p48 ∧
    (cond (decide (((if ((if (0 : Int) > y40 then 0 else y40) : Int) < p42 then (if (0 : Int) > y40 then 0 else y40) else p42) : Int) < p48))
    (∃ u50 : Sl, (.slice v30.a v30.len v30.cap : Value) = .slice u50.a u50.len u50.cap ∧ J24 u50 w47)
    (∃ u51 : Sl, (.slice v30.a v30.len v30.cap : Value) = .slice u51.a u51.len u51.cap ∧ ∃ u52 : Int, (.int .i64 (IntKind.i64.wrap (v31 + 1)) : Value) = .int .i64 u52 ∧ (I26 u51 u52 w47 ∧ M27 u51 u52 w47 < M27 v30 v31 w32)))) KP)
    (∃ y53 : Bool, (okVal false 1 (.bool y53) = true ∧ w45.cell? ⟨b35, 0, none⟩ = some (.bool y53)) ∧
    (cond y53
    (∃ y54 : Int, (okVal false 1 (.int .i64 y54) = true ∧ w45.cell? ⟨b35, 1, none⟩ = some (.int .i64 y54)) ∧
    ((0 : Int) ≤ y54 ∧ (y54 : Int) ≤ (v30.cap : Int)) ∧ ∃ y55 : S.disk_done, (okVal true 3 (S.disk_done.v y55) = true ∧ rd w45 ⟨b35, 0, none⟩ (S.disk_done.v y55)) ∧
    C.disk_done_units y55 w45 (fun r58 w56 => ∃ p57 : Int, r58 = .int .i64 p57 ∧
    (cond (decide (((if ((if (0 : Int) > y40 then 0 else y40) : Int) < p42 then (if (0 : Int) > y40 then 0 else y40) else p42) : Int) < p57))
    (∃ u59 : Sl, (.slice (if v30.cap = 0 then v30.a else Option.map (fun x => Addr.add x (0 * 1)) v30.a) (y54.toNat - 0) (v30.cap - 0) : Value) = .slice u59.a u59.len u59.cap ∧ J24 u59 w56)
    (∃ u60 : Sl, (.slice (if v30.cap = 0 then v30.a else Option.map (fun x => Addr.add x (0 * 1)) v30.a) (y54.toNat - 0) (v30.cap - 0) : Value) = .slice u60.a u60.len u60.cap ∧ ∃ u61 : Int, (.int .i64 (IntKind.i64.wrap (v31 + 1)) : Value) = .int .i64 u61 ∧ (I26 u60 u61 w56 ∧ M27 u60 u61 w56 < M27 v30 v31 w32)))) KP)
    (∃ y62 : Sl, (okVal false 1 (.slice y62.a y62.len y62.cap) = true ∧ w45.cell? ⟨b35, 2, none⟩ = some (.slice y62.a y62.len y62.cap)) ∧
    ((0 : Int) ≤ (if ((if (0 : Int) > y40 then 0 else y40) : Int) < p42 then (if (0 : Int) > y40 then 0 else y40) else p42) ∧ ((if ((if (0 : Int) > y40 then 0 else y40) : Int) < p42 then (if (0 : Int) > y40 then 0 else y40) else p42) : Int) ≤ (y62.cap : Int)) ∧ ∃ (q63 : Option Addr) (n64 c65 : Nat) (w66 : World), (Builtin.append_ #[27, 27] 27 #[.slice v30.a v30.len v30.cap, .slice (if y62.cap = 0 then y62.a else Option.map (fun x => Addr.add x (0 * 1)) y62.a) ((if ((if (0 : Int) > y40 then 0 else y40) : Int) < p42 then (if (0 : Int) > y40 then 0 else y40) else p42).toNat - 0) (y62.cap - 0)]).run Try.prog w45 = .ok (.slice q63 n64 c65) w66 ∧
    ∃ y67 : S.disk_done, (okVal true 3 (S.disk_done.v y67) = true ∧ rd w66 ⟨b35, 0, none⟩ (S.disk_done.v y67)) ∧
    C.disk_done_units y67 w66 (fun r70 w68 => ∃ p69 : Int, r70 = .int .i64 p69 ∧
    (cond (decide (((if ((if (0 : Int) > y40 then 0 else y40) : Int) < p42 then (if (0 : Int) > y40 then 0 else y40) else p42) : Int) < p69))
    (∃ u71 : Sl, (.slice q63 n64 c65 : Value) = .slice u71.a u71.len u71.cap ∧ J24 u71 w68)
    (∃ u72 : Sl, (.slice q63 n64 c65 : Value) = .slice u72.a u72.len u72.cap ∧ ∃ u73 : Int, (.int .i64 (IntKind.i64.wrap (v31 + 1)) : Value) = .int .i64 u73 ∧ (I26 u72 u73 w68 ∧ M27 u72 u73 w68 < M27 v30 v31 w32)))) KP))))) KP)
    (∃ u74 : Sl, (.slice v30.a v30.len v30.cap : Value) = .slice u74.a u74.len u74.cap ∧ J24 u74 w32))) ∧
    ∀ e0 : Env, ∀ v75 : Sl, ∀ w76 : World, J24 v75 w76 →
    ∀ w77, Drew w76 w77 →
    ((0 : Int) ≤ (v75.len : Int) ∧ ((v75.len : Int) : Int) ≤ (v75.cap : Int)) ∧ ((0 : Int) ≤ (v75.len : Int) ∧ ((v75.len : Int) : Int) ≤ ((v75.len : Int).toNat : Int)) ∧ withSome p2 fun a78 =>
    ((0 : Int) ≤ v10 ∧ (v10 : Int) < (2 : Int)) ∧ (okVal true 3 (.agg #[.slice (if (v75.len : Int).toNat = 0 then v75.a else Option.map (fun x => Addr.add x (0 * 1)) v75.a) ((v75.len : Int).toNat - 0) ((v75.len : Int).toNat - 0), .slice v75.a v75.len v75.cap, .slice none 0 0]) = true ∧ canPut w77 (Addr.add a78 (v10.toNat * 3)) (.agg #[.slice (if (v75.len : Int).toNat = 0 then v75.a else Option.map (fun x => Addr.add x (0 * 1)) v75.a) ((v75.len : Int).toNat - 0) ((v75.len : Int).toNat - 0), .slice v75.a v75.len v75.cap, .slice none 0 0])) ∧ ∀ w79 : World, w79 = putAt w77 (Addr.add a78 (v10.toNat * 3)) (.agg #[.slice (if (v75.len : Int).toNat = 0 then v75.a else Option.map (fun x => Addr.add x (0 * 1)) v75.a) ((v75.len : Int).toNat - 0) ((v75.len : Int).toNat - 0), .slice v75.a v75.len v75.cap, .slice none 0 0]) →
    ∃ u80 : Int, (.int .i64 (IntKind.i64.wrap (v10 + 1)) : Value) = .int .i64 u80 ∧ (I7 u80 w79 ∧ M8 u80 w79 < M8 v10 w11))
    (K (.pointer p2) w11))))) KP
theorem disk_Disk_Crash_of {d : (Option Addr)} {a : Int} {p2_ : Int} {w : World} {K : Value → World → Prop} {KP : List PanicEntry → World → Prop} (h : W.disk_Disk_Crash d a p2_ w K KP) : C.disk_Disk_Crash d a p2_ w K KP :=
  xcall (E := E) (T := mkTab [(6, [(22, 3)]), (11, [(11, 27), (38, 3)])] [(6, [9, 10, 11, 13, 14, 22, 23, 24, 25, 26, 27, 28, 29, 30, 31, 32, 33, 34, 35, 36, 37, 38, 39, 40, 41, 42, 43, 44, 45, 46, 47, 48, 49, 50, 51, 52, 53, 54, 55, 56, 57, 58, 59, 60, 61, 62, 63, 64, 65, 66, 67, 68, 69, 70, 71, 72, 73, 74, 75, 76, 77, 78, 79, 80, 81, 82, 83, 84, 85, 86, 87, 88, 89]), (11, [11, 13, 14, 38, 39, 40, 41, 42, 43, 44, 45, 46, 47, 48, 49, 50, 51, 52, 53, 54, 55, 56, 57, 58, 59, 60, 61, 62, 63, 64, 65, 66, 67, 68, 69, 70, 71, 72, 73, 74, 75])] [(21, [(11, 27)])] [(21, [11, 13, 14, 35, 36, 37, 38, 39, 40, 41, 42, 43, 44, 45, 46, 47, 48, 49, 50, 51, 52, 53, 54, 55, 56, 57, 58, 59, 60, 61, 62, 63, 64, 65, 66, 67, 68, 69, 70, 71, 72, 73, 74, 75])] [(13, [0, 2, 3, 4, 5, 1, 6, 7]), (21, [0, 1, 2, 3, 4, 5, 6, 7, 8, 9, 10, 11, 12, 13])] [(13, [0, 1, 0, 4, 12, 28, 63, 127]), (21, [0, 0, 0, 0, 8, 0, 32, 124, 0, 508, 1, 1025, 4095, 8191])] [] []) (c := Try.f26.body.getD .skip) (rs := [.tmp 6]) ⟨⟩ mixed Try.func26 (by kernel_rfl) (by kernel_rfl) [.pointer d, .int .i64 a, .int .i64 p2_] (by kernel_rfl) (by kernel_rfl) (.inr (by kernel_rfl)) (Eq.mp (by kernel_rfl) h)

def W.skeplaw06_open (d : (Option Addr)) (p1_ : (Option Addr)) (w : World) (K : Value → World → Prop) (KP : List PanicEntry → World → Prop) : Prop :=
   C.store_Open d w (fun r3 w1 => ∃ p2 : ((Option Addr) × Sl × Sl × Int), r3 = .tuple #[.pointer p2.1, .slice p2.2.1.a p2.2.1.len p2.2.1.cap, .slice p2.2.2.1.a p2.2.2.1.len p2.2.2.1.cap, .int .i64 p2.2.2.2] ∧
    C.skepref06_Open p1_ w1 (fun r6 w4 => ∃ p5 : ((Option Addr) × Sl × Sl × Bool), r6 = .tuple #[.pointer p5.1, .slice p5.2.1.a p5.2.1.len p5.2.1.cap, .slice p5.2.2.1.a p5.2.2.1.len p5.2.2.1.cap, .bool p5.2.2.2] ∧
    (cond (!p5.2.2.2)
    ((cond p2.1.isNone
    ((cond (((IntKind.i64.wrap ((p2.2.1.len : Int) + (p2.2.2.1.len : Int))) : Int) == 0)
    (K (.tuple #[.pointer none, .bool ((p2.2.2.2 : Int) == 4)]) w4)
    (K (.tuple #[.pointer none, .bool false]) w4)))
    (K (.tuple #[.pointer none, .bool false]) w4)))
    ((cond ((p2.2.2.2 : Int) != 0)
    (K (.tuple #[.pointer none, .bool false]) w4)
    ((cond p2.1.isNone
    (K (.tuple #[.pointer none, .bool false]) w4)
    (∃ s7 : ByteArray, (s7.size = p2.2.1.len ∧ (0 < p2.2.1.len → withSome p2.2.1.a fun a => Go.Eng.World.has w4 a (bytesV s7))) ∧
    ∃ s8 : ByteArray, (s8.size = p5.2.1.len ∧ (0 < p5.2.1.len → withSome p5.2.1.a fun a => Go.Eng.World.has w4 a (bytesV s8))) ∧
    (cond (!(strEq s7 s8))
    (K (.tuple #[.pointer none, .bool false]) w4)
    (C.skeplaw06_same p2.2.2.1 p5.2.2.1 w4 (fun r11 w9 => ∃ p10 : Bool, r11 = .bool p10 ∧
    (cond (!p10)
    (K (.tuple #[.pointer none, .bool false]) w9)
    (∀ (b12 : Nat) (w13 : World), Alloc w9 b12 98 [.pointer d, .pointer p2.1, .pointer p5.1] w13 →
    K (.tuple #[.pointer (some ⟨b12, 0, none⟩), .bool true]) w13))) KP))))))))) KP) KP
theorem skeplaw06_open_of {d : (Option Addr)} {p1_ : (Option Addr)} {w : World} {K : Value → World → Prop} {KP : List PanicEntry → World → Prop} (h : W.skeplaw06_open d p1_ w K KP) : C.skeplaw06_open d p1_ w K KP :=
  xcall (E := E) (T := mkTab [] [] [] [] [] [] [] []) (c := Try.f27.body.getD .skip) (rs := [.tmp 4, .tmp 5]) ⟨⟩ mixed Try.func27 (by kernel_rfl) (by kernel_rfl) [.pointer d, .pointer p1_] (by kernel_rfl) (by kernel_rfl) (.inr (by kernel_rfl)) (Eq.mp (by kernel_rfl) h)

def W.skepref03_New (w : World) (K : Value → World → Prop) (KP : List PanicEntry → World → Prop) : Prop :=
   ∀ (b1 : Nat) (w2 : World), Alloc w b1 104 [.slice none 0 0, .slice none 0 0, .slice none 0 0, .slice none 0 0] w2 →
    K (.pointer (some ⟨b1, 0, none⟩)) w2
theorem skepref03_New_of {w : World} {K : Value → World → Prop} {KP : List PanicEntry → World → Prop} (h : W.skepref03_New  w K KP) : C.skepref03_New  w K KP :=
  xcall (E := E) (T := mkTab [] [] [] [] [] [] [] []) (c := Try.f28.body.getD .skip) (rs := [.tmp 0]) ⟨⟩ mixed Try.func28 (by kernel_rfl) (by kernel_rfl) [] (by kernel_rfl) (by kernel_rfl) (.inr (by kernel_rfl)) (Eq.mp (by kernel_rfl) h)

def W.skeplaw06_On_do (o : (Option Addr)) (p1_ : S.skeplaw06_Op) (w : World) (K : Value → World → Prop) (KP : List PanicEntry → World → Prop) : Prop :=
   ∀ (b1 : Nat) (w2 : World), Alloc w b1 60 (S.skeplaw06_Op.v p1_ : Value).cells.toList w2 →
    ∃ y3 : Sl, (okVal false 1 (.slice y3.a y3.len y3.cap) = true ∧ w2.cell? ⟨b1, 3, none⟩ = some (.slice y3.a y3.len y3.cap)) ∧
    C.skeplaw00_CopyBytes y3 w2 (fun r6 w4 => ∃ p5 : Sl, r6 = .slice p5.a p5.len p5.cap ∧
    ∃ y7 : Int, (okVal false 1 (.int .i64 y7) = true ∧ w4.cell? ⟨b1, 0, none⟩ = some (.int .i64 y7)) ∧
    C.skeplaw00_Place y7 5 w4 (fun r10 w8 => ∃ p9 : Int, r10 = .int .i64 p9 ∧
    (cond ((p9 : Int) == 0)
    (withSome o fun a11 =>
    ∃ y12 : (Option Addr), (okVal false 1 (.pointer y12) = true ∧ w8.cell? (Addr.add a11 2) = some (.pointer y12)) ∧
    withSome y12 fun a13 =>
    ∃ y14 : Int, (okVal false 1 (.int .i64 y14) = true ∧ w8.cell? (Addr.add a13 4) = some (.int .i64 y14)) ∧
    ∀ w15, Drew w8 w15 →
    withSome o fun a16 =>
    ∃ y17 : (Option Addr), (okVal false 1 (.pointer y17) = true ∧ w15.cell? (Addr.add a16 1) = some (.pointer y17)) ∧
    withSome o fun a18 =>
    ∃ y19 : (Option Addr), (okVal false 1 (.pointer y19) = true ∧ w15.cell? (Addr.add a18 2) = some (.pointer y19)) ∧
    ∃ y20 : Sl, (okVal false 1 (.slice y20.a y20.len y20.cap) = true ∧ w15.cell? ⟨b1, 3, none⟩ = some (.slice y20.a y20.len y20.cap)) ∧
    C.store_Store_Append y17 (IntKind.i64.wrap (y14 + 1)) p5 w15 (fun r23 w21 => ∃ p22 : Int, r23 = .int .i64 p22 ∧
    (w21.cell? ⟨b1, 3, none⟩ = some (.slice y20.a y20.len y20.cap)) ∧ (w21.cell? (Addr.add a18 2) = some (.pointer y19)) ∧ C.skepref06_Store_Append y19 (IntKind.i64.wrap (y14 + 1)) y20 w21 (fun r26 w24 => ∃ p25 : Int, r26 = .int .i64 p25 ∧
    K (.tuple #[.pointer o, .bool ((p22 : Int) == p25)]) w24) KP) KP)
    ((cond ((p9 : Int) == 1)
    (∀ w27, Drew w8 w27 →
    withSome o fun a28 =>
    ∃ y29 : (Option Addr), (okVal false 1 (.pointer y29) = true ∧ w27.cell? (Addr.add a28 1) = some (.pointer y29)) ∧
    ∃ y30 : Int, (okVal false 1 (.int .i64 y30) = true ∧ w27.cell? ⟨b1, 1, none⟩ = some (.int .i64 y30)) ∧
    withSome o fun a31 =>
    ∃ y32 : (Option Addr), (okVal false 1 (.pointer y32) = true ∧ w27.cell? (Addr.add a31 2) = some (.pointer y32)) ∧
    ∃ y33 : Int, (okVal false 1 (.int .i64 y33) = true ∧ w27.cell? ⟨b1, 1, none⟩ = some (.int .i64 y33)) ∧
    ∃ y34 : Sl, (okVal false 1 (.slice y34.a y34.len y34.cap) = true ∧ w27.cell? ⟨b1, 3, none⟩ = some (.slice y34.a y34.len y34.cap)) ∧
    C.store_Store_Append y29 y30 p5 w27 (fun r37 w35 => ∃ p36 : Int, r37 = .int .i64 p36 ∧
    (w35.cell? ⟨b1, 3, none⟩ = some (.slice y34.a y34.len y34.cap)) ∧ (w35.cell? ⟨b1, 1, none⟩ = some (.int .i64 y33)) ∧ (w35.cell? (Addr.add a31 2) = some (.pointer y32)) ∧ C.skepref06_Store_Append y32 y33 y34 w35 (fun r40 w38 => ∃ p39 : Int, r40 = .int .i64 p39 ∧
    K (.tuple #[.pointer o, .bool ((p36 : Int) == p39)]) w38) KP) KP)
    ((cond ((p9 : Int) == 2)
    (∀ w41, Drew w8 w41 →
    withSome o fun a42 =>
    ∃ y43 : (Option Addr), (okVal false 1 (.pointer y43) = true ∧ w41.cell? (Addr.add a42 1) = some (.pointer y43)) ∧
    withSome o fun a44 =>
    ∃ y45 : (Option Addr), (okVal false 1 (.pointer y45) = true ∧ w41.cell? (Addr.add a44 2) = some (.pointer y45)) ∧
    C.store_Store_Sync y43 w41 (fun r48 w46 => ∃ p47 : Int, r48 = .int .i64 p47 ∧
    (w46.cell? (Addr.add a44 2) = some (.pointer y45)) ∧ C.skepref06_Store_Sync y45 w46 (fun r51 w49 => ∃ p50 : Int, r51 = .int .i64 p50 ∧
    K (.tuple #[.pointer o, .bool ((p47 : Int) == p50)]) w49) KP) KP)
    ((cond ((p9 : Int) == 3)
    (∀ w52, Drew w8 w52 →
    withSome o fun a53 =>
    ∃ y54 : (Option Addr), (okVal false 1 (.pointer y54) = true ∧ w52.cell? (Addr.add a53 1) = some (.pointer y54)) ∧
    withSome o fun a55 =>
    ∃ y56 : (Option Addr), (okVal false 1 (.pointer y56) = true ∧ w52.cell? (Addr.add a55 2) = some (.pointer y56)) ∧
    ∃ y57 : Sl, (okVal false 1 (.slice y57.a y57.len y57.cap) = true ∧ w52.cell? ⟨b1, 3, none⟩ = some (.slice y57.a y57.len y57.cap)) ∧
    C.store_Store_Check y54 p5 w52 (fun r60 w58 => ∃ p59 : Int, r60 = .int .i64 p59 ∧
    (w58.cell? ⟨b1, 3, none⟩ = some (.slice y57.a y57.len y57.cap)) ∧ (w58.cell? (Addr.add a55 2) = some (.pointer y56)) ∧ C.skepref06_Store_Check y56 y57 w58 (fun r63 w61 => ∃ p62 : Int, r63 = .int .i64 p62 ∧
    K (.tuple #[.pointer o, .bool ((p59 : Int) == p62)]) w61) KP) KP)
    (∀ w64, Drew w8 w64 →
    withSome o fun a65 =>
    ∃ y66 : (Option Addr), (okVal false 1 (.pointer y66) = true ∧ w64.cell? a65 = some (.pointer y66)) ∧
    ∃ y67 : Int, (okVal false 1 (.int .i64 y67) = true ∧ w64.cell? ⟨b1, 1, none⟩ = some (.int .i64 y67)) ∧
    ∃ y68 : Int, (okVal false 1 (.int .i64 y68) = true ∧ w64.cell? ⟨b1, 2, none⟩ = some (.int .i64 y68)) ∧
    withSome o fun a69 =>
    ∃ y70 : (Option Addr), (okVal false 1 (.pointer y70) = true ∧ w64.cell? (Addr.add a69 2) = some (.pointer y70)) ∧
    withSome y70 fun a71 =>
    ∃ y72 : (Option Addr), (okVal false 1 (.pointer y72) = true ∧ w64.cell? a71 = some (.pointer y72)) ∧
    ∃ y73 : Int, (okVal false 1 (.int .i64 y73) = true ∧ w64.cell? ⟨b1, 1, none⟩ = some (.int .i64 y73)) ∧
    ∃ y74 : Int, (okVal false 1 (.int .i64 y74) = true ∧ w64.cell? ⟨b1, 2, none⟩ = some (.int .i64 y74)) ∧
    C.disk_Disk_Crash y66 y67 y68 w64 (fun r77 w75 => ∃ p76 : (Option Addr), r77 = .pointer p76 ∧
    (w75.cell? ⟨b1, 2, none⟩ = some (.int .i64 y74)) ∧ (w75.cell? ⟨b1, 1, none⟩ = some (.int .i64 y73)) ∧ (w75.cell? a71 = some (.pointer y72)) ∧ (w75.cell? (Addr.add a69 2) = some (.pointer y70)) ∧ C.skepref03_Disk_Crash y72 y73 y74 w75 (fun r80 w78 => ∃ p79 : (Option Addr), r80 = .pointer p79 ∧
    C.skeplaw06_open p76 p79 w78 (fun r83 w81 => ∃ p82 : ((Option Addr) × Bool), r83 = .tuple #[.pointer p82.1, .bool p82.2] ∧
    K (.tuple #[.pointer p82.1, .bool p82.2]) w81) KP) KP) KP))))))))) KP) KP
theorem skeplaw06_On_do_of {o : (Option Addr)} {p1_ : S.skeplaw06_Op} {w : World} {K : Value → World → Prop} {KP : List PanicEntry → World → Prop} (h : W.skeplaw06_On_do o p1_ w K KP) : C.skeplaw06_On_do o p1_ w K KP :=
  xcall (E := E) (T := mkTab [] [] [] [] [(5, [0, 1, 2, 3, 4, 5, 6, 8, 9, 10, 11, 12, 13, 14, 7, 15, 16, 17, 18]), (7, [0, 1, 2, 3, 4, 5, 6, 7, 9, 10, 11, 12, 13, 14, 15, 16, 8, 17, 18, 19, 20]), (9, [0, 1, 2, 3, 4, 6, 7, 8, 9, 5, 10, 11, 12, 13]), (11, [0, 1, 2, 3, 4, 5, 7, 8, 9, 10, 11, 12, 6, 13, 14, 15, 16]), (12, [0, 1, 2, 3, 4, 5, 6, 7, 9, 10, 11, 12, 13, 14, 15, 16, 17, 18, 19, 8, 20, 21, 22, 23, 24, 25])] [(5, [0, 0, 2, 6, 14, 0, 0, 126, 0, 256, 768, 1792, 0, 0, 8192, 32766, 65534, 65535, 262143]), (7, [0, 0, 2, 6, 14, 0, 32, 0, 254, 0, 512, 1536, 3584, 0, 8192, 0, 32768, 131070, 262142, 262143, 1048575]), (9, [0, 0, 2, 6, 14, 30, 0, 64, 192, 448, 1022, 2046, 2047, 8191]), (11, [0, 0, 2, 6, 14, 0, 62, 0, 128, 384, 896, 0, 2048, 8190, 16382, 16383, 65535]), (12, [0, 1, 3, 7, 0, 16, 0, 64, 255, 0, 512, 1536, 3584, 7680, 15872, 32256, 0, 65536, 0, 262144, 1048575, 2097151, 4194303, 4194303, 16777215, 33554431])] [] []) (c := Try.f29.body.getD .skip) (rs := [.tmp 4, .tmp 5]) ⟨⟩ mixed Try.func29 (by kernel_rfl) (by kernel_rfl) [.pointer o, S.skeplaw06_Op.v p1_] (by kernel_rfl) (by kernel_rfl) (.inr (by kernel_rfl)) (Eq.mp (by kernel_rfl) h)

def W.skeplaw06_On_alike (o : (Option Addr)) (w : World) (K : Value → World → Prop) (KP : List PanicEntry → World → Prop) : Prop :=
   ∀ w1, Drew w w1 →
    withSome o fun a2 =>
    ∃ y3 : (Option Addr), (okVal false 1 (.pointer y3) = true ∧ w1.cell? (Addr.add a2 1) = some (.pointer y3)) ∧
    withSome o fun a4 =>
    ∃ y5 : (Option Addr), (okVal false 1 (.pointer y5) = true ∧ w1.cell? (Addr.add a4 2) = some (.pointer y5)) ∧
    withSome y5 fun a6 =>
    ∃ y7 : Int, (okVal false 1 (.int .i64 y7) = true ∧ w1.cell? (Addr.add a6 4) = some (.int .i64 y7)) ∧
    C.store_Store_Last y3 w1 (fun r10 w8 => ∃ p9 : Int, r10 = .int .i64 p9 ∧
    (w8.cell? (Addr.add a6 4) = some (.int .i64 y7)) ∧ (w8.cell? (Addr.add a4 2) = some (.pointer y5)) ∧ (cond ((p9 : Int) == y7)
    (withSome o fun a11 =>
    ∃ y12 : (Option Addr), (okVal false 1 (.pointer y12) = true ∧ w8.cell? (Addr.add a11 1) = some (.pointer y12)) ∧
    withSome o fun a13 =>
    ∃ y14 : (Option Addr), (okVal false 1 (.pointer y14) = true ∧ w8.cell? (Addr.add a13 2) = some (.pointer y14)) ∧
    withSome y14 fun a15 =>
    ∃ y16 : Int, (okVal false 1 (.int .i64 y16) = true ∧ w8.cell? (Addr.add a15 3) = some (.int .i64 y16)) ∧
    C.store_Store_From y12 w8 (fun r19 w17 => ∃ p18 : Int, r19 = .int .i64 p18 ∧
    (w17.cell? (Addr.add a15 3) = some (.int .i64 y16)) ∧ (w17.cell? (Addr.add a13 2) = some (.pointer y14)) ∧ (cond ((p18 : Int) == y16)
    (withSome o fun a20 =>
    ∃ y21 : (Option Addr), (okVal false 1 (.pointer y21) = true ∧ w17.cell? (Addr.add a20 1) = some (.pointer y21)) ∧
    withSome o fun a22 =>
    ∃ y23 : (Option Addr), (okVal false 1 (.pointer y23) = true ∧ w17.cell? (Addr.add a22 2) = some (.pointer y23)) ∧
    C.store_Store_Size y21 w17 (fun r26 w24 => ∃ p25 : Int, r26 = .int .i64 p25 ∧
    (w24.cell? (Addr.add a22 2) = some (.pointer y23)) ∧ C.skepref06_Store_Size y23 w24 (fun r29 w27 => ∃ p28 : Int, r29 = .int .i64 p28 ∧
    (cond ((p25 : Int) == p28)
    (withSome o fun a30 =>
    ∃ y31 : (Option Addr), (okVal false 1 (.pointer y31) = true ∧ w27.cell? a30 = some (.pointer y31)) ∧
    withSome o fun a32 =>
    ∃ y33 : (Option Addr), (okVal false 1 (.pointer y33) = true ∧ w27.cell? (Addr.add a32 2) = some (.pointer y33)) ∧
    withSome y33 fun a34 =>
    ∃ y35 : (Option Addr), (okVal false 1 (.pointer y35) = true ∧ w27.cell? a34 = some (.pointer y35)) ∧
    C.disk_Disk_Read y31 0 w27 (fun r38 w36 => ∃ p37 : Sl, r38 = .slice p37.a p37.len p37.cap ∧
    (w36.cell? a34 = some (.pointer y35)) ∧ (w36.cell? (Addr.add a32 2) = some (.pointer y33)) ∧ ∃ s39 : ByteArray, (s39.size = p37.len ∧ (0 < p37.len → withSome p37.a fun a => Go.Eng.World.has w36 a (bytesV s39))) ∧
    C.skepref03_Disk_Read y35 0 w36 (fun r42 w40 => ∃ p41 : Sl, r42 = .slice p41.a p41.len p41.cap ∧
    (0 < p37.len → withSome p37.a fun a => Go.Eng.World.has w40 a (bytesV s39)) ∧ ∃ s43 : ByteArray, (s43.size = p41.len ∧ (0 < p41.len → withSome p41.a fun a => Go.Eng.World.has w40 a (bytesV s43))) ∧
    (cond (strEq s39 s43)
    (withSome o fun a44 =>
    ∃ y45 : (Option Addr), (okVal false 1 (.pointer y45) = true ∧ w40.cell? a44 = some (.pointer y45)) ∧
    withSome o fun a46 =>
    ∃ y47 : (Option Addr), (okVal false 1 (.pointer y47) = true ∧ w40.cell? (Addr.add a46 2) = some (.pointer y47)) ∧
    withSome y47 fun a48 =>
    ∃ y49 : (Option Addr), (okVal false 1 (.pointer y49) = true ∧ w40.cell? a48 = some (.pointer y49)) ∧
    C.disk_Disk_Read y45 1 w40 (fun r52 w50 => ∃ p51 : Sl, r52 = .slice p51.a p51.len p51.cap ∧
    (w50.cell? a48 = some (.pointer y49)) ∧ (w50.cell? (Addr.add a46 2) = some (.pointer y47)) ∧ ∃ s53 : ByteArray, (s53.size = p51.len ∧ (0 < p51.len → withSome p51.a fun a => Go.Eng.World.has w50 a (bytesV s53))) ∧
    C.skepref03_Disk_Read y49 1 w50 (fun r56 w54 => ∃ p55 : Sl, r56 = .slice p55.a p55.len p55.cap ∧
    (0 < p51.len → withSome p51.a fun a => Go.Eng.World.has w54 a (bytesV s53)) ∧ ∃ s57 : ByteArray, (s57.size = p55.len ∧ (0 < p55.len → withSome p55.a fun a => Go.Eng.World.has w54 a (bytesV s57))) ∧
    (cond (strEq s53 s57)
    (withSome o fun a58 =>
    ∃ y59 : (Option Addr), (okVal false 1 (.pointer y59) = true ∧ w54.cell? a58 = some (.pointer y59)) ∧
    withSome o fun a60 =>
    ∃ y61 : (Option Addr), (okVal false 1 (.pointer y61) = true ∧ w54.cell? (Addr.add a60 2) = some (.pointer y61)) ∧
    withSome y61 fun a62 =>
    ∃ y63 : (Option Addr), (okVal false 1 (.pointer y63) = true ∧ w54.cell? a62 = some (.pointer y63)) ∧
    C.disk_Disk_Pending y59 0 w54 (fun r66 w64 => ∃ p65 : Int, r66 = .int .i64 p65 ∧
    (w64.cell? a62 = some (.pointer y63)) ∧ (w64.cell? (Addr.add a60 2) = some (.pointer y61)) ∧ C.skepref03_Disk_Pending y63 0 w64 (fun r69 w67 => ∃ p68 : Int, r69 = .int .i64 p68 ∧
    (cond ((p65 : Int) == p68)
    (withSome o fun a70 =>
    ∃ y71 : (Option Addr), (okVal false 1 (.pointer y71) = true ∧ w67.cell? a70 = some (.pointer y71)) ∧
    withSome o fun a72 =>
    ∃ y73 : (Option Addr), (okVal false 1 (.pointer y73) = true ∧ w67.cell? (Addr.add a72 2) = some (.pointer y73)) ∧
    withSome y73 fun a74 =>
    ∃ y75 : (Option Addr), (okVal false 1 (.pointer y75) = true ∧ w67.cell? a74 = some (.pointer y75)) ∧
    C.disk_Disk_Pending y71 1 w67 (fun r78 w76 => ∃ p77 : Int, r78 = .int .i64 p77 ∧
    (w76.cell? a74 = some (.pointer y75)) ∧ (w76.cell? (Addr.add a72 2) = some (.pointer y73)) ∧ C.skepref03_Disk_Pending y75 1 w76 (fun r81 w79 => ∃ p80 : Int, r81 = .int .i64 p80 ∧
    K (.bool ((p77 : Int) == p80)) w79) KP) KP)
    (K (.bool false) w67))) KP) KP)
    (K (.bool false) w54))) KP) KP)
    (K (.bool false) w40))) KP) KP)
    (K (.bool false) w27))) KP) KP)
    (K (.bool false) w17))) KP)
    (K (.bool false) w8))) KP
theorem skeplaw06_On_alike_of {o : (Option Addr)} {w : World} {K : Value → World → Prop} {KP : List PanicEntry → World → Prop} (h : W.skeplaw06_On_alike o w K KP) : C.skeplaw06_On_alike o w K KP :=
  xcall (E := E) (T := mkTab [] [] [] [] [(1, [0, 1, 2, 3, 5, 6, 7, 8, 9, 10, 11, 4, 12, 13, 14, 15, 16, 17, 19, 20, 21, 22, 23, 24, 25, 18, 26, 27, 28, 29, 30, 31, 32, 34, 35, 36, 37, 33, 38, 39, 40, 41, 42, 43, 44, 45, 48, 49, 50, 51, 52, 53, 54, 46, 47, 55, 56, 57, 58, 59, 60, 61, 62, 63, 66, 67, 68, 69, 70, 71, 72, 64, 65, 73, 74, 75, 76, 77, 78, 79, 80, 81, 83, 84, 85, 86, 87, 88, 89, 82, 90, 91, 92, 93, 94, 95, 96, 97, 99, 100, 101, 102, 103, 104, 105, 98, 106, 107, 108, 109])] [(1, [0, 1, 3, 7, 15, 0, 32, 96, 224, 480, 992, 2016, 4095, 8191, 16383, 32767, 65535, 131071, 262143, 16383, 540671, 1589247, 3686399, 7880703, 16269311, 33046527, 67108863, 134217727, 268435455, 536870911, 1073741823, 2147483647, 4294967295, 8589934591, 536870911, 17716740095, 52076478463, 120795955199, 274877906943, 549755813887, 1099511627775, 2199023255551, 4398046511103, 8796093022207, 17592186044415, 35184372088831, 70368744177663, 140737488355327, 4398046511103, 285873023221759, 848822976643071, 1974722883485695, 4226522697170943, 8730122324541439, 17737321579282431, 35888059530608639, 71916856549572607, 144115188075855871, 288230376151711743, 576460752303423487, 1152921504606846975, 2305843009213693951, 4611686018427387903, 9223372036854775807, 18446744073709551615, 36893488147419103231, 1152921504606846975, 74939897799445053439, 222513850389121466367, 517661755568474292223, 1107957565927179943935, 2288549186644591247359, 4649732428079413854207, 9407839477591871324159, 18852572443331161751551, 37778931862957161709567, 75557863725914323419135, 151115727451828646838271, 302231454903657293676543, 604462909807314587353087, 1208925819614629174706175, 2417851639229258349412351, 4835703278458516698824703, 302231454903657293676543, 9973638011820690691325951, 29316451125654757486624767, 68002077353322891077222399, 145373329808659158258417663, 300115834719331692620808191, 609600844540676761345589247, 1237940039285380274899124223, 2475880078570760549798248447, 4951760157141521099596496895, 9903520314283042199192993791, 19807040628566084398385987583, 39614081257132168796771975167, 79228162514264337593543950335, 158456325028528675187087900671, 316912650057057350374175801343, 19807040628566084398385987583, 653632340742680785146737590271, 1921282940970910186643440795647, 4456584141427368989636847206399, 9527186542340286595623660027903, 19668391344166121807597285670911, 39950800947817792231544536956927, 81129638414606681695789005144063, 162259276829213363391578010288127, 324518553658426726783156020576255, 649037107316853453566312041152511])] [] []) (c := Try.f30.body.getD .skip) (rs := [.tmp 2]) ⟨⟩ mixed Try.func30 (by kernel_rfl) (by kernel_rfl) [.pointer o] (by kernel_rfl) (by kernel_rfl) (.inr (by kernel_rfl)) (Eq.mp (by kernel_rfl) h)

def W.disk_Disk_Append (d : (Option Addr)) (file : Int) (p2_ : Sl) (w : World) (K : Value → World → Prop) (KP : List PanicEntry → World → Prop) : Prop :=
   C.disk_Disk_file d file w (fun r3 w1 => ∃ p2 : (Option Addr), r3 = .pointer p2 ∧
    (cond p2.isNone
    (K (.int .i64 1) w1)
    (withSome p2 fun a4 =>
    ∃ y5 : Sl, (okVal false 1 (.slice y5.a y5.len y5.cap) = true ∧ w1.cell? (Addr.add a4 1) = some (.slice y5.a y5.len y5.cap)) ∧
    (cond (decide (((p2_.len : Int) : Int) > (IntKind.i64.wrap (16777216 - (y5.len : Int)))))
    (K (.int .i64 2) w1)
    ((cond (((p2_.len : Int) : Int) == 0)
    (K (.int .i64 0) w1)
    (∀ (b6 : Nat) (w7 : World), Alloc w1 b6 5 [] w7 →
    ∃ (q8 : Option Addr) (n9 c10 : Nat) (w11 : World), (Builtin.append_ #[27, 27] 27 #[.slice (some ⟨b6, 0, none⟩) 0 0, .slice p2_.a p2_.len p2_.cap]).run Try.prog w7 = .ok (.slice q8 n9 c10) w11 ∧
    withSome p2 fun a12 =>
    ∃ y13 : Sl, (okVal false 1 (.slice y13.a y13.len y13.cap) = true ∧ w11.cell? (Addr.add a12 1) = some (.slice y13.a y13.len y13.cap)) ∧
    ∃ (q14 : Option Addr) (n15 c16 : Nat) (w17 : World), (Builtin.append_ #[27, 27] 27 #[.slice y13.a y13.len y13.cap, .slice q8 n9 c10]).run Try.prog w11 = .ok (.slice q14 n15 c16) w17 ∧
    withSome p2 fun a18 =>
    (okVal false 1 (.slice q14 n15 c16) = true ∧ canPut w17 (Addr.add a18 1) (.slice q14 n15 c16)) ∧ ∀ w19 : World, w19 = putAt w17 (Addr.add a18 1) (.slice q14 n15 c16) →
    withSome p2 fun a20 =>
    ∃ y21 : Sl, (okVal false 1 (.slice y21.a y21.len y21.cap) = true ∧ w19.cell? (Addr.add a20 2) = some (.slice y21.a y21.len y21.cap)) ∧
    ∀ (b22 : Nat) (w23 : World), Alloc w19 b22 93 [.bool false, .int .i64 0, .slice q8 n9 c10] w23 →
    ∃ (q24 : Option Addr) (n25 c26 : Nat) (w27 : World), (Builtin.append_ #[65, 65] 65 #[.slice y21.a y21.len y21.cap, .slice (some ⟨b22, 0, none⟩) 1 1]).run Try.prog w23 = .ok (.slice q24 n25 c26) w27 ∧
    withSome p2 fun a28 =>
    (okVal false 1 (.slice q24 n25 c26) = true ∧ canPut w27 (Addr.add a28 2) (.slice q24 n25 c26)) ∧ ∀ w29 : World, w29 = putAt w27 (Addr.add a28 2) (.slice q24 n25 c26) →
    K (.int .i64 0) w29))))))) KP
theorem disk_Disk_Append_of {d : (Option Addr)} {file : Int} {p2_ : Sl} {w : World} {K : Value → World → Prop} {KP : List PanicEntry → World → Prop} (h : W.disk_Disk_Append d file p2_ w K KP) : C.disk_Disk_Append d file p2_ w K KP :=
  xcall (E := E) (T := mkTab [] [] [] [] [] [] [] []) (c := Try.f31.body.getD .skip) (rs := [.tmp 6]) ⟨⟩ mixed Try.func31 (by kernel_rfl) (by kernel_rfl) [.pointer d, .int .i64 file, .slice p2_.a p2_.len p2_.cap] (by kernel_rfl) (by kernel_rfl) (.inr (by kernel_rfl)) (Eq.mp (by kernel_rfl) h)

def W.skepref03_Disk_Append (d : (Option Addr)) (file : Int) (p2_ : Sl) (w : World) (K : Value → World → Prop) (KP : List PanicEntry → World → Prop) : Prop :=
   ∃ J1 : World → Prop,
    ((cond ((file : Int) != 0)
    ((cond ((file : Int) != 1)
    (K (.int .i64 1) w)
    (J1 w)))
    (J1 w))) ∧
    ∀ e0 : Env, ∀ w2 : World, J1 w2 →
    C.skepref03_Disk_Size d file w2 (fun r5 w3 => ∃ p4 : Int, r5 = .int .i64 p4 ∧
    (cond (decide (((IntKind.i64.wrap (p4 + (p2_.len : Int))) : Int) > 16777216))
    (K (.int .i64 2) w3)
    (∃ (I6 : Int → World → Prop) (M7 : Int → World → Nat),
    (∃ u8 : Int, (.int .i64 0 : Value) = .int .i64 u8 ∧ I6 u8 w3) ∧
    ∀ e0 : Env, ∀ v9 : Int, ∀ w10 : World, I6 v9 w10 →
    (cond (decide ((v9 : Int) < (p2_.len : Int)))
    (∀ w11, Drew w10 w11 →
    withSome d fun a12 =>
    ((0 : Int) ≤ file ∧ (file : Int) < (2 : Int)) ∧ ∃ y13 : Sl, (okVal false 1 (.slice y13.a y13.len y13.cap) = true ∧ w11.cell? (Addr.add (Addr.add a12 (file.toNat * 2)) 1) = some (.slice y13.a y13.len y13.cap)) ∧
    ((0 : Int) ≤ v9 ∧ (v9 : Int) < (p2_.len : Int)) ∧ withSome p2_.a fun a14 =>
    ∃ y15 : Int, (okVal false 1 (.int .u8 y15) = true ∧ w11.cell? (Addr.add a14 (v9.toNat * 1)) = some (.int .u8 y15)) ∧
    withSome d fun a16 =>
    ∀ (b17 : Nat) (w18 : World), Alloc w11 b17 109 [.int .u8 y15, .bool false, .int .i64 0] w18 →
    (w18.cell? (Addr.add (Addr.add a12 (file.toNat * 2)) 1) = some (.slice y13.a y13.len y13.cap)) ∧ ∃ (q19 : Option Addr) (n20 c21 : Nat) (w22 : World), (Builtin.append_ #[99, 99] 99 #[.slice y13.a y13.len y13.cap, .slice (some ⟨b17, 0, none⟩) 1 1]).run Try.prog w18 = .ok (.slice q19 n20 c21) w22 ∧
    ((0 : Int) ≤ file ∧ (file : Int) < (2 : Int)) ∧ (okVal false 1 (.slice q19 n20 c21) = true ∧ canPut w22 (Addr.add (Addr.add a16 (file.toNat * 2)) 1) (.slice q19 n20 c21)) ∧ ∀ w23 : World, w23 = putAt w22 (Addr.add (Addr.add a16 (file.toNat * 2)) 1) (.slice q19 n20 c21) →
    ∃ u24 : Int, (.int .i64 (IntKind.i64.wrap (v9 + 1)) : Value) = .int .i64 u24 ∧ (I6 u24 w23 ∧ M7 u24 w23 < M7 v9 w10))
    (K (.int .i64 0) w10))))) KP
theorem skepref03_Disk_Append_of {d : (Option Addr)} {file : Int} {p2_ : Sl} {w : World} {K : Value → World → Prop} {KP : List PanicEntry → World → Prop} (h : W.skepref03_Disk_Append d file p2_ w K KP) : C.skepref03_Disk_Append d file p2_ w K KP :=
  xcall (E := E) (T := mkTab [(6, [(7, 3)])] [(6, [7, 21, 22, 23, 24, 25, 26, 27, 28, 29, 30, 31, 32, 33, 34, 35, 36, 37, 38, 39, 40, 41, 42, 43, 44, 45, 46])] [(3, [])] [(3, [6, 8, 9, 10, 11, 12, 13])] [(8, [0, 1, 2, 3, 4, 5, 6, 7, 8, 9, 10, 11, 12, 13, 16, 17, 14, 15, 18, 19, 20])] [(8, [0, 0, 0, 0, 4, 20, 60, 124, 252, 0, 0, 1536, 3584, 7680, 15872, 32764, 1, 65537, 262143, 524287, 1048575])] [] []) (c := Try.f32.body.getD .skip) (rs := [.tmp 6]) ⟨⟩ mixed Try.func32 (by kernel_rfl) (by kernel_rfl) [.pointer d, .int .i64 file, .slice p2_.a p2_.len p2_.cap] (by kernel_rfl) (by kernel_rfl) (.inr (by kernel_rfl)) (Eq.mp (by kernel_rfl) h)

def W.disk_Disk_Sync (d : (Option Addr)) (file : Int) (w : World) (K : Value → World → Prop) (KP : List PanicEntry → World → Prop) : Prop :=
   C.disk_Disk_file d file w (fun r3 w1 => ∃ p2 : (Option Addr), r3 = .pointer p2 ∧
    (cond p2.isNone
    (K (.int .i64 1) w1)
    (∀ w4, Drew w1 w4 →
    withSome p2 fun a5 =>
    ∃ y6 : Sl, (okVal false 1 (.slice y6.a y6.len y6.cap) = true ∧ w4.cell? (Addr.add a5 1) = some (.slice y6.a y6.len y6.cap)) ∧
    withSome p2 fun a7 =>
    ∃ y8 : Sl, (okVal false 1 (.slice y8.a y8.len y8.cap) = true ∧ w4.cell? (Addr.add a7 1) = some (.slice y8.a y8.len y8.cap)) ∧
    withSome p2 fun a9 =>
    ∃ y10 : Sl, (okVal false 1 (.slice y10.a y10.len y10.cap) = true ∧ w4.cell? (Addr.add a9 1) = some (.slice y10.a y10.len y10.cap)) ∧
    ((0 : Int) ≤ (y10.len : Int) ∧ ((y10.len : Int) : Int) ≤ (y6.cap : Int)) ∧ ((0 : Int) ≤ (y8.len : Int) ∧ ((y8.len : Int) : Int) ≤ ((y10.len : Int).toNat : Int)) ∧ withSome p2 fun a11 =>
    (okVal false 1 (.slice (if (y10.len : Int).toNat = 0 then y6.a else Option.map (fun x => Addr.add x (0 * 1)) y6.a) ((y8.len : Int).toNat - 0) ((y10.len : Int).toNat - 0)) = true ∧ canPut w4 a11 (.slice (if (y10.len : Int).toNat = 0 then y6.a else Option.map (fun x => Addr.add x (0 * 1)) y6.a) ((y8.len : Int).toNat - 0) ((y10.len : Int).toNat - 0))) ∧ ∀ w12 : World, w12 = putAt w4 a11 (.slice (if (y10.len : Int).toNat = 0 then y6.a else Option.map (fun x => Addr.add x (0 * 1)) y6.a) ((y8.len : Int).toNat - 0) ((y10.len : Int).toNat - 0)) →
    withSome p2 fun a13 =>
    (okVal false 1 (.slice none 0 0) = true ∧ canPut w12 (Addr.add a13 2) (.slice none 0 0)) ∧ ∀ w14 : World, w14 = putAt w12 (Addr.add a13 2) (.slice none 0 0) →
    K (.int .i64 0) w14))) KP
theorem disk_Disk_Sync_of {d : (Option Addr)} {file : Int} {w : World} {K : Value → World → Prop} {KP : List PanicEntry → World → Prop} (h : W.disk_Disk_Sync d file w K KP) : C.disk_Disk_Sync d file w K KP :=
  xcall (E := E) (T := mkTab [] [] [] [] [(4, [0, 1, 2, 3, 4, 5, 6, 7, 8, 9, 10, 11, 12, 13, 14, 15, 16, 17, 18])] [(4, [0, 0, 2, 6, 14, 0, 32, 96, 224, 480, 0, 1024, 3072, 7168, 15360, 32766, 65535, 131071, 262143])] [] []) (c := Try.f33.body.getD .skip) (rs := [.tmp 4]) ⟨⟩ mixed Try.func33 (by kernel_rfl) (by kernel_rfl) [.pointer d, .int .i64 file] (by kernel_rfl) (by kernel_rfl) (.inr (by kernel_rfl)) (Eq.mp (by kernel_rfl) h)

def W.skepref03_Disk_Sync (d : (Option Addr)) (file : Int) (w : World) (K : Value → World → Prop) (KP : List PanicEntry → World → Prop) : Prop :=
   (cond ((file : Int) != 0)
    ((cond ((file : Int) != 1)
    (K (.int .i64 1) w)
    (∀ w1, Drew w w1 →
    withSome d fun a2 =>
    C.skepref03_Disk_Read d file w1 (fun r5 w3 => ∃ p4 : Sl, r5 = .slice p4.a p4.len p4.cap ∧
    ((0 : Int) ≤ file ∧ (file : Int) < (2 : Int)) ∧ (okVal true 2 (.agg #[.slice p4.a p4.len p4.cap, .slice none 0 0]) = true ∧ canPut w3 (Addr.add a2 (file.toNat * 2)) (.agg #[.slice p4.a p4.len p4.cap, .slice none 0 0])) ∧ ∀ w6 : World, w6 = putAt w3 (Addr.add a2 (file.toNat * 2)) (.agg #[.slice p4.a p4.len p4.cap, .slice none 0 0]) →
    K (.int .i64 0) w6) KP)))
    (∀ w7, Drew w w7 →
    withSome d fun a8 =>
    C.skepref03_Disk_Read d file w7 (fun r11 w9 => ∃ p10 : Sl, r11 = .slice p10.a p10.len p10.cap ∧
    ((0 : Int) ≤ file ∧ (file : Int) < (2 : Int)) ∧ (okVal true 2 (.agg #[.slice p10.a p10.len p10.cap, .slice none 0 0]) = true ∧ canPut w9 (Addr.add a8 (file.toNat * 2)) (.agg #[.slice p10.a p10.len p10.cap, .slice none 0 0])) ∧ ∀ w12 : World, w12 = putAt w9 (Addr.add a8 (file.toNat * 2)) (.agg #[.slice p10.a p10.len p10.cap, .slice none 0 0]) →
    K (.int .i64 0) w12) KP))
theorem skepref03_Disk_Sync_of {d : (Option Addr)} {file : Int} {w : World} {K : Value → World → Prop} {KP : List PanicEntry → World → Prop} (h : W.skepref03_Disk_Sync d file w K KP) : C.skepref03_Disk_Sync d file w K KP :=
  xcall (E := E) (T := mkTab [] [] [] [] [(3, [0, 1, 2, 3, 6, 7, 4, 5, 8, 9])] [(3, [0, 0, 0, 0, 12, 28, 1, 65, 255, 511])] [] []) (c := Try.f34.body.getD .skip) (rs := [.tmp 4]) ⟨⟩ mixed Try.func34 (by kernel_rfl) (by kernel_rfl) [.pointer d, .int .i64 file] (by kernel_rfl) (by kernel_rfl) (.inr (by kernel_rfl)) (Eq.mp (by kernel_rfl) h)

def W.wal_Open (d : (Option Addr)) (file : Int) (w : World) (K : Value → World → Prop) (KP : List PanicEntry → World → Prop) : Prop :=
   (cond d.isNone
    (K (.tuple #[.pointer none, .slice none 0 0, .int .i64 1]) w)
    ((cond (decide ((file : Int) < 0))
    (K (.tuple #[.pointer none, .slice none 0 0, .int .i64 1]) w)
    ((cond (decide ((file : Int) > 1))
    (K (.tuple #[.pointer none, .slice none 0 0, .int .i64 1]) w)
    (∀ (b1 : Nat) (w2 : World), Alloc w b1 111 [.pointer d, .int .i64 file] w2 →
    C.disk_Disk_Read d file w2 (fun r5 w3 => ∃ p4 : Sl, r5 = .slice p4.a p4.len p4.cap ∧
    ∀ (b6 : Nat) (w7 : World), Alloc w3 b6 22 [.slice none 0 0] w7 →
    ∀ (b8 : Nat) (w9 : World), Alloc w7 b8 3 [.int .i64 0] w9 →
    (okVal false 1 (.int .i64 0) = true ∧ canPut w9 ⟨b8, 0, none⟩ (.int .i64 0)) ∧ ∀ w10 : World, w10 = putAt w9 ⟨b8, 0, none⟩ (.int .i64 0) →
    C.wal_Log_Records (some ⟨b1, 0, none⟩) p4 w10 (fun r13 w11 => ∃ p12 : Value, r13 = p12 ∧
    ∀ (D14 L15 : Nat) (lr16 : LoopState → Option Code → Obj) (w17 : World), RFstart w11 D14 L15 lr16 w17 →
    ∀ y18 : Value, (∀ x21 : Int, ∀ x22 : Sl, ∀ (W19 : World) (RR20 : Value → World → Prop), W19.heap[L15]? = some (lr16 .ready none) →
    (W19.heap[L15]? = some (lr16 .ready none) ∧ ∀ w23 : World, w23 = W19.putObj L15 (lr16 .busy none) →
    ∃ y24 : Sl, (okVal false 1 (.slice y24.a y24.len y24.cap) = true ∧ w23.cell? ⟨b6, 0, none⟩ = some (.slice y24.a y24.len y24.cap)) ∧
    ∀ (b25 : Nat) (w26 : World), Alloc w23 b25 27 [.slice x22.a x22.len x22.cap] w26 →
    ∃ (q27 : Option Addr) (n28 c29 : Nat) (w30 : World), (Builtin.append_ #[22, 22] 22 #[.slice y24.a y24.len y24.cap, .slice (some ⟨b25, 0, none⟩) 1 1]).run Try.prog w26 = .ok (.slice q27 n28 c29) w30 ∧
    (okVal false 1 (.slice q27 n28 c29) = true ∧ canPut w30 ⟨b6, 0, none⟩ (.slice q27 n28 c29)) ∧ ∀ w31 : World, w31 = putAt w30 ⟨b6, 0, none⟩ (.slice q27 n28 c29) →
    (okVal false 1 (.int .i64 (IntKind.i64.wrap ((IntKind.i64.wrap (x21 + 8)) + (x22.len : Int)))) = true ∧ canPut w31 ⟨b8, 0, none⟩ (.int .i64 (IntKind.i64.wrap ((IntKind.i64.wrap (x21 + 8)) + (x22.len : Int))))) ∧ ∀ w32 : World, w32 = putAt w31 ⟨b8, 0, none⟩ (.int .i64 (IntKind.i64.wrap ((IntKind.i64.wrap (x21 + 8)) + (x22.len : Int)))) →
    w32.heap[L15]? = some (lr16 .busy none) ∧ ∀ w33 : World, w33 = w32.putObj L15 (lr16 .ready none) → RR20 (.bool true) w33) →
    callV Try.prog y18 [.int .i64 x21, .slice x22.a x22.len x22.cap] W19 (Ret RR20 fun _ _ => False)) →
    callF Try.prog p12 [y18] w17 (Ret (fun r34 w35 => ∃ (st37 : LoopState) (jump38 : Option Code), w35.heap[L15]? = some (lr16 st37 jump38) ∧ st37 ≠ .busy ∧ ∀ w36 : World, w36 = w35.putObj L15 (lr16 .exhausted jump38) →
    (match jump38 with
    | none => ∃ y39 : Int, (okVal false 1 (.int .i64 y39) = true ∧ w36.cell? ⟨b8, 0, none⟩ = some (.int .i64 y39)) ∧
    (cond (decide ((y39 : Int) < (p4.len : Int)))
    (∃ y40 : Int, (okVal false 1 (.int .i64 y40) = true ∧ w36.cell? ⟨b8, 0, none⟩ = some (.int .i64 y40)) ∧
    C.disk_Disk_Cut d file y40 w36 (fun r43 w41 => ∃ p42 : Int, r43 = .int .i64 p42 ∧
    C.disk_Disk_Sync d file w41 (fun r46 w44 => ∃ p45 : Int, r46 = .int .i64 p45 ∧
    ∀ w47, Drew w44 w47 →
    ∃ y48 : Sl, (okVal false 1 (.slice y48.a y48.len y48.cap) = true ∧ w47.cell? ⟨b6, 0, none⟩ = some (.slice y48.a y48.len y48.cap)) ∧
    xleave Try.prog [markD D14] .returning w47 (xendF (fun w49 => K (.tuple #[.pointer (some ⟨b1, 0, none⟩), .slice y48.a y48.len y48.cap, .int .i64 0]) w49) KP)) (fun ch50 w51 => xleave Try.prog [markD D14] (.panicking ch50) w51 (xendF (fun w52 => K (.tuple #[.pointer none, .slice none 0 0, .int .i64 0]) w52) KP))) (fun ch53 w54 => xleave Try.prog [markD D14] (.panicking ch53) w54 (xendF (fun w55 => K (.tuple #[.pointer none, .slice none 0 0, .int .i64 0]) w55) KP)))
    (∀ w56, Drew w36 w56 →
    ∃ y57 : Sl, (okVal false 1 (.slice y57.a y57.len y57.cap) = true ∧ w56.cell? ⟨b6, 0, none⟩ = some (.slice y57.a y57.len y57.cap)) ∧
    xleave Try.prog [markD D14] .returning w56 (xendF (fun w58 => K (.tuple #[.pointer (some ⟨b1, 0, none⟩), .slice y57.a y57.len y57.cap, .int .i64 0]) w58) KP)))
    | some (.exit i59) => (cond (Nat.beq i59 0)
    (∃ y60 : Int, (okVal false 1 (.int .i64 y60) = true ∧ w36.cell? ⟨b8, 0, none⟩ = some (.int .i64 y60)) ∧
    (cond (decide ((y60 : Int) < (p4.len : Int)))
    (∃ y61 : Int, (okVal false 1 (.int .i64 y61) = true ∧ w36.cell? ⟨b8, 0, none⟩ = some (.int .i64 y61)) ∧
    C.disk_Disk_Cut d file y61 w36 (fun r64 w62 => ∃ p63 : Int, r64 = .int .i64 p63 ∧
    C.disk_Disk_Sync d file w62 (fun r67 w65 => ∃ p66 : Int, r67 = .int .i64 p66 ∧
    ∀ w68, Drew w65 w68 →
    ∃ y69 : Sl, (okVal false 1 (.slice y69.a y69.len y69.cap) = true ∧ w68.cell? ⟨b6, 0, none⟩ = some (.slice y69.a y69.len y69.cap)) ∧
    xleave Try.prog [markD D14] .returning w68 (xendF (fun w70 => K (.tuple #[.pointer (some ⟨b1, 0, none⟩), .slice y69.a y69.len y69.cap, .int .i64 0]) w70) KP)) (fun ch71 w72 => xleave Try.prog [markD D14] (.panicking ch71) w72 (xendF (fun w73 => K (.tuple #[.pointer none, .slice none 0 0, .int .i64 0]) w73) KP))) (fun ch74 w75 => xleave Try.prog [markD D14] (.panicking ch74) w75 (xendF (fun w76 => K (.tuple #[.pointer none, .slice none 0 0, .int .i64 0]) w76) KP)))
    (∀ w77, Drew w36 w77 →
    ∃ y78 : Sl, (okVal false 1 (.slice y78.a y78.len y78.cap) = true ∧ w77.cell? ⟨b6, 0, none⟩ = some (.slice y78.a y78.len y78.cap)) ∧
    xleave Try.prog [markD D14] .returning w77 (xendF (fun w79 => K (.tuple #[.pointer (some ⟨b1, 0, none⟩), .slice y78.a y78.len y78.cap, .int .i64 0]) w79) KP))))
    (False))
    | some .ret => xleave Try.prog [markD D14] .returning w36 (xendF (fun w80 => K (.tuple #[.pointer none, .slice none 0 0, .int .i64 0]) w80) KP)
    | _ => False)) (fun ch81 w82 => xleave Try.prog [markD D14] (.panicking ch81) w82 (xendF (fun w83 => K (.tuple #[.pointer none, .slice none 0 0, .int .i64 0]) w83) KP)))) KP) KP))))))
theorem wal_Open_of {d : (Option Addr)} {file : Int} {w : World} {K : Value → World → Prop} {KP : List PanicEntry → World → Prop} (h : W.wal_Open d file w K KP) : C.wal_Open d file w K KP :=
  xcall (E := E) (T := mkTab [(1000010, [(33, 3), (34, 27)])] [(1000010, [])] [] [] [(15, [0, 1, 2, 3, 4])] [(15, [0, 0, 1, 7, 15])] [] []) (c := Try.f35.body.getD .skip) (rs := [.tmp 4, .tmp 5, .tmp 6]) ⟨⟩ mixed Try.func35 (by kernel_rfl) (by kernel_rfl) [.pointer d, .int .i64 file] (by kernel_rfl) (by kernel_rfl) (.inr (by kernel_rfl)) (Eq.mp (by kernel_rfl) h)

def W.store_heads (l : Sl) (w : World) (K : Value → World → Prop) (KP : List PanicEntry → World → Prop) : Prop :=
   ∀ (b1 : Nat) (w2 : World), Alloc w b1 77 [.int .i64 0, .int .i64 0, .slice none 0 0, .bool false] w2 →
    (cond (((l.len : Int) : Int) == 0)
    ((okVal true 4 (.agg #[.int .i64 0, .int .i64 0, .slice none 0 0, .bool false]) = true ∧ canPut w2 ⟨b1, 0, none⟩ (.agg #[.int .i64 0, .int .i64 0, .slice none 0 0, .bool false])) ∧ ∀ w3 : World, w3 = putAt w2 ⟨b1, 0, none⟩ (.agg #[.int .i64 0, .int .i64 0, .slice none 0 0, .bool false]) →
    ∃ y4 : S.store_head, (okVal true 4 (S.store_head.v y4) = true ∧ rd w3 ⟨b1, 0, none⟩ (S.store_head.v y4)) ∧ K (S.store_head.v y4) w3)
    (((0 : Int) ≤ 0 ∧ (0 : Int) < (l.len : Int)) ∧ withSome l.a fun a5 =>
    ∃ y6 : Sl, (okVal false 1 (.slice y6.a y6.len y6.cap) = true ∧ w2.cell? a5 = some (.slice y6.a y6.len y6.cap)) ∧
    C.codec_GetNumber y6 0 w2 (fun r9 w7 => ∃ p8 : (Int × Int × Bool), r9 = .tuple #[.int .i64 p8.1, .int .i64 p8.2.1, .bool p8.2.2] ∧
    ((0 : Int) ≤ 0 ∧ (0 : Int) < (l.len : Int)) ∧ withSome l.a fun a10 =>
    ∃ y11 : Sl, (okVal false 1 (.slice y11.a y11.len y11.cap) = true ∧ w7.cell? a10 = some (.slice y11.a y11.len y11.cap)) ∧
    C.codec_GetNumber y11 p8.2.1 w7 (fun r14 w12 => ∃ p13 : (Int × Int × Bool), r14 = .tuple #[.int .i64 p13.1, .int .i64 p13.2.1, .bool p13.2.2] ∧
    (cond (!p8.2.2)
    ((okVal true 4 (.agg #[.int .i64 0, .int .i64 0, .slice none 0 0, .bool false]) = true ∧ canPut w12 ⟨b1, 0, none⟩ (.agg #[.int .i64 0, .int .i64 0, .slice none 0 0, .bool false])) ∧ ∀ w15 : World, w15 = putAt w12 ⟨b1, 0, none⟩ (.agg #[.int .i64 0, .int .i64 0, .slice none 0 0, .bool false]) →
    ∃ y16 : S.store_head, (okVal true 4 (S.store_head.v y16) = true ∧ rd w15 ⟨b1, 0, none⟩ (S.store_head.v y16)) ∧ K (S.store_head.v y16) w15)
    ((cond (!p13.2.2)
    ((okVal true 4 (.agg #[.int .i64 0, .int .i64 0, .slice none 0 0, .bool false]) = true ∧ canPut w12 ⟨b1, 0, none⟩ (.agg #[.int .i64 0, .int .i64 0, .slice none 0 0, .bool false])) ∧ ∀ w17 : World, w17 = putAt w12 ⟨b1, 0, none⟩ (.agg #[.int .i64 0, .int .i64 0, .slice none 0 0, .bool false]) →
    ∃ y18 : S.store_head, (okVal true 4 (S.store_head.v y18) = true ∧ rd w17 ⟨b1, 0, none⟩ (S.store_head.v y18)) ∧ K (S.store_head.v y18) w17)
    ((cond (decide ((p8.1 : Int) < 1))
    ((okVal true 4 (.agg #[.int .i64 0, .int .i64 0, .slice none 0 0, .bool false]) = true ∧ canPut w12 ⟨b1, 0, none⟩ (.agg #[.int .i64 0, .int .i64 0, .slice none 0 0, .bool false])) ∧ ∀ w19 : World, w19 = putAt w12 ⟨b1, 0, none⟩ (.agg #[.int .i64 0, .int .i64 0, .slice none 0 0, .bool false]) →
    ∃ y20 : S.store_head, (okVal true 4 (S.store_head.v y20) = true ∧ rd w19 ⟨b1, 0, none⟩ (S.store_head.v y20)) ∧ K (S.store_head.v y20) w19)
    ((cond (decide ((p8.1 : Int) > 1152921504606846976))
    ((okVal true 4 (.agg #[.int .i64 0, .int .i64 0, .slice none 0 0, .bool false]) = true ∧ canPut w12 ⟨b1, 0, none⟩ (.agg #[.int .i64 0, .int .i64 0, .slice none 0 0, .bool false])) ∧ ∀ w21 : World, w21 = putAt w12 ⟨b1, 0, none⟩ (.agg #[.int .i64 0, .int .i64 0, .slice none 0 0, .bool false]) →
    ∃ y22 : S.store_head, (okVal true 4 (S.store_head.v y22) = true ∧ rd w21 ⟨b1, 0, none⟩ (S.store_head.v y22)) ∧ K (S.store_head.v y22) w21)
    ((cond (decide ((p13.1 : Int) < 0))
    ((okVal true 4 (.agg #[.int .i64 0, .int .i64 0, .slice none 0 0, .bool false]) = true ∧ canPut w12 ⟨b1, 0, none⟩ (.agg #[.int .i64 0, .int .i64 0, .slice none 0 0, .bool false])) ∧ ∀ w23 : World, w23 = putAt w12 ⟨b1, 0, none⟩ (.agg #[.int .i64 0, .int .i64 0, .slice none 0 0, .bool false]) →
    ∃ y24 : S.store_head, (okVal true 4 (S.store_head.v y24) = true ∧ rd w23 ⟨b1, 0, none⟩ (S.store_head.v y24)) ∧ K (S.store_head.v y24) w23)
    ((cond (decide ((p13.1 : Int) > 1152921504606846976))
    ((okVal true 4 (.agg #[.int .i64 0, .int .i64 0, .slice none 0 0, .bool false]) = true ∧ canPut w12 ⟨b1, 0, none⟩ (.agg #[.int .i64 0, .int .i64 0, .slice none 0 0, .bool false])) ∧ ∀ w25 : World, w25 = putAt w12 ⟨b1, 0, none⟩ (.agg #[.int .i64 0, .int .i64 0, .slice none 0 0, .bool false]) →
    ∃ y26 : S.store_head, (okVal true 4 (S.store_head.v y26) = true ∧ rd w25 ⟨b1, 0, none⟩ (S.store_head.v y26)) ∧ K (S.store_head.v y26) w25)
    (((0 : Int) ≤ 0 ∧ (0 : Int) < (l.len : Int)) ∧ withSome l.a fun a27 =>
    ∃ y28 : Sl, (okVal false 1 (.slice y28.a y28.len y28.cap) = true ∧ w12.cell? a27 = some (.slice y28.a y28.len y28.cap)) ∧
    ((0 : Int) ≤ p13.2.1 ∧ (p13.2.1 : Int) ≤ (y28.len : Int)) ∧ (okVal true 4 (.agg #[.int .i64 p8.1, .int .i64 p13.1, .slice (if y28.cap = p13.2.1.toNat then y28.a else Option.map (fun x => Addr.add x (p13.2.1.toNat * 1)) y28.a) (y28.len - p13.2.1.toNat) (y28.cap - p13.2.1.toNat), .bool true]) = true ∧ canPut w12 ⟨b1, 0, none⟩ (.agg #[.int .i64 p8.1, .int .i64 p13.1, .slice (if y28.cap = p13.2.1.toNat then y28.a else Option.map (fun x => Addr.add x (p13.2.1.toNat * 1)) y28.a) (y28.len - p13.2.1.toNat) (y28.cap - p13.2.1.toNat), .bool true])) ∧ ∀ w29 : World, w29 = putAt w12 ⟨b1, 0, none⟩ (.agg #[.int .i64 p8.1, .int .i64 p13.1, .slice (if y28.cap = p13.2.1.toNat then y28.a else Option.map (fun x => Addr.add x (p13.2.1.toNat * 1)) y28.a) (y28.len - p13.2.1.toNat) (y28.cap - p13.2.1.toNat), .bool true]) →
    ∃ y30 : S.store_head, (okVal true 4 (S.store_head.v y30) = true ∧ rd w29 ⟨b1, 0, none⟩ (S.store_head.v y30)) ∧ K (S.store_head.v y30) w29))))))))))))) KP) KP))
theorem store_heads_of {l : Sl} {w : World} {K : Value → World → Prop} {KP : List PanicEntry → World → Prop} (h : W.store_heads l w K KP) : C.store_heads l w K KP :=
  xcall (E := E) (T := mkTab [] [] [] [] [] [] [] []) (c := Try.f36.body.getD .skip) (rs := [.cell 2 77]) ⟨⟩ mixed Try.func36 (by kernel_rfl) (by kernel_rfl) [.slice l.a l.len l.cap] (by kernel_rfl) (by kernel_rfl) (.inr (by kernel_rfl)) (Eq.mp (by kernel_rfl) h)

def W.wal_Log_Erase (l : (Option Addr)) (w : World) (K : Value → World → Prop) (KP : List PanicEntry → World → Prop) : Prop :=
   (cond l.isNone
    (K (.int .i64 1) w)
    (withSome l fun a1 =>
    ∃ y2 : (Option Addr), (okVal false 1 (.pointer y2) = true ∧ w.cell? a1 = some (.pointer y2)) ∧
    (cond y2.isNone
    (K (.int .i64 1) w)
    (∀ w3, Drew w w3 →
    withSome l fun a4 =>
    ∃ y5 : (Option Addr), (okVal false 1 (.pointer y5) = true ∧ w3.cell? a4 = some (.pointer y5)) ∧
    withSome l fun a6 =>
    ∃ y7 : Int, (okVal false 1 (.int .i64 y7) = true ∧ w3.cell? (Addr.add a6 1) = some (.int .i64 y7)) ∧
    C.disk_Disk_Cut y5 y7 0 w3 (fun r10 w8 => ∃ p9 : Int, r10 = .int .i64 p9 ∧
    K (.int .i64 p9) w8) KP))))
theorem wal_Log_Erase_of {l : (Option Addr)} {w : World} {K : Value → World → Prop} {KP : List PanicEntry → World → Prop} (h : W.wal_Log_Erase l w K KP) : C.wal_Log_Erase l w K KP :=
  xcall (E := E) (T := mkTab [] [] [] [] [(3, [0, 1, 2, 3, 4, 5, 6, 7, 8, 9])] [(3, [0, 1, 3, 7, 0, 16, 48, 112, 255, 511])] [] []) (c := Try.f37.body.getD .skip) (rs := [.tmp 2]) ⟨⟩ mixed Try.func37 (by kernel_rfl) (by kernel_rfl) [.pointer l] (by kernel_rfl) (by kernel_rfl) (.inr (by kernel_rfl)) (Eq.mp (by kernel_rfl) h)

def W.wal_Log_Sync (l : (Option Addr)) (w : World) (K : Value → World → Prop) (KP : List PanicEntry → World → Prop) : Prop :=
   (cond l.isNone
    (K (.int .i64 1) w)
    (withSome l fun a1 =>
    ∃ y2 : (Option Addr), (okVal false 1 (.pointer y2) = true ∧ w.cell? a1 = some (.pointer y2)) ∧
    (cond y2.isNone
    (K (.int .i64 1) w)
    (∀ w3, Drew w w3 →
    withSome l fun a4 =>
    ∃ y5 : (Option Addr), (okVal false 1 (.pointer y5) = true ∧ w3.cell? a4 = some (.pointer y5)) ∧
    withSome l fun a6 =>
    ∃ y7 : Int, (okVal false 1 (.int .i64 y7) = true ∧ w3.cell? (Addr.add a6 1) = some (.int .i64 y7)) ∧
    C.disk_Disk_Sync y5 y7 w3 (fun r10 w8 => ∃ p9 : Int, r10 = .int .i64 p9 ∧
    K (.int .i64 p9) w8) KP))))
theorem wal_Log_Sync_of {l : (Option Addr)} {w : World} {K : Value → World → Prop} {KP : List PanicEntry → World → Prop} (h : W.wal_Log_Sync l w K KP) : C.wal_Log_Sync l w K KP :=
  xcall (E := E) (T := mkTab [] [] [] [] [(3, [0, 1, 2, 3, 4, 5, 6, 7, 8, 9])] [(3, [0, 1, 3, 7, 0, 16, 48, 112, 255, 511])] [] []) (c := Try.f38.body.getD .skip) (rs := [.tmp 2]) ⟨⟩ mixed Try.func38 (by kernel_rfl) (by kernel_rfl) [.pointer l] (by kernel_rfl) (by kernel_rfl) (.inr (by kernel_rfl)) (Eq.mp (by kernel_rfl) h)

def W.wal_Log_Append (l : (Option Addr)) (p1_ : Sl) (w : World) (K : Value → World → Prop) (KP : List PanicEntry → World → Prop) : Prop :=
   (cond l.isNone
    (K (.int .i64 1) w)
    (withSome l fun a1 =>
    ∃ y2 : (Option Addr), (okVal false 1 (.pointer y2) = true ∧ w.cell? a1 = some (.pointer y2)) ∧
    (cond y2.isNone
    (K (.int .i64 1) w)
    ((cond (decide (((p1_.len : Int) : Int) < 1))
    (K (.int .i64 1) w)
    ((cond (decide (((p1_.len : Int) : Int) > 65536))
    (K (.int .i64 1) w)
    (C.wal_number (IntKind.u32.wrap (p1_.len : Int)) w (fun r5 w3 => ∃ p4 : Sl, r5 = .slice p4.a p4.len p4.cap ∧
    C.crc_Of p4 w3 (fun r8 w6 => ∃ p7 : Int, r8 = .int .u32 p7 ∧
    C.crc_More p7 p1_ w6 (fun r11 w9 => ∃ p10 : Int, r11 = .int .u32 p10 ∧
    ∀ w12, Drew w9 w12 →
    withSome l fun a13 =>
    ∃ y14 : (Option Addr), (okVal false 1 (.pointer y14) = true ∧ w12.cell? a13 = some (.pointer y14)) ∧
    withSome l fun a15 =>
    ∃ y16 : Int, (okVal false 1 (.int .i64 y16) = true ∧ w12.cell? (Addr.add a15 1) = some (.int .i64 y16)) ∧
    C.wal_number p10 w12 (fun r19 w17 => ∃ p18 : Sl, r19 = .slice p18.a p18.len p18.cap ∧
    (w17.cell? (Addr.add a15 1) = some (.int .i64 y16)) ∧ (w17.cell? a13 = some (.pointer y14)) ∧ ∃ (q20 : Option Addr) (n21 c22 : Nat) (w23 : World), (Builtin.append_ #[27, 27] 27 #[.slice p4.a p4.len p4.cap, .slice p18.a p18.len p18.cap]).run Try.prog w17 = .ok (.slice q20 n21 c22) w23 ∧
    (w23.cell? (Addr.add a15 1) = some (.int .i64 y16)) ∧ (w23.cell? a13 = some (.pointer y14)) ∧ ∃ (q24 : Option Addr) (n25 c26 : Nat) (w27 : World), (Builtin.append_ #[27, 27] 27 #[.slice q20 n21 c22, .slice p1_.a p1_.len p1_.cap]).run Try.prog w23 = .ok (.slice q24 n25 c26) w27 ∧
    (w27.cell? (Addr.add a15 1) = some (.int .i64 y16)) ∧ (w27.cell? a13 = some (.pointer y14)) ∧ C.disk_Disk_Append y14 y16 (⟨q24, n25, c26⟩) w27 (fun r30 w28 => ∃ p29 : Int, r30 = .int .i64 p29 ∧
    K (.int .i64 p29) w28) KP) KP) KP) KP) KP))))))))
theorem wal_Log_Append_of {l : (Option Addr)} {p1_ : Sl} {w : World} {K : Value → World → Prop} {KP : List PanicEntry → World → Prop} (h : W.wal_Log_Append l p1_ w K KP) : C.wal_Log_Append l p1_ w K KP :=
  xcall (E := E) (T := mkTab [] [] [] [] [(5, [0, 1, 2, 3, 4, 5, 6, 7, 8, 9, 12, 10, 11, 13, 14, 15])] [(5, [0, 1, 3, 7, 0, 16, 48, 112, 0, 0, 512, 1792, 0, 7936, 16383, 32767])] [] []) (c := Try.f39.body.getD .skip) (rs := [.tmp 4]) ⟨⟩ mixed Try.func39 (by kernel_rfl) (by kernel_rfl) [.pointer l, .slice p1_.a p1_.len p1_.cap] (by kernel_rfl) (by kernel_rfl) (.inr (by kernel_rfl)) (Eq.mp (by kernel_rfl) h)

def W.codec_PutNumber (p0_ : Sl) (v : Int) (w : World) (K : Value → World → Prop) (KP : List PanicEntry → World → Prop) : Prop :=
   ((0 : Int) ≤ (p0_.len : Int) ∧ ((p0_.len : Int) : Int) ≤ (IntKind.i64.wrap ((p0_.len : Int) + 10)) ∧ (1 : Int) * (IntKind.i64.wrap ((p0_.len : Int) + 10)) ≤ 281474976710656 ∧ ((IntKind.i64.wrap ((p0_.len : Int) + 10)) : Int) ≤ 9223372036854775807) ∧ ∀ (b1 : Nat) (w2 : World), Alloc w b1 5 (madeCells #[.int .u8 0] ((IntKind.i64.wrap ((p0_.len : Int) + 10)).toNat * 1)).toList w2 →
    ∃ (n3 : Int) (w4 : World), (Builtin.copy_ #[27, 27] 3 #[.slice (some ⟨b1, 0, none⟩) ((p0_.len : Int).toNat) ((IntKind.i64.wrap ((p0_.len : Int) + 10)).toNat), .slice p0_.a p0_.len p0_.cap]).run Try.prog w2 = .ok (.int .i64 n3) w4 ∧
    C.codec_number (⟨(some ⟨b1, 0, none⟩), (p0_.len : Int).toNat, (IntKind.i64.wrap ((p0_.len : Int) + 10)).toNat⟩) v w4 (fun r7 w5 => ∃ p6 : Sl, r7 = .slice p6.a p6.len p6.cap ∧
    K (.slice p6.a p6.len p6.cap) w5) KP
theorem codec_PutNumber_of {p0_ : Sl} {v : Int} {w : World} {K : Value → World → Prop} {KP : List PanicEntry → World → Prop} (h : W.codec_PutNumber p0_ v w K KP) : C.codec_PutNumber p0_ v w K KP :=
  xcall (E := E) (T := mkTab [] [] [] [] [] [] [] []) (c := Try.f40.body.getD .skip) (rs := [.tmp 4]) ⟨⟩ mixed Try.func40 (by kernel_rfl) (by kernel_rfl) [.slice p0_.a p0_.len p0_.cap, .int .i64 v] (by kernel_rfl) (by kernel_rfl) (.inr (by kernel_rfl)) (Eq.mp (by kernel_rfl) h)

def W.store_numbered (l : Sl) (w : World) (K : Value → World → Prop) (KP : List PanicEntry → World → Prop) : Prop :=
   ∀ (b1 : Nat) (w2 : World), Alloc w b1 22 [.slice l.a l.len l.cap] w2 →
    K (.func (.func 65) #[] #[.pointer (some ⟨b1, 0, none⟩)]) w2
theorem store_numbered_of {l : Sl} {w : World} {K : Value → World → Prop} {KP : List PanicEntry → World → Prop} (h : W.store_numbered l w K KP) : C.store_numbered l w K KP :=
  xcall (E := E) (T := mkTab [] [] [] [] [] [] [] []) (c := Try.f41.body.getD .skip) (rs := [.tmp 2]) ⟨⟩ mixed Try.func41 (by kernel_rfl) (by kernel_rfl) [.slice l.a l.len l.cap] (by kernel_rfl) (by kernel_rfl) (.inr (by kernel_rfl)) (Eq.mp (by kernel_rfl) h)

def W.wal_Log_Size (l : (Option Addr)) (w : World) (K : Value → World → Prop) (KP : List PanicEntry → World → Prop) : Prop :=
   (cond l.isNone
    (K (.int .i64 0) w)
    (withSome l fun a1 =>
    ∃ y2 : (Option Addr), (okVal false 1 (.pointer y2) = true ∧ w.cell? a1 = some (.pointer y2)) ∧
    (cond y2.isNone
    (K (.int .i64 0) w)
    (∀ w3, Drew w w3 →
    withSome l fun a4 =>
    ∃ y5 : (Option Addr), (okVal false 1 (.pointer y5) = true ∧ w3.cell? a4 = some (.pointer y5)) ∧
    withSome l fun a6 =>
    ∃ y7 : Int, (okVal false 1 (.int .i64 y7) = true ∧ w3.cell? (Addr.add a6 1) = some (.int .i64 y7)) ∧
    C.disk_Disk_Size y5 y7 w3 (fun r10 w8 => ∃ p9 : Int, r10 = .int .i64 p9 ∧
    K (.int .i64 p9) w8) KP))))
theorem wal_Log_Size_of {l : (Option Addr)} {w : World} {K : Value → World → Prop} {KP : List PanicEntry → World → Prop} (h : W.wal_Log_Size l w K KP) : C.wal_Log_Size l w K KP :=
  xcall (E := E) (T := mkTab [] [] [] [] [(3, [0, 1, 2, 3, 4, 5, 6, 7, 8, 9])] [(3, [0, 1, 3, 7, 0, 16, 48, 112, 255, 511])] [] []) (c := Try.f42.body.getD .skip) (rs := [.tmp 2]) ⟨⟩ mixed Try.func42 (by kernel_rfl) (by kernel_rfl) [.pointer l] (by kernel_rfl) (by kernel_rfl) (.inr (by kernel_rfl)) (Eq.mp (by kernel_rfl) h)

def W.disk_Disk_file (d : (Option Addr)) (n : Int) (w : World) (K : Value → World → Prop) (KP : List PanicEntry → World → Prop) : Prop :=
   (cond d.isNone
    (K (.pointer none) w)
    ((cond (decide ((n : Int) < 0))
    (K (.pointer none) w)
    ((cond (decide ((n : Int) ≥ 2))
    (K (.pointer none) w)
    (withSome d fun a1 =>
    ((0 : Int) ≤ n ∧ (n : Int) < (2 : Int)) ∧ K (.pointer (some (Addr.add a1 (n.toNat * 3)))) w))))))
theorem disk_Disk_file_of {d : (Option Addr)} {n : Int} {w : World} {K : Value → World → Prop} {KP : List PanicEntry → World → Prop} (h : W.disk_Disk_file d n w K KP) : C.disk_Disk_file d n w K KP :=
  xcall (E := E) (T := mkTab [] [] [] [] [] [] [] []) (c := Try.f43.body.getD .skip) (rs := [.tmp 4]) ⟨⟩ mixed Try.func43 (by kernel_rfl) (by kernel_rfl) [.pointer d, .int .i64 n] (by kernel_rfl) (by kernel_rfl) (.inr (by kernel_rfl)) (Eq.mp (by kernel_rfl) h)

def W.skepref04_Four (v : Int) (w : World) (K : Value → World → Prop) (KP : List PanicEntry → World → Prop) : Prop :=
   (0 : Int) ≤ 8 ∧ (0 : Int) ≤ 16 ∧ (0 : Int) ≤ 24 ∧ ∀ (b1 : Nat) (w2 : World), Alloc w b1 5 [.int .u8 (IntKind.u8.wrap v), .int .u8 (IntKind.u8.wrap (shrI .u32 v 8)), .int .u8 (IntKind.u8.wrap (shrI .u32 v 16)), .int .u8 (IntKind.u8.wrap (shrI .u32 v 24))] w2 →
    K (.slice (some ⟨b1, 0, none⟩) 4 4) w2
theorem skepref04_Four_of {v : Int} {w : World} {K : Value → World → Prop} {KP : List PanicEntry → World → Prop} (h : W.skepref04_Four v w K KP) : C.skepref04_Four v w K KP :=
  xcall (E := E) (T := mkTab [] [] [] [] [] [] [] []) (c := Try.f44.body.getD .skip) (rs := [.tmp 2]) ⟨⟩ mixed Try.func44 (by kernel_rfl) (by kernel_rfl) [.int .u32 v] (by kernel_rfl) (by kernel_rfl) (.inr (by kernel_rfl)) (Eq.mp (by kernel_rfl) h)

def W.skepref02_Of (p0_ : Sl) (w : World) (K : Value → World → Prop) (KP : List PanicEntry → World → Prop) : Prop :=
   C.skepref02_More 0 p0_ w (fun r3 w1 => ∃ p2 : Int, r3 = .int .u32 p2 ∧
    K (.int .u32 p2) w1) KP
theorem skepref02_Of_of {p0_ : Sl} {w : World} {K : Value → World → Prop} {KP : List PanicEntry → World → Prop} (h : W.skepref02_Of p0_ w K KP) : C.skepref02_Of p0_ w K KP :=
  xcall (E := E) (T := mkTab [] [] [] [] [] [] [] []) (c := Try.f45.body.getD .skip) (rs := [.tmp 2]) ⟨⟩ mixed Try.func45 (by kernel_rfl) (by kernel_rfl) [.slice p0_.a p0_.len p0_.cap] (by kernel_rfl) (by kernel_rfl) (.inr (by kernel_rfl)) (Eq.mp (by kernel_rfl) h)

def W.skepref05_Number (v : Int) (w : World) (K : Value → World → Prop) (KP : List PanicEntry → World → Prop) : Prop :=
   (0 : Int) ≤ 1 ∧ ∃ J1 : Int → World → Prop,
    ((cond (decide ((v : Int) < 0))
    ((0 : Int) ≤ 1 ∧ ∃ u2 : Int, (.int .u64 (IntKind.u64.wrap ((shlI .u64 (IntKind.u64.wrap (IntKind.i64.wrap (0 - (IntKind.i64.wrap (v + 1))))) 1) + 1)) : Value) = .int .u64 u2 ∧ J1 u2 w)
    (∃ u3 : Int, (.int .u64 (shlI .u64 (IntKind.u64.wrap v) 1) : Value) = .int .u64 u3 ∧ J1 u3 w))) ∧
    ∀ e0 : Env, ∀ v4 : Int, ∀ w5 : World, J1 v4 w5 →
    ∃ (I6 : Int → Sl → World → Prop) (M7 : Int → Sl → World → Nat),
    (∃ u8 : Int, (.int .u64 v4 : Value) = .int .u64 u8 ∧ ∃ u9 : Sl, (.slice none 0 0 : Value) = .slice u9.a u9.len u9.cap ∧ I6 u8 u9 w5) ∧
    ∀ e0 : Env, ∀ v10 : Int, ∀ v11 : Sl, ∀ w12 : World, I6 v10 v11 w12 →
    (cond (decide ((v10 : Int) ≥ 128))
    ((128 : Int) ≠ 0 ∧ ∀ (b13 : Nat) (w14 : World), Alloc w12 b13 5 [.int .u8 (IntKind.u8.wrap ((IntKind.u8.wrap (Int.tmod v10 128)) + 128))] w14 →
    ∃ (q15 : Option Addr) (n16 c17 : Nat) (w18 : World), (Builtin.append_ #[27, 27] 27 #[.slice v11.a v11.len v11.cap, .slice (some ⟨b13, 0, none⟩) 1 1]).run Try.prog w14 = .ok (.slice q15 n16 c17) w18 ∧
    (128 : Int) ≠ 0 ∧ ∃ u19 : Int, (.int .u64 (IntKind.u64.wrap (Int.tdiv v10 128)) : Value) = .int .u64 u19 ∧ ∃ u20 : Sl, (.slice q15 n16 c17 : Value) = .slice u20.a u20.len u20.cap ∧ (I6 u19 u20 w18 ∧ M7 u19 u20 w18 < M7 v10 v11 w12))
    (∀ (b21 : Nat) (w22 : World), Alloc w12 b21 5 [.int .u8 (IntKind.u8.wrap v10)] w22 →
    ∃ (q23 : Option Addr) (n24 c25 : Nat) (w26 : World), (Builtin.append_ #[27, 27] 27 #[.slice v11.a v11.len v11.cap, .slice (some ⟨b21, 0, none⟩) 1 1]).run Try.prog w22 = .ok (.slice q23 n24 c25) w26 ∧
    K (.slice q23 n24 c25) w26))
theorem skepref05_Number_of {v : Int} {w : World} {K : Value → World → Prop} {KP : List PanicEntry → World → Prop} (h : W.skepref05_Number v w K KP) : C.skepref05_Number v w K KP :=
  xcall (E := E) (T := mkTab [(5, [(3, 119), (4, 27)])] [(5, [3, 4, 16, 17, 18, 19, 20, 21, 22, 23, 24, 25, 26])] [(4, [(3, 119)])] [(4, [3, 8, 9, 10, 11, 12, 13, 14, 15])] [] [] [] []) (c := Try.f46.body.getD .skip) (rs := [.tmp 2]) ⟨⟩ mixed Try.func46 (by kernel_rfl) (by kernel_rfl) [.int .i64 v] (by kernel_rfl) (by kernel_rfl) (.inr (by kernel_rfl)) (Eq.mp (by kernel_rfl) h)

def W.disk_done_units (p0_ : S.disk_done) (w : World) (K : Value → World → Prop) (KP : List PanicEntry → World → Prop) : Prop :=
   ∀ (b1 : Nat) (w2 : World), Alloc w b1 93 (S.disk_done.v p0_ : Value).cells.toList w2 →
    ∃ y3 : Bool, (okVal false 1 (.bool y3) = true ∧ w2.cell? ⟨b1, 0, none⟩ = some (.bool y3)) ∧
    (cond y3
    (K (.int .i64 1) w2)
    (∃ y4 : Sl, (okVal false 1 (.slice y4.a y4.len y4.cap) = true ∧ w2.cell? ⟨b1, 2, none⟩ = some (.slice y4.a y4.len y4.cap)) ∧
    K (.int .i64 (y4.len : Int)) w2))
theorem disk_done_units_of {p0_ : S.disk_done} {w : World} {K : Value → World → Prop} {KP : List PanicEntry → World → Prop} (h : W.disk_done_units p0_ w K KP) : C.disk_done_units p0_ w K KP :=
  xcall (E := E) (T := mkTab [] [] [] [] [] [] [] []) (c := Try.f47.body.getD .skip) (rs := [.tmp 2]) ⟨⟩ mixed Try.func47 (by kernel_rfl) (by kernel_rfl) [S.disk_done.v p0_] (by kernel_rfl) (by kernel_rfl) (.inr (by kernel_rfl)) (Eq.mp (by kernel_rfl) h)

def W.skepref06_Open (d : (Option Addr)) (w : World) (K : Value → World → Prop) (KP : List PanicEntry → World → Prop) : Prop :=
   ∀ (b1 : Nat) (w2 : World), Alloc w b1 121 [.slice none 0 0, .slice none 0 0] w2 →
    ∃ (I3 : Int → Int → Int → Sl → Int → World → Prop) (M4 : Int → Int → Int → Sl → Int → World → Nat),
    (∃ u5 : Int, (.int .i64 (-1) : Value) = .int .i64 u5 ∧ ∃ u6 : Int, (.int .i64 0 : Value) = .int .i64 u6 ∧ ∃ u7 : Int, (.int .i64 0 : Value) = .int .i64 u7 ∧ ∃ u8 : Sl, (.slice none 0 0 : Value) = .slice u8.a u8.len u8.cap ∧ ∃ u9 : Int, (.int .i64 0 : Value) = .int .i64 u9 ∧ I3 u5 u6 u7 u8 u9 w2) ∧
    ∀ e0 : Env, ∀ v10 : Int, ∀ v11 : Int, ∀ v12 : Int, ∀ v13 : Sl, ∀ v14 : Int, ∀ w15 : World, I3 v10 v11 v12 v13 v14 w15 →
    (cond (decide ((v14 : Int) < 2))
    (C.skepref06_log d v14 w15 (fun r18 w16 => ∃ p17 : Sl, r18 = .slice p17.a p17.len p17.cap ∧
    ((0 : Int) ≤ v14 ∧ (v14 : Int) < (2 : Int)) ∧ (okVal false 1 (.slice p17.a p17.len p17.cap) = true ∧ canPut w16 (Addr.add ⟨b1, 0, none⟩ (v14.toNat * 1)) (.slice p17.a p17.len p17.cap)) ∧ ∀ w19 : World, w19 = putAt w16 (Addr.add ⟨b1, 0, none⟩ (v14.toNat * 1)) (.slice p17.a p17.len p17.cap) →
    ((0 : Int) ≤ v14 ∧ (v14 : Int) < (2 : Int)) ∧ ∃ y20 : Sl, (okVal false 1 (.slice y20.a y20.len y20.cap) = true ∧ w19.cell? (Addr.add ⟨b1, 0, none⟩ (v14.toNat * 1)) = some (.slice y20.a y20.len y20.cap)) ∧
    (cond (((y20.len : Int) : Int) == 0)
    (∃ u21 : Int, (.int .i64 v10 : Value) = .int .i64 u21 ∧ ∃ u22 : Int, (.int .i64 v11 : Value) = .int .i64 u22 ∧ ∃ u23 : Int, (.int .i64 v12 : Value) = .int .i64 u23 ∧ ∃ u24 : Sl, (.slice v13.a v13.len v13.cap : Value) = .slice u24.a u24.len u24.cap ∧ ∃ u25 : Int, (.int .i64 (IntKind.i64.wrap (v14 + 1)) : Value) = .int .i64 u25 ∧ (I3 u21 u22 u23 u24 u25 w19 ∧ M4 u21 u22 u23 u24 u25 w19 < M4 v10 v11 v12 v13 v14 w15))
    (((0 : Int) ≤ v14 ∧ (v14 : Int) < (2 : Int)) ∧ ∃ y26 : Sl, (okVal false 1 (.slice y26.a y26.len y26.cap) = true ∧ w19.cell? (Addr.add ⟨b1, 0, none⟩ (v14.toNat * 1)) = some (.slice y26.a y26.len y26.cap)) ∧
    ((0 : Int) ≤ 0 ∧ (0 : Int) < (y26.len : Int)) ∧ withSome y26.a fun a27 =>
    ∃ y28 : Sl, (okVal false 1 (.slice y28.a y28.len y28.cap) = true ∧ w19.cell? (Addr.add a27 1) = some (.slice y28.a y28.len y28.cap)) ∧
    C.skepref06_head y28 w19 (fun r31 w29 => ∃ p30 : (Int × Int × Sl × Bool), r31 = .tuple #[.int .i64 p30.1, .int .i64 p30.2.1, .slice p30.2.2.1.a p30.2.2.1.len p30.2.2.1.cap, .bool p30.2.2.2] ∧
    (cond p30.2.2.2
    ((cond (decide ((v10 : Int) < 0))
    (∃ u32 : Int, (.int .i64 v14 : Value) = .int .i64 u32 ∧ ∃ u33 : Int, (.int .i64 p30.1 : Value) = .int .i64 u33 ∧ ∃ u34 : Int, (.int .i64 p30.2.1 : Value) = .int .i64 u34 ∧ ∃ u35 : Sl, (.slice p30.2.2.1.a p30.2.2.1.len p30.2.2.1.cap : Value) = .slice u35.a u35.len u35.cap ∧ ∃ u36 : Int, (.int .i64 (IntKind.i64.wrap (v14 + 1)) : Value) = .int .i64 u36 ∧ (I3 u32 u33 u34 u35 u36 w29 ∧ M4 u32 u33 u34 u35 u36 w29 < M4 v10 v11 v12 v13 v14 w15))
    ((cond (decide ((p30.1 : Int) > v11))
    (∃ u37 : Int, (.int .i64 v14 : Value) = .int .i64 u37 ∧ ∃ u38 : Int, (.int .i64 p30.1 : Value) = .int .i64 u38 ∧ ∃ u39 : Int, (.int .i64 p30.2.1 : Value) = .int .i64 u39 ∧ ∃ u40 : Sl, (.slice p30.2.2.1.a p30.2.2.1.len p30.2.2.1.cap : Value) = .slice u40.a u40.len u40.cap ∧ ∃ u41 : Int, (.int .i64 (IntKind.i64.wrap (v14 + 1)) : Value) = .int .i64 u41 ∧ (I3 u37 u38 u39 u40 u41 w29 ∧ M4 u37 u38 u39 u40 u41 w29 < M4 v10 v11 v12 v13 v14 w15))
    (∃ u42 : Int, (.int .i64 v10 : Value) = .int .i64 u42 ∧ ∃ u43 : Int, (.int .i64 v11 : Value) = .int .i64 u43 ∧ ∃ u44 : Int, (.int .i64 v12 : Value) = .int .i64 u44 ∧ ∃ u45 : Sl, (.slice v13.a v13.len v13.cap : Value) = .slice u45.a u45.len u45.cap ∧ ∃ u46 : Int, (.int .i64 (IntKind.i64.wrap (v14 + 1)) : Value) = .int .i64 u46 ∧ (I3 u42 u43 u44 u45 u46 w29 ∧ M4 u42 u43 u44 u45 u46 w29 < M4 v10 v11 v12 v13 v14 w15))))))
    (∃ u47 : Int, (.int .i64 v10 : Value) = .int .i64 u47 ∧ ∃ u48 : Int, (.int .i64 v11 : Value) = .int .i64 u48 ∧ ∃ u49 : Int, (.int .i64 v12 : Value) = .int .i64 u49 ∧ ∃ u50 : Sl, (.slice v13.a v13.len v13.cap : Value) = .slice u50.a u50.len u50.cap ∧ ∃ u51 : Int, (.int .i64 (IntKind.i64.wrap (v14 + 1)) : Value) = .int .i64 u51 ∧ (I3 u47 u48 u49 u50 u51 w29 ∧ M4 u47 u48 u49 u50 u51 w29 < M4 v10 v11 v12 v13 v14 w15)))) KP))) KP)
    ((cond (decide ((v10 : Int) < 0))
    (C.skepref06_clear d 0 w15 (fun r54 w52 => ∃ _p53 : Unit, r54 = .tuple #[] ∧
    C.skepref06_clear d 1 w52 (fun r57 w55 => ∃ _p56 : Unit, r57 = .tuple #[] ∧
    C.skepref06_Head 1 0 (⟨none, 0, 0⟩) w55 (fun r60 w58 => ∃ p59 : Sl, r60 = .slice p59.a p59.len p59.cap ∧
    C.skepref04_Record p59 w58 (fun r63 w61 => ∃ p62 : Sl, r63 = .slice p62.a p62.len p62.cap ∧
    C.skepref03_Disk_Append d 0 p62 w61 (fun r66 w64 => ∃ p65 : Int, r66 = .int .i64 p65 ∧
    C.skepref03_Disk_Sync d 0 w64 (fun r69 w67 => ∃ p68 : Int, r69 = .int .i64 p68 ∧
    ∀ (b70 : Nat) (w71 : World), Alloc w67 b70 106 [.pointer d, .int .i64 0, .int .i64 1, .int .i64 0, .int .i64 0] w71 →
    K (.tuple #[.pointer (some ⟨b70, 0, none⟩), .slice none 0 0, .slice none 0 0, .bool true]) w71) KP) KP) KP) KP) KP) KP)
    (∀ (b72 : Nat) (w73 : World), Alloc w15 b72 106 [.pointer d, .int .i64 v10, .int .i64 v11, .int .i64 v12, .int .i64 v12] w73 →
    ∃ (I74 : Sl → Int → World → Prop) (M75 : Sl → Int → World → Nat),
    (∃ u76 : Sl, (.slice none 0 0 : Value) = .slice u76.a u76.len u76.cap ∧ ∃ u77 : Int, (.int .i64 1 : Value) = .int .i64 u77 ∧ I74 u76 u77 w73) ∧
    ∀ e0 : Env, ∀ v78 : Sl, ∀ v79 : Int, ∀ w80 : World, I74 v78 v79 w80 →
    ((0 : Int) ≤ v10 ∧ (v10 : Int) < (2 : Int)) ∧ ∃ y81 : Sl, (okVal false 1 (.slice y81.a y81.len y81.cap) = true ∧ w80.cell? (Addr.add ⟨b1, 0, none⟩ (v10.toNat * 1)) = some (.slice y81.a y81.len y81.cap)) ∧
    (cond (decide ((v79 : Int) < (y81.len : Int)))
    (((0 : Int) ≤ v10 ∧ (v10 : Int) < (2 : Int)) ∧ ∃ y82 : Sl, (okVal false 1 (.slice y82.a y82.len y82.cap) = true ∧ w80.cell? (Addr.add ⟨b1, 0, none⟩ (v10.toNat * 1)) = some (.slice y82.a y82.len y82.cap)) ∧
    ((0 : Int) ≤ v79 ∧ (v79 : Int) < (y82.len : Int)) ∧ withSome y82.a fun a83 =>
    ∃ y84 : Sl, (okVal false 1 (.slice y84.a y84.len y84.cap) = true ∧ w80.cell? (Addr.add (Addr.add a83 (v79.toNat * 2)) 1) = some (.slice y84.a y84.len y84.cap)) ∧
    ∀ (b85 : Nat) (w86 : World), Alloc w80 b85 130 [.slice y84.a y84.len y84.cap, .int .i64 0, .bool false] w86 →
    C.skepref05_R_Number (some ⟨b85, 0, none⟩) w86 (fun r89 w87 => ∃ p88 : Int, r89 = .int .i64 p88 ∧
    ∃ J90 : World → Prop,
    (∃ y91 : Bool, (okVal false 1 (.bool y91) = true ∧ w87.cell? ⟨b85, 2, none⟩ = some (.bool y91)) ∧
    (cond (!y91)
    (∃ y92 : Int, (okVal false 1 (.int .i64 y92) = true ∧ w87.cell? ⟨b72, 4, none⟩ = some (.int .i64 y92)) ∧
    (cond (decide ((p88 : Int) ≤ y92))
    (∃ u93 : Sl, (.slice v78.a v78.len v78.cap : Value) = .slice u93.a u93.len u93.cap ∧ ∃ u94 : Int, (.int .i64 (IntKind.i64.wrap (v79 + 1)) : Value) = .int .i64 u94 ∧ (I74 u93 u94 w87 ∧ M75 u93 u94 w87 < M75 v78 v79 w80))
    (J90 w87)))
    (J90 w87))) ∧
    ∀ e0 : Env, ∀ w95 : World, J90 w95 →
    ∃ y96 : Bool, (okVal false 1 (.bool y96) = true ∧ w95.cell? ⟨b85, 2, none⟩ = some (.bool y96)) ∧
    (cond y96
    (K (.tuple #[.pointer none, .slice none 0 0, .slice none 0 0, .bool false]) w95)
    (∃ y97 : Int, (okVal false 1 (.int .i64 y97) = true ∧ w95.cell? ⟨b72, 4, none⟩ = some (.int .i64 y97)) ∧
    (cond (decide (((IntKind.i64.wrap (p88 - 1)) : Int) > y97))
    (K (.tuple #[.pointer none, .slice none 0 0, .slice none 0 0, .bool false]) w95)
    ((okVal false 1 (.int .i64 p88) = true ∧ canPut w95 ⟨b72, 4, none⟩ (.int .i64 p88)) ∧ ∀ w98 : World, w98 = putAt w95 ⟨b72, 4, none⟩ (.int .i64 p88) →
    ∀ w99, Drew w98 w99 →
    ∃ y100 : Sl, (okVal false 1 (.slice y100.a y100.len y100.cap) = true ∧ w99.cell? ⟨b85, 0, none⟩ = some (.slice y100.a y100.len y100.cap)) ∧
    ∃ y101 : Int, (okVal false 1 (.int .i64 y101) = true ∧ w99.cell? ⟨b85, 1, none⟩ = some (.int .i64 y101)) ∧
    ((0 : Int) ≤ y101 ∧ (y101 : Int) ≤ (y100.len : Int)) ∧ ∀ (b102 : Nat) (w103 : World), Alloc w99 b102 27 [.slice (if y100.cap = y101.toNat then y100.a else Option.map (fun x => Addr.add x (y101.toNat * 1)) y100.a) (y100.len - y101.toNat) (y100.cap - y101.toNat)] w103 →
    ∃ (q104 : Option Addr) (n105 c106 : Nat) (w107 : World), (Builtin.append_ #[22, 22] 22 #[.slice v78.a v78.len v78.cap, .slice (some ⟨b102, 0, none⟩) 1 1]).run Try.prog w103 = .ok (.slice q104 n105 c106) w107 ∧
    ∃ u108 : Sl, (.slice q104 n105 c106 : Value) = .slice u108.a u108.len u108.cap ∧ ∃ u109 : Int, (.int .i64 (IntKind.i64.wrap (v79 + 1)) : Value) = .int .i64 u109 ∧ (I74 u108 u109 w107 ∧ M75 u108 u109 w107 < M75 v78 v79 w80)))))) KP)
    (C.skepref03_Disk_Size d (IntKind.i64.wrap (1 - v10)) w80 (fun r112 w110 => ∃ p111 : Int, r112 = .int .i64 p111 ∧
    (cond (decide ((p111 : Int) > 0))
    (C.skepref06_clear d (IntKind.i64.wrap (1 - v10)) w110 (fun r115 w113 => ∃ _p114 : Unit, r115 = .tuple #[] ∧
    K (.tuple #[.pointer (some ⟨b72, 0, none⟩), .slice v13.a v13.len v13.cap, .slice v78.a v78.len v78.cap, .bool true]) w113) KP)
    (K (.tuple #[.pointer (some ⟨b72, 0, none⟩), .slice v13.a v13.len v13.cap, .slice v78.a v78.len v78.cap, .bool true]) w110))) KP))))))
theorem skepref06_Open_of {d : (Option Addr)} {w : World} {K : Value → World → Prop} {KP : List PanicEntry → World → Prop} (h : W.skepref06_Open d w K KP) : C.skepref06_Open d w K KP :=
  xcall (E := E) (T := mkTab [(6, [(7, 3), (8, 3), (9, 3), (10, 27), (11, 3)]), (25, [(17, 22), (18, 3)])] [(6, [7, 8, 9, 10, 11, 12, 13, 14, 15, 21, 22, 23, 24, 25, 26, 27, 28, 29, 30, 31, 32, 33, 34, 35, 36, 37, 38, 39, 40, 41, 42, 43, 44, 45, 46, 47, 48, 49, 50, 51, 52, 53, 54, 55, 56, 57, 58, 59, 60]), (25, [2, 3, 4, 5, 17, 18, 19, 20, 83, 84, 85, 86, 87, 88, 89, 90, 91, 92, 93, 94, 95, 96, 97, 98, 99, 100, 101, 102, 103, 104, 105, 106, 107, 108, 109, 110, 111, 112, 113, 114, 115, 116, 117, 118, 119, 120, 121, 122, 123, 124, 125, 126, 127, 128, 129, 130, 131, 132, 133, 134, 135, 136, 137, 138, 139, 140, 141, 142, 143])] [(30, [])] [(30, [102, 103, 104, 105, 106, 107, 108, 109, 110, 111, 112, 113, 114])] [(33, [0, 1, 2, 3, 4, 5, 6, 7, 8, 9, 10, 11, 12])] [(33, [0, 0, 2, 6, 14, 0, 32, 96, 224, 510, 1022, 2047, 4095])] [] []) (c := Try.f48.body.getD .skip) (rs := [.tmp 2, .tmp 3, .tmp 4, .tmp 5]) ⟨⟩ mixed Try.func48 (by kernel_rfl) (by kernel_rfl) [.pointer d] (by kernel_rfl) (by kernel_rfl) (.inr (by kernel_rfl)) (Eq.mp (by kernel_rfl) h)

def W.skepref06_Store_Append (t : (Option Addr)) (n : Int) (p2_ : Sl) (w : World) (K : Value → World → Prop) (KP : List PanicEntry → World → Prop) : Prop :=
   (cond (decide ((n : Int) < 1))
    (K (.int .i64 8) w)
    (withSome t fun a1 =>
    ∃ y2 : Int, (okVal false 1 (.int .i64 y2) = true ∧ w.cell? (Addr.add a1 4) = some (.int .i64 y2)) ∧
    (cond (decide (((IntKind.i64.wrap (n - 1)) : Int) > y2))
    (K (.int .i64 8) w)
    (withSome t fun a3 =>
    ∃ y4 : Int, (okVal false 1 (.int .i64 y4) = true ∧ w.cell? (Addr.add a3 4) = some (.int .i64 y4)) ∧
    (cond (decide ((n : Int) ≤ y4))
    (K (.int .i64 0) w)
    (C.skepref05_Number n w (fun r7 w5 => ∃ p6 : Sl, r7 = .slice p6.a p6.len p6.cap ∧
    ∃ (q8 : Option Addr) (n9 c10 : Nat) (w11 : World), (Builtin.append_ #[27, 27] 27 #[.slice p6.a p6.len p6.cap, .slice p2_.a p2_.len p2_.cap]).run Try.prog w5 = .ok (.slice q8 n9 c10) w11 ∧
    (cond (decide (((n9 : Int) : Int) > 65536))
    (K (.int .i64 1) w11)
    (∀ w12, Drew w11 w12 →
    withSome t fun a13 =>
    ∃ y14 : (Option Addr), (okVal false 1 (.pointer y14) = true ∧ w12.cell? a13 = some (.pointer y14)) ∧
    withSome t fun a15 =>
    ∃ y16 : Int, (okVal false 1 (.int .i64 y16) = true ∧ w12.cell? (Addr.add a15 1) = some (.int .i64 y16)) ∧
    C.skepref04_Record (⟨q8, n9, c10⟩) w12 (fun r19 w17 => ∃ p18 : Sl, r19 = .slice p18.a p18.len p18.cap ∧
    (w17.cell? (Addr.add a15 1) = some (.int .i64 y16)) ∧ (w17.cell? a13 = some (.pointer y14)) ∧ C.skepref03_Disk_Append y14 y16 p18 w17 (fun r22 w20 => ∃ p21 : Int, r22 = .int .i64 p21 ∧
    (cond ((p21 : Int) == 0)
    (withSome t fun a23 =>
    (okVal false 1 (.int .i64 n) = true ∧ canPut w20 (Addr.add a23 4) (.int .i64 n)) ∧ ∀ w24 : World, w24 = putAt w20 (Addr.add a23 4) (.int .i64 n) →
    K (.int .i64 p21) w24)
    (K (.int .i64 p21) w20))) KP) KP))) KP))))))
theorem skepref06_Store_Append_of {t : (Option Addr)} {n : Int} {p2_ : Sl} {w : World} {K : Value → World → Prop} {KP : List PanicEntry → World → Prop} (h : W.skepref06_Store_Append t n p2_ w K KP) : C.skepref06_Store_Append t n p2_ w K KP :=
  xcall (E := E) (T := mkTab [] [] [] [] [(8, [0, 1, 2, 3, 4, 5, 6, 7, 8, 9, 10, 11])] [(8, [0, 1, 3, 7, 0, 16, 48, 112, 0, 256, 1023, 2047])] [] []) (c := Try.f49.body.getD .skip) (rs := [.tmp 6]) ⟨⟩ mixed Try.func49 (by kernel_rfl) (by kernel_rfl) [.pointer t, .int .i64 n, .slice p2_.a p2_.len p2_.cap] (by kernel_rfl) (by kernel_rfl) (.inr (by kernel_rfl)) (Eq.mp (by kernel_rfl) h)

def W.skepref06_Store_Sync (t : (Option Addr)) (w : World) (K : Value → World → Prop) (KP : List PanicEntry → World → Prop) : Prop :=
   ∀ w1, Drew w w1 →
    withSome t fun a2 =>
    ∃ y3 : (Option Addr), (okVal false 1 (.pointer y3) = true ∧ w1.cell? a2 = some (.pointer y3)) ∧
    withSome t fun a4 =>
    ∃ y5 : Int, (okVal false 1 (.int .i64 y5) = true ∧ w1.cell? (Addr.add a4 1) = some (.int .i64 y5)) ∧
    C.skepref03_Disk_Sync y3 y5 w1 (fun r8 w6 => ∃ p7 : Int, r8 = .int .i64 p7 ∧
    K (.int .i64 p7) w6) KP
theorem skepref06_Store_Sync_of {t : (Option Addr)} {w : World} {K : Value → World → Prop} {KP : List PanicEntry → World → Prop} (h : W.skepref06_Store_Sync t w K KP) : C.skepref06_Store_Sync t w K KP :=
  xcall (E := E) (T := mkTab [] [] [] [] [(1, [0, 1, 2, 3, 4, 5, 6, 7, 8, 9])] [(1, [0, 1, 3, 7, 0, 16, 48, 112, 255, 511])] [] []) (c := Try.f50.body.getD .skip) (rs := [.tmp 2]) ⟨⟩ mixed Try.func50 (by kernel_rfl) (by kernel_rfl) [.pointer t] (by kernel_rfl) (by kernel_rfl) (.inr (by kernel_rfl)) (Eq.mp (by kernel_rfl) h)

def W.skepref06_Store_Check (t : (Option Addr)) (snap : Sl) (w : World) (K : Value → World → Prop) (KP : List PanicEntry → World → Prop) : Prop :=
   ∀ w1, Drew w w1 →
    withSome t fun a2 =>
    ∃ y3 : Int, (okVal false 1 (.int .i64 y3) = true ∧ w1.cell? (Addr.add a2 2) = some (.int .i64 y3)) ∧
    withSome t fun a4 =>
    ∃ y5 : Int, (okVal false 1 (.int .i64 y5) = true ∧ w1.cell? (Addr.add a4 4) = some (.int .i64 y5)) ∧
    C.skepref06_Head (IntKind.i64.wrap (y3 + 1)) y5 snap w1 (fun r8 w6 => ∃ p7 : Sl, r8 = .slice p7.a p7.len p7.cap ∧
    (cond (decide (((p7.len : Int) : Int) > 65536))
    (K (.int .i64 1) w6)
    (withSome t fun a9 =>
    ∃ y10 : Int, (okVal false 1 (.int .i64 y10) = true ∧ w6.cell? (Addr.add a9 1) = some (.int .i64 y10)) ∧
    withSome t fun a11 =>
    ∃ y12 : (Option Addr), (okVal false 1 (.pointer y12) = true ∧ w6.cell? a11 = some (.pointer y12)) ∧
    C.skepref03_Disk_Cut y12 (IntKind.i64.wrap (1 - y10)) 0 w6 (fun r15 w13 => ∃ p14 : Int, r15 = .int .i64 p14 ∧
    ∀ w16, Drew w13 w16 →
    withSome t fun a17 =>
    ∃ y18 : (Option Addr), (okVal false 1 (.pointer y18) = true ∧ w16.cell? a17 = some (.pointer y18)) ∧
    C.skepref04_Record p7 w16 (fun r21 w19 => ∃ p20 : Sl, r21 = .slice p20.a p20.len p20.cap ∧
    (w19.cell? a17 = some (.pointer y18)) ∧ C.skepref03_Disk_Append y18 (IntKind.i64.wrap (1 - y10)) p20 w19 (fun r24 w22 => ∃ p23 : Int, r24 = .int .i64 p23 ∧
    withSome t fun a25 =>
    ∃ y26 : (Option Addr), (okVal false 1 (.pointer y26) = true ∧ w22.cell? a25 = some (.pointer y26)) ∧
    C.skepref03_Disk_Sync y26 (IntKind.i64.wrap (1 - y10)) w22 (fun r29 w27 => ∃ p28 : Int, r29 = .int .i64 p28 ∧
    ∀ w30, Drew w27 w30 →
    withSome t fun a31 =>
    ∃ y32 : (Option Addr), (okVal false 1 (.pointer y32) = true ∧ w30.cell? a31 = some (.pointer y32)) ∧
    withSome t fun a33 =>
    ∃ y34 : Int, (okVal false 1 (.int .i64 y34) = true ∧ w30.cell? (Addr.add a33 1) = some (.int .i64 y34)) ∧
    C.skepref06_clear y32 y34 w30 (fun r37 w35 => ∃ _p36 : Unit, r37 = .tuple #[] ∧
    withSome t fun a38 =>
    (okVal false 1 (.int .i64 (IntKind.i64.wrap (1 - y10))) = true ∧ canPut w35 (Addr.add a38 1) (.int .i64 (IntKind.i64.wrap (1 - y10)))) ∧ ∀ w39 : World, w39 = putAt w35 (Addr.add a38 1) (.int .i64 (IntKind.i64.wrap (1 - y10))) →
    withSome t fun a40 =>
    ∃ y41 : Int, (okVal false 1 (.int .i64 y41) = true ∧ w39.cell? (Addr.add a40 2) = some (.int .i64 y41)) ∧
    withSome t fun a42 =>
    (okVal false 1 (.int .i64 (IntKind.i64.wrap (y41 + 1))) = true ∧ canPut w39 (Addr.add a42 2) (.int .i64 (IntKind.i64.wrap (y41 + 1)))) ∧ ∀ w43 : World, w43 = putAt w39 (Addr.add a42 2) (.int .i64 (IntKind.i64.wrap (y41 + 1))) →
    withSome t fun a44 =>
    ∃ y45 : Int, (okVal false 1 (.int .i64 y45) = true ∧ w43.cell? (Addr.add a44 4) = some (.int .i64 y45)) ∧
    withSome t fun a46 =>
    (okVal false 1 (.int .i64 y45) = true ∧ canPut w43 (Addr.add a46 3) (.int .i64 y45)) ∧ ∀ w47 : World, w47 = putAt w43 (Addr.add a46 3) (.int .i64 y45) →
    K (.int .i64 0) w47) KP) KP) KP) KP) KP))) KP
theorem skepref06_Store_Check_of {t : (Option Addr)} {snap : Sl} {w : World} {K : Value → World → Prop} {KP : List PanicEntry → World → Prop} (h : W.skepref06_Store_Check t snap w K KP) : C.skepref06_Store_Check t snap w K KP :=
  xcall (E := E) (T := mkTab [] [] [] [] [(1, [0, 1, 2, 3, 4, 5, 6, 7, 8, 9, 10, 11]), (6, [0, 1, 2, 3, 4, 5, 6, 7]), (8, [0, 1, 2, 3, 4, 5, 6, 7, 8])] [(1, [0, 1, 3, 7, 15, 0, 32, 96, 224, 0, 1023, 2047]), (6, [0, 1, 3, 7, 0, 0, 32, 127]), (8, [0, 1, 3, 7, 0, 16, 48, 112, 255])] [] []) (c := Try.f51.body.getD .skip) (rs := [.tmp 4]) ⟨⟩ mixed Try.func51 (by kernel_rfl) (by kernel_rfl) [.pointer t, .slice snap.a snap.len snap.cap] (by kernel_rfl) (by kernel_rfl) (.inr (by kernel_rfl)) (Eq.mp (by kernel_rfl) h)

def W.skepref03_Disk_Crash (d : (Option Addr)) (a : Int) (p2_ : Int) (w : World) (K : Value → World → Prop) (KP : List PanicEntry → World → Prop) : Prop :=
   ∀ (b1 : Nat) (w2 : World), Alloc w b1 104 [.slice none 0 0, .slice none 0 0, .slice none 0 0, .slice none 0 0] w2 →
    ∀ w3, Drew w2 w3 →
    withSome d fun a4 =>
    ((0 : Int) ≤ 0 ∧ (0 : Int) < (2 : Int)) ∧ ∃ y5 : S.skepref03_F, (okVal true 2 (S.skepref03_F.v y5) = true ∧ rd w3 a4 (S.skepref03_F.v y5)) ∧
    C.skepref03_with y5 a w3 (fun r8 w6 => ∃ p7 : Sl, r8 = .slice p7.a p7.len p7.cap ∧
    ((0 : Int) ≤ 0 ∧ (0 : Int) < (2 : Int)) ∧ (okVal false 1 (.slice p7.a p7.len p7.cap) = true ∧ canPut w6 ⟨b1, 0, none⟩ (.slice p7.a p7.len p7.cap)) ∧ ∀ w9 : World, w9 = putAt w6 ⟨b1, 0, none⟩ (.slice p7.a p7.len p7.cap) →
    ∀ w10, Drew w9 w10 →
    withSome d fun a11 =>
    ((0 : Int) ≤ 1 ∧ (1 : Int) < (2 : Int)) ∧ ∃ y12 : S.skepref03_F, (okVal true 2 (S.skepref03_F.v y12) = true ∧ rd w10 (Addr.add a11 2) (S.skepref03_F.v y12)) ∧
    C.skepref03_with y12 p2_ w10 (fun r15 w13 => ∃ p14 : Sl, r15 = .slice p14.a p14.len p14.cap ∧
    ((0 : Int) ≤ 1 ∧ (1 : Int) < (2 : Int)) ∧ (okVal false 1 (.slice p14.a p14.len p14.cap) = true ∧ canPut w13 ⟨b1, 2, none⟩ (.slice p14.a p14.len p14.cap)) ∧ ∀ w16 : World, w16 = putAt w13 ⟨b1, 2, none⟩ (.slice p14.a p14.len p14.cap) →
    K (.pointer (some ⟨b1, 0, none⟩)) w16) KP) KP
theorem skepref03_Disk_Crash_of {d : (Option Addr)} {a : Int} {p2_ : Int} {w : World} {K : Value → World → Prop} {KP : List PanicEntry → World → Prop} (h : W.skepref03_Disk_Crash d a p2_ w K KP) : C.skepref03_Disk_Crash d a p2_ w K KP :=
  xcall (E := E) (T := mkTab [] [] [] [] [(2, [0, 1, 2, 3, 4, 5, 6, 8, 9, 7, 10, 11, 12]), (3, [0, 1, 2, 3, 4, 5, 6, 8, 9, 7, 10, 11, 12])] [(2, [0, 0, 2, 6, 14, 30, 0, 126, 1, 257, 1023, 2047, 4095]), (3, [0, 0, 2, 6, 14, 30, 0, 126, 1, 257, 1023, 2047, 4095])] [] []) (c := Try.f52.body.getD .skip) (rs := [.tmp 6]) ⟨⟩ mixed Try.func52 (by kernel_rfl) (by kernel_rfl) [.pointer d, .int .i64 a, .int .i64 p2_] (by kernel_rfl) (by kernel_rfl) (.inr (by kernel_rfl)) (Eq.mp (by kernel_rfl) h)

def W.skepref06_Store_Size (t : (Option Addr)) (w : World) (K : Value → World → Prop) (KP : List PanicEntry → World → Prop) : Prop :=
   ∀ w1, Drew w w1 →
    withSome t fun a2 =>
    ∃ y3 : (Option Addr), (okVal false 1 (.pointer y3) = true ∧ w1.cell? a2 = some (.pointer y3)) ∧
    withSome t fun a4 =>
    ∃ y5 : Int, (okVal false 1 (.int .i64 y5) = true ∧ w1.cell? (Addr.add a4 1) = some (.int .i64 y5)) ∧
    C.skepref03_Disk_Size y3 y5 w1 (fun r8 w6 => ∃ p7 : Int, r8 = .int .i64 p7 ∧
    K (.int .i64 p7) w6) KP
theorem skepref06_Store_Size_of {t : (Option Addr)} {w : World} {K : Value → World → Prop} {KP : List PanicEntry → World → Prop} (h : W.skepref06_Store_Size t w K KP) : C.skepref06_Store_Size t w K KP :=
  xcall (E := E) (T := mkTab [] [] [] [] [(1, [0, 1, 2, 3, 4, 5, 6, 7, 8, 9])] [(1, [0, 1, 3, 7, 0, 16, 48, 112, 255, 511])] [] []) (c := Try.f53.body.getD .skip) (rs := [.tmp 2]) ⟨⟩ mixed Try.func53 (by kernel_rfl) (by kernel_rfl) [.pointer t] (by kernel_rfl) (by kernel_rfl) (.inr (by kernel_rfl)) (Eq.mp (by kernel_rfl) h)

def W.skepref03_Disk_Read (d : (Option Addr)) (file : Int) (w : World) (K : Value → World → Prop) (KP : List PanicEntry → World → Prop) : Prop :=
   ∃ J1 : World → Prop,
    ((cond ((file : Int) != 0)
    ((cond ((file : Int) != 1)
    (K (.slice none 0 0) w)
    (J1 w)))
    (J1 w))) ∧
    ∀ e0 : Env, ∀ w2 : World, J1 w2 →
    ∀ w3, Drew w2 w3 →
    withSome d fun a4 =>
    ((0 : Int) ≤ file ∧ (file : Int) < (2 : Int)) ∧ ∃ y5 : S.skepref03_F, (okVal true 2 (S.skepref03_F.v y5) = true ∧ rd w3 (Addr.add a4 (file.toNat * 2)) (S.skepref03_F.v y5)) ∧
    withSome d fun a6 =>
    ((0 : Int) ≤ file ∧ (file : Int) < (2 : Int)) ∧ ∃ y7 : Sl, (okVal false 1 (.slice y7.a y7.len y7.cap) = true ∧ w3.cell? (Addr.add (Addr.add a6 (file.toNat * 2)) 1) = some (.slice y7.a y7.len y7.cap)) ∧
    C.skepref03_with y5 (y7.len : Int) w3 (fun r10 w8 => ∃ p9 : Sl, r10 = .slice p9.a p9.len p9.cap ∧
    K (.slice p9.a p9.len p9.cap) w8) KP
theorem skepref03_Disk_Read_of {d : (Option Addr)} {file : Int} {w : World} {K : Value → World → Prop} {KP : List PanicEntry → World → Prop} (h : W.skepref03_Disk_Read d file w K KP) : C.skepref03_Disk_Read d file w K KP :=
  xcall (E := E) (T := mkTab [] [] [(3, [])] [(3, [4, 5, 6, 7, 8, 9, 10])] [(3, [0, 1, 2, 3, 4, 5, 6, 7, 8, 9, 10, 11, 12, 13, 14, 15])] [(3, [0, 0, 1, 5, 15, 31, 0, 0, 64, 320, 960, 1984, 4032, 8128, 16383, 32767])] [] []) (c := Try.f54.body.getD .skip) (rs := [.tmp 4]) ⟨⟩ mixed Try.func54 (by kernel_rfl) (by kernel_rfl) [.pointer d, .int .i64 file] (by kernel_rfl) (by kernel_rfl) (.inr (by kernel_rfl)) (Eq.mp (by kernel_rfl) h)

def W.disk_Disk_Pending (d : (Option Addr)) (file : Int) (w : World) (K : Value → World → Prop) (KP : List PanicEntry → World → Prop) : Prop :=
   C.disk_Disk_file d file w (fun r3 w1 => ∃ p2 : (Option Addr), r3 = .pointer p2 ∧
    (cond p2.isNone
    (K (.int .i64 0) w1)
    (withSome p2 fun a4 =>
    ∃ y5 : Sl, (okVal false 1 (.slice y5.a y5.len y5.cap) = true ∧ w1.cell? (Addr.add a4 2) = some (.slice y5.a y5.len y5.cap)) ∧
    ∃ (I6 : Int → Int → World → Prop) (M7 : Int → Int → World → Nat),
    (∃ u8 : Int, (.int .i64 0 : Value) = .int .i64 u8 ∧ ∃ u9 : Int, (.int .i64 0 : Value) = .int .i64 u9 ∧ I6 u8 u9 w1) ∧
    ∀ e0 : Env, ∀ v10 : Int, ∀ v11 : Int, ∀ w12 : World, I6 v10 v11 w12 →
    (cond (decide ((v11 : Int) < (y5.len : Int)))
    (withSome p2 fun a13 =>
    ∃ y14 : Sl, (okVal false 1 (.slice y14.a y14.len y14.cap) = true ∧ w12.cell? (Addr.add a13 2) = some (.slice y14.a y14.len y14.cap)) ∧
    ((0 : Int) ≤ v11 ∧ (v11 : Int) < (y14.len : Int)) ∧ withSome y14.a fun a15 =>
    ∃ y16 : S.disk_done, (okVal true 3 (S.disk_done.v y16) = true ∧ rd w12 (Addr.add a15 (v11.toNat * 3)) (S.disk_done.v y16)) ∧
    C.disk_done_units y16 w12 (fun r19 w17 => ∃ p18 : Int, r19 = .int .i64 p18 ∧
    ∃ u20 : Int, (.int .i64 (IntKind.i64.wrap (v10 + p18)) : Value) = .int .i64 u20 ∧ ∃ u21 : Int, (.int .i64 (IntKind.i64.wrap (v11 + 1)) : Value) = .int .i64 u21 ∧ (I6 u20 u21 w17 ∧ M7 u20 u21 w17 < M7 v10 v11 w12)) KP)
    (K (.int .i64 v10) w12))))) KP
theorem disk_Disk_Pending_of {d : (Option Addr)} {file : Int} {w : World} {K : Value → World → Prop} {KP : List PanicEntry → World → Prop} (h : W.disk_Disk_Pending d file w K KP) : C.disk_Disk_Pending d file w K KP :=
  xcall (E := E) (T := mkTab [(6, [(6, 3), (18, 3)])] [(6, [6, 7, 18, 19, 20, 21, 22, 23, 24, 25, 26, 27, 28, 29, 30, 31])] [] [] [] [] [] []) (c := Try.f55.body.getD .skip) (rs := [.tmp 4]) ⟨⟩ mixed Try.func55 (by kernel_rfl) (by kernel_rfl) [.pointer d, .int .i64 file] (by kernel_rfl) (by kernel_rfl) (.inr (by kernel_rfl)) (Eq.mp (by kernel_rfl) h)

def W.skepref03_Disk_Pending (d : (Option Addr)) (file : Int) (w : World) (K : Value → World → Prop) (KP : List PanicEntry → World → Prop) : Prop :=
   (cond ((file : Int) != 0)
    ((cond ((file : Int) != 1)
    (K (.int .i64 0) w)
    (withSome d fun a1 =>
    ((0 : Int) ≤ file ∧ (file : Int) < (2 : Int)) ∧ ∃ y2 : Sl, (okVal false 1 (.slice y2.a y2.len y2.cap) = true ∧ w.cell? (Addr.add (Addr.add a1 (file.toNat * 2)) 1) = some (.slice y2.a y2.len y2.cap)) ∧
    K (.int .i64 (y2.len : Int)) w)))
    (withSome d fun a3 =>
    ((0 : Int) ≤ file ∧ (file : Int) < (2 : Int)) ∧ ∃ y4 : Sl, (okVal false 1 (.slice y4.a y4.len y4.cap) = true ∧ w.cell? (Addr.add (Addr.add a3 (file.toNat * 2)) 1) = some (.slice y4.a y4.len y4.cap)) ∧
    K (.int .i64 (y4.len : Int)) w))
theorem skepref03_Disk_Pending_of {d : (Option Addr)} {file : Int} {w : World} {K : Value → World → Prop} {KP : List PanicEntry → World → Prop} (h : W.skepref03_Disk_Pending d file w K KP) : C.skepref03_Disk_Pending d file w K KP :=
  xcall (E := E) (T := mkTab [] [] [] [] [] [] [] []) (c := Try.f56.body.getD .skip) (rs := [.tmp 4]) ⟨⟩ mixed Try.func56 (by kernel_rfl) (by kernel_rfl) [.pointer d, .int .i64 file] (by kernel_rfl) (by kernel_rfl) (.inr (by kernel_rfl)) (Eq.mp (by kernel_rfl) h)

def W.skepref03_Disk_Size (d : (Option Addr)) (file : Int) (w : World) (K : Value → World → Prop) (KP : List PanicEntry → World → Prop) : Prop :=
   C.skepref03_Disk_Read d file w (fun r3 w1 => ∃ p2 : Sl, r3 = .slice p2.a p2.len p2.cap ∧
    K (.int .i64 (p2.len : Int)) w1) KP
theorem skepref03_Disk_Size_of {d : (Option Addr)} {file : Int} {w : World} {K : Value → World → Prop} {KP : List PanicEntry → World → Prop} (h : W.skepref03_Disk_Size d file w K KP) : C.skepref03_Disk_Size d file w K KP :=
  xcall (E := E) (T := mkTab [] [] [] [] [] [] [] []) (c := Try.f57.body.getD .skip) (rs := [.tmp 4]) ⟨⟩ mixed Try.func57 (by kernel_rfl) (by kernel_rfl) [.pointer d, .int .i64 file] (by kernel_rfl) (by kernel_rfl) (.inr (by kernel_rfl)) (Eq.mp (by kernel_rfl) h)

def W.wal_Log_Records (l : (Option Addr)) (p1_ : Sl) (w : World) (K : Value → World → Prop) (KP : List PanicEntry → World → Prop) : Prop :=
   ∀ (b1 : Nat) (w2 : World), Alloc w b1 71 [.pointer l] w2 →
    ∀ (b3 : Nat) (w4 : World), Alloc w2 b3 27 [.slice p1_.a p1_.len p1_.cap] w4 →
    ∀ (b5 : Nat) (w6 : World), Alloc w4 b5 5 [] w6 →
    ∃ y7 : Sl, (okVal false 1 (.slice y7.a y7.len y7.cap) = true ∧ w6.cell? ⟨b3, 0, none⟩ = some (.slice y7.a y7.len y7.cap)) ∧
    ∃ (q8 : Option Addr) (n9 c10 : Nat) (w11 : World), (Builtin.append_ #[27, 27] 27 #[.slice (some ⟨b5, 0, none⟩) 0 0, .slice y7.a y7.len y7.cap]).run Try.prog w6 = .ok (.slice q8 n9 c10) w11 ∧
    (okVal false 1 (.slice q8 n9 c10) = true ∧ canPut w11 ⟨b3, 0, none⟩ (.slice q8 n9 c10)) ∧ ∀ w12 : World, w12 = putAt w11 ⟨b3, 0, none⟩ (.slice q8 n9 c10) →
    K (.func (.func 73) #[] #[.pointer (some ⟨b1, 0, none⟩), .pointer (some ⟨b3, 0, none⟩)]) w12
theorem wal_Log_Records_of {l : (Option Addr)} {p1_ : Sl} {w : World} {K : Value → World → Prop} {KP : List PanicEntry → World → Prop} (h : W.wal_Log_Records l p1_ w K KP) : C.wal_Log_Records l p1_ w K KP :=
  xcall (E := E) (T := mkTab [] [] [] [] [] [] [] []) (c := Try.f58.body.getD .skip) (rs := [.tmp 4]) ⟨⟩ mixed Try.func58 (by kernel_rfl) (by kernel_rfl) [.pointer l, .slice p1_.a p1_.len p1_.cap] (by kernel_rfl) (by kernel_rfl) (.inr (by kernel_rfl)) (Eq.mp (by kernel_rfl) h)

def W.disk_Disk_Cut (d : (Option Addr)) (file : Int) (size : Int) (w : World) (K : Value → World → Prop) (KP : List PanicEntry → World → Prop) : Prop :=
   C.disk_Disk_file d file w (fun r3 w1 => ∃ p2 : (Option Addr), r3 = .pointer p2 ∧
    (cond p2.isNone
    (K (.int .i64 1) w1)
    ((cond (decide ((size : Int) < 0))
    (K (.int .i64 1) w1)
    (withSome p2 fun a4 =>
    ∃ y5 : Sl, (okVal false 1 (.slice y5.a y5.len y5.cap) = true ∧ w1.cell? (Addr.add a4 1) = some (.slice y5.a y5.len y5.cap)) ∧
    (cond (decide ((size : Int) > (y5.len : Int)))
    (K (.int .i64 1) w1)
    (∀ (b6 : Nat) (w7 : World), Alloc w1 b6 5 [] w7 →
    withSome p2 fun a8 =>
    ∃ y9 : Sl, (okVal false 1 (.slice y9.a y9.len y9.cap) = true ∧ w7.cell? (Addr.add a8 1) = some (.slice y9.a y9.len y9.cap)) ∧
    ((0 : Int) ≤ size ∧ (size : Int) ≤ (y9.cap : Int)) ∧ ∃ (q10 : Option Addr) (n11 c12 : Nat) (w13 : World), (Builtin.append_ #[27, 27] 27 #[.slice (some ⟨b6, 0, none⟩) 0 0, .slice (if y9.cap = 0 then y9.a else Option.map (fun x => Addr.add x (0 * 1)) y9.a) (size.toNat - 0) (y9.cap - 0)]).run Try.prog w7 = .ok (.slice q10 n11 c12) w13 ∧
    withSome p2 fun a14 =>
    (okVal false 1 (.slice q10 n11 c12) = true ∧ canPut w13 (Addr.add a14 1) (.slice q10 n11 c12)) ∧ ∀ w15 : World, w15 = putAt w13 (Addr.add a14 1) (.slice q10 n11 c12) →
    withSome p2 fun a16 =>
    ∃ y17 : Sl, (okVal false 1 (.slice y17.a y17.len y17.cap) = true ∧ w15.cell? (Addr.add a16 2) = some (.slice y17.a y17.len y17.cap)) ∧
    ∀ (b18 : Nat) (w19 : World), Alloc w15 b18 93 [.bool true, .int .i64 size, .slice none 0 0] w19 →
    ∃ (q20 : Option Addr) (n21 c22 : Nat) (w23 : World), (Builtin.append_ #[65, 65] 65 #[.slice y17.a y17.len y17.cap, .slice (some ⟨b18, 0, none⟩) 1 1]).run Try.prog w19 = .ok (.slice q20 n21 c22) w23 ∧
    withSome p2 fun a24 =>
    (okVal false 1 (.slice q20 n21 c22) = true ∧ canPut w23 (Addr.add a24 2) (.slice q20 n21 c22)) ∧ ∀ w25 : World, w25 = putAt w23 (Addr.add a24 2) (.slice q20 n21 c22) →
    K (.int .i64 0) w25))))))) KP
theorem disk_Disk_Cut_of {d : (Option Addr)} {file : Int} {size : Int} {w : World} {K : Value → World → Prop} {KP : List PanicEntry → World → Prop} (h : W.disk_Disk_Cut d file size w K KP) : C.disk_Disk_Cut d file size w K KP :=
  xcall (E := E) (T := mkTab [] [] [] [] [] [] [] []) (c := Try.f59.body.getD .skip) (rs := [.tmp 6]) ⟨⟩ mixed Try.func59 (by kernel_rfl) (by kernel_rfl) [.pointer d, .int .i64 file, .int .i64 size] (by kernel_rfl) (by kernel_rfl) (.inr (by kernel_rfl)) (Eq.mp (by kernel_rfl) h)

def W.codec_GetNumber (p0_ : Sl) (p1_ : Int) (w : World) (K : Value → World → Prop) (KP : List PanicEntry → World → Prop) : Prop :=
   (cond (decide ((p1_ : Int) < 0))
    (K (.tuple #[.int .i64 0, .int .i64 0, .bool false]) w)
    ((cond (decide ((p1_ : Int) ≥ (p0_.len : Int)))
    (K (.tuple #[.int .i64 0, .int .i64 0, .bool false]) w)
    (∃ (I1 : Int → Int → World → Prop) (M2 : Int → Int → World → Nat),
    (∃ u3 : Int, (.int .u64 0 : Value) = .int .u64 u3 ∧ ∃ u4 : Int, (.int .i64 0 : Value) = .int .i64 u4 ∧ I1 u3 u4 w) ∧
    ∀ e0 : Env, ∀ v5 : Int, ∀ v6 : Int, ∀ w7 : World, I1 v5 v6 w7 →
    (cond (decide ((v6 : Int) < 10))
    ((cond (decide (((IntKind.i64.wrap (p1_ + v6)) : Int) ≥ (p0_.len : Int)))
    (K (.tuple #[.int .i64 0, .int .i64 0, .bool false]) w7)
    (((0 : Int) ≤ (IntKind.i64.wrap (p1_ + v6)) ∧ ((IntKind.i64.wrap (p1_ + v6)) : Int) < (p0_.len : Int)) ∧ withSome p0_.a fun a8 =>
    ∃ y9 : Int, (okVal false 1 (.int .u8 y9) = true ∧ w7.cell? (Addr.add a8 ((IntKind.i64.wrap (p1_ + v6)).toNat * 1)) = some (.int .u8 y9)) ∧
    ∃ J10 : World → Prop,
    ((cond ((v6 : Int) == 9)
    ((cond (decide ((y9 : Int) > 1))
    (K (.tuple #[.int .i64 0, .int .i64 0, .bool false]) w7)
    ((cond (decide ((v6 : Int) > 0))
    ((cond ((y9 : Int) == 0)
    (K (.tuple #[.int .i64 0, .int .i64 0, .bool false]) w7)
    (J10 w7)))
    (J10 w7)))))
    ((cond (decide ((v6 : Int) > 0))
    ((cond ((y9 : Int) == 0)
    (K (.tuple #[.int .i64 0, .int .i64 0, .bool false]) w7)
    (J10 w7)))
    (J10 w7))))) ∧
    ∀ e0 : Env, ∀ w11 : World, J10 w11 →
    (0 : Int) ≤ (IntKind.i64.wrap (7 * v6)) ∧ (cond (decide ((y9 : Int) < 128))
    ((0 : Int) ≤ 1 ∧ K (.tuple #[.int .i64 (xorI .i64 (IntKind.i64.wrap (shrI .u64 (orI .u64 v5 (shlI .u64 (IntKind.u64.wrap (andI .u8 y9 127)) (IntKind.i64.wrap (7 * v6)))) 1)) (IntKind.i64.wrap (0 - (IntKind.i64.wrap (andI .u64 (orI .u64 v5 (shlI .u64 (IntKind.u64.wrap (andI .u8 y9 127)) (IntKind.i64.wrap (7 * v6)))) 1))))), .int .i64 (IntKind.i64.wrap ((IntKind.i64.wrap (p1_ + v6)) + 1)), .bool true]) w11)
    (∃ u12 : Int, (.int .u64 (orI .u64 v5 (shlI .u64 (IntKind.u64.wrap (andI .u8 y9 127)) (IntKind.i64.wrap (7 * v6)))) : Value) = .int .u64 u12 ∧ ∃ u13 : Int, (.int .i64 (IntKind.i64.wrap (v6 + 1)) : Value) = .int .i64 u13 ∧ (I1 u12 u13 w11 ∧ M2 u12 u13 w11 < M2 v5 v6 w7))))))
    (K (.tuple #[.int .i64 0, .int .i64 0, .bool false]) w7))))))
theorem codec_GetNumber_of {p0_ : Sl} {p1_ : Int} {w : World} {K : Value → World → Prop} {KP : List PanicEntry → World → Prop} (h : W.codec_GetNumber p0_ p1_ w K KP) : C.codec_GetNumber p0_ p1_ w K KP :=
  xcall (E := E) (T := mkTab [(5, [(7, 119), (18, 3)])] [(5, [4, 5, 6, 7, 8, 9, 18, 19, 20, 21, 22, 23, 24, 25, 26, 27, 28, 29, 30, 31, 32, 33, 34, 35, 36, 37, 38, 39, 40, 41, 42, 43, 44, 45, 46, 47, 48, 49, 50, 51, 52, 53, 54, 55, 56, 57, 58, 59, 60, 61, 62, 63, 64, 65, 66, 67, 68, 69])] [(12, [])] [(12, [4, 5, 6, 33, 34, 35, 36, 37, 38, 39, 40, 41, 42, 43, 44, 45, 46])] [] [] [] []) (c := Try.f60.body.getD .skip) (rs := [.tmp 4, .tmp 5, .tmp 6]) ⟨⟩ mixed Try.func60 (by kernel_rfl) (by kernel_rfl) [.slice p0_.a p0_.len p0_.cap, .int .i64 p1_] (by kernel_rfl) (by kernel_rfl) (.inr (by kernel_rfl)) (Eq.mp (by kernel_rfl) h)

def W.wal_number (n : Int) (w : World) (K : Value → World → Prop) (KP : List PanicEntry → World → Prop) : Prop :=
   (0 : Int) ≤ 8 ∧ (0 : Int) ≤ 16 ∧ (0 : Int) ≤ 24 ∧ ∀ (b1 : Nat) (w2 : World), Alloc w b1 5 [.int .u8 (IntKind.u8.wrap n), .int .u8 (IntKind.u8.wrap (shrI .u32 n 8)), .int .u8 (IntKind.u8.wrap (shrI .u32 n 16)), .int .u8 (IntKind.u8.wrap (shrI .u32 n 24))] w2 →
    K (.slice (some ⟨b1, 0, none⟩) 4 4) w2
theorem wal_number_of {n : Int} {w : World} {K : Value → World → Prop} {KP : List PanicEntry → World → Prop} (h : W.wal_number n w K KP) : C.wal_number n w K KP :=
  xcall (E := E) (T := mkTab [] [] [] [] [] [] [] []) (c := Try.f61.body.getD .skip) (rs := [.tmp 2]) ⟨⟩ mixed Try.func61 (by kernel_rfl) (by kernel_rfl) [.int .u32 n] (by kernel_rfl) (by kernel_rfl) (.inr (by kernel_rfl)) (Eq.mp (by kernel_rfl) h)

def W.crc_More (s : Int) (p1_ : Sl) (w : World) (K : Value → World → Prop) (KP : List PanicEntry → World → Prop) : Prop :=
   ∃ (I1 : Int → Int → World → Prop) (M2 : Int → Int → World → Nat),
    (∃ u3 : Int, (.int .u32 (notI .u32 s) : Value) = .int .u32 u3 ∧ ∃ u4 : Int, (.int .i64 0 : Value) = .int .i64 u4 ∧ I1 u3 u4 w) ∧
    ∀ e0 : Env, ∀ v5 : Int, ∀ v6 : Int, ∀ w7 : World, I1 v5 v6 w7 →
    (cond (decide ((v6 : Int) < (p1_.len : Int)))
    (((0 : Int) ≤ v6 ∧ (v6 : Int) < (p1_.len : Int)) ∧ withSome p1_.a fun a8 =>
    ∃ y9 : Int, (okVal false 1 (.int .u8 y9) = true ∧ w7.cell? (Addr.add a8 (v6.toNat * 1)) = some (.int .u8 y9)) ∧
    ∃ (I10 : Int → Int → World → Prop) (M11 : Int → Int → World → Nat),
    (∃ u12 : Int, (.int .u32 (xorI .u32 v5 (IntKind.u32.wrap y9)) : Value) = .int .u32 u12 ∧ ∃ u13 : Int, (.int .i64 0 : Value) = .int .i64 u13 ∧ I10 u12 u13 w7) ∧
    ∀ e0 : Env, ∀ v14 : Int, ∀ v15 : Int, ∀ w16 : World, I10 v14 v15 w16 →
    (cond (decide ((v15 : Int) < 8))
    ((0 : Int) ≤ 1 ∧ (cond (((andI .u32 v14 1) : Int) == 1)
    (∃ u17 : Int, (.int .u32 (xorI .u32 (shrI .u32 v14 1) 3988292384) : Value) = .int .u32 u17 ∧ ∃ u18 : Int, (.int .i64 (IntKind.i64.wrap (v15 + 1)) : Value) = .int .i64 u18 ∧ (I10 u17 u18 w16 ∧ M11 u17 u18 w16 < M11 v14 v15 w16))
    (∃ u19 : Int, (.int .u32 (shrI .u32 v14 1) : Value) = .int .u32 u19 ∧ ∃ u20 : Int, (.int .i64 (IntKind.i64.wrap (v15 + 1)) : Value) = .int .i64 u20 ∧ (I10 u19 u20 w16 ∧ M11 u19 u20 w16 < M11 v14 v15 w16))))
    (∃ u21 : Int, (.int .u32 v14 : Value) = .int .u32 u21 ∧ ∃ u22 : Int, (.int .i64 (IntKind.i64.wrap (v6 + 1)) : Value) = .int .i64 u22 ∧ (I1 u21 u22 w16 ∧ M2 u21 u22 w16 < M2 v5 v6 w7))))
    (K (.int .u32 (notI .u32 v5)) w7))
theorem crc_More_of {s : Int} {p1_ : Sl} {w : World} {K : Value → World → Prop} {KP : List PanicEntry → World → Prop} (h : W.crc_More s p1_ w K KP) : C.crc_More s p1_ w K KP :=
  xcall (E := E) (T := mkTab [(3, [(5, 89), (13, 3)]), (7, [(5, 89), (21, 3)])] [(3, [5, 7, 8, 13, 14, 15, 16, 17, 18, 19, 20, 21, 22, 23, 24, 25, 26, 27, 28, 29, 30, 31, 32]), (7, [5, 8, 21, 22, 23, 24, 25, 26, 27, 28, 29, 30, 31])] [] [] [] [] [] []) (c := Try.f62.body.getD .skip) (rs := [.tmp 4]) ⟨⟩ mixed Try.func62 (by kernel_rfl) (by kernel_rfl) [.int .u32 s, .slice p1_.a p1_.len p1_.cap] (by kernel_rfl) (by kernel_rfl) (.inr (by kernel_rfl)) (Eq.mp (by kernel_rfl) h)

def W.crc_Of (p0_ : Sl) (w : World) (K : Value → World → Prop) (KP : List PanicEntry → World → Prop) : Prop :=
   C.crc_More 0 p0_ w (fun r3 w1 => ∃ p2 : Int, r3 = .int .u32 p2 ∧
    K (.int .u32 p2) w1) KP
theorem crc_Of_of {p0_ : Sl} {w : World} {K : Value → World → Prop} {KP : List PanicEntry → World → Prop} (h : W.crc_Of p0_ w K KP) : C.crc_Of p0_ w K KP :=
  xcall (E := E) (T := mkTab [] [] [] [] [] [] [] []) (c := Try.f63.body.getD .skip) (rs := [.tmp 2]) ⟨⟩ mixed Try.func63 (by kernel_rfl) (by kernel_rfl) [.slice p0_.a p0_.len p0_.cap] (by kernel_rfl) (by kernel_rfl) (.inr (by kernel_rfl)) (Eq.mp (by kernel_rfl) h)

def W.codec_number (p0_ : Sl) (v : Int) (w : World) (K : Value → World → Prop) (KP : List PanicEntry → World → Prop) : Prop :=
   (0 : Int) ≤ 1 ∧ (0 : Int) ≤ 63 ∧ ∃ (I1 : Sl → Int → World → Prop) (M2 : Sl → Int → World → Nat),
    (∃ u3 : Sl, (.slice p0_.a p0_.len p0_.cap : Value) = .slice u3.a u3.len u3.cap ∧ ∃ u4 : Int, (.int .u64 (xorI .u64 (shlI .u64 (IntKind.u64.wrap v) 1) (IntKind.u64.wrap (shrI .i64 v 63))) : Value) = .int .u64 u4 ∧ I1 u3 u4 w) ∧
    ∀ e0 : Env, ∀ v5 : Sl, ∀ v6 : Int, ∀ w7 : World, I1 v5 v6 w7 →
    (cond (decide ((v6 : Int) ≥ 128))
    (∀ (b8 : Nat) (w9 : World), Alloc w7 b8 5 [.int .u8 (orI .u8 (IntKind.u8.wrap v6) 128)] w9 →
    ∃ (q10 : Option Addr) (n11 c12 : Nat) (w13 : World), (Builtin.append_ #[27, 27] 27 #[.slice v5.a v5.len v5.cap, .slice (some ⟨b8, 0, none⟩) 1 1]).run Try.prog w9 = .ok (.slice q10 n11 c12) w13 ∧
    (0 : Int) ≤ 7 ∧ ∃ u14 : Sl, (.slice q10 n11 c12 : Value) = .slice u14.a u14.len u14.cap ∧ ∃ u15 : Int, (.int .u64 (shrI .u64 v6 7) : Value) = .int .u64 u15 ∧ (I1 u14 u15 w13 ∧ M2 u14 u15 w13 < M2 v5 v6 w7))
    (∀ (b16 : Nat) (w17 : World), Alloc w7 b16 5 [.int .u8 (IntKind.u8.wrap v6)] w17 →
    ∃ (q18 : Option Addr) (n19 c20 : Nat) (w21 : World), (Builtin.append_ #[27, 27] 27 #[.slice v5.a v5.len v5.cap, .slice (some ⟨b16, 0, none⟩) 1 1]).run Try.prog w17 = .ok (.slice q18 n19 c20) w21 ∧
    K (.slice q18 n19 c20) w21))
theorem codec_number_of {p0_ : Sl} {v : Int} {w : World} {K : Value → World → Prop} {KP : List PanicEntry → World → Prop} (h : W.codec_number p0_ v w K KP) : C.codec_number p0_ v w K KP :=
  xcall (E := E) (T := mkTab [(2, [(0, 27), (5, 119)])] [(2, [0, 5, 13, 14, 15, 16, 17, 18, 19, 20, 21, 22])] [] [] [] [] [] []) (c := Try.f64.body.getD .skip) (rs := [.tmp 4]) ⟨⟩ mixed Try.func64 (by kernel_rfl) (by kernel_rfl) [.slice p0_.a p0_.len p0_.cap, .int .i64 v] (by kernel_rfl) (by kernel_rfl) (.inr (by kernel_rfl)) (Eq.mp (by kernel_rfl) h)

def W.store_numbered_1 (yield : Value) (p1_ : (Option Addr)) (w : World) (K : Value → World → Prop) (KP : List PanicEntry → World → Prop) : Prop :=
   withSome p1_ fun a2 =>
    ∃ y1 : Sl, (okVal false 1 (.slice y1.a y1.len y1.cap) = true ∧ w.cell? a2 = some (.slice y1.a y1.len y1.cap)) ∧
    ∃ (I3 : Int → World → Prop) (M4 : Int → World → Nat),
    (∃ u5 : Int, (.int .i64 0 : Value) = .int .i64 u5 ∧ I3 u5 w) ∧
    ∀ e0 : Env, ∀ v6 : Int, ∀ w7 : World, I3 v6 w7 →
    (cond (decide ((v6 : Int) < (y1.len : Int)))
    (((0 : Int) ≤ v6 ∧ (v6 : Int) < (y1.len : Int)) ∧ withSome y1.a fun a8 =>
    ∃ y9 : Sl, (okVal false 1 (.slice y9.a y9.len y9.cap) = true ∧ w7.cell? (Addr.add a8 (v6.toNat * 1)) = some (.slice y9.a y9.len y9.cap)) ∧
    C.codec_GetNumber y9 0 w7 (fun r12 w10 => ∃ p11 : (Int × Int × Bool), r12 = .tuple #[.int .i64 p11.1, .int .i64 p11.2.1, .bool p11.2.2] ∧
    (cond (!p11.2.2)
    (callV Try.prog yield [.int .i64 1152921504606846978, .slice none 0 0] w10 (Ret (fun r15 w13 => ∃ p14 : Bool, r15 = .bool p14 ∧
    K (.tuple #[]) w13) KP))
    (((0 : Int) ≤ p11.2.1 ∧ (p11.2.1 : Int) ≤ (y9.len : Int)) ∧ callV Try.prog yield [.int .i64 p11.1, .slice (if y9.cap = p11.2.1.toNat then y9.a else Option.map (fun x => Addr.add x (p11.2.1.toNat * 1)) y9.a) (y9.len - p11.2.1.toNat) (y9.cap - p11.2.1.toNat)] w10 (Ret (fun r18 w16 => ∃ p17 : Bool, r18 = .bool p17 ∧
    (cond (!p17)
    (K (.tuple #[]) w16)
    (∃ u19 : Int, (.int .i64 (IntKind.i64.wrap (v6 + 1)) : Value) = .int .i64 u19 ∧ (I3 u19 w16 ∧ M4 u19 w16 < M4 v6 w7)))) KP)))) KP)
    (K (.tuple #[]) w7))
theorem store_numbered_1_of {yield : Value} {p1_ : (Option Addr)} {w : World} {K : Value → World → Prop} {KP : List PanicEntry → World → Prop} (h : W.store_numbered_1 yield p1_ w K KP) : C.store_numbered_1 yield p1_ w K KP :=
  xcall (E := E) (T := mkTab [(1, [(10, 3)])] [(1, [4, 5, 6, 7, 10, 11, 12, 13, 14, 15, 16, 17, 18, 19, 20, 21, 22, 23, 24, 25, 26, 27, 28, 29, 30, 31])] [] [] [] [] [] []) (c := Try.f65.body.getD .skip) (rs := []) ⟨⟩ mixed Try.func65 (by kernel_rfl) (by kernel_rfl) [yield, .pointer p1_] (by kernel_rfl) (by kernel_rfl) (.inr (by kernel_rfl)) (Eq.mp (by kernel_rfl) h)

def W.skepref02_More (s : Int) (p1_ : Sl) (w : World) (K : Value → World → Prop) (KP : List PanicEntry → World → Prop) : Prop :=
   ∃ (I1 : Int → Int → World → Prop) (M2 : Int → Int → World → Nat),
    (∃ u3 : Int, (.int .u32 (xorI .u32 s 4294967295) : Value) = .int .u32 u3 ∧ ∃ u4 : Int, (.int .i64 0 : Value) = .int .i64 u4 ∧ I1 u3 u4 w) ∧
    ∀ e0 : Env, ∀ v5 : Int, ∀ v6 : Int, ∀ w7 : World, I1 v5 v6 w7 →
    (cond (decide ((v6 : Int) < (p1_.len : Int)))
    (((0 : Int) ≤ v6 ∧ (v6 : Int) < (p1_.len : Int)) ∧ withSome p1_.a fun a8 =>
    ∃ y9 : Int, (okVal false 1 (.int .u8 y9) = true ∧ w7.cell? (Addr.add a8 (v6.toNat * 1)) = some (.int .u8 y9)) ∧
    C.skepref02_step v5 y9 w7 (fun r12 w10 => ∃ p11 : Int, r12 = .int .u32 p11 ∧
    ∃ u13 : Int, (.int .u32 p11 : Value) = .int .u32 u13 ∧ ∃ u14 : Int, (.int .i64 (IntKind.i64.wrap (v6 + 1)) : Value) = .int .i64 u14 ∧ (I1 u13 u14 w10 ∧ M2 u13 u14 w10 < M2 v5 v6 w7)) KP)
    (K (.int .u32 (xorI .u32 v5 4294967295)) w7))
theorem skepref02_More_of {s : Int} {p1_ : Sl} {w : World} {K : Value → World → Prop} {KP : List PanicEntry → World → Prop} (h : W.skepref02_More s p1_ w K KP) : C.skepref02_More s p1_ w K KP :=
  xcall (E := E) (T := mkTab [(3, [(5, 89), (6, 3)])] [(3, [5, 6, 9, 10, 11, 12, 13, 14, 15, 16, 17, 18, 19, 20])] [] [] [] [] [] []) (c := Try.f66.body.getD .skip) (rs := [.tmp 4]) ⟨⟩ mixed Try.func66 (by kernel_rfl) (by kernel_rfl) [.int .u32 s, .slice p1_.a p1_.len p1_.cap] (by kernel_rfl) (by kernel_rfl) (.inr (by kernel_rfl)) (Eq.mp (by kernel_rfl) h)
end Go.Proofs.Ytfgepillnemolaa
