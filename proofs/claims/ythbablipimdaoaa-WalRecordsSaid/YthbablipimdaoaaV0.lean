/- Printed by vc.py: what functions of this seat come to, as predicates of typed values, each with its proof. No conditions. -/
import Derived.Test.YthbablipimdaoaaTab
namespace Go.Proofs.Ythbablipimdaoaa
open Go.Eng
set_option linter.unusedVariables false
set_option maxRecDepth 100000
def W.skeplaw04_WalRecords (p0_ : Sl) (most : Int) (w : World) (K : Value → World → Prop) (KP : List PanicEntry → World → Prop) : Prop :=
   C.skeplaw04_awake  w (fun r3 w1 => ∃ p2 : Bool, r3 = .bool p2 ∧
    (cond (!p2)
    (C.skeplaw04_awake  w1 (fun r6 w4 => ∃ p5 : Bool, r6 = .bool p5 ∧
    K (.bool p5) w4) KP)
    ((cond (decide (((p0_.len : Int) : Int) > 100000))
    (C.skeplaw04_awake  w1 (fun r9 w7 => ∃ p8 : Bool, r9 = .bool p8 ∧
    K (.bool p8) w7) KP)
    (C.disk_New  w1 (fun r12 w10 => ∃ p11 : (Option Addr), r12 = .pointer p11 ∧
    C.wal_Open p11 0 w10 (fun r15 w13 => ∃ p14 : ((Option Addr) × Sl × Int), r15 = .tuple #[.pointer p14.1, .slice p14.2.1.a p14.2.1.len p14.2.1.cap, .int .i64 p14.2.2] ∧
    (cond ((p14.2.2 : Int) != 0)
    (K (.bool false) w13)
    ((cond p14.1.isNone
    (K (.bool false) w13)
    (C.skepref04_Records p0_ w13 (fun r18 w16 => ∃ p17 : (Sl × Int), r18 = .tuple #[.slice p17.1.a p17.1.len p17.1.cap, .int .i64 p17.2] ∧
    ∀ (b19 : Nat) (w20 : World), Alloc w16 b19 31 [.slice none 0 0] w20 →
    (okVal false 1 (.slice p17.1.a p17.1.len p17.1.cap) = true ∧ canPut w20 ⟨b19, 0, none⟩ (.slice p17.1.a p17.1.len p17.1.cap)) ∧ ∀ w21 : World, w21 = putAt w20 ⟨b19, 0, none⟩ (.slice p17.1.a p17.1.len p17.1.cap) →
    C.skeplaw00_CopyBytes p0_ w21 (fun r24 w22 => ∃ p23 : Sl, r24 = .slice p23.a p23.len p23.cap ∧
    C.wal_Log_Records p14.1 p23 w22 (fun r27 w25 => ∃ p26 : Value, r27 = p26 ∧
    isFn p26 ∧ (cond (isNilF p26)
    (K (.bool false) w25)
    (∃ (I28 : Int → World → Prop) (M29 : Int → World → Nat),
    (∃ u30 : Int, (.int .i64 0 : Value) = .int .i64 u30 ∧ I28 u30 w25) ∧
    ∀ e0 : Env, ∀ v31 : Int, ∀ w32 : World, I28 v31 w32 →
    (cond (decide ((v31 : Int) < 2))
    (∃ y33 : Sl, (okVal false 1 (.slice y33.a y33.len y33.cap) = true ∧ w32.cell? ⟨b19, 0, none⟩ = some (.slice y33.a y33.len y33.cap)) ∧
    ∀ (b34 : Nat) (w35 : World), Alloc w32 b34 3 [.int .i64 0] w35 →
    (okVal false 1 (.int .i64 (y33.len : Int)) = true ∧ canPut w35 ⟨b34, 0, none⟩ (.int .i64 (y33.len : Int))) ∧ ∀ w36 : World, w36 = putAt w35 ⟨b34, 0, none⟩ (.int .i64 (y33.len : Int)) →
    ∃ J37 : World → Prop,
    ((cond ((v31 : Int) == 0)
    (∃ y38 : Sl, (okVal false 1 (.slice y38.a y38.len y38.cap) = true ∧ w36.cell? ⟨b19, 0, none⟩ = some (.slice y38.a y38.len y38.cap)) ∧
    C.skeplaw00_Place most (IntKind.i64.wrap ((y38.len : Int) + 1)) w36 (fun r41 w39 => ∃ p40 : Int, r41 = .int .i64 p40 ∧
    (okVal false 1 (.int .i64 p40) = true ∧ canPut w39 ⟨b34, 0, none⟩ (.int .i64 p40)) ∧ ∀ w42 : World, w42 = putAt w39 ⟨b34, 0, none⟩ (.int .i64 p40) →
    J37 w42) KP)
    (J37 w36))) ∧
    ∀ e0 : Env, ∀ w43 : World, J37 w43 →
    ∀ (b44 : Nat) (w45 : World), Alloc w43 b44 3 [.int .i64 0] w45 →
    (okVal false 1 (.int .i64 0) = true ∧ canPut w45 ⟨b44, 0, none⟩ (.int .i64 0)) ∧ ∀ w46 : World, w46 = putAt w45 ⟨b44, 0, none⟩ (.int .i64 0) →
    ∀ (b47 : Nat) (w48 : World), Alloc w46 b47 4 [.bool false] w48 →
    (okVal false 1 (.bool true) = true ∧ canPut w48 ⟨b47, 0, none⟩ (.bool true)) ∧ ∀ w49 : World, w49 = putAt w48 ⟨b47, 0, none⟩ (.bool true) →
    callV Try.prog p26 [.func (.func 17) #[] #[.pointer (some ⟨b47, 0, none⟩), .pointer (some ⟨b44, 0, none⟩), .pointer (some ⟨b19, 0, none⟩), .pointer (some ⟨b34, 0, none⟩)]] w49 (Ret (fun r52 w50 => ∃ _p51 : Unit, r52 = .tuple #[] ∧
    ∃ y53 : Bool, (okVal false 1 (.bool y53) = true ∧ w50.cell? ⟨b47, 0, none⟩ = some (.bool y53)) ∧
    (cond (!y53)
    (K (.bool false) w50)
    (∃ y54 : Int, (okVal false 1 (.int .i64 y54) = true ∧ w50.cell? ⟨b44, 0, none⟩ = some (.int .i64 y54)) ∧
    ∃ y55 : Int, (okVal false 1 (.int .i64 y55) = true ∧ w50.cell? ⟨b34, 0, none⟩ = some (.int .i64 y55)) ∧
    (cond ((y54 : Int) != y55)
    (∃ y56 : Int, (okVal false 1 (.int .i64 y56) = true ∧ w50.cell? ⟨b34, 0, none⟩ = some (.int .i64 y56)) ∧
    (cond ((y56 : Int) == 0)
    (∃ y57 : Int, (okVal false 1 (.int .i64 y57) = true ∧ w50.cell? ⟨b44, 0, none⟩ = some (.int .i64 y57)) ∧
    ∃ y58 : Sl, (okVal false 1 (.slice y58.a y58.len y58.cap) = true ∧ w50.cell? ⟨b19, 0, none⟩ = some (.slice y58.a y58.len y58.cap)) ∧
    (cond (!((y57 : Int) == (if ((y58.len : Int) : Int) < 1 then (y58.len : Int) else 1)))
    (K (.bool false) w50)
    (∃ u59 : Int, (.int .i64 (IntKind.i64.wrap (v31 + 1)) : Value) = .int .i64 u59 ∧ (I28 u59 w50 ∧ M29 u59 w50 < M29 v31 w32))))
    (K (.bool false) w50)))
    (∃ u60 : Int, (.int .i64 (IntKind.i64.wrap (v31 + 1)) : Value) = .int .i64 u60 ∧ (I28 u60 w50 ∧ M29 u60 w50 < M29 v31 w32)))))) KP))
    (K (.bool true) w32))))) KP) KP) KP))))) KP) KP))))) KP
theorem skeplaw04_WalRecords_of {p0_ : Sl} {most : Int} {w : World} {K : Value → World → Prop} {KP : List PanicEntry → World → Prop} (h : W.skeplaw04_WalRecords p0_ most w K KP) : C.skeplaw04_WalRecords p0_ most w K KP :=
  xcall (E := E) (T := mkTab [(12, [(12, 3)])] [(12, [4, 12, 13, 14, 15, 48, 49, 50, 51, 52, 53, 54, 55, 56, 57, 58, 59, 60, 61, 62, 63, 64, 65, 66, 67, 68, 69, 70, 71, 72, 73, 74, 75, 76, 77, 78, 79, 80, 81, 82])] [(17, [])] [(17, [54, 55, 56, 57, 58, 59, 60])] [] [] []) (c := Try.f3.body.getD .skip) (rs := [.tmp 4]) ⟨⟩ mixed Try.func3 (by kernel_rfl) (by kernel_rfl) [.slice p0_.a p0_.len p0_.cap, .int .i64 most] (by kernel_rfl) (by kernel_rfl) (.inr (by kernel_rfl)) (Eq.mp (by kernel_rfl) h)

def W.skeplaw04_WalWrites (l : Sl) (w : World) (K : Value → World → Prop) (KP : List PanicEntry → World → Prop) : Prop :=
   C.skeplaw04_awake  w (fun r3 w1 => ∃ p2 : Bool, r3 = .bool p2 ∧
    (cond (!p2)
    (K (.bool false) w1)
    (C.disk_New  w1 (fun r6 w4 => ∃ p5 : (Option Addr), r6 = .pointer p5 ∧
    C.wal_Open p5 0 w4 (fun r9 w7 => ∃ p8 : ((Option Addr) × Sl × Int), r9 = .tuple #[.pointer p8.1, .slice p8.2.1.a p8.2.1.len p8.2.1.cap, .int .i64 p8.2.2] ∧
    (cond ((p8.2.2 : Int) != 0)
    (K (.bool false) w7)
    ((cond p8.1.isNone
    (K (.bool false) w7)
    (∃ J10 : Sl → World → Prop,
    (∃ (I11 : Sl → Int → World → Prop) (M12 : Sl → Int → World → Nat),
    (∃ u13 : Sl, (.slice none 0 0 : Value) = .slice u13.a u13.len u13.cap ∧ ∃ u14 : Int, (.int .i64 0 : Value) = .int .i64 u14 ∧ I11 u13 u14 w7) ∧
    ∀ e0 : Env, ∀ v15 : Sl, ∀ v16 : Int, ∀ w17 : World, I11 v15 v16 w17 →
    (cond (decide ((v16 : Int) < (l.len : Int)))
    ((cond (decide ((v16 : Int) < 30))
    (((0 : Int) ≤ v16 ∧ (v16 : Int) < (l.len : Int)) ∧ withSome l.a fun a18 =>
    ∃ y19 : Sl, (okVal false 1 (.slice y19.a y19.len y19.cap) = true ∧ w17.cell? (Addr.add a18 (v16.toNat * 1)) = some (.slice y19.a y19.len y19.cap)) ∧
    (cond (decide (((y19.len : Int) : Int) > 3000))
    (K (.bool true) w17)
    (((0 : Int) ≤ v16 ∧ (v16 : Int) < (l.len : Int)) ∧ withSome l.a fun a20 =>
    ∃ y21 : Sl, (okVal false 1 (.slice y21.a y21.len y21.cap) = true ∧ w17.cell? (Addr.add a20 (v16.toNat * 1)) = some (.slice y21.a y21.len y21.cap)) ∧
    C.skeplaw00_CopyBytes y21 w17 (fun r24 w22 => ∃ p23 : Sl, r24 = .slice p23.a p23.len p23.cap ∧
    C.wal_Log_Append p8.1 p23 w22 (fun r27 w25 => ∃ p26 : Int, r27 = .int .i64 p26 ∧
    ((0 : Int) ≤ v16 ∧ (v16 : Int) < (l.len : Int)) ∧ withSome l.a fun a28 =>
    ∃ y29 : Sl, (okVal false 1 (.slice y29.a y29.len y29.cap) = true ∧ w25.cell? (Addr.add a28 (v16.toNat * 1)) = some (.slice y29.a y29.len y29.cap)) ∧
    (cond (((y29.len : Int) : Int) == 0)
    ((cond ((p26 : Int) != 1)
    (K (.bool false) w25)
    (∃ u30 : Sl, (.slice v15.a v15.len v15.cap : Value) = .slice u30.a u30.len u30.cap ∧ ∃ u31 : Int, (.int .i64 (IntKind.i64.wrap (v16 + 1)) : Value) = .int .i64 u31 ∧ (I11 u30 u31 w25 ∧ M12 u30 u31 w25 < M12 v15 v16 w17))))
    ((cond ((p26 : Int) != 0)
    (K (.bool false) w25)
    (((0 : Int) ≤ v16 ∧ (v16 : Int) < (l.len : Int)) ∧ withSome l.a fun a32 =>
    ∃ y33 : Sl, (okVal false 1 (.slice y33.a y33.len y33.cap) = true ∧ w25.cell? (Addr.add a32 (v16.toNat * 1)) = some (.slice y33.a y33.len y33.cap)) ∧
    C.skepref04_Record y33 w25 (fun r36 w34 => ∃ p35 : Sl, r36 = .slice p35.a p35.len p35.cap ∧
    ∃ (q37 : Option Addr) (n38 c39 : Nat) (w40 : World), (Builtin.append_ #[22, 22] 22 #[.slice v15.a v15.len v15.cap, .slice p35.a p35.len p35.cap]).run Try.prog w34 = .ok (.slice q37 n38 c39) w40 ∧
    ∃ u41 : Sl, (.slice q37 n38 c39 : Value) = .slice u41.a u41.len u41.cap ∧ ∃ u42 : Int, (.int .i64 (IntKind.i64.wrap (v16 + 1)) : Value) = .int .i64 u42 ∧ (I11 u41 u42 w40 ∧ M12 u41 u42 w40 < M12 v15 v16 w17)) KP))))) KP) KP)))
    (∃ u43 : Sl, (.slice v15.a v15.len v15.cap : Value) = .slice u43.a u43.len u43.cap ∧ J10 u43 w17)))
    (∃ u44 : Sl, (.slice v15.a v15.len v15.cap : Value) = .slice u44.a u44.len u44.cap ∧ J10 u44 w17))) ∧
    ∀ e0 : Env, ∀ v45 : Sl, ∀ w46 : World, J10 v45 w46 →
    ∀ w47, Drew w46 w47 →
    ∃ s48 : ByteArray, (s48.size = v45.len ∧ (0 < v45.len → withSome v45.a fun a => Go.Eng.World.has w47 a (bytesV s48))) ∧
    C.disk_Disk_Read p5 0 w47 (fun r51 w49 => ∃ p50 : Sl, r51 = .slice p50.a p50.len p50.cap ∧
    (0 < v45.len → withSome v45.a fun a => Go.Eng.World.has w49 a (bytesV s48)) ∧ ∃ s52 : ByteArray, (s52.size = p50.len ∧ (0 < p50.len → withSome p50.a fun a => Go.Eng.World.has w49 a (bytesV s52))) ∧
    (cond (strEq s52 s48)
    (C.wal_Log_Size p8.1 w49 (fun r55 w53 => ∃ p54 : Int, r55 = .int .i64 p54 ∧
    K (.bool ((p54 : Int) == (v45.len : Int))) w53) KP)
    (K (.bool false) w49))) KP))))) KP) KP))) KP
theorem skeplaw04_WalWrites_of {l : Sl} {w : World} {K : Value → World → Prop} {KP : List PanicEntry → World → Prop} (h : W.skeplaw04_WalWrites l w K KP) : C.skeplaw04_WalWrites l w K KP :=
  xcall (E := E) (T := mkTab [(9, [(7, 22), (8, 3)])] [(9, [2, 7, 8, 9, 25, 26, 27, 28, 29, 30, 31, 32, 33, 34, 35, 36, 37, 38, 39, 40, 41, 42, 43, 44, 45, 46, 47, 48, 49, 50, 51, 52, 53, 54, 55, 56, 57, 58, 59, 60, 61, 62, 63, 64])] [(20, [(7, 22)])] [(20, [2, 7, 8, 9, 25, 26, 27, 28, 29, 30, 31, 32, 33, 34, 35, 36, 37, 38, 39, 40, 41, 42, 43, 44, 45, 46, 47, 48, 49, 50, 51, 52, 53, 54, 55, 56, 57, 58, 59, 60, 61, 62, 63, 64])] [(20, [0, 3, 4, 1, 2, 5, 6, 7, 9, 10, 8, 11, 12, 13])] [(20, [0, 1, 3, 0, 8, 31, 63, 127, 255, 127, 639, 2047, 4095, 8191])] []) (c := Try.f4.body.getD .skip) (rs := [.tmp 2]) ⟨⟩ mixed Try.func4 (by kernel_rfl) (by kernel_rfl) [.slice l.a l.len l.cap] (by kernel_rfl) (by kernel_rfl) (.inr (by kernel_rfl)) (Eq.mp (by kernel_rfl) h)

def W.skeplaw04_WalTurns (l : Sl) (p1_ : Int) (p2_ : Int) (w : World) (K : Value → World → Prop) (KP : List PanicEntry → World → Prop) : Prop :=
   C.skeplaw04_say l w (fun r3 w1 => ∃ p2 : Sl, r3 = .slice p2.a p2.len p2.cap ∧
    C.disk_New  w1 (fun r6 w4 => ∃ p5 : (Option Addr), r6 = .pointer p5 ∧
    C.wal_Open p5 0 w4 (fun r9 w7 => ∃ p8 : ((Option Addr) × Sl × Int), r9 = .tuple #[.pointer p8.1, .slice p8.2.1.a p8.2.1.len p8.2.1.cap, .int .i64 p8.2.2] ∧
    (cond ((p8.2.2 : Int) != 0)
    (K (.bool false) w7)
    ((cond p8.1.isNone
    (K (.bool false) w7)
    (∀ (b10 : Nat) (w11 : World), Alloc w7 b10 3 [.int .i64 0] w11 →
    ∃ (I12 : Sl → Int → World → Prop) (M13 : Sl → Int → World → Nat),
    (∃ u14 : Sl, (.slice (some ⟨b10, 0, none⟩) 1 1 : Value) = .slice u14.a u14.len u14.cap ∧ ∃ u15 : Int, (.int .i64 0 : Value) = .int .i64 u15 ∧ I12 u14 u15 w11) ∧
    ∀ e0 : Env, ∀ v16 : Sl, ∀ v17 : Int, ∀ w18 : World, I12 v16 v17 w18 →
    (cond (decide ((v17 : Int) < (p2.len : Int)))
    (((0 : Int) ≤ v17 ∧ (v17 : Int) < (p2.len : Int)) ∧ withSome p2.a fun a19 =>
    ∃ y20 : Sl, (okVal false 1 (.slice y20.a y20.len y20.cap) = true ∧ w18.cell? (Addr.add a19 (v17.toNat * 1)) = some (.slice y20.a y20.len y20.cap)) ∧
    C.skeplaw00_CopyBytes y20 w18 (fun r23 w21 => ∃ p22 : Sl, r23 = .slice p22.a p22.len p22.cap ∧
    C.wal_Log_Append p8.1 p22 w21 (fun r26 w24 => ∃ p25 : Int, r26 = .int .i64 p25 ∧
    (cond ((p25 : Int) != 0)
    (K (.bool false) w24)
    (C.wal_Log_Size p8.1 w24 (fun r29 w27 => ∃ p28 : Int, r29 = .int .i64 p28 ∧
    ∀ (b30 : Nat) (w31 : World), Alloc w27 b30 3 [.int .i64 p28] w31 →
    ∃ (q32 : Option Addr) (n33 c34 : Nat) (w35 : World), (Builtin.append_ #[48, 48] 48 #[.slice v16.a v16.len v16.cap, .slice (some ⟨b30, 0, none⟩) 1 1]).run Try.prog w31 = .ok (.slice q32 n33 c34) w35 ∧
    ∃ u36 : Sl, (.slice q32 n33 c34 : Value) = .slice u36.a u36.len u36.cap ∧ ∃ u37 : Int, (.int .i64 (IntKind.i64.wrap (v17 + 1)) : Value) = .int .i64 u37 ∧ (I12 u36 u37 w35 ∧ M13 u36 u37 w35 < M13 v16 v17 w18)) KP))) KP) KP)
    ((cond (((p2.len : Int) : Int) == 0)
    (C.skeplaw04_awake  w18 (fun r40 w38 => ∃ p39 : Bool, r40 = .bool p39 ∧
    K (.bool p39) w38) KP)
    ((cond ((p2_ : Int) == 0)
    (C.skeplaw04_awake  w18 (fun r43 w41 => ∃ p42 : Bool, r43 = .bool p42 ∧
    K (.bool p42) w41) KP)
    (C.disk_Disk_Read p5 0 w18 (fun r46 w44 => ∃ p45 : Sl, r46 = .slice p45.a p45.len p45.cap ∧
    C.skeplaw00_Place p1_ (p45.len : Int) w44 (fun r49 w47 => ∃ p48 : Int, r49 = .int .i64 p48 ∧
    ∃ (I50 : Int → World → Prop) (M51 : Int → World → Nat),
    (∃ u52 : Int, (.int .i64 0 : Value) = .int .i64 u52 ∧ I50 u52 w47) ∧
    ∀ e0 : Env, ∀ v53 : Int, ∀ w54 : World, I50 v53 w54 →
    ((0 : Int) ≤ (IntKind.i64.wrap (v53 + 1)) ∧ ((IntKind.i64.wrap (v53 + 1)) : Int) < (v16.len : Int)) ∧ withSome v16.a fun a55 =>
    ∃ y56 : Int, (okVal false 1 (.int .i64 y56) = true ∧ w54.cell? (Addr.add a55 ((IntKind.i64.wrap (v53 + 1)).toNat * 1)) = some (.int .i64 y56)) ∧
    (cond (decide ((y56 : Int) ≤ p48))
    (∃ u57 : Int, (.int .i64 (IntKind.i64.wrap (v53 + 1)) : Value) = .int .i64 u57 ∧ (I50 u57 w54 ∧ M51 u57 w54 < M51 v53 w54))
    (((0 : Int) ≤ v53 ∧ (v53 : Int) < (v16.len : Int)) ∧ withSome v16.a fun a58 =>
    ∃ y59 : Int, (okVal false 1 (.int .i64 y59) = true ∧ w54.cell? (Addr.add a58 (v53.toNat * 1)) = some (.int .i64 y59)) ∧
    (cond (decide (((IntKind.i64.wrap (p48 - y59)) : Int) < 4))
    (C.skeplaw04_awake  w54 (fun r62 w60 => ∃ p61 : Bool, r62 = .bool p61 ∧
    K (.bool p61) w60) KP)
    (((0 : Int) ≤ p48 ∧ (p48 : Int) < (p45.len : Int)) ∧ withSome p45.a fun a63 =>
    ∃ y64 : Int, (okVal false 1 (.int .u8 y64) = true ∧ w54.cell? (Addr.add a63 (p48.toNat * 1)) = some (.int .u8 y64)) ∧
    ((0 : Int) ≤ p48 ∧ (p48 : Int) < (p45.len : Int)) ∧ withSome p45.a fun a65 =>
    (okVal false 1 (.int .u8 (xorI .u8 y64 p2_)) = true ∧ canPut w54 (Addr.add a65 (p48.toNat * 1)) (.int .u8 (xorI .u8 y64 p2_))) ∧ ∀ w66 : World, w66 = putAt w54 (Addr.add a65 (p48.toNat * 1)) (.int .u8 (xorI .u8 y64 p2_)) →
    C.disk_New  w66 (fun r69 w67 => ∃ p68 : (Option Addr), r69 = .pointer p68 ∧
    C.disk_Disk_Append p68 0 p45 w67 (fun r72 w70 => ∃ p71 : Int, r72 = .int .i64 p71 ∧
    C.wal_Open p68 0 w70 (fun r75 w73 => ∃ p74 : ((Option Addr) × Sl × Int), r75 = .tuple #[.pointer p74.1, .slice p74.2.1.a p74.2.1.len p74.2.1.cap, .int .i64 p74.2.2] ∧
    ∀ w76, Drew w73 w76 →
    (cond ((p74.2.2 : Int) == 0)
    ((cond (((p74.2.1.len : Int) : Int) == v53)
    (((0 : Int) ≤ v53 ∧ (v53 : Int) ≤ (p2.cap : Int)) ∧ C.skeplaw04_same p74.2.1 (⟨(if p2.cap = 0 then p2.a else Option.map (fun x => Addr.add x (0 * 1)) p2.a), v53.toNat - 0, p2.cap - 0⟩) w76 (fun r79 w77 => ∃ p78 : Bool, r79 = .bool p78 ∧
    (cond p78
    (((0 : Int) ≤ v53 ∧ (v53 : Int) < (v16.len : Int)) ∧ withSome v16.a fun a80 =>
    ∃ y81 : Int, (okVal false 1 (.int .i64 y81) = true ∧ w77.cell? (Addr.add a80 (v53.toNat * 1)) = some (.int .i64 y81)) ∧
    C.disk_Disk_Size p68 0 w77 (fun r84 w82 => ∃ p83 : Int, r84 = .int .i64 p83 ∧
    (w82.cell? (Addr.add a80 (v53.toNat * 1)) = some (.int .i64 y81)) ∧ (cond ((p83 : Int) == y81)
    (C.skeplaw04_awake  w82 (fun r87 w85 => ∃ p86 : Bool, r87 = .bool p86 ∧
    K (.bool p86) w85) KP)
    (K (.bool false) w82))) KP)
    (K (.bool false) w77))) KP)
    (K (.bool false) w76)))
    (K (.bool false) w76))) KP) KP) KP))))) KP) KP))))))))))) KP) KP) KP
theorem skeplaw04_WalTurns_of {l : Sl} {p1_ : Int} {p2_ : Int} {w : World} {K : Value → World → Prop} {KP : List PanicEntry → World → Prop} (h : W.skeplaw04_WalTurns l p1_ p2_ w K KP) : C.skeplaw04_WalTurns l p1_ p2_ w K KP :=
  xcall (E := E) (T := mkTab [(8, [(12, 48), (13, 3)]), (18, [(16, 3)])] [(8, [6, 12, 13, 36, 37, 38, 39, 40, 41, 42, 43, 44, 45, 46, 47, 48, 49, 50, 51, 52, 53, 54]), (18, [16, 69, 70, 71, 72, 73, 74, 75, 76, 77])] [] [] [(26, [0, 1, 2, 3, 4, 5, 6, 7, 8, 9, 10, 11, 12, 13, 14, 15, 16, 18, 19, 20, 21, 17, 22, 23, 24, 25, 26, 27])] [(26, [0, 1, 3, 7, 15, 7, 63, 127, 255, 511, 511, 511, 3583, 8191, 16383, 32767, 65535, 131071, 65535, 65535, 851967, 1900543, 4194303, 8388607, 16777215, 33554431, 67108863, 134217727])] []) (c := Try.f5.body.getD .skip) (rs := [.tmp 6]) ⟨⟩ mixed Try.func5 (by kernel_rfl) (by kernel_rfl) [.slice l.a l.len l.cap, .int .i64 p1_, .int .u8 p2_] (by kernel_rfl) (by kernel_rfl) (.inr (by kernel_rfl)) (Eq.mp (by kernel_rfl) h)

def W.skeplaw04_WalReads (l : Sl) (more : Sl) (w : World) (K : Value → World → Prop) (KP : List PanicEntry → World → Prop) : Prop :=
   C.skeplaw04_say l w (fun r3 w1 => ∃ p2 : Sl, r3 = .slice p2.a p2.len p2.cap ∧
    ∀ (b4 : Nat) (w5 : World), Alloc w1 b4 27 [.slice none 0 0] w5 →
    (okVal false 1 (.slice p2.a p2.len p2.cap) = true ∧ canPut w5 ⟨b4, 0, none⟩ (.slice p2.a p2.len p2.cap)) ∧ ∀ w6 : World, w6 = putAt w5 ⟨b4, 0, none⟩ (.slice p2.a p2.len p2.cap) →
    C.disk_New  w6 (fun r9 w7 => ∃ p8 : (Option Addr), r9 = .pointer p8 ∧
    C.wal_Open p8 0 w7 (fun r12 w10 => ∃ p11 : ((Option Addr) × Sl × Int), r12 = .tuple #[.pointer p11.1, .slice p11.2.1.a p11.2.1.len p11.2.1.cap, .int .i64 p11.2.2] ∧
    (cond ((p11.2.2 : Int) != 0)
    ((cond ((p11.2.2 : Int) == 0)
    ((cond (!p11.1.isNone)
    (C.skeplaw04_awake  w10 (fun r15 w13 => ∃ p14 : Bool, r15 = .bool p14 ∧
    K (.bool p14) w13) KP)
    (K (.bool false) w10)))
    (K (.bool false) w10)))
    ((cond p11.1.isNone
    ((cond ((p11.2.2 : Int) == 0)
    ((cond (!p11.1.isNone)
    (C.skeplaw04_awake  w10 (fun r18 w16 => ∃ p17 : Bool, r18 = .bool p17 ∧
    K (.bool p17) w16) KP)
    (K (.bool false) w10)))
    (K (.bool false) w10)))
    ((cond (decide (((more.len : Int) : Int) > 3000))
    ((cond ((p11.2.2 : Int) == 0)
    ((cond (!p11.1.isNone)
    (C.skeplaw04_awake  w10 (fun r21 w19 => ∃ p20 : Bool, r21 = .bool p20 ∧
    K (.bool p20) w19) KP)
    (K (.bool false) w10)))
    (K (.bool false) w10)))
    (∃ (I22 : Int → World → Prop) (M23 : Int → World → Nat),
    (∃ u24 : Int, (.int .i64 0 : Value) = .int .i64 u24 ∧ I22 u24 w10) ∧
    ∀ e0 : Env, ∀ v25 : Int, ∀ w26 : World, I22 v25 w26 →
    ∃ y27 : Sl, (okVal false 1 (.slice y27.a y27.len y27.cap) = true ∧ w26.cell? ⟨b4, 0, none⟩ = some (.slice y27.a y27.len y27.cap)) ∧
    (cond (decide ((v25 : Int) < (y27.len : Int)))
    (∃ y28 : Sl, (okVal false 1 (.slice y28.a y28.len y28.cap) = true ∧ w26.cell? ⟨b4, 0, none⟩ = some (.slice y28.a y28.len y28.cap)) ∧
    ((0 : Int) ≤ v25 ∧ (v25 : Int) < (y28.len : Int)) ∧ withSome y28.a fun a29 =>
    ∃ y30 : Sl, (okVal false 1 (.slice y30.a y30.len y30.cap) = true ∧ w26.cell? (Addr.add a29 (v25.toNat * 1)) = some (.slice y30.a y30.len y30.cap)) ∧
    C.skeplaw00_CopyBytes y30 w26 (fun r33 w31 => ∃ p32 : Sl, r33 = .slice p32.a p32.len p32.cap ∧
    C.wal_Log_Append p11.1 p32 w31 (fun r36 w34 => ∃ p35 : Int, r36 = .int .i64 p35 ∧
    (cond ((p35 : Int) != 0)
    (K (.bool false) w34)
    (∃ u37 : Int, (.int .i64 (IntKind.i64.wrap (v25 + 1)) : Value) = .int .i64 u37 ∧ (I22 u37 w34 ∧ M23 u37 w34 < M23 v25 w26)))) KP) KP)
    (C.disk_Disk_Size p8 0 w26 (fun r40 w38 => ∃ p39 : Int, r40 = .int .i64 p39 ∧
    C.disk_Disk_Read p8 0 w38 (fun r43 w41 => ∃ p42 : Sl, r43 = .slice p42.a p42.len p42.cap ∧
    ∃ (q44 : Option Addr) (n45 c46 : Nat) (w47 : World), (Builtin.append_ #[22, 22] 22 #[.slice p42.a p42.len p42.cap, .slice more.a more.len more.cap]).run Try.prog w41 = .ok (.slice q44 n45 c46) w47 ∧
    ((0 : Int) ≤ p39 ∧ (p39 : Int) ≤ (c46 : Int)) ∧ C.wal_Log_Records p11.1 (⟨(if c46 = 0 then q44 else Option.map (fun x => Addr.add x (0 * 1)) q44), p39.toNat - 0, c46 - 0⟩) w47 (fun r50 w48 => ∃ p49 : Value, r50 = p49 ∧
    isFn p49 ∧ (cond (isNilF p49)
    (K (.bool false) w48)
    (∀ (b51 : Nat) (w52 : World), Alloc w48 b51 3 [.int .i64 0] w52 →
    ∀ (b53 : Nat) (w54 : World), Alloc w52 b53 3 [.int .i64 0] w54 →
    (okVal false 1 (.int .i64 0) = true ∧ canPut w54 ⟨b51, 0, none⟩ (.int .i64 0)) ∧ ∀ w55 : World, w55 = putAt w54 ⟨b51, 0, none⟩ (.int .i64 0) →
    (okVal false 1 (.int .i64 0) = true ∧ canPut w55 ⟨b53, 0, none⟩ (.int .i64 0)) ∧ ∀ w56 : World, w56 = putAt w55 ⟨b53, 0, none⟩ (.int .i64 0) →
    ∀ (b57 : Nat) (w58 : World), Alloc w56 b57 4 [.bool false] w58 →
    (okVal false 1 (.bool true) = true ∧ canPut w58 ⟨b57, 0, none⟩ (.bool true)) ∧ ∀ w59 : World, w59 = putAt w58 ⟨b57, 0, none⟩ (.bool true) →
    callV Try.prog p49 [.func (.func 26) #[] #[.pointer (some ⟨b57, 0, none⟩), .pointer (some ⟨b51, 0, none⟩), .pointer (some ⟨b4, 0, none⟩), .pointer (some ⟨b53, 0, none⟩)]] w59 (Ret (fun r62 w60 => ∃ _p61 : Unit, r62 = .tuple #[] ∧
    C.wal_Open p8 0 w60 (fun r65 w63 => ∃ p64 : ((Option Addr) × Sl × Int), r65 = .tuple #[.pointer p64.1, .slice p64.2.1.a p64.2.1.len p64.2.1.cap, .int .i64 p64.2.2] ∧
    ∃ y66 : Bool, (okVal false 1 (.bool y66) = true ∧ w63.cell? ⟨b57, 0, none⟩ = some (.bool y66)) ∧
    (cond y66
    (∃ y67 : Int, (okVal false 1 (.int .i64 y67) = true ∧ w63.cell? ⟨b51, 0, none⟩ = some (.int .i64 y67)) ∧
    ∃ y68 : Sl, (okVal false 1 (.slice y68.a y68.len y68.cap) = true ∧ w63.cell? ⟨b4, 0, none⟩ = some (.slice y68.a y68.len y68.cap)) ∧
    (cond ((y67 : Int) == (y68.len : Int))
    (∃ y69 : Int, (okVal false 1 (.int .i64 y69) = true ∧ w63.cell? ⟨b53, 0, none⟩ = some (.int .i64 y69)) ∧
    (cond ((y69 : Int) == p39)
    ((cond ((p64.2.2 : Int) == 0)
    (∃ y70 : Sl, (okVal false 1 (.slice y70.a y70.len y70.cap) = true ∧ w63.cell? ⟨b4, 0, none⟩ = some (.slice y70.a y70.len y70.cap)) ∧
    C.skeplaw04_same p64.2.1 y70 w63 (fun r73 w71 => ∃ p72 : Bool, r73 = .bool p72 ∧
    (cond p72
    (C.skeplaw04_awake  w71 (fun r76 w74 => ∃ p75 : Bool, r76 = .bool p75 ∧
    K (.bool p75) w74) KP)
    (K (.bool false) w71))) KP)
    (K (.bool false) w63)))
    (K (.bool false) w63)))
    (K (.bool false) w63)))
    (K (.bool false) w63))) KP) KP)))) KP) KP) KP))))))))) KP) KP) KP
theorem skeplaw04_WalReads_of {l : Sl} {more : Sl} {w : World} {K : Value → World → Prop} {KP : List PanicEntry → World → Prop} (h : W.skeplaw04_WalReads l more w K KP) : C.skeplaw04_WalReads l more w K KP :=
  xcall (E := E) (T := mkTab [(7, [(10, 3)])] [(7, [4, 10, 48, 49, 50, 51, 52, 53, 54, 55, 56, 57, 58, 59, 60, 61])] [] [] [] [] []) (c := Try.f6.body.getD .skip) (rs := [.tmp 4]) ⟨⟩ mixed Try.func6 (by kernel_rfl) (by kernel_rfl) [.slice l.a l.len l.cap, .slice more.a more.len more.cap] (by kernel_rfl) (by kernel_rfl) (.inr (by kernel_rfl)) (Eq.mp (by kernel_rfl) h)

def W.skeplaw04_WalBytes (p0_ : Sl) (w : World) (K : Value → World → Prop) (KP : List PanicEntry → World → Prop) : Prop :=
   C.skeplaw04_awake  w (fun r3 w1 => ∃ p2 : Bool, r3 = .bool p2 ∧
    (cond (!p2)
    (C.skeplaw04_awake  w1 (fun r6 w4 => ∃ p5 : Bool, r6 = .bool p5 ∧
    K (.bool p5) w4) KP)
    ((cond (decide (((p0_.len : Int) : Int) > 100000))
    (C.skeplaw04_awake  w1 (fun r9 w7 => ∃ p8 : Bool, r9 = .bool p8 ∧
    K (.bool p8) w7) KP)
    (C.disk_New  w1 (fun r12 w10 => ∃ p11 : (Option Addr), r12 = .pointer p11 ∧
    C.skeplaw00_CopyBytes p0_ w10 (fun r15 w13 => ∃ p14 : Sl, r15 = .slice p14.a p14.len p14.cap ∧
    C.disk_Disk_Append p11 1 p14 w13 (fun r18 w16 => ∃ p17 : Int, r18 = .int .i64 p17 ∧
    (cond ((p17 : Int) != 0)
    (K (.bool false) w16)
    (C.skepref04_Records p0_ w16 (fun r21 w19 => ∃ p20 : (Sl × Int), r21 = .tuple #[.slice p20.1.a p20.1.len p20.1.cap, .int .i64 p20.2] ∧
    C.wal_Open p11 1 w19 (fun r24 w22 => ∃ p23 : ((Option Addr) × Sl × Int), r24 = .tuple #[.pointer p23.1, .slice p23.2.1.a p23.2.1.len p23.2.1.cap, .int .i64 p23.2.2] ∧
    ∀ w25, Drew w22 w25 →
    (cond ((p23.2.2 : Int) != 0)
    (K (.bool false) w25)
    ((cond p23.1.isNone
    (K (.bool false) w25)
    (C.skeplaw04_said p20.1 w25 (fun r28 w26 => ∃ p27 : Sl, r28 = .slice p27.a p27.len p27.cap ∧
    C.skeplaw04_same p23.2.1 p27 w26 (fun r31 w29 => ∃ p30 : Bool, r31 = .bool p30 ∧
    (cond (!p30)
    (K (.bool false) w29)
    (C.wal_Log_Size p23.1 w29 (fun r34 w32 => ∃ p33 : Int, r34 = .int .i64 p33 ∧
    (cond ((p33 : Int) != p20.2)
    (K (.bool false) w32)
    (((0 : Int) ≤ p20.2 ∧ (p20.2 : Int) ≤ (p0_.cap : Int)) ∧ ∃ s35 : ByteArray, (s35.size = p20.2.toNat - 0 ∧ (0 < p20.2.toNat - 0 → withSome (if p0_.cap = 0 then p0_.a else Option.map (fun x => Addr.add x (0 * 1)) p0_.a) fun a => Go.Eng.World.has w32 a (bytesV s35))) ∧
    C.disk_Disk_Read p11 1 w32 (fun r38 w36 => ∃ p37 : Sl, r38 = .slice p37.a p37.len p37.cap ∧
    (0 < p20.2.toNat - 0 → withSome (if p0_.cap = 0 then p0_.a else Option.map (fun x => Addr.add x (0 * 1)) p0_.a) fun a => Go.Eng.World.has w36 a (bytesV s35)) ∧ ∃ s39 : ByteArray, (s39.size = p37.len ∧ (0 < p37.len → withSome p37.a fun a => Go.Eng.World.has w36 a (bytesV s39))) ∧
    (cond (!(strEq s39 s35))
    (K (.bool false) w36)
    ((cond ((p20.2 : Int) == (p0_.len : Int))
    (K (.bool true) w36)
    (C.disk_Disk_Pending p11 1 w36 (fun r42 w40 => ∃ p41 : Int, r42 = .int .i64 p41 ∧
    K (.bool ((p41 : Int) == 0)) w40) KP))))) KP))) KP))) KP) KP))))) KP) KP))) KP) KP) KP))))) KP
theorem skeplaw04_WalBytes_of {p0_ : Sl} {w : World} {K : Value → World → Prop} {KP : List PanicEntry → World → Prop} (h : W.skeplaw04_WalBytes p0_ w K KP) : C.skeplaw04_WalBytes p0_ w K KP :=
  xcall (E := E) (T := mkTab [] [] [] [] [(8, [0, 1, 2, 3, 4, 5, 6, 7, 8, 9, 10, 11, 12, 13, 14, 16, 15, 17, 18, 19, 20, 23, 24, 25, 26, 21, 22, 27, 28])] [(8, [0, 1, 3, 7, 15, 31, 63, 127, 127, 383, 1023, 2047, 4095, 8191, 16383, 32767, 16383, 131071, 262143, 524287, 1048575, 2097151, 4194303, 1048575, 1048575, 26214399, 59768831, 134217727, 268435455])] []) (c := Try.f7.body.getD .skip) (rs := [.tmp 2]) ⟨⟩ mixed Try.func7 (by kernel_rfl) (by kernel_rfl) [.slice p0_.a p0_.len p0_.cap] (by kernel_rfl) (by kernel_rfl) (.inr (by kernel_rfl)) (Eq.mp (by kernel_rfl) h)

def W.skeplaw04_WalErases (l : Sl) (file : Int) (one : Sl) (w : World) (K : Value → World → Prop) (KP : List PanicEntry → World → Prop) : Prop :=
   C.skeplaw04_say l w (fun r3 w1 => ∃ p2 : Sl, r3 = .slice p2.a p2.len p2.cap ∧
    C.disk_New  w1 (fun r6 w4 => ∃ p5 : (Option Addr), r6 = .pointer p5 ∧
    C.skeplaw00_Place file 2 w4 (fun r9 w7 => ∃ p8 : Int, r9 = .int .i64 p8 ∧
    C.wal_Open p5 p8 w7 (fun r12 w10 => ∃ p11 : ((Option Addr) × Sl × Int), r12 = .tuple #[.pointer p11.1, .slice p11.2.1.a p11.2.1.len p11.2.1.cap, .int .i64 p11.2.2] ∧
    (cond ((p11.2.2 : Int) != 0)
    (K (.bool false) w10)
    ((cond p11.1.isNone
    (K (.bool false) w10)
    (∃ (I13 : Int → World → Prop) (M14 : Int → World → Nat),
    (∃ u15 : Int, (.int .i64 0 : Value) = .int .i64 u15 ∧ I13 u15 w10) ∧
    ∀ e0 : Env, ∀ v16 : Int, ∀ w17 : World, I13 v16 w17 →
    (cond (decide ((v16 : Int) < (p2.len : Int)))
    (((0 : Int) ≤ v16 ∧ (v16 : Int) < (p2.len : Int)) ∧ withSome p2.a fun a18 =>
    ∃ y19 : Sl, (okVal false 1 (.slice y19.a y19.len y19.cap) = true ∧ w17.cell? (Addr.add a18 (v16.toNat * 1)) = some (.slice y19.a y19.len y19.cap)) ∧
    C.skeplaw00_CopyBytes y19 w17 (fun r22 w20 => ∃ p21 : Sl, r22 = .slice p21.a p21.len p21.cap ∧
    C.wal_Log_Append p11.1 p21 w20 (fun r25 w23 => ∃ p24 : Int, r25 = .int .i64 p24 ∧
    ∃ u26 : Int, (.int .i64 (IntKind.i64.wrap (v16 + 1)) : Value) = .int .i64 u26 ∧ (I13 u26 w23 ∧ M14 u26 w23 < M14 v16 w17)) KP) KP)
    (C.disk_Disk_Read p5 p8 w17 (fun r29 w27 => ∃ p28 : Sl, r29 = .slice p28.a p28.len p28.cap ∧
    ∃ s30 : ByteArray, (s30.size = p28.len ∧ (0 < p28.len → withSome p28.a fun a => Go.Eng.World.has w27 a (bytesV s30))) ∧
    C.wal_Log_Sync p11.1 w27 (fun r33 w31 => ∃ p32 : Int, r33 = .int .i64 p32 ∧
    (cond ((p32 : Int) != 0)
    (K (.bool false) w31)
    (C.wal_Log_Erase p11.1 w31 (fun r36 w34 => ∃ p35 : Int, r36 = .int .i64 p35 ∧
    (cond ((p35 : Int) != 0)
    (K (.bool false) w34)
    (C.wal_Log_Size p11.1 w34 (fun r39 w37 => ∃ p38 : Int, r39 = .int .i64 p38 ∧
    (cond ((p38 : Int) != 0)
    (K (.bool false) w37)
    (C.disk_Disk_Crash p5 0 0 w37 (fun r42 w40 => ∃ p41 : (Option Addr), r42 = .pointer p41 ∧
    C.disk_Disk_Read p41 p8 w40 (fun r45 w43 => ∃ p44 : Sl, r45 = .slice p44.a p44.len p44.cap ∧
    ∃ s46 : ByteArray, (s46.size = p44.len ∧ (0 < p44.len → withSome p44.a fun a => Go.Eng.World.has w43 a (bytesV s46))) ∧
    (cond (!(strEq s46 s30))
    (K (.bool false) w43)
    (C.disk_Disk_Crash p5 1 1 w43 (fun r49 w47 => ∃ p48 : (Option Addr), r49 = .pointer p48 ∧
    C.disk_Disk_Read p48 p8 w47 (fun r52 w50 => ∃ p51 : Sl, r52 = .slice p51.a p51.len p51.cap ∧
    ∃ s53 : ByteArray, (s53.size = p51.len ∧ (0 < p51.len → withSome p51.a fun a => Go.Eng.World.has w50 a (bytesV s53))) ∧
    (cond (!(strEq s53 ByteArray.empty))
    (K (.bool false) w50)
    (((0 : Int) ≤ 65537 ∧ (65537 : Int) ≤ 65537 ∧ (1 : Int) * 65537 ≤ 281474976710656 ∧ (65537 : Int) ≤ 9223372036854775807) ∧ ∀ (b54 : Nat) (w55 : World), Alloc w50 b54 5 (madeCells #[.int .u8 0] (65537 * 1)).toList w55 →
    C.wal_Log_Append p11.1 (⟨(some ⟨b54, 0, none⟩), 65537, 65537⟩) w55 (fun r58 w56 => ∃ p57 : Int, r58 = .int .i64 p57 ∧
    (cond ((p57 : Int) != 1)
    (K (.bool false) w56)
    (C.wal_Log_Size p11.1 w56 (fun r61 w59 => ∃ p60 : Int, r61 = .int .i64 p60 ∧
    (cond ((p60 : Int) != 0)
    (K (.bool false) w59)
    (C.wal_Open p5 (IntKind.i64.wrap (2 + p8)) w59 (fun r64 w62 => ∃ p63 : ((Option Addr) × Sl × Int), r64 = .tuple #[.pointer p63.1, .slice p63.2.1.a p63.2.1.len p63.2.1.cap, .int .i64 p63.2.2] ∧
    (cond (!p63.1.isNone)
    (K (.bool false) w62)
    ((cond (((p63.2.1.len : Int) : Int) != 0)
    (K (.bool false) w62)
    ((cond ((p63.2.2 : Int) != 1)
    (K (.bool false) w62)
    ((cond (((one.len : Int) : Int) == 0)
    (C.skeplaw04_awake  w62 (fun r67 w65 => ∃ p66 : Bool, r67 = .bool p66 ∧
    K (.bool p66) w65) KP)
    ((cond (decide (((one.len : Int) : Int) > 3000))
    (C.skeplaw04_awake  w62 (fun r70 w68 => ∃ p69 : Bool, r70 = .bool p69 ∧
    K (.bool p69) w68) KP)
    (C.skeplaw00_CopyBytes one w62 (fun r73 w71 => ∃ p72 : Sl, r73 = .slice p72.a p72.len p72.cap ∧
    C.wal_Log_Append p11.1 p72 w71 (fun r76 w74 => ∃ p75 : Int, r76 = .int .i64 p75 ∧
    (cond ((p75 : Int) != 0)
    (K (.bool false) w74)
    (C.wal_Open p5 p8 w74 (fun r79 w77 => ∃ p78 : ((Option Addr) × Sl × Int), r79 = .tuple #[.pointer p78.1, .slice p78.2.1.a p78.2.1.len p78.2.1.cap, .int .i64 p78.2.2] ∧
    ∀ w80, Drew w77 w80 →
    (cond ((p78.2.2 : Int) == 0)
    ((cond (((p78.2.1.len : Int) : Int) == 1)
    (((0 : Int) ≤ 0 ∧ (0 : Int) < (p78.2.1.len : Int)) ∧ withSome p78.2.1.a fun a81 =>
    ∃ y82 : Sl, (okVal false 1 (.slice y82.a y82.len y82.cap) = true ∧ w80.cell? a81 = some (.slice y82.a y82.len y82.cap)) ∧
    ∃ s83 : ByteArray, (s83.size = y82.len ∧ (0 < y82.len → withSome y82.a fun a => Go.Eng.World.has w80 a (bytesV s83))) ∧
    ∃ s84 : ByteArray, (s84.size = one.len ∧ (0 < one.len → withSome one.a fun a => Go.Eng.World.has w80 a (bytesV s84))) ∧
    (cond (strEq s83 s84)
    (C.disk_Disk_Size p5 (IntKind.i64.wrap (1 - p8)) w80 (fun r87 w85 => ∃ p86 : Int, r87 = .int .i64 p86 ∧
    (cond ((p86 : Int) == 0)
    (C.skeplaw04_awake  w85 (fun r90 w88 => ∃ p89 : Bool, r90 = .bool p89 ∧
    K (.bool p89) w88) KP)
    (K (.bool false) w85))) KP)
    (K (.bool false) w80)))
    (K (.bool false) w80)))
    (K (.bool false) w80))) KP))) KP) KP))))))))))) KP))) KP))) KP))) KP) KP))) KP) KP))) KP))) KP))) KP) KP))))))) KP) KP) KP) KP
theorem skeplaw04_WalErases_of {l : Sl} {file : Int} {one : Sl} {w : World} {K : Value → World → Prop} {KP : List PanicEntry → World → Prop} (h : W.skeplaw04_WalErases l file one w K KP) : C.skeplaw04_WalErases l file one w K KP :=
  xcall (E := E) (T := mkTab [(8, [(13, 3)])] [(8, [13, 35, 36, 37, 38, 39, 40, 41, 42, 43, 44, 45, 46, 47])] [] [] [(22, [0, 1, 2, 3, 4, 5, 6, 7, 8, 9, 10, 11, 12, 13, 14, 15, 16, 17, 18, 19, 20, 21, 22, 23, 24, 25, 26])] [(22, [0, 1, 3, 7, 15, 31, 63, 127, 255, 511, 1023, 2047, 255, 4351, 16383, 32767, 65535, 131071, 131071, 393215, 1048575, 2097151, 4194303, 8388607, 16777215, 33554431, 67108863])] []) (c := Try.f8.body.getD .skip) (rs := [.tmp 6]) ⟨⟩ mixed Try.func8 (by kernel_rfl) (by kernel_rfl) [.slice l.a l.len l.cap, .int .i64 file, .slice one.a one.len one.cap] (by kernel_rfl) (by kernel_rfl) (.inr (by kernel_rfl)) (Eq.mp (by kernel_rfl) h)

def W.skeplaw04_WalTorn (sure : Sl) (more : Sl) (units : Int) (later : Sl) (w : World) (K : Value → World → Prop) (KP : List PanicEntry → World → Prop) : Prop :=
   C.skeplaw04_say sure w (fun r3 w1 => ∃ p2 : Sl, r3 = .slice p2.a p2.len p2.cap ∧
    C.skeplaw04_say more w1 (fun r6 w4 => ∃ p5 : Sl, r6 = .slice p5.a p5.len p5.cap ∧
    C.disk_New  w4 (fun r9 w7 => ∃ p8 : (Option Addr), r9 = .pointer p8 ∧
    C.wal_Open p8 0 w7 (fun r12 w10 => ∃ p11 : ((Option Addr) × Sl × Int), r12 = .tuple #[.pointer p11.1, .slice p11.2.1.a p11.2.1.len p11.2.1.cap, .int .i64 p11.2.2] ∧
    (cond ((p11.2.2 : Int) != 0)
    (K (.bool false) w10)
    ((cond p11.1.isNone
    (K (.bool false) w10)
    (∃ (I13 : Int → World → Prop) (M14 : Int → World → Nat),
    (∃ u15 : Int, (.int .i64 0 : Value) = .int .i64 u15 ∧ I13 u15 w10) ∧
    ∀ e0 : Env, ∀ v16 : Int, ∀ w17 : World, I13 v16 w17 →
    (cond (decide ((v16 : Int) < (p2.len : Int)))
    (((0 : Int) ≤ v16 ∧ (v16 : Int) < (p2.len : Int)) ∧ withSome p2.a fun a18 =>
    ∃ y19 : Sl, (okVal false 1 (.slice y19.a y19.len y19.cap) = true ∧ w17.cell? (Addr.add a18 (v16.toNat * 1)) = some (.slice y19.a y19.len y19.cap)) ∧
    C.skeplaw00_CopyBytes y19 w17 (fun r22 w20 => ∃ p21 : Sl, r22 = .slice p21.a p21.len p21.cap ∧
    C.wal_Log_Append p11.1 p21 w20 (fun r25 w23 => ∃ p24 : Int, r25 = .int .i64 p24 ∧
    (cond ((p24 : Int) != 0)
    (K (.bool false) w23)
    (∃ u26 : Int, (.int .i64 (IntKind.i64.wrap (v16 + 1)) : Value) = .int .i64 u26 ∧ (I13 u26 w23 ∧ M14 u26 w23 < M14 v16 w17)))) KP) KP)
    (C.wal_Log_Sync p11.1 w17 (fun r29 w27 => ∃ p28 : Int, r29 = .int .i64 p28 ∧
    (cond ((p28 : Int) != 0)
    (K (.bool false) w27)
    (∃ (I30 : Int → World → Prop) (M31 : Int → World → Nat),
    (∃ u32 : Int, (.int .i64 0 : Value) = .int .i64 u32 ∧ I30 u32 w27) ∧
    ∀ e0 : Env, ∀ v33 : Int, ∀ w34 : World, I30 v33 w34 →
    (cond (decide ((v33 : Int) < (p5.len : Int)))
    (((0 : Int) ≤ v33 ∧ (v33 : Int) < (p5.len : Int)) ∧ withSome p5.a fun a35 =>
    ∃ y36 : Sl, (okVal false 1 (.slice y36.a y36.len y36.cap) = true ∧ w34.cell? (Addr.add a35 (v33.toNat * 1)) = some (.slice y36.a y36.len y36.cap)) ∧
    C.skeplaw00_CopyBytes y36 w34 (fun r39 w37 => ∃ p38 : Sl, r39 = .slice p38.a p38.len p38.cap ∧
    C.wal_Log_Append p11.1 p38 w37 (fun r42 w40 => ∃ p41 : Int, r42 = .int .i64 p41 ∧
    (cond ((p41 : Int) != 0)
    (K (.bool false) w40)
    (∃ u43 : Int, (.int .i64 (IntKind.i64.wrap (v33 + 1)) : Value) = .int .i64 u43 ∧ (I30 u43 w40 ∧ M31 u43 w40 < M31 v33 w34)))) KP) KP)
    (∃ (q44 : Option Addr) (n45 c46 : Nat) (w47 : World), (Builtin.append_ #[27, 27] 27 #[.slice none 0 0, .slice p2.a p2.len p2.cap]).run Try.prog w34 = .ok (.slice q44 n45 c46) w47 ∧
    ∃ (q48 : Option Addr) (n49 c50 : Nat) (w51 : World), (Builtin.append_ #[27, 27] 27 #[.slice q44 n45 c46, .slice p5.a p5.len p5.cap]).run Try.prog w47 = .ok (.slice q48 n49 c50) w51 ∧
    C.disk_Disk_Pending p8 0 w51 (fun r54 w52 => ∃ p53 : Int, r54 = .int .i64 p53 ∧
    C.skeplaw00_Place units (IntKind.i64.wrap (p53 + 1)) w52 (fun r57 w55 => ∃ p56 : Int, r57 = .int .i64 p56 ∧
    C.disk_Disk_Crash p8 p56 0 w55 (fun r60 w58 => ∃ p59 : (Option Addr), r60 = .pointer p59 ∧
    C.wal_Open p59 0 w58 (fun r63 w61 => ∃ p62 : ((Option Addr) × Sl × Int), r63 = .tuple #[.pointer p62.1, .slice p62.2.1.a p62.2.1.len p62.2.1.cap, .int .i64 p62.2.2] ∧
    (cond ((p62.2.2 : Int) != 0)
    (K (.bool false) w61)
    ((cond p62.1.isNone
    (K (.bool false) w61)
    ((cond (decide (((p62.2.1.len : Int) : Int) < (p2.len : Int)))
    (K (.bool false) w61)
    ((cond (decide (((p62.2.1.len : Int) : Int) > (n49 : Int)))
    (K (.bool false) w61)
    (((0 : Int) ≤ (p62.2.1.len : Int) ∧ ((p62.2.1.len : Int) : Int) ≤ (c50 : Int)) ∧ C.skeplaw04_same p62.2.1 (⟨(if c50 = 0 then q48 else Option.map (fun x => Addr.add x (0 * 1)) q48), (p62.2.1.len : Int).toNat - 0, c50 - 0⟩) w61 (fun r66 w64 => ∃ p65 : Bool, r66 = .bool p65 ∧
    (cond (!p65)
    (K (.bool false) w64)
    ((cond (((later.len : Int) : Int) == 0)
    (C.skeplaw04_awake  w64 (fun r69 w67 => ∃ p68 : Bool, r69 = .bool p68 ∧
    K (.bool p68) w67) KP)
    ((cond (decide (((later.len : Int) : Int) > 3000))
    (C.skeplaw04_awake  w64 (fun r72 w70 => ∃ p71 : Bool, r72 = .bool p71 ∧
    K (.bool p71) w70) KP)
    (C.skeplaw00_CopyBytes later w64 (fun r75 w73 => ∃ p74 : Sl, r75 = .slice p74.a p74.len p74.cap ∧
    C.wal_Log_Append p62.1 p74 w73 (fun r78 w76 => ∃ p77 : Int, r78 = .int .i64 p77 ∧
    (cond ((p77 : Int) != 0)
    (K (.bool false) w76)
    (C.wal_Log_Sync p62.1 w76 (fun r81 w79 => ∃ p80 : Int, r81 = .int .i64 p80 ∧
    (cond ((p80 : Int) != 0)
    (K (.bool false) w79)
    (C.disk_Disk_Crash p59 0 0 w79 (fun r84 w82 => ∃ p83 : (Option Addr), r84 = .pointer p83 ∧
    C.wal_Open p83 0 w82 (fun r87 w85 => ∃ p86 : ((Option Addr) × Sl × Int), r87 = .tuple #[.pointer p86.1, .slice p86.2.1.a p86.2.1.len p86.2.1.cap, .int .i64 p86.2.2] ∧
    ∀ w88, Drew w85 w88 →
    (cond ((p86.2.2 : Int) == 0)
    ((cond (((p86.2.1.len : Int) : Int) == (IntKind.i64.wrap ((p62.2.1.len : Int) + 1)))
    (((0 : Int) ≤ (p62.2.1.len : Int) ∧ ((p62.2.1.len : Int) : Int) ≤ (p86.2.1.cap : Int)) ∧ C.skeplaw04_same (⟨(if p86.2.1.cap = 0 then p86.2.1.a else Option.map (fun x => Addr.add x (0 * 1)) p86.2.1.a), (p62.2.1.len : Int).toNat - 0, p86.2.1.cap - 0⟩) p62.2.1 w88 (fun r91 w89 => ∃ p90 : Bool, r91 = .bool p90 ∧
    (cond p90
    (((0 : Int) ≤ (p62.2.1.len : Int) ∧ ((p62.2.1.len : Int) : Int) < (p86.2.1.len : Int)) ∧ withSome p86.2.1.a fun a92 =>
    ∃ y93 : Sl, (okVal false 1 (.slice y93.a y93.len y93.cap) = true ∧ w89.cell? (Addr.add a92 ((p62.2.1.len : Int).toNat * 1)) = some (.slice y93.a y93.len y93.cap)) ∧
    ∃ s94 : ByteArray, (s94.size = y93.len ∧ (0 < y93.len → withSome y93.a fun a => Go.Eng.World.has w89 a (bytesV s94))) ∧
    ∃ s95 : ByteArray, (s95.size = later.len ∧ (0 < later.len → withSome later.a fun a => Go.Eng.World.has w89 a (bytesV s95))) ∧
    (cond (strEq s94 s95)
    (C.skeplaw04_awake  w89 (fun r98 w96 => ∃ p97 : Bool, r98 = .bool p97 ∧
    K (.bool p97) w96) KP)
    (K (.bool false) w89)))
    (K (.bool false) w89))) KP)
    (K (.bool false) w88)))
    (K (.bool false) w88))) KP) KP))) KP))) KP) KP))))))) KP))))))))) KP) KP) KP) KP))))) KP))))))) KP) KP) KP) KP
theorem skeplaw04_WalTorn_of {sure : Sl} {more : Sl} {units : Int} {later : Sl} {w : World} {K : Value → World → Prop} {KP : List PanicEntry → World → Prop} (h : W.skeplaw04_WalTorn sure more units later w K KP) : C.skeplaw04_WalTorn sure more units later w K KP :=
  xcall (E := E) (T := mkTab [(8, [(15, 3)]), (15, [(16, 3)])] [(8, [8, 15, 40, 41, 42, 43, 44, 45, 46, 47, 48, 49, 50, 51, 52, 53]), (15, [8, 16, 57, 58, 59, 60, 61, 62, 63, 64, 65, 66, 67, 68, 69, 70])] [] [] [(29, [0, 1, 2, 3, 4, 5, 6, 7, 8, 9, 10, 11, 12, 13, 14, 15, 16, 17, 18, 19, 20, 21, 22, 23, 24, 25, 26, 27, 28, 29, 30, 31, 32])] [(29, [0, 1, 3, 7, 15, 7, 39, 103, 255, 511, 1023, 2047, 2047, 6143, 16383, 2047, 65535, 131071, 262143, 524287, 524287, 1572863, 4194303, 8388607, 16777215, 524287, 34078719, 134217727, 268435455, 536870911, 1073741823, 2147483647, 4294967295])] []) (c := Try.f9.body.getD .skip) (rs := [.tmp 8]) ⟨⟩ mixed Try.func9 (by kernel_rfl) (by kernel_rfl) [.slice sure.a sure.len sure.cap, .slice more.a more.len more.cap, .int .i64 units, .slice later.a later.len later.cap] (by kernel_rfl) (by kernel_rfl) (.inr (by kernel_rfl)) (Eq.mp (by kernel_rfl) h)

def W.skeplaw04_awake (w : World) (K : Value → World → Prop) (KP : List PanicEntry → World → Prop) : Prop :=
   C.disk_New  w (fun r3 w1 => ∃ p2 : (Option Addr), r3 = .pointer p2 ∧
    C.wal_Open p2 0 w1 (fun r6 w4 => ∃ p5 : ((Option Addr) × Sl × Int), r6 = .tuple #[.pointer p5.1, .slice p5.2.1.a p5.2.1.len p5.2.1.cap, .int .i64 p5.2.2] ∧
    (cond ((p5.2.2 : Int) != 0)
    (K (.bool false) w4)
    ((cond p5.1.isNone
    (K (.bool false) w4)
    ((cond (((p5.2.1.len : Int) : Int) != 0)
    (K (.bool false) w4)
    (∀ (b7 : Nat) (w8 : World), Alloc w4 b7 5 [.int .u8 97] w8 →
    ∀ w9 : World, Marked w8 ⟨b7, 0, none⟩ w9 →
    C.wal_Log_Append p5.1 (⟨(some ⟨b7, 0, none⟩), 1, 1⟩) w9 (fun r12 w10 => ∃ p11 : Int, r12 = .int .i64 p11 ∧
    (cond ((p11 : Int) != 0)
    (K (.bool false) w10)
    (C.wal_Log_Sync p5.1 w10 (fun r15 w13 => ∃ p14 : Int, r15 = .int .i64 p14 ∧
    (cond ((p14 : Int) != 0)
    (K (.bool false) w13)
    (C.wal_Log_Size p5.1 w13 (fun r18 w16 => ∃ p17 : Int, r18 = .int .i64 p17 ∧
    (cond ((p17 : Int) != 9)
    (K (.bool false) w16)
    (C.wal_Open p2 0 w16 (fun r21 w19 => ∃ p20 : ((Option Addr) × Sl × Int), r21 = .tuple #[.pointer p20.1, .slice p20.2.1.a p20.2.1.len p20.2.1.cap, .int .i64 p20.2.2] ∧
    (cond ((p20.2.2 : Int) == 0)
    ((cond (((p20.2.1.len : Int) : Int) == 1)
    (((0 : Int) ≤ 0 ∧ (0 : Int) < (p20.2.1.len : Int)) ∧ withSome p20.2.1.a fun a22 =>
    ∃ y23 : Sl, (okVal false 1 (.slice y23.a y23.len y23.cap) = true ∧ w19.cell? a22 = some (.slice y23.a y23.len y23.cap)) ∧
    ∃ s24 : ByteArray, (s24.size = y23.len ∧ (0 < y23.len → withSome y23.a fun a => Go.Eng.World.has w19 a (bytesV s24))) ∧
    (cond (strEq s24 (⟨#[97]⟩))
    (C.disk_Disk_Size p2 0 w19 (fun r27 w25 => ∃ p26 : Int, r27 = .int .i64 p26 ∧
    (cond ((p26 : Int) == 9)
    (C.disk_Disk_Read p2 0 w25 (fun r30 w28 => ∃ p29 : Sl, r30 = .slice p29.a p29.len p29.cap ∧
    ((0 : Int) ≤ 0 ∧ (0 : Int) < (p29.len : Int)) ∧ withSome p29.a fun a31 =>
    ∃ y32 : Int, (okVal false 1 (.int .u8 y32) = true ∧ w28.cell? a31 = some (.int .u8 y32)) ∧
    (cond ((y32 : Int) == 1)
    (C.disk_Disk_Read p2 0 w28 (fun r35 w33 => ∃ p34 : Sl, r35 = .slice p34.a p34.len p34.cap ∧
    ((0 : Int) ≤ 8 ∧ (8 : Int) < (p34.len : Int)) ∧ withSome p34.a fun a36 =>
    ∃ y37 : Int, (okVal false 1 (.int .u8 y37) = true ∧ w33.cell? (Addr.add a36 8) = some (.int .u8 y37)) ∧
    K (.bool ((y37 : Int) == 97)) w33) KP)
    (K (.bool false) w28))) KP)
    (K (.bool false) w25))) KP)
    (K (.bool false) w19)))
    (K (.bool false) w19)))
    (K (.bool false) w19))) KP))) KP))) KP))) KP))))))) KP) KP
theorem skeplaw04_awake_of {w : World} {K : Value → World → Prop} {KP : List PanicEntry → World → Prop} (h : W.skeplaw04_awake  w K KP) : C.skeplaw04_awake  w K KP :=
  xcall (E := E) (T := mkTab [] [] [] [] [] [] []) (c := Try.f10.body.getD .skip) (rs := [.tmp 0]) ⟨⟩ mixed Try.func10 (by kernel_rfl) (by kernel_rfl) [] (by kernel_rfl) (by kernel_rfl) (.inr (by kernel_rfl)) (Eq.mp (by kernel_rfl) h)

def W.disk_New (w : World) (K : Value → World → Prop) (KP : List PanicEntry → World → Prop) : Prop :=
   ∀ (b1 : Nat) (w2 : World), Alloc w b1 65 [.slice none 0 0, .slice none 0 0, .slice none 0 0, .slice none 0 0, .slice none 0 0, .slice none 0 0] w2 →
    K (.pointer (some ⟨b1, 0, none⟩)) w2
theorem disk_New_of {w : World} {K : Value → World → Prop} {KP : List PanicEntry → World → Prop} (h : W.disk_New  w K KP) : C.disk_New  w K KP :=
  xcall (E := E) (T := mkTab [] [] [] [] [] [] []) (c := Try.f11.body.getD .skip) (rs := [.tmp 0]) ⟨⟩ mixed Try.func11 (by kernel_rfl) (by kernel_rfl) [] (by kernel_rfl) (by kernel_rfl) (.inr (by kernel_rfl)) (Eq.mp (by kernel_rfl) h)

def W.wal_Open (d : (Option Addr)) (file : Int) (w : World) (K : Value → World → Prop) (KP : List PanicEntry → World → Prop) : Prop :=
   (cond d.isNone
    (K (.tuple #[.pointer none, .slice none 0 0, .int .i64 1]) w)
    ((cond (decide ((file : Int) < 0))
    (K (.tuple #[.pointer none, .slice none 0 0, .int .i64 1]) w)
    ((cond (decide ((file : Int) > 1))
    (K (.tuple #[.pointer none, .slice none 0 0, .int .i64 1]) w)
    (∀ (b1 : Nat) (w2 : World), Alloc w b1 67 [.pointer d, .int .i64 file] w2 →
    C.disk_Disk_Read d file w2 (fun r5 w3 => ∃ p4 : Sl, r5 = .slice p4.a p4.len p4.cap ∧
    ∀ (b6 : Nat) (w7 : World), Alloc w3 b6 27 [.slice none 0 0] w7 →
    ∀ (b8 : Nat) (w9 : World), Alloc w7 b8 3 [.int .i64 0] w9 →
    (okVal false 1 (.int .i64 0) = true ∧ canPut w9 ⟨b8, 0, none⟩ (.int .i64 0)) ∧ ∀ w10 : World, w10 = putAt w9 ⟨b8, 0, none⟩ (.int .i64 0) →
    C.wal_Log_Records (some ⟨b1, 0, none⟩) p4 w10 (fun r13 w11 => ∃ p12 : Value, r13 = p12 ∧
    ∀ (D14 L15 : Nat) (lr16 : LoopState → Option Code → Obj) (w17 : World), RFstart w11 D14 L15 lr16 w17 →
    ∀ y18 : Value, (∀ x21 : Int, ∀ x22 : Sl, ∀ (W19 : World) (RR20 : Value → World → Prop), W19.heap[L15]? = some (lr16 .ready none) →
    (W19.heap[L15]? = some (lr16 .ready none) ∧ ∀ w23 : World, w23 = W19.putObj L15 (lr16 .busy none) →
    ∃ y24 : Sl, (okVal false 1 (.slice y24.a y24.len y24.cap) = true ∧ w23.cell? ⟨b6, 0, none⟩ = some (.slice y24.a y24.len y24.cap)) ∧
    ∀ (b25 : Nat) (w26 : World), Alloc w23 b25 22 [.slice x22.a x22.len x22.cap] w26 →
    ∃ (q27 : Option Addr) (n28 c29 : Nat) (w30 : World), (Builtin.append_ #[27, 27] 27 #[.slice y24.a y24.len y24.cap, .slice (some ⟨b25, 0, none⟩) 1 1]).run Try.prog w26 = .ok (.slice q27 n28 c29) w30 ∧
    (okVal false 1 (.slice q27 n28 c29) = true ∧ canPut w30 ⟨b6, 0, none⟩ (.slice q27 n28 c29)) ∧ ∀ w31 : World, w31 = putAt w30 ⟨b6, 0, none⟩ (.slice q27 n28 c29) →
    (okVal false 1 (.int .i64 (IntKind.i64.wrap ((IntKind.i64.wrap (x21 + 8)) + (x22.len : Int)))) = true ∧ canPut w31 ⟨b8, 0, none⟩ (.int .i64 (IntKind.i64.wrap ((IntKind.i64.wrap (x21 + 8)) + (x22.len : Int))))) ∧ ∀ w32 : World, w32 = putAt w31 ⟨b8, 0, none⟩ (.int .i64 (IntKind.i64.wrap ((IntKind.i64.wrap (x21 + 8)) + (x22.len : Int)))) →
    w32.heap[L15]? = some (lr16 .busy none) ∧ ∀ w33 : World, w33 = w32.putObj L15 (lr16 .ready none) → RR20 (.bool true) w33) →
    callV Try.prog y18 [.int .i64 x21, .slice x22.a x22.len x22.cap] W19 (Ret RR20 fun _ _ => False)) →
    callF Try.prog p12 [y18] w17 (Ret (fun r34 w35 => ∃ (st37 : LoopState) (jump38 : Option Code), w35.heap[L15]? = some (lr16 st37 jump38) ∧ st37 ≠ .busy ∧ ∀ w36 : World, w36 = w35.putObj L15 (lr16 .exhausted jump38) →
    (match jump38 with
    | none => ∃ y39 : Int, (okVal false 1 (.int .i64 y39) = true ∧ w36.cell? ⟨b8, 0, none⟩ = some (.int .i64 y39)) ∧
    (cond (decide ((y39 : Int) < (p4.len : Int)))
    (∃ y40 : Int, (okVal false 1 (.int .i64 y40) = true ∧ w36.cell? ⟨b8, 0, none⟩ = some (.int .i64 y40)) ∧
    C.disk_Disk_Cut d file y40 w36 (fun r43 w41 => ∃ p42 : Int, r43 = .int .i64 p42 ∧
    C.disk_Disk_Sync d file w41 (fun r46 w44 => ∃ p45 : Int, r46 = .int .i64 p45 ∧
    ∀ w47, Drew w44 w47 →
    ∃ y48 : Sl, (okVal false 1 (.slice y48.a y48.len y48.cap) = true ∧ w47.cell? ⟨b6, 0, none⟩ = some (.slice y48.a y48.len y48.cap)) ∧
    xleave Try.prog [markD D14] .returning w47 (xendF (fun w49 => K (.tuple #[.pointer (some ⟨b1, 0, none⟩), .slice y48.a y48.len y48.cap, .int .i64 0]) w49) KP)) (fun ch50 w51 => xleave Try.prog [markD D14] (.panicking ch50) w51 (xendF (fun w52 => K (.tuple #[.pointer none, .slice none 0 0, .int .i64 0]) w52) KP))) (fun ch53 w54 => xleave Try.prog [markD D14] (.panicking ch53) w54 (xendF (fun w55 => K (.tuple #[.pointer none, .slice none 0 0, .int .i64 0]) w55) KP)))
    (∀ w56, Drew w36 w56 →
    ∃ y57 : Sl, (okVal false 1 (.slice y57.a y57.len y57.cap) = true ∧ w56.cell? ⟨b6, 0, none⟩ = some (.slice y57.a y57.len y57.cap)) ∧
    xleave Try.prog [markD D14] .returning w56 (xendF (fun w58 => K (.tuple #[.pointer (some ⟨b1, 0, none⟩), .slice y57.a y57.len y57.cap, .int .i64 0]) w58) KP)))
    | some (.exit i59) => (cond (Nat.beq i59 0)
    (∃ y60 : Int, (okVal false 1 (.int .i64 y60) = true ∧ w36.cell? ⟨b8, 0, none⟩ = some (.int .i64 y60)) ∧
    (cond (decide ((y60 : Int) < (p4.len : Int)))
    (∃ y61 : Int, (okVal false 1 (.int .i64 y61) = true ∧ w36.cell? ⟨b8, 0, none⟩ = some (.int .i64 y61)) ∧
    C.disk_Disk_Cut d file y61 w36 (fun r64 w62 => ∃ p63 : Int, r64 = .int .i64 p63 ∧
    C.disk_Disk_Sync d file w62 (fun r67 w65 => ∃ p66 : Int, r67 = .int .i64 p66 ∧
    ∀ w68, Drew w65 w68 →
    ∃ y69 : Sl, (okVal false 1 (.slice y69.a y69.len y69.cap) = true ∧ w68.cell? ⟨b6, 0, none⟩ = some (.slice y69.a y69.len y69.cap)) ∧
    xleave Try.prog [markD D14] .returning w68 (xendF (fun w70 => K (.tuple #[.pointer (some ⟨b1, 0, none⟩), .slice y69.a y69.len y69.cap, .int .i64 0]) w70) KP)) (fun ch71 w72 => xleave Try.prog [markD D14] (.panicking ch71) w72 (xendF (fun w73 => K (.tuple #[.pointer none, .slice none 0 0, .int .i64 0]) w73) KP))) (fun ch74 w75 => xleave Try.prog [markD D14] (.panicking ch74) w75 (xendF (fun w76 => K (.tuple #[.pointer none, .slice none 0 0, .int .i64 0]) w76) KP)))
    (∀ w77, Drew w36 w77 →
    ∃ y78 : Sl, (okVal false 1 (.slice y78.a y78.len y78.cap) = true ∧ w77.cell? ⟨b6, 0, none⟩ = some (.slice y78.a y78.len y78.cap)) ∧
    xleave Try.prog [markD D14] .returning w77 (xendF (fun w79 => K (.tuple #[.pointer (some ⟨b1, 0, none⟩), .slice y78.a y78.len y78.cap, .int .i64 0]) w79) KP))))
    (False))
    | some .ret => xleave Try.prog [markD D14] .returning w36 (xendF (fun w80 => K (.tuple #[.pointer none, .slice none 0 0, .int .i64 0]) w80) KP)
    | _ => False)) (fun ch81 w82 => xleave Try.prog [markD D14] (.panicking ch81) w82 (xendF (fun w83 => K (.tuple #[.pointer none, .slice none 0 0, .int .i64 0]) w83) KP)))) KP) KP))))))
theorem wal_Open_of {d : (Option Addr)} {file : Int} {w : World} {K : Value → World → Prop} {KP : List PanicEntry → World → Prop} (h : W.wal_Open d file w K KP) : C.wal_Open d file w K KP :=
  xcall (E := E) (T := mkTab [(1000010, [(33, 3), (34, 22)])] [(1000010, [])] [] [] [(15, [0, 1, 2, 3, 4])] [(15, [0, 0, 1, 7, 15])] []) (c := Try.f12.body.getD .skip) (rs := [.tmp 4, .tmp 5, .tmp 6]) ⟨⟩ mixed Try.func12 (by kernel_rfl) (by kernel_rfl) [.pointer d, .int .i64 file] (by kernel_rfl) (by kernel_rfl) (.inr (by kernel_rfl)) (Eq.mp (by kernel_rfl) h)

def W.skepref04_Records (p0_ : Sl) (w : World) (K : Value → World → Prop) (KP : List PanicEntry → World → Prop) : Prop :=
   ∃ (I1 : Sl → Int → World → Prop) (M2 : Sl → Int → World → Nat),
    (∃ u3 : Sl, (.slice none 0 0 : Value) = .slice u3.a u3.len u3.cap ∧ ∃ u4 : Int, (.int .i64 0 : Value) = .int .i64 u4 ∧ I1 u3 u4 w) ∧
    ∀ e0 : Env, ∀ v5 : Sl, ∀ v6 : Int, ∀ w7 : World, I1 v5 v6 w7 →
    (cond (decide (((IntKind.i64.wrap ((p0_.len : Int) - v6)) : Int) ≥ 8))
    (((0 : Int) ≤ (IntKind.i64.wrap (v6 + 4)) ∧ ((IntKind.i64.wrap (v6 + 4)) : Int) ≤ (p0_.cap : Int)) ∧ ((0 : Int) ≤ v6 ∧ (v6 : Int) ≤ ((IntKind.i64.wrap (v6 + 4)).toNat : Int)) ∧ C.skepref04_four (⟨(if p0_.cap = v6.toNat then p0_.a else Option.map (fun x => Addr.add x (v6.toNat * 1)) p0_.a), (IntKind.i64.wrap (v6 + 4)).toNat - v6.toNat, p0_.cap - v6.toNat⟩) w7 (fun r10 w8 => ∃ p9 : Int, r10 = .int .u32 p9 ∧
    (cond (decide (((IntKind.i64.wrap p9) : Int) < 1))
    (K (.tuple #[.slice v5.a v5.len v5.cap, .int .i64 v6]) w8)
    ((cond (decide (((IntKind.i64.wrap p9) : Int) > 65536))
    (K (.tuple #[.slice v5.a v5.len v5.cap, .int .i64 v6]) w8)
    ((cond (decide (((IntKind.i64.wrap p9) : Int) > (IntKind.i64.wrap ((IntKind.i64.wrap ((p0_.len : Int) - v6)) - 8))))
    (K (.tuple #[.slice v5.a v5.len v5.cap, .int .i64 v6]) w8)
    (((0 : Int) ≤ (IntKind.i64.wrap ((IntKind.i64.wrap (v6 + 8)) + (IntKind.i64.wrap p9))) ∧ ((IntKind.i64.wrap ((IntKind.i64.wrap (v6 + 8)) + (IntKind.i64.wrap p9))) : Int) ≤ (p0_.cap : Int)) ∧ ((0 : Int) ≤ (IntKind.i64.wrap (v6 + 8)) ∧ ((IntKind.i64.wrap (v6 + 8)) : Int) ≤ ((IntKind.i64.wrap ((IntKind.i64.wrap (v6 + 8)) + (IntKind.i64.wrap p9))).toNat : Int)) ∧ ((0 : Int) ≤ (IntKind.i64.wrap (v6 + 4)) ∧ ((IntKind.i64.wrap (v6 + 4)) : Int) ≤ (p0_.cap : Int)) ∧ ((0 : Int) ≤ v6 ∧ (v6 : Int) ≤ ((IntKind.i64.wrap (v6 + 4)).toNat : Int)) ∧ ∃ (q11 : Option Addr) (n12 c13 : Nat) (w14 : World), (Builtin.append_ #[22, 22] 22 #[.slice none 0 0, .slice (if p0_.cap = v6.toNat then p0_.a else Option.map (fun x => Addr.add x (v6.toNat * 1)) p0_.a) ((IntKind.i64.wrap (v6 + 4)).toNat - v6.toNat) (p0_.cap - v6.toNat)]).run Try.prog w8 = .ok (.slice q11 n12 c13) w14 ∧
    ∃ (q15 : Option Addr) (n16 c17 : Nat) (w18 : World), (Builtin.append_ #[22, 22] 22 #[.slice q11 n12 c13, .slice (if p0_.cap = (IntKind.i64.wrap (v6 + 8)).toNat then p0_.a else Option.map (fun x => Addr.add x (((IntKind.i64.wrap (v6 + 8)).toNat) * 1)) p0_.a) ((IntKind.i64.wrap ((IntKind.i64.wrap (v6 + 8)) + (IntKind.i64.wrap p9))).toNat - (IntKind.i64.wrap (v6 + 8)).toNat) (p0_.cap - (IntKind.i64.wrap (v6 + 8)).toNat)]).run Try.prog w14 = .ok (.slice q15 n16 c17) w18 ∧
    C.skepref02_Of (⟨q15, n16, c17⟩) w18 (fun r21 w19 => ∃ p20 : Int, r21 = .int .u32 p20 ∧
    ((0 : Int) ≤ (IntKind.i64.wrap (v6 + 8)) ∧ ((IntKind.i64.wrap (v6 + 8)) : Int) ≤ (p0_.cap : Int)) ∧ ((0 : Int) ≤ (IntKind.i64.wrap (v6 + 4)) ∧ ((IntKind.i64.wrap (v6 + 4)) : Int) ≤ ((IntKind.i64.wrap (v6 + 8)).toNat : Int)) ∧ C.skepref04_four (⟨(if p0_.cap = (IntKind.i64.wrap (v6 + 4)).toNat then p0_.a else Option.map (fun x => Addr.add x (((IntKind.i64.wrap (v6 + 4)).toNat) * 1)) p0_.a), (IntKind.i64.wrap (v6 + 8)).toNat - (IntKind.i64.wrap (v6 + 4)).toNat, p0_.cap - (IntKind.i64.wrap (v6 + 4)).toNat⟩) w19 (fun r24 w22 => ∃ p23 : Int, r24 = .int .u32 p23 ∧
    (cond ((p20 : Int) != p23)
    (K (.tuple #[.slice v5.a v5.len v5.cap, .int .i64 v6]) w22)
    (∃ (q25 : Option Addr) (n26 c27 : Nat) (w28 : World), (Builtin.append_ #[22, 22] 22 #[.slice none 0 0, .slice (if p0_.cap = (IntKind.i64.wrap (v6 + 8)).toNat then p0_.a else Option.map (fun x => Addr.add x (((IntKind.i64.wrap (v6 + 8)).toNat) * 1)) p0_.a) ((IntKind.i64.wrap ((IntKind.i64.wrap (v6 + 8)) + (IntKind.i64.wrap p9))).toNat - (IntKind.i64.wrap (v6 + 8)).toNat) (p0_.cap - (IntKind.i64.wrap (v6 + 8)).toNat)]).run Try.prog w22 = .ok (.slice q25 n26 c27) w28 ∧
    ∀ (b29 : Nat) (w30 : World), Alloc w28 b29 40 [.int .i64 v6, .slice q25 n26 c27] w30 →
    ∃ (q31 : Option Addr) (n32 c33 : Nat) (w34 : World), (Builtin.append_ #[31, 31] 31 #[.slice v5.a v5.len v5.cap, .slice (some ⟨b29, 0, none⟩) 1 1]).run Try.prog w30 = .ok (.slice q31 n32 c33) w34 ∧
    ∃ u35 : Sl, (.slice q31 n32 c33 : Value) = .slice u35.a u35.len u35.cap ∧ ∃ u36 : Int, (.int .i64 (IntKind.i64.wrap ((IntKind.i64.wrap (v6 + 8)) + (IntKind.i64.wrap p9))) : Value) = .int .i64 u36 ∧ (I1 u35 u36 w34 ∧ M2 u35 u36 w34 < M2 v5 v6 w7)))) KP) KP))))))) KP)
    (K (.tuple #[.slice v5.a v5.len v5.cap, .int .i64 v6]) w7))
theorem skepref04_Records_of {p0_ : Sl} {w : World} {K : Value → World → Prop} {KP : List PanicEntry → World → Prop} (h : W.skepref04_Records p0_ w K KP) : C.skepref04_Records p0_ w K KP :=
  xcall (E := E) (T := mkTab [(3, [(4, 31), (5, 3)])] [(3, [4, 5, 6, 7, 8, 9, 10, 11, 12, 13, 14, 15, 16, 17, 18, 19, 20, 21, 22, 23, 24, 25, 26, 27, 28, 29, 30, 31, 32, 33, 34, 35, 36, 37, 38, 39, 40, 41, 42, 43, 44, 45, 46, 47, 48, 49, 50, 51, 52, 53, 54, 55, 56, 57, 58, 59, 60, 61, 62, 63, 64, 65, 66, 67, 68, 69, 70, 71, 72])] [] [] [] [] []) (c := Try.f13.body.getD .skip) (rs := [.tmp 2, .tmp 3]) ⟨⟩ mixed Try.func13 (by kernel_rfl) (by kernel_rfl) [.slice p0_.a p0_.len p0_.cap] (by kernel_rfl) (by kernel_rfl) (.inr (by kernel_rfl)) (Eq.mp (by kernel_rfl) h)

def W.wal_Log_Records (l : (Option Addr)) (p1_ : Sl) (w : World) (K : Value → World → Prop) (KP : List PanicEntry → World → Prop) : Prop :=
   ∀ (b1 : Nat) (w2 : World), Alloc w b1 26 [.pointer l] w2 →
    ∀ (b3 : Nat) (w4 : World), Alloc w2 b3 22 [.slice p1_.a p1_.len p1_.cap] w4 →
    ∀ (b5 : Nat) (w6 : World), Alloc w4 b5 5 [] w6 →
    ∃ y7 : Sl, (okVal false 1 (.slice y7.a y7.len y7.cap) = true ∧ w6.cell? ⟨b3, 0, none⟩ = some (.slice y7.a y7.len y7.cap)) ∧
    ∃ (q8 : Option Addr) (n9 c10 : Nat) (w11 : World), (Builtin.append_ #[22, 22] 22 #[.slice (some ⟨b5, 0, none⟩) 0 0, .slice y7.a y7.len y7.cap]).run Try.prog w6 = .ok (.slice q8 n9 c10) w11 ∧
    (okVal false 1 (.slice q8 n9 c10) = true ∧ canPut w11 ⟨b3, 0, none⟩ (.slice q8 n9 c10)) ∧ ∀ w12 : World, w12 = putAt w11 ⟨b3, 0, none⟩ (.slice q8 n9 c10) →
    K (.func (.func 36) #[] #[.pointer (some ⟨b1, 0, none⟩), .pointer (some ⟨b3, 0, none⟩)]) w12
theorem wal_Log_Records_of {l : (Option Addr)} {p1_ : Sl} {w : World} {K : Value → World → Prop} {KP : List PanicEntry → World → Prop} (h : W.wal_Log_Records l p1_ w K KP) : C.wal_Log_Records l p1_ w K KP :=
  xcall (E := E) (T := mkTab [] [] [] [] [] [] []) (c := Try.f14.body.getD .skip) (rs := [.tmp 4]) ⟨⟩ mixed Try.func14 (by kernel_rfl) (by kernel_rfl) [.pointer l, .slice p1_.a p1_.len p1_.cap] (by kernel_rfl) (by kernel_rfl) (.inr (by kernel_rfl)) (Eq.mp (by kernel_rfl) h)

def W.skeplaw00_CopyBytes (p0_ : Sl) (w : World) (K : Value → World → Prop) (KP : List PanicEntry → World → Prop) : Prop :=
   ∃ (q1 : Option Addr) (n2 c3 : Nat) (w4 : World), (Builtin.append_ #[22, 22] 22 #[.slice none 0 0, .slice p0_.a p0_.len p0_.cap]).run Try.prog w = .ok (.slice q1 n2 c3) w4 ∧
    K (.slice q1 n2 c3) w4
theorem skeplaw00_CopyBytes_of {p0_ : Sl} {w : World} {K : Value → World → Prop} {KP : List PanicEntry → World → Prop} (h : W.skeplaw00_CopyBytes p0_ w K KP) : C.skeplaw00_CopyBytes p0_ w K KP :=
  xcall (E := E) (T := mkTab [] [] [] [] [] [] []) (c := Try.f15.body.getD .skip) (rs := [.tmp 2]) ⟨⟩ mixed Try.func15 (by kernel_rfl) (by kernel_rfl) [.slice p0_.a p0_.len p0_.cap] (by kernel_rfl) (by kernel_rfl) (.inr (by kernel_rfl)) (Eq.mp (by kernel_rfl) h)

def W.skeplaw00_Place (v : Int) (n : Int) (w : World) (K : Value → World → Prop) (KP : List PanicEntry → World → Prop) : Prop :=
   (n : Int) ≠ 0 ∧ (cond (decide (((Int.tmod v n) : Int) < 0))
    (K (.int .i64 (IntKind.i64.wrap ((Int.tmod v n) + n))) w)
    (K (.int .i64 (Int.tmod v n)) w))
theorem skeplaw00_Place_of {v : Int} {n : Int} {w : World} {K : Value → World → Prop} {KP : List PanicEntry → World → Prop} (h : W.skeplaw00_Place v n w K KP) : C.skeplaw00_Place v n w K KP :=
  xcall (E := E) (T := mkTab [] [] [] [] [] [] []) (c := Try.f16.body.getD .skip) (rs := [.tmp 4]) ⟨⟩ mixed Try.func16 (by kernel_rfl) (by kernel_rfl) [.int .i64 v, .int .i64 n] (by kernel_rfl) (by kernel_rfl) (.inr (by kernel_rfl)) (Eq.mp (by kernel_rfl) h)

def W.skeplaw04_WalRecords_1 (p0_ : Int) (p1_ : Sl) (p2_ : (Option Addr)) (p3_ : (Option Addr)) (p4_ : (Option Addr)) (p5_ : (Option Addr)) (w : World) (K : Value → World → Prop) (KP : List PanicEntry → World → Prop) : Prop :=
   ∀ w1, Drew w w1 →
    withSome p2_ fun a3 =>
    ∃ y2 : Bool, (okVal false 1 (.bool y2) = true ∧ w1.cell? a3 = some (.bool y2)) ∧
    (cond y2
    (withSome p3_ fun a5 =>
    ∃ y4 : Int, (okVal false 1 (.int .i64 y4) = true ∧ w1.cell? a5 = some (.int .i64 y4)) ∧
    withSome p4_ fun a7 =>
    ∃ y6 : Sl, (okVal false 1 (.slice y6.a y6.len y6.cap) = true ∧ w1.cell? a7 = some (.slice y6.a y6.len y6.cap)) ∧
    (cond (decide ((y4 : Int) < (y6.len : Int)))
    (withSome p4_ fun a9 =>
    ∃ y8 : Sl, (okVal false 1 (.slice y8.a y8.len y8.cap) = true ∧ w1.cell? a9 = some (.slice y8.a y8.len y8.cap)) ∧
    withSome p3_ fun a11 =>
    ∃ y10 : Int, (okVal false 1 (.int .i64 y10) = true ∧ w1.cell? a11 = some (.int .i64 y10)) ∧
    ((0 : Int) ≤ y10 ∧ (y10 : Int) < (y8.len : Int)) ∧ withSome y8.a fun a12 =>
    ∃ y13 : Int, (okVal false 1 (.int .i64 y13) = true ∧ w1.cell? (Addr.add a12 (y10.toNat * 2)) = some (.int .i64 y13)) ∧
    (cond ((p0_ : Int) == y13)
    (∃ s14 : ByteArray, (s14.size = p1_.len ∧ (0 < p1_.len → withSome p1_.a fun a => Go.Eng.World.has w1 a (bytesV s14))) ∧
    withSome p4_ fun a16 =>
    ∃ y15 : Sl, (okVal false 1 (.slice y15.a y15.len y15.cap) = true ∧ w1.cell? a16 = some (.slice y15.a y15.len y15.cap)) ∧
    withSome p3_ fun a18 =>
    ∃ y17 : Int, (okVal false 1 (.int .i64 y17) = true ∧ w1.cell? a18 = some (.int .i64 y17)) ∧
    ((0 : Int) ≤ y17 ∧ (y17 : Int) < (y15.len : Int)) ∧ withSome y15.a fun a19 =>
    ∃ y20 : Sl, (okVal false 1 (.slice y20.a y20.len y20.cap) = true ∧ w1.cell? (Addr.add (Addr.add a19 (y17.toNat * 2)) 1) = some (.slice y20.a y20.len y20.cap)) ∧
    ∃ s21 : ByteArray, (s21.size = y20.len ∧ (0 < y20.len → withSome y20.a fun a => Go.Eng.World.has w1 a (bytesV s21))) ∧
    withSome p2_ fun a23 =>
    (okVal false 1 (.bool (strEq s14 s21)) = true ∧ canPut w1 a23 (.bool (strEq s14 s21))) ∧ ∀ w22 : World, w22 = putAt w1 a23 (.bool (strEq s14 s21)) →
    withSome p3_ fun a25 =>
    ∃ y24 : Int, (okVal false 1 (.int .i64 y24) = true ∧ w22.cell? a25 = some (.int .i64 y24)) ∧
    withSome p3_ fun a27 =>
    (okVal false 1 (.int .i64 (IntKind.i64.wrap (y24 + 1))) = true ∧ canPut w22 a27 (.int .i64 (IntKind.i64.wrap (y24 + 1)))) ∧ ∀ w26 : World, w26 = putAt w22 a27 (.int .i64 (IntKind.i64.wrap (y24 + 1))) →
    withSome p3_ fun a29 =>
    ∃ y28 : Int, (okVal false 1 (.int .i64 y28) = true ∧ w26.cell? a29 = some (.int .i64 y28)) ∧
    withSome p5_ fun a31 =>
    ∃ y30 : Int, (okVal false 1 (.int .i64 y30) = true ∧ w26.cell? a31 = some (.int .i64 y30)) ∧
    K (.bool (decide ((y28 : Int) < y30))) w26)
    (withSome p2_ fun a33 =>
    (okVal false 1 (.bool false) = true ∧ canPut w1 a33 (.bool false)) ∧ ∀ w32 : World, w32 = putAt w1 a33 (.bool false) →
    withSome p3_ fun a35 =>
    ∃ y34 : Int, (okVal false 1 (.int .i64 y34) = true ∧ w32.cell? a35 = some (.int .i64 y34)) ∧
    withSome p3_ fun a37 =>
    (okVal false 1 (.int .i64 (IntKind.i64.wrap (y34 + 1))) = true ∧ canPut w32 a37 (.int .i64 (IntKind.i64.wrap (y34 + 1)))) ∧ ∀ w36 : World, w36 = putAt w32 a37 (.int .i64 (IntKind.i64.wrap (y34 + 1))) →
    withSome p3_ fun a39 =>
    ∃ y38 : Int, (okVal false 1 (.int .i64 y38) = true ∧ w36.cell? a39 = some (.int .i64 y38)) ∧
    withSome p5_ fun a41 =>
    ∃ y40 : Int, (okVal false 1 (.int .i64 y40) = true ∧ w36.cell? a41 = some (.int .i64 y40)) ∧
    K (.bool (decide ((y38 : Int) < y40))) w36)))
    (withSome p2_ fun a43 =>
    (okVal false 1 (.bool false) = true ∧ canPut w1 a43 (.bool false)) ∧ ∀ w42 : World, w42 = putAt w1 a43 (.bool false) →
    withSome p3_ fun a45 =>
    ∃ y44 : Int, (okVal false 1 (.int .i64 y44) = true ∧ w42.cell? a45 = some (.int .i64 y44)) ∧
    withSome p3_ fun a47 =>
    (okVal false 1 (.int .i64 (IntKind.i64.wrap (y44 + 1))) = true ∧ canPut w42 a47 (.int .i64 (IntKind.i64.wrap (y44 + 1)))) ∧ ∀ w46 : World, w46 = putAt w42 a47 (.int .i64 (IntKind.i64.wrap (y44 + 1))) →
    withSome p3_ fun a49 =>
    ∃ y48 : Int, (okVal false 1 (.int .i64 y48) = true ∧ w46.cell? a49 = some (.int .i64 y48)) ∧
    withSome p5_ fun a51 =>
    ∃ y50 : Int, (okVal false 1 (.int .i64 y50) = true ∧ w46.cell? a51 = some (.int .i64 y50)) ∧
    K (.bool (decide ((y48 : Int) < y50))) w46)))
    (withSome p2_ fun a53 =>
    (okVal false 1 (.bool false) = true ∧ canPut w1 a53 (.bool false)) ∧ ∀ w52 : World, w52 = putAt w1 a53 (.bool false) →
    withSome p3_ fun a55 =>
    ∃ y54 : Int, (okVal false 1 (.int .i64 y54) = true ∧ w52.cell? a55 = some (.int .i64 y54)) ∧
    withSome p3_ fun a57 =>
    (okVal false 1 (.int .i64 (IntKind.i64.wrap (y54 + 1))) = true ∧ canPut w52 a57 (.int .i64 (IntKind.i64.wrap (y54 + 1)))) ∧ ∀ w56 : World, w56 = putAt w52 a57 (.int .i64 (IntKind.i64.wrap (y54 + 1))) →
    withSome p3_ fun a59 =>
    ∃ y58 : Int, (okVal false 1 (.int .i64 y58) = true ∧ w56.cell? a59 = some (.int .i64 y58)) ∧
    withSome p5_ fun a61 =>
    ∃ y60 : Int, (okVal false 1 (.int .i64 y60) = true ∧ w56.cell? a61 = some (.int .i64 y60)) ∧
    K (.bool (decide ((y58 : Int) < y60))) w56))
theorem skeplaw04_WalRecords_1_of {p0_ : Int} {p1_ : Sl} {p2_ : (Option Addr)} {p3_ : (Option Addr)} {p4_ : (Option Addr)} {p5_ : (Option Addr)} {w : World} {K : Value → World → Prop} {KP : List PanicEntry → World → Prop} (h : W.skeplaw04_WalRecords_1 p0_ p1_ p2_ p3_ p4_ p5_ w K KP) : C.skeplaw04_WalRecords_1 p0_ p1_ p2_ p3_ p4_ p5_ w K KP :=
  xcall (E := E) (T := mkTab [] [] [] [] [(1, [0, 1, 2, 3, 4, 5, 6, 7, 8, 9, 10, 11, 12, 13, 14, 15, 16, 17, 18, 19, 20, 21, 22, 23, 24, 25, 26, 27])] [(1, [0, 1, 3, 3, 11, 31, 63, 127, 255, 255, 255, 1791, 3839, 7935, 16383, 32767, 65535, 131071, 262143, 131071, 131071, 1703935, 3801087, 7995391, 16383999, 33554431, 67108863, 134217727])] []) (c := Try.f17.body.getD .skip) (rs := [.tmp 8]) ⟨⟩ mixed Try.func17 (by kernel_rfl) (by kernel_rfl) [.int .i64 p0_, .slice p1_.a p1_.len p1_.cap, .pointer p2_, .pointer p3_, .pointer p4_, .pointer p5_] (by kernel_rfl) (by kernel_rfl) (.inr (by kernel_rfl)) (Eq.mp (by kernel_rfl) h)

def W.wal_Log_Append (l : (Option Addr)) (p1_ : Sl) (w : World) (K : Value → World → Prop) (KP : List PanicEntry → World → Prop) : Prop :=
   (cond l.isNone
    (K (.int .i64 1) w)
    (withSome l fun a1 =>
    ∃ y2 : (Option Addr), (okVal false 1 (.pointer y2) = true ∧ w.cell? a1 = some (.pointer y2)) ∧
    (cond y2.isNone
    (K (.int .i64 1) w)
    ((cond (decide (((p1_.len : Int) : Int) < 1))
    (K (.int .i64 1) w)
    ((cond (decide (((p1_.len : Int) : Int) > 65536))
    (K (.int .i64 1) w)
    (C.wal_number (IntKind.u32.wrap (p1_.len : Int)) w (fun r5 w3 => ∃ p4 : Sl, r5 = .slice p4.a p4.len p4.cap ∧
    C.crc_Of p4 w3 (fun r8 w6 => ∃ p7 : Int, r8 = .int .u32 p7 ∧
    C.crc_More p7 p1_ w6 (fun r11 w9 => ∃ p10 : Int, r11 = .int .u32 p10 ∧
    ∀ w12, Drew w9 w12 →
    withSome l fun a13 =>
    ∃ y14 : (Option Addr), (okVal false 1 (.pointer y14) = true ∧ w12.cell? a13 = some (.pointer y14)) ∧
    withSome l fun a15 =>
    ∃ y16 : Int, (okVal false 1 (.int .i64 y16) = true ∧ w12.cell? (Addr.add a15 1) = some (.int .i64 y16)) ∧
    C.wal_number p10 w12 (fun r19 w17 => ∃ p18 : Sl, r19 = .slice p18.a p18.len p18.cap ∧
    (w17.cell? (Addr.add a15 1) = some (.int .i64 y16)) ∧ (w17.cell? a13 = some (.pointer y14)) ∧ ∃ (q20 : Option Addr) (n21 c22 : Nat) (w23 : World), (Builtin.append_ #[22, 22] 22 #[.slice p4.a p4.len p4.cap, .slice p18.a p18.len p18.cap]).run Try.prog w17 = .ok (.slice q20 n21 c22) w23 ∧
    (w23.cell? (Addr.add a15 1) = some (.int .i64 y16)) ∧ (w23.cell? a13 = some (.pointer y14)) ∧ ∃ (q24 : Option Addr) (n25 c26 : Nat) (w27 : World), (Builtin.append_ #[22, 22] 22 #[.slice q20 n21 c22, .slice p1_.a p1_.len p1_.cap]).run Try.prog w23 = .ok (.slice q24 n25 c26) w27 ∧
    (w27.cell? (Addr.add a15 1) = some (.int .i64 y16)) ∧ (w27.cell? a13 = some (.pointer y14)) ∧ C.disk_Disk_Append y14 y16 (⟨q24, n25, c26⟩) w27 (fun r30 w28 => ∃ p29 : Int, r30 = .int .i64 p29 ∧
    K (.int .i64 p29) w28) KP) KP) KP) KP) KP))))))))
theorem wal_Log_Append_of {l : (Option Addr)} {p1_ : Sl} {w : World} {K : Value → World → Prop} {KP : List PanicEntry → World → Prop} (h : W.wal_Log_Append l p1_ w K KP) : C.wal_Log_Append l p1_ w K KP :=
  xcall (E := E) (T := mkTab [] [] [] [] [(5, [0, 1, 2, 3, 4, 5, 6, 7, 8, 9, 12, 10, 11, 13, 14, 15])] [(5, [0, 1, 3, 7, 0, 16, 48, 112, 0, 0, 512, 1792, 0, 7936, 16383, 32767])] []) (c := Try.f18.body.getD .skip) (rs := [.tmp 4]) ⟨⟩ mixed Try.func18 (by kernel_rfl) (by kernel_rfl) [.pointer l, .slice p1_.a p1_.len p1_.cap] (by kernel_rfl) (by kernel_rfl) (.inr (by kernel_rfl)) (Eq.mp (by kernel_rfl) h)

def W.skepref04_Record (p0_ : Sl) (w : World) (K : Value → World → Prop) (KP : List PanicEntry → World → Prop) : Prop :=
   C.skepref04_Four (IntKind.u32.wrap (p0_.len : Int)) w (fun r3 w1 => ∃ p2 : Sl, r3 = .slice p2.a p2.len p2.cap ∧
    ∃ (q4 : Option Addr) (n5 c6 : Nat) (w7 : World), (Builtin.append_ #[22, 22] 22 #[.slice none 0 0, .slice p2.a p2.len p2.cap]).run Try.prog w1 = .ok (.slice q4 n5 c6) w7 ∧
    ∃ (q8 : Option Addr) (n9 c10 : Nat) (w11 : World), (Builtin.append_ #[22, 22] 22 #[.slice q4 n5 c6, .slice p0_.a p0_.len p0_.cap]).run Try.prog w7 = .ok (.slice q8 n9 c10) w11 ∧
    C.skepref02_Of (⟨q8, n9, c10⟩) w11 (fun r14 w12 => ∃ p13 : Int, r14 = .int .u32 p13 ∧
    ∃ (q15 : Option Addr) (n16 c17 : Nat) (w18 : World), (Builtin.append_ #[22, 22] 22 #[.slice none 0 0, .slice p2.a p2.len p2.cap]).run Try.prog w12 = .ok (.slice q15 n16 c17) w18 ∧
    C.skepref04_Four p13 w18 (fun r21 w19 => ∃ p20 : Sl, r21 = .slice p20.a p20.len p20.cap ∧
    ∃ (q22 : Option Addr) (n23 c24 : Nat) (w25 : World), (Builtin.append_ #[22, 22] 22 #[.slice q15 n16 c17, .slice p20.a p20.len p20.cap]).run Try.prog w19 = .ok (.slice q22 n23 c24) w25 ∧
    ∃ (q26 : Option Addr) (n27 c28 : Nat) (w29 : World), (Builtin.append_ #[22, 22] 22 #[.slice q22 n23 c24, .slice p0_.a p0_.len p0_.cap]).run Try.prog w25 = .ok (.slice q26 n27 c28) w29 ∧
    K (.slice q26 n27 c28) w29) KP) KP) KP
theorem skepref04_Record_of {p0_ : Sl} {w : World} {K : Value → World → Prop} {KP : List PanicEntry → World → Prop} (h : W.skepref04_Record p0_ w K KP) : C.skepref04_Record p0_ w K KP :=
  xcall (E := E) (T := mkTab [] [] [] [] [] [] []) (c := Try.f19.body.getD .skip) (rs := [.tmp 2]) ⟨⟩ mixed Try.func19 (by kernel_rfl) (by kernel_rfl) [.slice p0_.a p0_.len p0_.cap] (by kernel_rfl) (by kernel_rfl) (.inr (by kernel_rfl)) (Eq.mp (by kernel_rfl) h)

def W.disk_Disk_Read (d : (Option Addr)) (file : Int) (w : World) (K : Value → World → Prop) (KP : List PanicEntry → World → Prop) : Prop :=
   C.disk_Disk_file d file w (fun r3 w1 => ∃ p2 : (Option Addr), r3 = .pointer p2 ∧
    (cond p2.isNone
    (K (.slice none 0 0) w1)
    (∀ (b4 : Nat) (w5 : World), Alloc w1 b4 5 [] w5 →
    withSome p2 fun a6 =>
    ∃ y7 : Sl, (okVal false 1 (.slice y7.a y7.len y7.cap) = true ∧ w5.cell? (Addr.add a6 1) = some (.slice y7.a y7.len y7.cap)) ∧
    ∃ (q8 : Option Addr) (n9 c10 : Nat) (w11 : World), (Builtin.append_ #[22, 22] 22 #[.slice (some ⟨b4, 0, none⟩) 0 0, .slice y7.a y7.len y7.cap]).run Try.prog w5 = .ok (.slice q8 n9 c10) w11 ∧
    K (.slice q8 n9 c10) w11))) KP
theorem disk_Disk_Read_of {d : (Option Addr)} {file : Int} {w : World} {K : Value → World → Prop} {KP : List PanicEntry → World → Prop} (h : W.disk_Disk_Read d file w K KP) : C.disk_Disk_Read d file w K KP :=
  xcall (E := E) (T := mkTab [] [] [] [] [] [] []) (c := Try.f20.body.getD .skip) (rs := [.tmp 4]) ⟨⟩ mixed Try.func20 (by kernel_rfl) (by kernel_rfl) [.pointer d, .int .i64 file] (by kernel_rfl) (by kernel_rfl) (.inr (by kernel_rfl)) (Eq.mp (by kernel_rfl) h)

def W.wal_Log_Size (l : (Option Addr)) (w : World) (K : Value → World → Prop) (KP : List PanicEntry → World → Prop) : Prop :=
   (cond l.isNone
    (K (.int .i64 0) w)
    (withSome l fun a1 =>
    ∃ y2 : (Option Addr), (okVal false 1 (.pointer y2) = true ∧ w.cell? a1 = some (.pointer y2)) ∧
    (cond y2.isNone
    (K (.int .i64 0) w)
    (∀ w3, Drew w w3 →
    withSome l fun a4 =>
    ∃ y5 : (Option Addr), (okVal false 1 (.pointer y5) = true ∧ w3.cell? a4 = some (.pointer y5)) ∧
    withSome l fun a6 =>
    ∃ y7 : Int, (okVal false 1 (.int .i64 y7) = true ∧ w3.cell? (Addr.add a6 1) = some (.int .i64 y7)) ∧
    C.disk_Disk_Size y5 y7 w3 (fun r10 w8 => ∃ p9 : Int, r10 = .int .i64 p9 ∧
    K (.int .i64 p9) w8) KP))))
theorem wal_Log_Size_of {l : (Option Addr)} {w : World} {K : Value → World → Prop} {KP : List PanicEntry → World → Prop} (h : W.wal_Log_Size l w K KP) : C.wal_Log_Size l w K KP :=
  xcall (E := E) (T := mkTab [] [] [] [] [(3, [0, 1, 2, 3, 4, 5, 6, 7, 8, 9])] [(3, [0, 1, 3, 7, 0, 16, 48, 112, 255, 511])] []) (c := Try.f21.body.getD .skip) (rs := [.tmp 2]) ⟨⟩ mixed Try.func21 (by kernel_rfl) (by kernel_rfl) [.pointer l] (by kernel_rfl) (by kernel_rfl) (.inr (by kernel_rfl)) (Eq.mp (by kernel_rfl) h)

def W.skeplaw04_say (l : Sl) (w : World) (K : Value → World → Prop) (KP : List PanicEntry → World → Prop) : Prop :=
   ∃ (I1 : Sl → Int → World → Prop) (M2 : Sl → Int → World → Nat),
    (∃ u3 : Sl, (.slice none 0 0 : Value) = .slice u3.a u3.len u3.cap ∧ ∃ u4 : Int, (.int .i64 0 : Value) = .int .i64 u4 ∧ I1 u3 u4 w) ∧
    ∀ e0 : Env, ∀ v5 : Sl, ∀ v6 : Int, ∀ w7 : World, I1 v5 v6 w7 →
    (cond (decide ((v6 : Int) < (l.len : Int)))
    ((cond (decide ((v6 : Int) < 40))
    (((0 : Int) ≤ v6 ∧ (v6 : Int) < (l.len : Int)) ∧ withSome l.a fun a8 =>
    ∃ y9 : Sl, (okVal false 1 (.slice y9.a y9.len y9.cap) = true ∧ w7.cell? (Addr.add a8 (v6.toNat * 1)) = some (.slice y9.a y9.len y9.cap)) ∧
    (cond (decide (((y9.len : Int) : Int) > 0))
    (((0 : Int) ≤ v6 ∧ (v6 : Int) < (l.len : Int)) ∧ withSome l.a fun a10 =>
    ∃ y11 : Sl, (okVal false 1 (.slice y11.a y11.len y11.cap) = true ∧ w7.cell? (Addr.add a10 (v6.toNat * 1)) = some (.slice y11.a y11.len y11.cap)) ∧
    (cond (decide (((y11.len : Int) : Int) < 3000))
    (((0 : Int) ≤ v6 ∧ (v6 : Int) < (l.len : Int)) ∧ withSome l.a fun a12 =>
    ∃ y13 : Sl, (okVal false 1 (.slice y13.a y13.len y13.cap) = true ∧ w7.cell? (Addr.add a12 (v6.toNat * 1)) = some (.slice y13.a y13.len y13.cap)) ∧
    ∀ (b14 : Nat) (w15 : World), Alloc w7 b14 22 [.slice y13.a y13.len y13.cap] w15 →
    ∃ (q16 : Option Addr) (n17 c18 : Nat) (w19 : World), (Builtin.append_ #[27, 27] 27 #[.slice v5.a v5.len v5.cap, .slice (some ⟨b14, 0, none⟩) 1 1]).run Try.prog w15 = .ok (.slice q16 n17 c18) w19 ∧
    ∃ u20 : Sl, (.slice q16 n17 c18 : Value) = .slice u20.a u20.len u20.cap ∧ ∃ u21 : Int, (.int .i64 (IntKind.i64.wrap (v6 + 1)) : Value) = .int .i64 u21 ∧ (I1 u20 u21 w19 ∧ M2 u20 u21 w19 < M2 v5 v6 w7))
    (∃ u22 : Sl, (.slice v5.a v5.len v5.cap : Value) = .slice u22.a u22.len u22.cap ∧ ∃ u23 : Int, (.int .i64 (IntKind.i64.wrap (v6 + 1)) : Value) = .int .i64 u23 ∧ (I1 u22 u23 w7 ∧ M2 u22 u23 w7 < M2 v5 v6 w7))))
    (∃ u24 : Sl, (.slice v5.a v5.len v5.cap : Value) = .slice u24.a u24.len u24.cap ∧ ∃ u25 : Int, (.int .i64 (IntKind.i64.wrap (v6 + 1)) : Value) = .int .i64 u25 ∧ (I1 u24 u25 w7 ∧ M2 u24 u25 w7 < M2 v5 v6 w7))))
    (K (.slice v5.a v5.len v5.cap) w7)))
    (K (.slice v5.a v5.len v5.cap) w7))
theorem skeplaw04_say_of {l : Sl} {w : World} {K : Value → World → Prop} {KP : List PanicEntry → World → Prop} (h : W.skeplaw04_say l w K KP) : C.skeplaw04_say l w K KP :=
  xcall (E := E) (T := mkTab [(3, [(3, 27), (4, 3)])] [(3, [3, 4, 5, 6, 7, 8, 9, 10, 11, 12, 13, 14, 15, 16, 17, 18, 19, 20, 21, 22, 23, 24, 25, 26, 27, 28, 29, 30, 31, 32, 33, 34, 35])] [] [] [] [] []) (c := Try.f22.body.getD .skip) (rs := [.tmp 2]) ⟨⟩ mixed Try.func22 (by kernel_rfl) (by kernel_rfl) [.slice l.a l.len l.cap] (by kernel_rfl) (by kernel_rfl) (.inr (by kernel_rfl)) (Eq.mp (by kernel_rfl) h)

def W.disk_Disk_Append (d : (Option Addr)) (file : Int) (p2_ : Sl) (w : World) (K : Value → World → Prop) (KP : List PanicEntry → World → Prop) : Prop :=
   C.disk_Disk_file d file w (fun r3 w1 => ∃ p2 : (Option Addr), r3 = .pointer p2 ∧
    (cond p2.isNone
    (K (.int .i64 1) w1)
    (withSome p2 fun a4 =>
    ∃ y5 : Sl, (okVal false 1 (.slice y5.a y5.len y5.cap) = true ∧ w1.cell? (Addr.add a4 1) = some (.slice y5.a y5.len y5.cap)) ∧
    (cond (decide (((p2_.len : Int) : Int) > (IntKind.i64.wrap (16777216 - (y5.len : Int)))))
    (K (.int .i64 2) w1)
    ((cond (((p2_.len : Int) : Int) == 0)
    (K (.int .i64 0) w1)
    (∀ (b6 : Nat) (w7 : World), Alloc w1 b6 5 [] w7 →
    ∃ (q8 : Option Addr) (n9 c10 : Nat) (w11 : World), (Builtin.append_ #[22, 22] 22 #[.slice (some ⟨b6, 0, none⟩) 0 0, .slice p2_.a p2_.len p2_.cap]).run Try.prog w7 = .ok (.slice q8 n9 c10) w11 ∧
    withSome p2 fun a12 =>
    ∃ y13 : Sl, (okVal false 1 (.slice y13.a y13.len y13.cap) = true ∧ w11.cell? (Addr.add a12 1) = some (.slice y13.a y13.len y13.cap)) ∧
    ∃ (q14 : Option Addr) (n15 c16 : Nat) (w17 : World), (Builtin.append_ #[22, 22] 22 #[.slice y13.a y13.len y13.cap, .slice q8 n9 c10]).run Try.prog w11 = .ok (.slice q14 n15 c16) w17 ∧
    withSome p2 fun a18 =>
    (okVal false 1 (.slice q14 n15 c16) = true ∧ canPut w17 (Addr.add a18 1) (.slice q14 n15 c16)) ∧ ∀ w19 : World, w19 = putAt w17 (Addr.add a18 1) (.slice q14 n15 c16) →
    withSome p2 fun a20 =>
    ∃ y21 : Sl, (okVal false 1 (.slice y21.a y21.len y21.cap) = true ∧ w19.cell? (Addr.add a20 2) = some (.slice y21.a y21.len y21.cap)) ∧
    ∀ (b22 : Nat) (w23 : World), Alloc w19 b22 78 [.bool false, .int .i64 0, .slice q8 n9 c10] w23 →
    ∃ (q24 : Option Addr) (n25 c26 : Nat) (w27 : World), (Builtin.append_ #[60, 60] 60 #[.slice y21.a y21.len y21.cap, .slice (some ⟨b22, 0, none⟩) 1 1]).run Try.prog w23 = .ok (.slice q24 n25 c26) w27 ∧
    withSome p2 fun a28 =>
    (okVal false 1 (.slice q24 n25 c26) = true ∧ canPut w27 (Addr.add a28 2) (.slice q24 n25 c26)) ∧ ∀ w29 : World, w29 = putAt w27 (Addr.add a28 2) (.slice q24 n25 c26) →
    K (.int .i64 0) w29))))))) KP
theorem disk_Disk_Append_of {d : (Option Addr)} {file : Int} {p2_ : Sl} {w : World} {K : Value → World → Prop} {KP : List PanicEntry → World → Prop} (h : W.disk_Disk_Append d file p2_ w K KP) : C.disk_Disk_Append d file p2_ w K KP :=
  xcall (E := E) (T := mkTab [] [] [] [] [] [] []) (c := Try.f23.body.getD .skip) (rs := [.tmp 6]) ⟨⟩ mixed Try.func23 (by kernel_rfl) (by kernel_rfl) [.pointer d, .int .i64 file, .slice p2_.a p2_.len p2_.cap] (by kernel_rfl) (by kernel_rfl) (.inr (by kernel_rfl)) (Eq.mp (by kernel_rfl) h)

def W.skeplaw04_same (a : Sl) (p1_ : Sl) (w : World) (K : Value → World → Prop) (KP : List PanicEntry → World → Prop) : Prop :=
   (cond (((a.len : Int) : Int) != (p1_.len : Int))
    (K (.bool false) w)
    (∃ (I1 : Int → World → Prop) (M2 : Int → World → Nat),
    (∃ u3 : Int, (.int .i64 0 : Value) = .int .i64 u3 ∧ I1 u3 w) ∧
    ∀ e0 : Env, ∀ v4 : Int, ∀ w5 : World, I1 v4 w5 →
    (cond (decide ((v4 : Int) < (a.len : Int)))
    (∀ w6, Drew w5 w6 →
    ((0 : Int) ≤ v4 ∧ (v4 : Int) < (a.len : Int)) ∧ withSome a.a fun a7 =>
    ∃ y8 : Sl, (okVal false 1 (.slice y8.a y8.len y8.cap) = true ∧ w6.cell? (Addr.add a7 (v4.toNat * 1)) = some (.slice y8.a y8.len y8.cap)) ∧
    ∃ s9 : ByteArray, (s9.size = y8.len ∧ (0 < y8.len → withSome y8.a fun a => Go.Eng.World.has w6 a (bytesV s9))) ∧
    ((0 : Int) ≤ v4 ∧ (v4 : Int) < (p1_.len : Int)) ∧ withSome p1_.a fun a10 =>
    ∃ y11 : Sl, (okVal false 1 (.slice y11.a y11.len y11.cap) = true ∧ w6.cell? (Addr.add a10 (v4.toNat * 1)) = some (.slice y11.a y11.len y11.cap)) ∧
    ∃ s12 : ByteArray, (s12.size = y11.len ∧ (0 < y11.len → withSome y11.a fun a => Go.Eng.World.has w6 a (bytesV s12))) ∧
    (cond (!(strEq s9 s12))
    (K (.bool false) w6)
    (∃ u13 : Int, (.int .i64 (IntKind.i64.wrap (v4 + 1)) : Value) = .int .i64 u13 ∧ (I1 u13 w6 ∧ M2 u13 w6 < M2 v4 w5))))
    (K (.bool true) w5))))
theorem skeplaw04_same_of {a : Sl} {p1_ : Sl} {w : World} {K : Value → World → Prop} {KP : List PanicEntry → World → Prop} (h : W.skeplaw04_same a p1_ w K KP) : C.skeplaw04_same a p1_ w K KP :=
  xcall (E := E) (T := mkTab [(4, [(5, 3)])] [(4, [4, 5, 11, 12, 13, 14, 15, 16, 17, 18, 19, 20, 21, 22, 23, 24, 25, 26, 27])] [] [] [(6, [0, 1, 2, 3, 4, 5, 6, 7, 8, 9, 10])] [(6, [0, 0, 3, 7, 15, 0, 0, 96, 224, 480, 1023])] []) (c := Try.f24.body.getD .skip) (rs := [.tmp 4]) ⟨⟩ mixed Try.func24 (by kernel_rfl) (by kernel_rfl) [.slice a.a a.len a.cap, .slice p1_.a p1_.len p1_.cap] (by kernel_rfl) (by kernel_rfl) (.inr (by kernel_rfl)) (Eq.mp (by kernel_rfl) h)

def W.disk_Disk_Size (d : (Option Addr)) (file : Int) (w : World) (K : Value → World → Prop) (KP : List PanicEntry → World → Prop) : Prop :=
   C.disk_Disk_file d file w (fun r3 w1 => ∃ p2 : (Option Addr), r3 = .pointer p2 ∧
    (cond p2.isNone
    (K (.int .i64 0) w1)
    (withSome p2 fun a4 =>
    ∃ y5 : Sl, (okVal false 1 (.slice y5.a y5.len y5.cap) = true ∧ w1.cell? (Addr.add a4 1) = some (.slice y5.a y5.len y5.cap)) ∧
    K (.int .i64 (y5.len : Int)) w1))) KP
theorem disk_Disk_Size_of {d : (Option Addr)} {file : Int} {w : World} {K : Value → World → Prop} {KP : List PanicEntry → World → Prop} (h : W.disk_Disk_Size d file w K KP) : C.disk_Disk_Size d file w K KP :=
  xcall (E := E) (T := mkTab [] [] [] [] [] [] []) (c := Try.f25.body.getD .skip) (rs := [.tmp 4]) ⟨⟩ mixed Try.func25 (by kernel_rfl) (by kernel_rfl) [.pointer d, .int .i64 file] (by kernel_rfl) (by kernel_rfl) (.inr (by kernel_rfl)) (Eq.mp (by kernel_rfl) h)

def W.skeplaw04_WalReads_1 (k : Int) (p1_ : Sl) (p2_ : (Option Addr)) (p3_ : (Option Addr)) (p4_ : (Option Addr)) (p5_ : (Option Addr)) (w : World) (K : Value → World → Prop) (KP : List PanicEntry → World → Prop) : Prop :=
   ∀ w1, Drew w w1 →
    withSome p2_ fun a3 =>
    ∃ y2 : Bool, (okVal false 1 (.bool y2) = true ∧ w1.cell? a3 = some (.bool y2)) ∧
    (cond y2
    (withSome p3_ fun a5 =>
    ∃ y4 : Int, (okVal false 1 (.int .i64 y4) = true ∧ w1.cell? a5 = some (.int .i64 y4)) ∧
    withSome p4_ fun a7 =>
    ∃ y6 : Sl, (okVal false 1 (.slice y6.a y6.len y6.cap) = true ∧ w1.cell? a7 = some (.slice y6.a y6.len y6.cap)) ∧
    (cond (decide ((y4 : Int) < (y6.len : Int)))
    (withSome p5_ fun a9 =>
    ∃ y8 : Int, (okVal false 1 (.int .i64 y8) = true ∧ w1.cell? a9 = some (.int .i64 y8)) ∧
    (cond ((k : Int) == y8)
    (∃ s10 : ByteArray, (s10.size = p1_.len ∧ (0 < p1_.len → withSome p1_.a fun a => Go.Eng.World.has w1 a (bytesV s10))) ∧
    withSome p4_ fun a12 =>
    ∃ y11 : Sl, (okVal false 1 (.slice y11.a y11.len y11.cap) = true ∧ w1.cell? a12 = some (.slice y11.a y11.len y11.cap)) ∧
    withSome p3_ fun a14 =>
    ∃ y13 : Int, (okVal false 1 (.int .i64 y13) = true ∧ w1.cell? a14 = some (.int .i64 y13)) ∧
    ((0 : Int) ≤ y13 ∧ (y13 : Int) < (y11.len : Int)) ∧ withSome y11.a fun a15 =>
    ∃ y16 : Sl, (okVal false 1 (.slice y16.a y16.len y16.cap) = true ∧ w1.cell? (Addr.add a15 (y13.toNat * 1)) = some (.slice y16.a y16.len y16.cap)) ∧
    ∃ s17 : ByteArray, (s17.size = y16.len ∧ (0 < y16.len → withSome y16.a fun a => Go.Eng.World.has w1 a (bytesV s17))) ∧
    withSome p2_ fun a19 =>
    (okVal false 1 (.bool (strEq s10 s17)) = true ∧ canPut w1 a19 (.bool (strEq s10 s17))) ∧ ∀ w18 : World, w18 = putAt w1 a19 (.bool (strEq s10 s17)) →
    withSome p5_ fun a21 =>
    ∃ y20 : Int, (okVal false 1 (.int .i64 y20) = true ∧ w18.cell? a21 = some (.int .i64 y20)) ∧
    withSome p5_ fun a23 =>
    (okVal false 1 (.int .i64 (IntKind.i64.wrap ((IntKind.i64.wrap (y20 + 8)) + (p1_.len : Int)))) = true ∧ canPut w18 a23 (.int .i64 (IntKind.i64.wrap ((IntKind.i64.wrap (y20 + 8)) + (p1_.len : Int))))) ∧ ∀ w22 : World, w22 = putAt w18 a23 (.int .i64 (IntKind.i64.wrap ((IntKind.i64.wrap (y20 + 8)) + (p1_.len : Int)))) →
    withSome p3_ fun a25 =>
    ∃ y24 : Int, (okVal false 1 (.int .i64 y24) = true ∧ w22.cell? a25 = some (.int .i64 y24)) ∧
    withSome p3_ fun a27 =>
    (okVal false 1 (.int .i64 (IntKind.i64.wrap (y24 + 1))) = true ∧ canPut w22 a27 (.int .i64 (IntKind.i64.wrap (y24 + 1)))) ∧ ∀ w26 : World, w26 = putAt w22 a27 (.int .i64 (IntKind.i64.wrap (y24 + 1))) →
    withSome p2_ fun a29 =>
    ∃ y28 : Bool, (okVal false 1 (.bool y28) = true ∧ w26.cell? a29 = some (.bool y28)) ∧
    K (.bool y28) w26)
    (withSome p2_ fun a31 =>
    (okVal false 1 (.bool false) = true ∧ canPut w1 a31 (.bool false)) ∧ ∀ w30 : World, w30 = putAt w1 a31 (.bool false) →
    withSome p5_ fun a33 =>
    ∃ y32 : Int, (okVal false 1 (.int .i64 y32) = true ∧ w30.cell? a33 = some (.int .i64 y32)) ∧
    withSome p5_ fun a35 =>
    (okVal false 1 (.int .i64 (IntKind.i64.wrap ((IntKind.i64.wrap (y32 + 8)) + (p1_.len : Int)))) = true ∧ canPut w30 a35 (.int .i64 (IntKind.i64.wrap ((IntKind.i64.wrap (y32 + 8)) + (p1_.len : Int))))) ∧ ∀ w34 : World, w34 = putAt w30 a35 (.int .i64 (IntKind.i64.wrap ((IntKind.i64.wrap (y32 + 8)) + (p1_.len : Int)))) →
    withSome p3_ fun a37 =>
    ∃ y36 : Int, (okVal false 1 (.int .i64 y36) = true ∧ w34.cell? a37 = some (.int .i64 y36)) ∧
    withSome p3_ fun a39 =>
    (okVal false 1 (.int .i64 (IntKind.i64.wrap (y36 + 1))) = true ∧ canPut w34 a39 (.int .i64 (IntKind.i64.wrap (y36 + 1)))) ∧ ∀ w38 : World, w38 = putAt w34 a39 (.int .i64 (IntKind.i64.wrap (y36 + 1))) →
    withSome p2_ fun a41 =>
    ∃ y40 : Bool, (okVal false 1 (.bool y40) = true ∧ w38.cell? a41 = some (.bool y40)) ∧
    K (.bool y40) w38)))
    (withSome p2_ fun a43 =>
    (okVal false 1 (.bool false) = true ∧ canPut w1 a43 (.bool false)) ∧ ∀ w42 : World, w42 = putAt w1 a43 (.bool false) →
    withSome p5_ fun a45 =>
    ∃ y44 : Int, (okVal false 1 (.int .i64 y44) = true ∧ w42.cell? a45 = some (.int .i64 y44)) ∧
    withSome p5_ fun a47 =>
    (okVal false 1 (.int .i64 (IntKind.i64.wrap ((IntKind.i64.wrap (y44 + 8)) + (p1_.len : Int)))) = true ∧ canPut w42 a47 (.int .i64 (IntKind.i64.wrap ((IntKind.i64.wrap (y44 + 8)) + (p1_.len : Int))))) ∧ ∀ w46 : World, w46 = putAt w42 a47 (.int .i64 (IntKind.i64.wrap ((IntKind.i64.wrap (y44 + 8)) + (p1_.len : Int)))) →
    withSome p3_ fun a49 =>
    ∃ y48 : Int, (okVal false 1 (.int .i64 y48) = true ∧ w46.cell? a49 = some (.int .i64 y48)) ∧
    withSome p3_ fun a51 =>
    (okVal false 1 (.int .i64 (IntKind.i64.wrap (y48 + 1))) = true ∧ canPut w46 a51 (.int .i64 (IntKind.i64.wrap (y48 + 1)))) ∧ ∀ w50 : World, w50 = putAt w46 a51 (.int .i64 (IntKind.i64.wrap (y48 + 1))) →
    withSome p2_ fun a53 =>
    ∃ y52 : Bool, (okVal false 1 (.bool y52) = true ∧ w50.cell? a53 = some (.bool y52)) ∧
    K (.bool y52) w50)))
    (withSome p2_ fun a55 =>
    (okVal false 1 (.bool false) = true ∧ canPut w1 a55 (.bool false)) ∧ ∀ w54 : World, w54 = putAt w1 a55 (.bool false) →
    withSome p5_ fun a57 =>
    ∃ y56 : Int, (okVal false 1 (.int .i64 y56) = true ∧ w54.cell? a57 = some (.int .i64 y56)) ∧
    withSome p5_ fun a59 =>
    (okVal false 1 (.int .i64 (IntKind.i64.wrap ((IntKind.i64.wrap (y56 + 8)) + (p1_.len : Int)))) = true ∧ canPut w54 a59 (.int .i64 (IntKind.i64.wrap ((IntKind.i64.wrap (y56 + 8)) + (p1_.len : Int))))) ∧ ∀ w58 : World, w58 = putAt w54 a59 (.int .i64 (IntKind.i64.wrap ((IntKind.i64.wrap (y56 + 8)) + (p1_.len : Int)))) →
    withSome p3_ fun a61 =>
    ∃ y60 : Int, (okVal false 1 (.int .i64 y60) = true ∧ w58.cell? a61 = some (.int .i64 y60)) ∧
    withSome p3_ fun a63 =>
    (okVal false 1 (.int .i64 (IntKind.i64.wrap (y60 + 1))) = true ∧ canPut w58 a63 (.int .i64 (IntKind.i64.wrap (y60 + 1)))) ∧ ∀ w62 : World, w62 = putAt w58 a63 (.int .i64 (IntKind.i64.wrap (y60 + 1))) →
    withSome p2_ fun a65 =>
    ∃ y64 : Bool, (okVal false 1 (.bool y64) = true ∧ w62.cell? a65 = some (.bool y64)) ∧
    K (.bool y64) w62))
theorem skeplaw04_WalReads_1_of {k : Int} {p1_ : Sl} {p2_ : (Option Addr)} {p3_ : (Option Addr)} {p4_ : (Option Addr)} {p5_ : (Option Addr)} {w : World} {K : Value → World → Prop} {KP : List PanicEntry → World → Prop} (h : W.skeplaw04_WalReads_1 k p1_ p2_ p3_ p4_ p5_ w K KP) : C.skeplaw04_WalReads_1 k p1_ p2_ p3_ p4_ p5_ w K KP :=
  xcall (E := E) (T := mkTab [] [] [] [] [(1, [0, 1, 2, 3, 4, 5, 6, 7, 8, 9, 10, 11, 12, 13, 14, 15, 16, 17, 18, 19, 20, 21, 22])] [(1, [0, 1, 3, 3, 11, 31, 63, 127, 255, 255, 1023, 2047, 4095, 8191, 16383, 8191, 8191, 106495, 237567, 499711, 1048575, 2097151, 4194303])] []) (c := Try.f26.body.getD .skip) (rs := [.tmp 8]) ⟨⟩ mixed Try.func26 (by kernel_rfl) (by kernel_rfl) [.int .i64 k, .slice p1_.a p1_.len p1_.cap, .pointer p2_, .pointer p3_, .pointer p4_, .pointer p5_] (by kernel_rfl) (by kernel_rfl) (.inr (by kernel_rfl)) (Eq.mp (by kernel_rfl) h)

def W.skeplaw04_said (l : Sl) (w : World) (K : Value → World → Prop) (KP : List PanicEntry → World → Prop) : Prop :=
   ∃ (I1 : Sl → Int → World → Prop) (M2 : Sl → Int → World → Nat),
    (∃ u3 : Sl, (.slice none 0 0 : Value) = .slice u3.a u3.len u3.cap ∧ ∃ u4 : Int, (.int .i64 0 : Value) = .int .i64 u4 ∧ I1 u3 u4 w) ∧
    ∀ e0 : Env, ∀ v5 : Sl, ∀ v6 : Int, ∀ w7 : World, I1 v5 v6 w7 →
    (cond (decide ((v6 : Int) < (l.len : Int)))
    (((0 : Int) ≤ v6 ∧ (v6 : Int) < (l.len : Int)) ∧ withSome l.a fun a8 =>
    ∃ y9 : Sl, (okVal false 1 (.slice y9.a y9.len y9.cap) = true ∧ w7.cell? (Addr.add (Addr.add a8 (v6.toNat * 2)) 1) = some (.slice y9.a y9.len y9.cap)) ∧
    ∀ (b10 : Nat) (w11 : World), Alloc w7 b10 22 [.slice y9.a y9.len y9.cap] w11 →
    ∃ (q12 : Option Addr) (n13 c14 : Nat) (w15 : World), (Builtin.append_ #[27, 27] 27 #[.slice v5.a v5.len v5.cap, .slice (some ⟨b10, 0, none⟩) 1 1]).run Try.prog w11 = .ok (.slice q12 n13 c14) w15 ∧
    ∃ u16 : Sl, (.slice q12 n13 c14 : Value) = .slice u16.a u16.len u16.cap ∧ ∃ u17 : Int, (.int .i64 (IntKind.i64.wrap (v6 + 1)) : Value) = .int .i64 u17 ∧ (I1 u16 u17 w15 ∧ M2 u16 u17 w15 < M2 v5 v6 w7))
    (K (.slice v5.a v5.len v5.cap) w7))
theorem skeplaw04_said_of {l : Sl} {w : World} {K : Value → World → Prop} {KP : List PanicEntry → World → Prop} (h : W.skeplaw04_said l w K KP) : C.skeplaw04_said l w K KP :=
  xcall (E := E) (T := mkTab [(3, [(3, 27), (4, 3)])] [(3, [3, 4, 5, 6, 7, 8, 9, 10, 11, 12, 13, 14, 15, 16, 17, 18])] [] [] [] [] []) (c := Try.f27.body.getD .skip) (rs := [.tmp 2]) ⟨⟩ mixed Try.func27 (by kernel_rfl) (by kernel_rfl) [.slice l.a l.len l.cap] (by kernel_rfl) (by kernel_rfl) (.inr (by kernel_rfl)) (Eq.mp (by kernel_rfl) h)

def W.disk_Disk_Pending (d : (Option Addr)) (file : Int) (w : World) (K : Value → World → Prop) (KP : List PanicEntry → World → Prop) : Prop :=
   C.disk_Disk_file d file w (fun r3 w1 => ∃ p2 : (Option Addr), r3 = .pointer p2 ∧
    (cond p2.isNone
    (K (.int .i64 0) w1)
    (withSome p2 fun a4 =>
    ∃ y5 : Sl, (okVal false 1 (.slice y5.a y5.len y5.cap) = true ∧ w1.cell? (Addr.add a4 2) = some (.slice y5.a y5.len y5.cap)) ∧
    ∃ (I6 : Int → Int → World → Prop) (M7 : Int → Int → World → Nat),
    (∃ u8 : Int, (.int .i64 0 : Value) = .int .i64 u8 ∧ ∃ u9 : Int, (.int .i64 0 : Value) = .int .i64 u9 ∧ I6 u8 u9 w1) ∧
    ∀ e0 : Env, ∀ v10 : Int, ∀ v11 : Int, ∀ w12 : World, I6 v10 v11 w12 →
    (cond (decide ((v11 : Int) < (y5.len : Int)))
    (withSome p2 fun a13 =>
    ∃ y14 : Sl, (okVal false 1 (.slice y14.a y14.len y14.cap) = true ∧ w12.cell? (Addr.add a13 2) = some (.slice y14.a y14.len y14.cap)) ∧
    ((0 : Int) ≤ v11 ∧ (v11 : Int) < (y14.len : Int)) ∧ withSome y14.a fun a15 =>
    ∃ y16 : S.disk_done, (okVal true 3 (S.disk_done.v y16) = true ∧ rd w12 (Addr.add a15 (v11.toNat * 3)) (S.disk_done.v y16)) ∧
    C.disk_done_units y16 w12 (fun r19 w17 => ∃ p18 : Int, r19 = .int .i64 p18 ∧
    ∃ u20 : Int, (.int .i64 (IntKind.i64.wrap (v10 + p18)) : Value) = .int .i64 u20 ∧ ∃ u21 : Int, (.int .i64 (IntKind.i64.wrap (v11 + 1)) : Value) = .int .i64 u21 ∧ (I6 u20 u21 w17 ∧ M7 u20 u21 w17 < M7 v10 v11 w12)) KP)
    (K (.int .i64 v10) w12))))) KP
theorem disk_Disk_Pending_of {d : (Option Addr)} {file : Int} {w : World} {K : Value → World → Prop} {KP : List PanicEntry → World → Prop} (h : W.disk_Disk_Pending d file w K KP) : C.disk_Disk_Pending d file w K KP :=
  xcall (E := E) (T := mkTab [(6, [(6, 3), (18, 3)])] [(6, [6, 7, 18, 19, 20, 21, 22, 23, 24, 25, 26, 27, 28, 29, 30, 31])] [] [] [] [] []) (c := Try.f28.body.getD .skip) (rs := [.tmp 4]) ⟨⟩ mixed Try.func28 (by kernel_rfl) (by kernel_rfl) [.pointer d, .int .i64 file] (by kernel_rfl) (by kernel_rfl) (.inr (by kernel_rfl)) (Eq.mp (by kernel_rfl) h)

def W.wal_Log_Sync (l : (Option Addr)) (w : World) (K : Value → World → Prop) (KP : List PanicEntry → World → Prop) : Prop :=
   (cond l.isNone
    (K (.int .i64 1) w)
    (withSome l fun a1 =>
    ∃ y2 : (Option Addr), (okVal false 1 (.pointer y2) = true ∧ w.cell? a1 = some (.pointer y2)) ∧
    (cond y2.isNone
    (K (.int .i64 1) w)
    (∀ w3, Drew w w3 →
    withSome l fun a4 =>
    ∃ y5 : (Option Addr), (okVal false 1 (.pointer y5) = true ∧ w3.cell? a4 = some (.pointer y5)) ∧
    withSome l fun a6 =>
    ∃ y7 : Int, (okVal false 1 (.int .i64 y7) = true ∧ w3.cell? (Addr.add a6 1) = some (.int .i64 y7)) ∧
    C.disk_Disk_Sync y5 y7 w3 (fun r10 w8 => ∃ p9 : Int, r10 = .int .i64 p9 ∧
    K (.int .i64 p9) w8) KP))))
theorem wal_Log_Sync_of {l : (Option Addr)} {w : World} {K : Value → World → Prop} {KP : List PanicEntry → World → Prop} (h : W.wal_Log_Sync l w K KP) : C.wal_Log_Sync l w K KP :=
  xcall (E := E) (T := mkTab [] [] [] [] [(3, [0, 1, 2, 3, 4, 5, 6, 7, 8, 9])] [(3, [0, 1, 3, 7, 0, 16, 48, 112, 255, 511])] []) (c := Try.f29.body.getD .skip) (rs := [.tmp 2]) ⟨⟩ mixed Try.func29 (by kernel_rfl) (by kernel_rfl) [.pointer l] (by kernel_rfl) (by kernel_rfl) (.inr (by kernel_rfl)) (Eq.mp (by kernel_rfl) h)

def W.wal_Log_Erase (l : (Option Addr)) (w : World) (K : Value → World → Prop) (KP : List PanicEntry → World → Prop) : Prop :=
   (cond l.isNone
    (K (.int .i64 1) w)
    (withSome l fun a1 =>
    ∃ y2 : (Option Addr), (okVal false 1 (.pointer y2) = true ∧ w.cell? a1 = some (.pointer y2)) ∧
    (cond y2.isNone
    (K (.int .i64 1) w)
    (∀ w3, Drew w w3 →
    withSome l fun a4 =>
    ∃ y5 : (Option Addr), (okVal false 1 (.pointer y5) = true ∧ w3.cell? a4 = some (.pointer y5)) ∧
    withSome l fun a6 =>
    ∃ y7 : Int, (okVal false 1 (.int .i64 y7) = true ∧ w3.cell? (Addr.add a6 1) = some (.int .i64 y7)) ∧
    C.disk_Disk_Cut y5 y7 0 w3 (fun r10 w8 => ∃ p9 : Int, r10 = .int .i64 p9 ∧
    K (.int .i64 p9) w8) KP))))
theorem wal_Log_Erase_of {l : (Option Addr)} {w : World} {K : Value → World → Prop} {KP : List PanicEntry → World → Prop} (h : W.wal_Log_Erase l w K KP) : C.wal_Log_Erase l w K KP :=
  xcall (E := E) (T := mkTab [] [] [] [] [(3, [0, 1, 2, 3, 4, 5, 6, 7, 8, 9])] [(3, [0, 1, 3, 7, 0, 16, 48, 112, 255, 511])] []) (c := Try.f30.body.getD .skip) (rs := [.tmp 2]) ⟨⟩ mixed Try.func30 (by kernel_rfl) (by kernel_rfl) [.pointer l] (by kernel_rfl) (by kernel_rfl) (.inr (by kernel_rfl)) (Eq.mp (by kernel_rfl) h)

def W.disk_Disk_Crash (d : (Option Addr)) (a : Int) (p2_ : Int) (w : World) (K : Value → World → Prop) (KP : List PanicEntry → World → Prop) : Prop :=
   C.disk_New  w (fun r3 w1 => ∃ p2 : (Option Addr), r3 = .pointer p2 ∧
    (cond d.isNone
    (K (.pointer p2) w1)
    (∀ (b4 : Nat) (w5 : World), Alloc w1 b4 79 [.int .i64 0, .int .i64 0] w5 →
    (okVal true 2 (.agg #[.int .i64 a, .int .i64 p2_]) = true ∧ canPut w5 ⟨b4, 0, none⟩ (.agg #[.int .i64 a, .int .i64 p2_])) ∧ ∀ w6 : World, w6 = putAt w5 ⟨b4, 0, none⟩ (.agg #[.int .i64 a, .int .i64 p2_]) →
    ∃ (I7 : Int → World → Prop) (M8 : Int → World → Nat),
    (∃ u9 : Int, (.int .i64 0 : Value) = .int .i64 u9 ∧ I7 u9 w6) ∧
    ∀ e0 : Env, ∀ v10 : Int, ∀ w11 : World, I7 v10 w11 →
    (cond (decide ((v10 : Int) < 2))
    (withSome d fun a12 =>
    ((0 : Int) ≤ v10 ∧ (v10 : Int) < (2 : Int)) ∧ ∃ y13 : S.disk_file, (okVal true 3 (S.disk_file.v y13) = true ∧ rd w11 (Addr.add a12 (v10.toNat * 3)) (S.disk_file.v y13)) ∧
    ∀ (b14 : Nat) (w15 : World), Alloc w11 b14 62 [.slice none 0 0, .slice none 0 0, .slice none 0 0] w15 →
    (okVal true 3 (S.disk_file.v y13) = true ∧ canPut w15 ⟨b14, 0, none⟩ (S.disk_file.v y13)) ∧ ∀ w16 : World, w16 = putAt w15 ⟨b14, 0, none⟩ (S.disk_file.v y13) →
    ∀ (b17 : Nat) (w18 : World), Alloc w16 b17 5 [] w18 →
    ∃ y19 : Sl, (okVal false 1 (.slice y19.a y19.len y19.cap) = true ∧ w18.cell? ⟨b14, 0, none⟩ = some (.slice y19.a y19.len y19.cap)) ∧
    ∃ (q20 : Option Addr) (n21 c22 : Nat) (w23 : World), (Builtin.append_ #[22, 22] 22 #[.slice (some ⟨b17, 0, none⟩) 0 0, .slice y19.a y19.len y19.cap]).run Try.prog w18 = .ok (.slice q20 n21 c22) w23 ∧
    ∃ J24 : Sl → World → Prop,
    (∃ y25 : Sl, (okVal false 1 (.slice y25.a y25.len y25.cap) = true ∧ w23.cell? ⟨b14, 2, none⟩ = some (.slice y25.a y25.len y25.cap)) ∧
    ∃ (I26 : Sl → Int → World → Prop) (M27 : Sl → Int → World → Nat),
    (∃ u28 : Sl, (.slice q20 n21 c22 : Value) = .slice u28.a u28.len u28.cap ∧ ∃ u29 : Int, (.int .i64 0 : Value) = .int .i64 u29 ∧ I26 u28 u29 w23) ∧
    ∀ e0 : Env, ∀ v30 : Sl, ∀ v31 : Int, ∀ w32 : World, I26 v30 v31 w32 →
    (cond (decide ((v31 : Int) < (y25.len : Int)))
    (((0 : Int) ≤ v31 ∧ (v31 : Int) < (y25.len : Int)) ∧ withSome y25.a fun a33 =>
    ∃ y34 : S.disk_done, (okVal true 3 (S.disk_done.v y34) = true ∧ rd w32 (Addr.add a33 (v31.toNat * 3)) (S.disk_done.v y34)) ∧
    ∀ (b35 : Nat) (w36 : World), Alloc w32 b35 78 [.bool false, .int .i64 0, .slice none 0 0] w36 →
    (okVal true 3 (S.disk_done.v y34) = true ∧ canPut w36 ⟨b35, 0, none⟩ (S.disk_done.v y34)) ∧ ∀ w37 : World, w37 = putAt w36 ⟨b35, 0, none⟩ (S.disk_done.v y34) →
    ∀ w38, Drew w37 w38 →
    ∃ y39 : S.disk_done, (okVal true 3 (S.disk_done.v y39) = true ∧ rd w38 ⟨b35, 0, none⟩ (S.disk_done.v y39)) ∧
    ((0 : Int) ≤ v10 ∧ (v10 : Int) < (2 : Int)) ∧ ∃ y40 : Int, (okVal false 1 (.int .i64 y40) = true ∧ w38.cell? (Addr.add ⟨b4, 0, none⟩ (v10.toNat * 1)) = some (.int .i64 y40)) ∧
    C.disk_done_units y39 w38 (fun r43 w41 => ∃ p42 : Int, r43 = .int .i64 p42 ∧
    (w41.cell? (Addr.add ⟨b4, 0, none⟩ (v10.toNat * 1)) = some (.int .i64 y40)) ∧ ((0 : Int) ≤ v10 ∧ (v10 : Int) < (2 : Int)) ∧ ∃ y44 : Int, (okVal false 1 (.int .i64 y44) = true ∧ w41.cell? (Addr.add ⟨b4, 0, none⟩ (v10.toNat * 1)) = some (.int .i64 y44)) ∧
    ((0 : Int) ≤ v10 ∧ (v10 : Int) < (2 : Int)) ∧ (okVal false 1 (.int .i64 (IntKind.i64.wrap (y44 - (if ((if (0 : Int) > y40 then 0 else y40) : Int) < p42 then (if (0 : Int) > y40 then 0 else y40) else p42)))) = true ∧ canPut w41 (Addr.add ⟨b4, 0, none⟩ (v10.toNat * 1)) (.int .i64 (IntKind.i64.wrap (y44 - (if ((if (0 : Int) > y40 then 0 else y40) : Int) < p42 then (if (0 : Int) > y40 then 0 else y40) else p42))))) ∧ ∀ w45 : World, w45 = putAt w41 (Addr.add ⟨b4, 0, none⟩ (v10.toNat * 1)) (.int .i64 (IntKind.i64.wrap (y44 - (if ((if (0 : Int) > y40 then 0 else y40) : Int) < p42 then (if (0 : Int) > y40 then 0 else y40) else p42)))) →
    (cond (((if ((if (0 : Int) > y40 then 0 else y40) : Int) < p42 then (if (0 : Int) > y40 then 0 else y40) else p42) : Int) == 0)
    (∃ y46 : S.disk_done, (okVal true 3 (S.disk_done.v y46) = true ∧ rd w45 ⟨b35, 0, none⟩ (S.disk_done.v y46)) ∧
    C.disk_done_units y46 w45 (fun r49 w47 => ∃ p48 : Int, r49 = .int .i64 p48 ∧
    (cond (decide (((if ((if (0 : Int) > y40 then 0 else y40) : Int) < p42 then (if (0 : Int) > y40 then 0 else y40) else p42) : Int) < p48))
    (∃ u50 : Sl, (.slice v30.a v30.len v30.cap : Value) = .slice u50.a u50.len u50.cap ∧ J24 u50 w47)
    (∃ u51 : Sl, (.slice v30.a v30.len v30.cap : Value) = .slice u51.a u51.len u51.cap ∧ ∃ u52 : Int, (.int .i64 (IntKind.i64.wrap (v31 + 1)) : Value) = .int .i64 u52 ∧ (I26 u51 u52 w47 ∧ M27 u51 u52 w47 < M27 v30 v31 w32)))) KP)
    (∃ y53 : Bool, (okVal false 1 (.bool y53) = true ∧ w45.cell? ⟨b35, 0, none⟩ = some (.bool y53)) ∧
    (cond y53
    (∃ y54 : Int, (okVal false 1 (.int .i64 y54) = true ∧ w45.cell? ⟨b35, 1, none⟩ = some (.int .i64 y54)) ∧
    ((0 : Int) ≤ y54 ∧ (y54 : Int) ≤ (v30.cap : Int)) ∧ ∃ y55 : S.disk_done, (okVal true 3 (S.disk_done.v y55) = true ∧ rd w45 ⟨b35, 0, none⟩ (S.disk_done.v y55)) ∧
    C.disk_done_units y55 w45 (fun r58 w56 => ∃ p57 : Int, r58 = .int .i64 p57 ∧
    (cond (decide (((if ((if (0 : Int) > y40 then 0 else y40) : Int) < p42 then (if (0 : Int) > y40 then 0 else y40) else p42) : Int) < p57))
    (∃ u59 : Sl, (.slice (if v30.cap = 0 then v30.a else Option.map (fun x => Addr.add x (0 * 1)) v30.a) (y54.toNat - 0) (v30.cap - 0) : Value) = .slice u59.a u59.len u59.cap ∧ J24 u59 w56)
    (∃ u60 : Sl, (.slice (if v30.cap = 0 then v30.a else Option.map (fun x => Addr.add x (0 * 1)) v30.a) (y54.toNat - 0) (v30.cap - 0) : Value) = .slice u60.a u60.len u60.cap ∧ ∃ u61 : Int, (.int .i64 (IntKind.i64.wrap (v31 + 1)) : Value) = .int .i64 u61 ∧ (I26 u60 u61 w56 ∧ M27 u60 u61 w56 < M27 v30 v31 w32)))) KP)
    (∃ y62 : Sl, (okVal false 1 (.slice y62.a y62.len y62.cap) = true ∧ w45.cell? ⟨b35, 2, none⟩ = some (.slice y62.a y62.len y62.cap)) ∧
    ((0 : Int) ≤ (if ((if (0 : Int) > y40 then 0 else y40) : Int) < p42 then (if (0 : Int) > y40 then 0 else y40) else p42) ∧ ((if ((if (0 : Int) > y40 then 0 else y40) : Int) < p42 then (if (0 : Int) > y40 then 0 else y40) else p42) : Int) ≤ (y62.cap : Int)) ∧ ∃ (q63 : Option Addr) (n64 c65 : Nat) (w66 : World), (Builtin.append_ #[22, 22] 22 #[.slice v30.a v30.len v30.cap, .slice (if y62.cap = 0 then y62.a else Option.map (fun x => Addr.add x (0 * 1)) y62.a) ((if ((if (0 : Int) > y40 then 0 else y40) : Int) < p42 then (if (0 : Int) > y40 then 0 else y40) else p42).toNat - 0) (y62.cap - 0)]).run Try.prog w45 = .ok (.slice q63 n64 c65) w66 ∧
    ∃ y67 : S.disk_done, (okVal true 3 (S.disk_done.v y67) = true ∧ rd w66 ⟨b35, 0, none⟩ (S.disk_done.v y67)) ∧
    C.disk_done_units y67 w66 (fun r70 w68 => ∃ p69 : Int, r70 = .int .i64 p69 ∧
    (cond (decide (((if ((if (0 : Int) > y40 then 0 else y40) : Int) < p42 then (if (0 : Int) > y40 then 0 else y40) else p42) : Int) < p69))
    (∃ u71 : Sl, (.slice q63 n64 c65 : Value) = .slice u71.a u71.len u71.cap ∧ J24 u71 w68)
    (∃ u72 : Sl, (.slice q63 n64 c65 : Value) = .slice u72.a u72.len u72.cap ∧ ∃ u73 : Int, (.int .i64 (IntKind.i64.wrap (v31 + 1)) : Value) = .int .i64 u73 ∧ (I26 u72 u73 w68 ∧ M27 u72 u73 w68 < M27 v30 v31 w32)))) KP))))) KP)
    (∃ u74 : Sl, (.slice v30.a v30.len v30.cap : Value) = .slice u74.a u74.len u74.cap ∧ J24 u74 w32))) ∧
    ∀ e0 : Env, ∀ v75 : Sl, ∀ w76 : World, J24 v75 w76 →
    ∀ w77, Drew w76 w77 →
    ((0 : Int) ≤ (v75.len : Int) ∧ ((v75.len : Int) : Int) ≤ (v75.cap : Int)) ∧ ((0 : Int) ≤ (v75.len : Int) ∧ ((v75.len : Int) : Int) ≤ ((v75.len : Int).toNat : Int)) ∧ withSome p2 fun a78 =>
    ((0 : Int) ≤ v10 ∧ (v10 : Int) < (2 : Int)) ∧ (okVal true 3 (.agg #[.slice (if (v75.len : Int).toNat = 0 then v75.a else Option.map (fun x => Addr.add x (0 * 1)) v75.a) ((v75.len : Int).toNat - 0) ((v75.len : Int).toNat - 0), .slice v75.a v75.len v75.cap, .slice none 0 0]) = true ∧ canPut w77 (Addr.add a78 (v10.toNat * 3)) (.agg #[.slice (if (v75.len : Int).toNat = 0 then v75.a else Option.map (fun x => Addr.add x (0 * 1)) v75.a) ((v75.len : Int).toNat - 0) ((v75.len : Int).toNat - 0), .slice v75.a v75.len v75.cap, .slice none 0 0])) ∧ ∀ w79 : World, w79 = putAt w77 (Addr.add a78 (v10.toNat * 3)) (.agg #[.slice (if (v75.len : Int).toNat = 0 then v75.a else Option.map (fun x => Addr.add x (0 * 1)) v75.a) ((v75.len : Int).toNat - 0) ((v75.len : Int).toNat - 0), .slice v75.a v75.len v75.cap, .slice none 0 0]) →
    ∃ u80 : Int, (.int .i64 (IntKind.i64.wrap (v10 + 1)) : Value) = .int .i64 u80 ∧ (I7 u80 w79 ∧ M8 u80 w79 < M8 v10 w11))
    (K (.pointer p2) w11))))) KP
theorem disk_Disk_Crash_of {d : (Option Addr)} {a : Int} {p2_ : Int} {w : World} {K : Value → World → Prop} {KP : List PanicEntry → World → Prop} (h : W.disk_Disk_Crash d a p2_ w K KP) : C.disk_Disk_Crash d a p2_ w K KP :=
  xcall (E := E) (T := mkTab [(6, [(22, 3)]), (11, [(11, 22), (38, 3)])] [(6, [9, 10, 11, 13, 14, 22, 23, 24, 25, 26, 27, 28, 29, 30, 31, 32, 33, 34, 35, 36, 37, 38, 39, 40, 41, 42, 43, 44, 45, 46, 47, 48, 49, 50, 51, 52, 53, 54, 55, 56, 57, 58, 59, 60, 61, 62, 63, 64, 65, 66, 67, 68, 69, 70, 71, 72, 73, 74, 75, 76, 77, 78, 79, 80, 81, 82, 83, 84, 85, 86, 87, 88, 89]), (11, [11, 13, 14, 38, 39, 40, 41, 42, 43, 44, 45, 46, 47, 48, 49, 50, 51, 52, 53, 54, 55, 56, 57, 58, 59, 60, 61, 62, 63, 64, 65, 66, 67, 68, 69, 70, 71, 72, 73, 74, 75])] [(21, [(11, 22)])] [(21, [11, 13, 14, 35, 36, 37, 38, 39, 40, 41, 42, 43, 44, 45, 46, 47, 48, 49, 50, 51, 52, 53, 54, 55, 56, 57, 58, 59, 60, 61, 62, 63, 64, 65, 66, 67, 68, 69, 70, 71, 72, 73, 74, 75])] [(13, [0, 2, 3, 4, 5, 1, 6, 7]), (21, [0, 1, 2, 3, 4, 5, 6, 7, 8, 9, 10, 11, 12, 13])] [(13, [0, 1, 0, 4, 12, 28, 63, 127]), (21, [0, 0, 0, 0, 8, 0, 32, 124, 0, 508, 1, 1025, 4095, 8191])] []) (c := Try.f31.body.getD .skip) (rs := [.tmp 6]) ⟨⟩ mixed Try.func31 (by kernel_rfl) (by kernel_rfl) [.pointer d, .int .i64 a, .int .i64 p2_] (by kernel_rfl) (by kernel_rfl) (.inr (by kernel_rfl)) (Eq.mp (by kernel_rfl) h)

def W.disk_Disk_Cut (d : (Option Addr)) (file : Int) (size : Int) (w : World) (K : Value → World → Prop) (KP : List PanicEntry → World → Prop) : Prop :=
   C.disk_Disk_file d file w (fun r3 w1 => ∃ p2 : (Option Addr), r3 = .pointer p2 ∧
    (cond p2.isNone
    (K (.int .i64 1) w1)
    ((cond (decide ((size : Int) < 0))
    (K (.int .i64 1) w1)
    (withSome p2 fun a4 =>
    ∃ y5 : Sl, (okVal false 1 (.slice y5.a y5.len y5.cap) = true ∧ w1.cell? (Addr.add a4 1) = some (.slice y5.a y5.len y5.cap)) ∧
    (cond (decide ((size : Int) > (y5.len : Int)))
    (K (.int .i64 1) w1)
    (∀ (b6 : Nat) (w7 : World), Alloc w1 b6 5 [] w7 →
    withSome p2 fun a8 =>
    ∃ y9 : Sl, (okVal false 1 (.slice y9.a y9.len y9.cap) = true ∧ w7.cell? (Addr.add a8 1) = some (.slice y9.a y9.len y9.cap)) ∧
    ((0 : Int) ≤ size ∧ (size : Int) ≤ (y9.cap : Int)) ∧ ∃ (q10 : Option Addr) (n11 c12 : Nat) (w13 : World), (Builtin.append_ #[22, 22] 22 #[.slice (some ⟨b6, 0, none⟩) 0 0, .slice (if y9.cap = 0 then y9.a else Option.map (fun x => Addr.add x (0 * 1)) y9.a) (size.toNat - 0) (y9.cap - 0)]).run Try.prog w7 = .ok (.slice q10 n11 c12) w13 ∧
    withSome p2 fun a14 =>
    (okVal false 1 (.slice q10 n11 c12) = true ∧ canPut w13 (Addr.add a14 1) (.slice q10 n11 c12)) ∧ ∀ w15 : World, w15 = putAt w13 (Addr.add a14 1) (.slice q10 n11 c12) →
    withSome p2 fun a16 =>
    ∃ y17 : Sl, (okVal false 1 (.slice y17.a y17.len y17.cap) = true ∧ w15.cell? (Addr.add a16 2) = some (.slice y17.a y17.len y17.cap)) ∧
    ∀ (b18 : Nat) (w19 : World), Alloc w15 b18 78 [.bool true, .int .i64 size, .slice none 0 0] w19 →
    ∃ (q20 : Option Addr) (n21 c22 : Nat) (w23 : World), (Builtin.append_ #[60, 60] 60 #[.slice y17.a y17.len y17.cap, .slice (some ⟨b18, 0, none⟩) 1 1]).run Try.prog w19 = .ok (.slice q20 n21 c22) w23 ∧
    withSome p2 fun a24 =>
    (okVal false 1 (.slice q20 n21 c22) = true ∧ canPut w23 (Addr.add a24 2) (.slice q20 n21 c22)) ∧ ∀ w25 : World, w25 = putAt w23 (Addr.add a24 2) (.slice q20 n21 c22) →
    K (.int .i64 0) w25))))))) KP
theorem disk_Disk_Cut_of {d : (Option Addr)} {file : Int} {size : Int} {w : World} {K : Value → World → Prop} {KP : List PanicEntry → World → Prop} (h : W.disk_Disk_Cut d file size w K KP) : C.disk_Disk_Cut d file size w K KP :=
  xcall (E := E) (T := mkTab [] [] [] [] [] [] []) (c := Try.f32.body.getD .skip) (rs := [.tmp 6]) ⟨⟩ mixed Try.func32 (by kernel_rfl) (by kernel_rfl) [.pointer d, .int .i64 file, .int .i64 size] (by kernel_rfl) (by kernel_rfl) (.inr (by kernel_rfl)) (Eq.mp (by kernel_rfl) h)

def W.disk_Disk_Sync (d : (Option Addr)) (file : Int) (w : World) (K : Value → World → Prop) (KP : List PanicEntry → World → Prop) : Prop :=
   C.disk_Disk_file d file w (fun r3 w1 => ∃ p2 : (Option Addr), r3 = .pointer p2 ∧
    (cond p2.isNone
    (K (.int .i64 1) w1)
    (∀ w4, Drew w1 w4 →
    withSome p2 fun a5 =>
    ∃ y6 : Sl, (okVal false 1 (.slice y6.a y6.len y6.cap) = true ∧ w4.cell? (Addr.add a5 1) = some (.slice y6.a y6.len y6.cap)) ∧
    withSome p2 fun a7 =>
    ∃ y8 : Sl, (okVal false 1 (.slice y8.a y8.len y8.cap) = true ∧ w4.cell? (Addr.add a7 1) = some (.slice y8.a y8.len y8.cap)) ∧
    withSome p2 fun a9 =>
    ∃ y10 : Sl, (okVal false 1 (.slice y10.a y10.len y10.cap) = true ∧ w4.cell? (Addr.add a9 1) = some (.slice y10.a y10.len y10.cap)) ∧
    ((0 : Int) ≤ (y10.len : Int) ∧ ((y10.len : Int) : Int) ≤ (y6.cap : Int)) ∧ ((0 : Int) ≤ (y8.len : Int) ∧ ((y8.len : Int) : Int) ≤ ((y10.len : Int).toNat : Int)) ∧ withSome p2 fun a11 =>
    (okVal false 1 (.slice (if (y10.len : Int).toNat = 0 then y6.a else Option.map (fun x => Addr.add x (0 * 1)) y6.a) ((y8.len : Int).toNat - 0) ((y10.len : Int).toNat - 0)) = true ∧ canPut w4 a11 (.slice (if (y10.len : Int).toNat = 0 then y6.a else Option.map (fun x => Addr.add x (0 * 1)) y6.a) ((y8.len : Int).toNat - 0) ((y10.len : Int).toNat - 0))) ∧ ∀ w12 : World, w12 = putAt w4 a11 (.slice (if (y10.len : Int).toNat = 0 then y6.a else Option.map (fun x => Addr.add x (0 * 1)) y6.a) ((y8.len : Int).toNat - 0) ((y10.len : Int).toNat - 0)) →
    withSome p2 fun a13 =>
    (okVal false 1 (.slice none 0 0) = true ∧ canPut w12 (Addr.add a13 2) (.slice none 0 0)) ∧ ∀ w14 : World, w14 = putAt w12 (Addr.add a13 2) (.slice none 0 0) →
    K (.int .i64 0) w14))) KP
theorem disk_Disk_Sync_of {d : (Option Addr)} {file : Int} {w : World} {K : Value → World → Prop} {KP : List PanicEntry → World → Prop} (h : W.disk_Disk_Sync d file w K KP) : C.disk_Disk_Sync d file w K KP :=
  xcall (E := E) (T := mkTab [] [] [] [] [(4, [0, 1, 2, 3, 4, 5, 6, 7, 8, 9, 10, 11, 12, 13, 14, 15, 16, 17, 18])] [(4, [0, 0, 2, 6, 14, 0, 32, 96, 224, 480, 0, 1024, 3072, 7168, 15360, 32766, 65535, 131071, 262143])] []) (c := Try.f33.body.getD .skip) (rs := [.tmp 4]) ⟨⟩ mixed Try.func33 (by kernel_rfl) (by kernel_rfl) [.pointer d, .int .i64 file] (by kernel_rfl) (by kernel_rfl) (.inr (by kernel_rfl)) (Eq.mp (by kernel_rfl) h)

def W.skepref04_four (p0_ : Sl) (w : World) (K : Value → World → Prop) (KP : List PanicEntry → World → Prop) : Prop :=
   ∀ w1, Drew w w1 →
    ((0 : Int) ≤ 0 ∧ (0 : Int) < (p0_.len : Int)) ∧ withSome p0_.a fun a2 =>
    ∃ y3 : Int, (okVal false 1 (.int .u8 y3) = true ∧ w1.cell? a2 = some (.int .u8 y3)) ∧
    ((0 : Int) ≤ 1 ∧ (1 : Int) < (p0_.len : Int)) ∧ withSome p0_.a fun a4 =>
    ∃ y5 : Int, (okVal false 1 (.int .u8 y5) = true ∧ w1.cell? (Addr.add a4 1) = some (.int .u8 y5)) ∧
    (0 : Int) ≤ 8 ∧ ((0 : Int) ≤ 2 ∧ (2 : Int) < (p0_.len : Int)) ∧ withSome p0_.a fun a6 =>
    ∃ y7 : Int, (okVal false 1 (.int .u8 y7) = true ∧ w1.cell? (Addr.add a6 2) = some (.int .u8 y7)) ∧
    (0 : Int) ≤ 16 ∧ ((0 : Int) ≤ 3 ∧ (3 : Int) < (p0_.len : Int)) ∧ withSome p0_.a fun a8 =>
    ∃ y9 : Int, (okVal false 1 (.int .u8 y9) = true ∧ w1.cell? (Addr.add a8 3) = some (.int .u8 y9)) ∧
    (0 : Int) ≤ 24 ∧ K (.int .u32 (IntKind.u32.wrap ((IntKind.u32.wrap ((IntKind.u32.wrap ((IntKind.u32.wrap y3) + (shlI .u32 (IntKind.u32.wrap y5) 8))) + (shlI .u32 (IntKind.u32.wrap y7) 16))) + (shlI .u32 (IntKind.u32.wrap y9) 24)))) w1
theorem skepref04_four_of {p0_ : Sl} {w : World} {K : Value → World → Prop} {KP : List PanicEntry → World → Prop} (h : W.skepref04_four p0_ w K KP) : C.skepref04_four p0_ w K KP :=
  xcall (E := E) (T := mkTab [] [] [] [] [(1, [0, 1, 2, 3, 4, 5, 6, 7, 8, 9, 10, 11, 12, 13, 14, 15, 16, 17, 18, 19, 20, 21, 22])] [(1, [0, 1, 3, 7, 0, 16, 48, 112, 240, 511, 0, 1024, 3072, 7168, 15360, 32767, 0, 65536, 196608, 458752, 983040, 2097151, 4194303])] []) (c := Try.f34.body.getD .skip) (rs := [.tmp 2]) ⟨⟩ mixed Try.func34 (by kernel_rfl) (by kernel_rfl) [.slice p0_.a p0_.len p0_.cap] (by kernel_rfl) (by kernel_rfl) (.inr (by kernel_rfl)) (Eq.mp (by kernel_rfl) h)

def W.skepref02_Of (p0_ : Sl) (w : World) (K : Value → World → Prop) (KP : List PanicEntry → World → Prop) : Prop :=
   C.skepref02_More 0 p0_ w (fun r3 w1 => ∃ p2 : Int, r3 = .int .u32 p2 ∧
    K (.int .u32 p2) w1) KP
theorem skepref02_Of_of {p0_ : Sl} {w : World} {K : Value → World → Prop} {KP : List PanicEntry → World → Prop} (h : W.skepref02_Of p0_ w K KP) : C.skepref02_Of p0_ w K KP :=
  xcall (E := E) (T := mkTab [] [] [] [] [] [] []) (c := Try.f35.body.getD .skip) (rs := [.tmp 2]) ⟨⟩ mixed Try.func35 (by kernel_rfl) (by kernel_rfl) [.slice p0_.a p0_.len p0_.cap] (by kernel_rfl) (by kernel_rfl) (.inr (by kernel_rfl)) (Eq.mp (by kernel_rfl) h)

def W.wal_Log_Records_1 (yield : Value) (p1_ : (Option Addr)) (p2_ : (Option Addr)) (w : World) (K : Value → World → Prop) (KP : List PanicEntry → World → Prop) : Prop :=
   withSome p1_ fun a2 =>
    ∃ y1 : (Option Addr), (okVal false 1 (.pointer y1) = true ∧ w.cell? a2 = some (.pointer y1)) ∧
    (cond y1.isNone
    (K (.tuple #[]) w)
    (∃ (I3 : Int → World → Prop) (M4 : Int → World → Nat),
    (∃ u5 : Int, (.int .i64 0 : Value) = .int .i64 u5 ∧ I3 u5 w) ∧
    ∀ e0 : Env, ∀ v6 : Int, ∀ w7 : World, I3 v6 w7 →
    withSome p2_ fun a9 =>
    ∃ y8 : Sl, (okVal false 1 (.slice y8.a y8.len y8.cap) = true ∧ w7.cell? a9 = some (.slice y8.a y8.len y8.cap)) ∧
    C.wal_record y8 v6 w7 (fun r12 w10 => ∃ p11 : Sl, r12 = .slice p11.a p11.len p11.cap ∧
    (cond p11.a.isNone
    (K (.tuple #[]) w10)
    (∀ (b13 : Nat) (w14 : World), Alloc w10 b13 5 [] w14 →
    ∃ (q15 : Option Addr) (n16 c17 : Nat) (w18 : World), (Builtin.append_ #[22, 22] 22 #[.slice (some ⟨b13, 0, none⟩) 0 0, .slice p11.a p11.len p11.cap]).run Try.prog w14 = .ok (.slice q15 n16 c17) w18 ∧
    callV Try.prog yield [.int .i64 v6, .slice q15 n16 c17] w18 (Ret (fun r21 w19 => ∃ p20 : Bool, r21 = .bool p20 ∧
    (cond (!p20)
    (K (.tuple #[]) w19)
    (∃ u22 : Int, (.int .i64 (IntKind.i64.wrap (v6 + (IntKind.i64.wrap (8 + (p11.len : Int))))) : Value) = .int .i64 u22 ∧ (I3 u22 w19 ∧ M4 u22 w19 < M4 v6 w7)))) KP)))) KP))
theorem wal_Log_Records_1_of {yield : Value} {p1_ : (Option Addr)} {p2_ : (Option Addr)} {w : World} {K : Value → World → Prop} {KP : List PanicEntry → World → Prop} (h : W.wal_Log_Records_1 yield p1_ p2_ w K KP) : C.wal_Log_Records_1 yield p1_ p2_ w K KP :=
  xcall (E := E) (T := mkTab [(2, [(4, 3)])] [(2, [4, 5, 8, 9, 10, 11, 12, 13, 14, 15, 16, 17, 18, 19, 20, 21, 22, 23, 24, 25, 26])] [] [] [] [] []) (c := Try.f36.body.getD .skip) (rs := []) ⟨⟩ mixed Try.func36 (by kernel_rfl) (by kernel_rfl) [yield, .pointer p1_, .pointer p2_] (by kernel_rfl) (by kernel_rfl) (.inr (by kernel_rfl)) (Eq.mp (by kernel_rfl) h)

def W.wal_record (p0_ : Sl) (p1_ : Int) (w : World) (K : Value → World → Prop) (KP : List PanicEntry → World → Prop) : Prop :=
   (cond (decide (((IntKind.i64.wrap ((p0_.len : Int) - p1_)) : Int) < 8))
    (K (.slice none 0 0) w)
    (((0 : Int) ≤ p1_ ∧ (p1_ : Int) ≤ (p0_.len : Int)) ∧ C.wal_told (⟨(if p0_.cap = p1_.toNat then p0_.a else Option.map (fun x => Addr.add x (p1_.toNat * 1)) p0_.a), p0_.len - p1_.toNat, p0_.cap - p1_.toNat⟩) w (fun r3 w1 => ∃ p2 : Int, r3 = .int .u32 p2 ∧
    (cond (decide ((p2 : Int) < 1))
    (K (.slice none 0 0) w1)
    ((cond (decide ((p2 : Int) > 65536))
    (K (.slice none 0 0) w1)
    ((cond (decide (((IntKind.i64.wrap p2) : Int) > (IntKind.i64.wrap ((IntKind.i64.wrap ((p0_.len : Int) - p1_)) - 8))))
    (K (.slice none 0 0) w1)
    (((0 : Int) ≤ (IntKind.i64.wrap ((IntKind.i64.wrap (p1_ + 8)) + (IntKind.i64.wrap p2))) ∧ ((IntKind.i64.wrap ((IntKind.i64.wrap (p1_ + 8)) + (IntKind.i64.wrap p2))) : Int) ≤ (p0_.cap : Int)) ∧ ((0 : Int) ≤ (IntKind.i64.wrap (p1_ + 8)) ∧ ((IntKind.i64.wrap (p1_ + 8)) : Int) ≤ ((IntKind.i64.wrap ((IntKind.i64.wrap (p1_ + 8)) + (IntKind.i64.wrap p2))).toNat : Int)) ∧ ∀ w4, Drew w1 w4 →
    ((0 : Int) ≤ (IntKind.i64.wrap (p1_ + 4)) ∧ ((IntKind.i64.wrap (p1_ + 4)) : Int) ≤ (p0_.cap : Int)) ∧ ((0 : Int) ≤ p1_ ∧ (p1_ : Int) ≤ ((IntKind.i64.wrap (p1_ + 4)).toNat : Int)) ∧ ((0 : Int) ≤ (IntKind.i64.wrap (p1_ + 4)) ∧ ((IntKind.i64.wrap (p1_ + 4)) : Int) ≤ (p0_.len : Int)) ∧ C.crc_Of (⟨(if p0_.cap = p1_.toNat then p0_.a else Option.map (fun x => Addr.add x (p1_.toNat * 1)) p0_.a), (IntKind.i64.wrap (p1_ + 4)).toNat - p1_.toNat, p0_.cap - p1_.toNat⟩) w4 (fun r7 w5 => ∃ p6 : Int, r7 = .int .u32 p6 ∧
    C.crc_More p6 (⟨(if p0_.cap = (IntKind.i64.wrap (p1_ + 8)).toNat then p0_.a else Option.map (fun x => Addr.add x (((IntKind.i64.wrap (p1_ + 8)).toNat) * 1)) p0_.a), (IntKind.i64.wrap ((IntKind.i64.wrap (p1_ + 8)) + (IntKind.i64.wrap p2))).toNat - (IntKind.i64.wrap (p1_ + 8)).toNat, p0_.cap - (IntKind.i64.wrap (p1_ + 8)).toNat⟩) w5 (fun r10 w8 => ∃ p9 : Int, r10 = .int .u32 p9 ∧
    C.wal_told (⟨(if p0_.cap = (IntKind.i64.wrap (p1_ + 4)).toNat then p0_.a else Option.map (fun x => Addr.add x (((IntKind.i64.wrap (p1_ + 4)).toNat) * 1)) p0_.a), p0_.len - (IntKind.i64.wrap (p1_ + 4)).toNat, p0_.cap - (IntKind.i64.wrap (p1_ + 4)).toNat⟩) w8 (fun r13 w11 => ∃ p12 : Int, r13 = .int .u32 p12 ∧
    (cond ((p9 : Int) != p12)
    (K (.slice none 0 0) w11)
    (K (.slice (if p0_.cap = (IntKind.i64.wrap (p1_ + 8)).toNat then p0_.a else Option.map (fun x => Addr.add x (((IntKind.i64.wrap (p1_ + 8)).toNat) * 1)) p0_.a) ((IntKind.i64.wrap ((IntKind.i64.wrap (p1_ + 8)) + (IntKind.i64.wrap p2))).toNat - (IntKind.i64.wrap (p1_ + 8)).toNat) (p0_.cap - (IntKind.i64.wrap (p1_ + 8)).toNat)) w11))) KP) KP) KP))))))) KP))
theorem wal_record_of {p0_ : Sl} {p1_ : Int} {w : World} {K : Value → World → Prop} {KP : List PanicEntry → World → Prop} (h : W.wal_record p0_ p1_ w K KP) : C.wal_record p0_ p1_ w K KP :=
  xcall (E := E) (T := mkTab [] [] [] [] [(7, [0, 1, 2, 3, 4, 6, 8, 9, 10, 11, 5, 7, 12, 13])] [(7, [0, 0, 0, 4, 15, 31, 0, 127, 0, 0, 512, 1792, 4095, 8191])] []) (c := Try.f37.body.getD .skip) (rs := [.tmp 4]) ⟨⟩ mixed Try.func37 (by kernel_rfl) (by kernel_rfl) [.slice p0_.a p0_.len p0_.cap, .int .i64 p1_] (by kernel_rfl) (by kernel_rfl) (.inr (by kernel_rfl)) (Eq.mp (by kernel_rfl) h)

def W.wal_number (n : Int) (w : World) (K : Value → World → Prop) (KP : List PanicEntry → World → Prop) : Prop :=
   (0 : Int) ≤ 8 ∧ (0 : Int) ≤ 16 ∧ (0 : Int) ≤ 24 ∧ ∀ (b1 : Nat) (w2 : World), Alloc w b1 5 [.int .u8 (IntKind.u8.wrap n), .int .u8 (IntKind.u8.wrap (shrI .u32 n 8)), .int .u8 (IntKind.u8.wrap (shrI .u32 n 16)), .int .u8 (IntKind.u8.wrap (shrI .u32 n 24))] w2 →
    K (.slice (some ⟨b1, 0, none⟩) 4 4) w2
theorem wal_number_of {n : Int} {w : World} {K : Value → World → Prop} {KP : List PanicEntry → World → Prop} (h : W.wal_number n w K KP) : C.wal_number n w K KP :=
  xcall (E := E) (T := mkTab [] [] [] [] [] [] []) (c := Try.f38.body.getD .skip) (rs := [.tmp 2]) ⟨⟩ mixed Try.func38 (by kernel_rfl) (by kernel_rfl) [.int .u32 n] (by kernel_rfl) (by kernel_rfl) (.inr (by kernel_rfl)) (Eq.mp (by kernel_rfl) h)

def W.crc_More (s : Int) (p1_ : Sl) (w : World) (K : Value → World → Prop) (KP : List PanicEntry → World → Prop) : Prop :=
   ∃ (I1 : Int → Int → World → Prop) (M2 : Int → Int → World → Nat),
    (∃ u3 : Int, (.int .u32 (notI .u32 s) : Value) = .int .u32 u3 ∧ ∃ u4 : Int, (.int .i64 0 : Value) = .int .i64 u4 ∧ I1 u3 u4 w) ∧
    ∀ e0 : Env, ∀ v5 : Int, ∀ v6 : Int, ∀ w7 : World, I1 v5 v6 w7 →
    (cond (decide ((v6 : Int) < (p1_.len : Int)))
    (((0 : Int) ≤ v6 ∧ (v6 : Int) < (p1_.len : Int)) ∧ withSome p1_.a fun a8 =>
    ∃ y9 : Int, (okVal false 1 (.int .u8 y9) = true ∧ w7.cell? (Addr.add a8 (v6.toNat * 1)) = some (.int .u8 y9)) ∧
    ∃ (I10 : Int → Int → World → Prop) (M11 : Int → Int → World → Nat),
    (∃ u12 : Int, (.int .u32 (xorI .u32 v5 (IntKind.u32.wrap y9)) : Value) = .int .u32 u12 ∧ ∃ u13 : Int, (.int .i64 0 : Value) = .int .i64 u13 ∧ I10 u12 u13 w7) ∧
    ∀ e0 : Env, ∀ v14 : Int, ∀ v15 : Int, ∀ w16 : World, I10 v14 v15 w16 →
    (cond (decide ((v15 : Int) < 8))
    ((0 : Int) ≤ 1 ∧ (cond (((andI .u32 v14 1) : Int) == 1)
    (∃ u17 : Int, (.int .u32 (xorI .u32 (shrI .u32 v14 1) 3988292384) : Value) = .int .u32 u17 ∧ ∃ u18 : Int, (.int .i64 (IntKind.i64.wrap (v15 + 1)) : Value) = .int .i64 u18 ∧ (I10 u17 u18 w16 ∧ M11 u17 u18 w16 < M11 v14 v15 w16))
    (∃ u19 : Int, (.int .u32 (shrI .u32 v14 1) : Value) = .int .u32 u19 ∧ ∃ u20 : Int, (.int .i64 (IntKind.i64.wrap (v15 + 1)) : Value) = .int .i64 u20 ∧ (I10 u19 u20 w16 ∧ M11 u19 u20 w16 < M11 v14 v15 w16))))
    (∃ u21 : Int, (.int .u32 v14 : Value) = .int .u32 u21 ∧ ∃ u22 : Int, (.int .i64 (IntKind.i64.wrap (v6 + 1)) : Value) = .int .i64 u22 ∧ (I1 u21 u22 w16 ∧ M2 u21 u22 w16 < M2 v5 v6 w7))))
    (K (.int .u32 (notI .u32 v5)) w7))
theorem crc_More_of {s : Int} {p1_ : Sl} {w : World} {K : Value → World → Prop} {KP : List PanicEntry → World → Prop} (h : W.crc_More s p1_ w K KP) : C.crc_More s p1_ w K KP :=
  xcall (E := E) (T := mkTab [(3, [(5, 70), (13, 3)]), (7, [(5, 70), (21, 3)])] [(3, [5, 7, 8, 13, 14, 15, 16, 17, 18, 19, 20, 21, 22, 23, 24, 25, 26, 27, 28, 29, 30, 31, 32]), (7, [5, 8, 21, 22, 23, 24, 25, 26, 27, 28, 29, 30, 31])] [] [] [] [] []) (c := Try.f39.body.getD .skip) (rs := [.tmp 4]) ⟨⟩ mixed Try.func39 (by kernel_rfl) (by kernel_rfl) [.int .u32 s, .slice p1_.a p1_.len p1_.cap] (by kernel_rfl) (by kernel_rfl) (.inr (by kernel_rfl)) (Eq.mp (by kernel_rfl) h)

def W.crc_Of (p0_ : Sl) (w : World) (K : Value → World → Prop) (KP : List PanicEntry → World → Prop) : Prop :=
   C.crc_More 0 p0_ w (fun r3 w1 => ∃ p2 : Int, r3 = .int .u32 p2 ∧
    K (.int .u32 p2) w1) KP
theorem crc_Of_of {p0_ : Sl} {w : World} {K : Value → World → Prop} {KP : List PanicEntry → World → Prop} (h : W.crc_Of p0_ w K KP) : C.crc_Of p0_ w K KP :=
  xcall (E := E) (T := mkTab [] [] [] [] [] [] []) (c := Try.f40.body.getD .skip) (rs := [.tmp 2]) ⟨⟩ mixed Try.func40 (by kernel_rfl) (by kernel_rfl) [.slice p0_.a p0_.len p0_.cap] (by kernel_rfl) (by kernel_rfl) (.inr (by kernel_rfl)) (Eq.mp (by kernel_rfl) h)

def W.skepref04_Four (v : Int) (w : World) (K : Value → World → Prop) (KP : List PanicEntry → World → Prop) : Prop :=
   (0 : Int) ≤ 8 ∧ (0 : Int) ≤ 16 ∧ (0 : Int) ≤ 24 ∧ ∀ (b1 : Nat) (w2 : World), Alloc w b1 5 [.int .u8 (IntKind.u8.wrap v), .int .u8 (IntKind.u8.wrap (shrI .u32 v 8)), .int .u8 (IntKind.u8.wrap (shrI .u32 v 16)), .int .u8 (IntKind.u8.wrap (shrI .u32 v 24))] w2 →
    K (.slice (some ⟨b1, 0, none⟩) 4 4) w2
theorem skepref04_Four_of {v : Int} {w : World} {K : Value → World → Prop} {KP : List PanicEntry → World → Prop} (h : W.skepref04_Four v w K KP) : C.skepref04_Four v w K KP :=
  xcall (E := E) (T := mkTab [] [] [] [] [] [] []) (c := Try.f41.body.getD .skip) (rs := [.tmp 2]) ⟨⟩ mixed Try.func41 (by kernel_rfl) (by kernel_rfl) [.int .u32 v] (by kernel_rfl) (by kernel_rfl) (.inr (by kernel_rfl)) (Eq.mp (by kernel_rfl) h)

def W.disk_Disk_file (d : (Option Addr)) (n : Int) (w : World) (K : Value → World → Prop) (KP : List PanicEntry → World → Prop) : Prop :=
   (cond d.isNone
    (K (.pointer none) w)
    ((cond (decide ((n : Int) < 0))
    (K (.pointer none) w)
    ((cond (decide ((n : Int) ≥ 2))
    (K (.pointer none) w)
    (withSome d fun a1 =>
    ((0 : Int) ≤ n ∧ (n : Int) < (2 : Int)) ∧ K (.pointer (some (Addr.add a1 (n.toNat * 3)))) w))))))
theorem disk_Disk_file_of {d : (Option Addr)} {n : Int} {w : World} {K : Value → World → Prop} {KP : List PanicEntry → World → Prop} (h : W.disk_Disk_file d n w K KP) : C.disk_Disk_file d n w K KP :=
  xcall (E := E) (T := mkTab [] [] [] [] [] [] []) (c := Try.f42.body.getD .skip) (rs := [.tmp 4]) ⟨⟩ mixed Try.func42 (by kernel_rfl) (by kernel_rfl) [.pointer d, .int .i64 n] (by kernel_rfl) (by kernel_rfl) (.inr (by kernel_rfl)) (Eq.mp (by kernel_rfl) h)

def W.disk_done_units (p0_ : S.disk_done) (w : World) (K : Value → World → Prop) (KP : List PanicEntry → World → Prop) : Prop :=
   ∀ (b1 : Nat) (w2 : World), Alloc w b1 78 (S.disk_done.v p0_ : Value).cells.toList w2 →
    ∃ y3 : Bool, (okVal false 1 (.bool y3) = true ∧ w2.cell? ⟨b1, 0, none⟩ = some (.bool y3)) ∧
    (cond y3
    (K (.int .i64 1) w2)
    (∃ y4 : Sl, (okVal false 1 (.slice y4.a y4.len y4.cap) = true ∧ w2.cell? ⟨b1, 2, none⟩ = some (.slice y4.a y4.len y4.cap)) ∧
    K (.int .i64 (y4.len : Int)) w2))
theorem disk_done_units_of {p0_ : S.disk_done} {w : World} {K : Value → World → Prop} {KP : List PanicEntry → World → Prop} (h : W.disk_done_units p0_ w K KP) : C.disk_done_units p0_ w K KP :=
  xcall (E := E) (T := mkTab [] [] [] [] [] [] []) (c := Try.f43.body.getD .skip) (rs := [.tmp 2]) ⟨⟩ mixed Try.func43 (by kernel_rfl) (by kernel_rfl) [S.disk_done.v p0_] (by kernel_rfl) (by kernel_rfl) (.inr (by kernel_rfl)) (Eq.mp (by kernel_rfl) h)

def W.skepref02_More (s : Int) (p1_ : Sl) (w : World) (K : Value → World → Prop) (KP : List PanicEntry → World → Prop) : Prop :=
   ∃ (I1 : Int → Int → World → Prop) (M2 : Int → Int → World → Nat),
    (∃ u3 : Int, (.int .u32 (xorI .u32 s 4294967295) : Value) = .int .u32 u3 ∧ ∃ u4 : Int, (.int .i64 0 : Value) = .int .i64 u4 ∧ I1 u3 u4 w) ∧
    ∀ e0 : Env, ∀ v5 : Int, ∀ v6 : Int, ∀ w7 : World, I1 v5 v6 w7 →
    (cond (decide ((v6 : Int) < (p1_.len : Int)))
    (((0 : Int) ≤ v6 ∧ (v6 : Int) < (p1_.len : Int)) ∧ withSome p1_.a fun a8 =>
    ∃ y9 : Int, (okVal false 1 (.int .u8 y9) = true ∧ w7.cell? (Addr.add a8 (v6.toNat * 1)) = some (.int .u8 y9)) ∧
    C.skepref02_step v5 y9 w7 (fun r12 w10 => ∃ p11 : Int, r12 = .int .u32 p11 ∧
    ∃ u13 : Int, (.int .u32 p11 : Value) = .int .u32 u13 ∧ ∃ u14 : Int, (.int .i64 (IntKind.i64.wrap (v6 + 1)) : Value) = .int .i64 u14 ∧ (I1 u13 u14 w10 ∧ M2 u13 u14 w10 < M2 v5 v6 w7)) KP)
    (K (.int .u32 (xorI .u32 v5 4294967295)) w7))
theorem skepref02_More_of {s : Int} {p1_ : Sl} {w : World} {K : Value → World → Prop} {KP : List PanicEntry → World → Prop} (h : W.skepref02_More s p1_ w K KP) : C.skepref02_More s p1_ w K KP :=
  xcall (E := E) (T := mkTab [(3, [(5, 70), (6, 3)])] [(3, [5, 6, 9, 10, 11, 12, 13, 14, 15, 16, 17, 18, 19, 20])] [] [] [] [] []) (c := Try.f44.body.getD .skip) (rs := [.tmp 4]) ⟨⟩ mixed Try.func44 (by kernel_rfl) (by kernel_rfl) [.int .u32 s, .slice p1_.a p1_.len p1_.cap] (by kernel_rfl) (by kernel_rfl) (.inr (by kernel_rfl)) (Eq.mp (by kernel_rfl) h)

def W.wal_told (p0_ : Sl) (w : World) (K : Value → World → Prop) (KP : List PanicEntry → World → Prop) : Prop :=
   ∀ w1, Drew w w1 →
    ((0 : Int) ≤ 0 ∧ (0 : Int) < (p0_.len : Int)) ∧ withSome p0_.a fun a2 =>
    ∃ y3 : Int, (okVal false 1 (.int .u8 y3) = true ∧ w1.cell? a2 = some (.int .u8 y3)) ∧
    ((0 : Int) ≤ 1 ∧ (1 : Int) < (p0_.len : Int)) ∧ withSome p0_.a fun a4 =>
    ∃ y5 : Int, (okVal false 1 (.int .u8 y5) = true ∧ w1.cell? (Addr.add a4 1) = some (.int .u8 y5)) ∧
    (0 : Int) ≤ 8 ∧ ((0 : Int) ≤ 2 ∧ (2 : Int) < (p0_.len : Int)) ∧ withSome p0_.a fun a6 =>
    ∃ y7 : Int, (okVal false 1 (.int .u8 y7) = true ∧ w1.cell? (Addr.add a6 2) = some (.int .u8 y7)) ∧
    (0 : Int) ≤ 16 ∧ ((0 : Int) ≤ 3 ∧ (3 : Int) < (p0_.len : Int)) ∧ withSome p0_.a fun a8 =>
    ∃ y9 : Int, (okVal false 1 (.int .u8 y9) = true ∧ w1.cell? (Addr.add a8 3) = some (.int .u8 y9)) ∧
    (0 : Int) ≤ 24 ∧ K (.int .u32 (orI .u32 (orI .u32 (orI .u32 (IntKind.u32.wrap y3) (shlI .u32 (IntKind.u32.wrap y5) 8)) (shlI .u32 (IntKind.u32.wrap y7) 16)) (shlI .u32 (IntKind.u32.wrap y9) 24))) w1
theorem wal_told_of {p0_ : Sl} {w : World} {K : Value → World → Prop} {KP : List PanicEntry → World → Prop} (h : W.wal_told p0_ w K KP) : C.wal_told p0_ w K KP :=
  xcall (E := E) (T := mkTab [] [] [] [] [(1, [0, 1, 2, 3, 4, 5, 6, 7, 8, 9, 10, 11, 12, 13, 14, 15, 16, 17, 18, 19, 20, 21, 22])] [(1, [0, 1, 3, 7, 0, 16, 48, 112, 240, 511, 0, 1024, 3072, 7168, 15360, 32767, 0, 65536, 196608, 458752, 983040, 2097151, 4194303])] []) (c := Try.f45.body.getD .skip) (rs := [.tmp 2]) ⟨⟩ mixed Try.func45 (by kernel_rfl) (by kernel_rfl) [.slice p0_.a p0_.len p0_.cap] (by kernel_rfl) (by kernel_rfl) (.inr (by kernel_rfl)) (Eq.mp (by kernel_rfl) h)

def W.skepref02_step (r : Int) (p1_ : Int) (w : World) (K : Value → World → Prop) (KP : List PanicEntry → World → Prop) : Prop :=
   ∃ (I1 : Int → Int → World → Prop) (M2 : Int → Int → World → Nat),
    (∃ u3 : Int, (.int .u32 r : Value) = .int .u32 u3 ∧ ∃ u4 : Int, (.int .i64 0 : Value) = .int .i64 u4 ∧ I1 u3 u4 w) ∧
    ∀ e0 : Env, ∀ v5 : Int, ∀ v6 : Int, ∀ w7 : World, I1 v5 v6 w7 →
    (cond (decide ((v6 : Int) < 8))
    ((2 : Int) ≠ 0 ∧ (0 : Int) ≤ (IntKind.u64.wrap v6) ∧ (2 : Int) ≠ 0 ∧ (0 : Int) ≤ 1 ∧ (cond (((Int.tmod v5 2) : Int) != (IntKind.u32.wrap (Int.tmod (shrI .u8 p1_ (IntKind.u64.wrap v6)) 2)))
    (∃ u8 : Int, (.int .u32 (xorI .u32 (shrI .u32 v5 1) 3988292384) : Value) = .int .u32 u8 ∧ ∃ u9 : Int, (.int .i64 (IntKind.i64.wrap (v6 + 1)) : Value) = .int .i64 u9 ∧ (I1 u8 u9 w7 ∧ M2 u8 u9 w7 < M2 v5 v6 w7))
    (∃ u10 : Int, (.int .u32 (shrI .u32 v5 1) : Value) = .int .u32 u10 ∧ ∃ u11 : Int, (.int .i64 (IntKind.i64.wrap (v6 + 1)) : Value) = .int .i64 u11 ∧ (I1 u10 u11 w7 ∧ M2 u10 u11 w7 < M2 v5 v6 w7))))
    (K (.int .u32 v5) w7))
theorem skepref02_step_of {r : Int} {p1_ : Int} {w : World} {K : Value → World → Prop} {KP : List PanicEntry → World → Prop} (h : W.skepref02_step r p1_ w K KP) : C.skepref02_step r p1_ w K KP :=
  xcall (E := E) (T := mkTab [(2, [(0, 70), (5, 3)])] [(2, [0, 5, 6, 7, 8, 9, 10, 11, 12, 13, 14, 15, 16, 17, 18, 19, 20, 21, 22, 23, 24])] [] [] [] [] []) (c := Try.f46.body.getD .skip) (rs := [.tmp 4]) ⟨⟩ mixed Try.func46 (by kernel_rfl) (by kernel_rfl) [.int .u32 r, .int .u8 p1_] (by kernel_rfl) (by kernel_rfl) (.inr (by kernel_rfl)) (Eq.mp (by kernel_rfl) h)
end Go.Proofs.Ythbablipimdaoaa
