/- Printed by vc.py: what functions of this seat come to, as predicates of typed values, each with its proof. No conditions. -/
import Derived.Test.YtjjleboohldkiaaTab
namespace Go.Proofs.Ytjjleboohldkiaa
open Go.Eng
set_option linter.unusedVariables false
set_option maxRecDepth 100000
def W.skeplaw03_DiskSure (first : Sl) (more : Sl) (a : Int) (p3_ : Int) (w : World) (K : Value → World → Prop) (KP : List PanicEntry → World → Prop) : Prop :=
   C.skeplaw03_awake  w (fun r3 w1 => ∃ p2 : Bool, r3 = .bool p2 ∧
    (cond (!p2)
    (C.skeplaw03_awake  w1 (fun r6 w4 => ∃ p5 : Bool, r6 = .bool p5 ∧
    K (.bool p5) w4) KP)
    ((cond (decide (((first.len : Int) : Int) > 4000))
    (C.skeplaw03_awake  w1 (fun r9 w7 => ∃ p8 : Bool, r9 = .bool p8 ∧
    K (.bool p8) w7) KP)
    ((cond (decide (((more.len : Int) : Int) > 4000))
    (C.skeplaw03_awake  w1 (fun r12 w10 => ∃ p11 : Bool, r12 = .bool p11 ∧
    K (.bool p11) w10) KP)
    (C.disk_New  w1 (fun r15 w13 => ∃ p14 : (Option Addr), r15 = .pointer p14 ∧
    C.skeplaw00_CopyBytes first w13 (fun r18 w16 => ∃ p17 : Sl, r18 = .slice p17.a p17.len p17.cap ∧
    C.disk_Disk_Append p14 1 p17 w16 (fun r21 w19 => ∃ p20 : Int, r21 = .int .i64 p20 ∧
    (cond ((p20 : Int) != 0)
    (K (.bool false) w19)
    (C.disk_Disk_Sync p14 1 w19 (fun r24 w22 => ∃ p23 : Int, r24 = .int .i64 p23 ∧
    (cond ((p23 : Int) != 0)
    (K (.bool false) w22)
    (C.skeplaw00_CopyBytes more w22 (fun r27 w25 => ∃ p26 : Sl, r27 = .slice p26.a p26.len p26.cap ∧
    C.disk_Disk_Append p14 1 p26 w25 (fun r30 w28 => ∃ p29 : Int, r30 = .int .i64 p29 ∧
    (cond ((p29 : Int) != 0)
    (K (.bool false) w28)
    (C.disk_Disk_Crash p14 a p3_ w28 (fun r33 w31 => ∃ p32 : (Option Addr), r33 = .pointer p32 ∧
    ∀ w34, Drew w31 w34 →
    (cond (!p32.isNone)
    (∃ s35 : ByteArray, (s35.size = first.len ∧ (0 < first.len → withSome first.a fun a => Go.Eng.World.has w34 a (bytesV s35))) ∧
    ((0 : Int) ≤ (if ((if ((more.len : Int) : Int) < p3_ then (more.len : Int) else p3_) : Int) > 0 then (if ((more.len : Int) : Int) < p3_ then (more.len : Int) else p3_) else 0) ∧ ((if ((if ((more.len : Int) : Int) < p3_ then (more.len : Int) else p3_) : Int) > 0 then (if ((more.len : Int) : Int) < p3_ then (more.len : Int) else p3_) else 0) : Int) ≤ (more.cap : Int)) ∧ ∃ s36 : ByteArray, (s36.size = (if ((if ((more.len : Int) : Int) < p3_ then (more.len : Int) else p3_) : Int) > 0 then (if ((more.len : Int) : Int) < p3_ then (more.len : Int) else p3_) else 0).toNat - 0 ∧ (0 < (if ((if ((more.len : Int) : Int) < p3_ then (more.len : Int) else p3_) : Int) > 0 then (if ((more.len : Int) : Int) < p3_ then (more.len : Int) else p3_) else 0).toNat - 0 → withSome (if more.cap = 0 then more.a else Option.map (fun x => Addr.add x (0 * 1)) more.a) fun a => Go.Eng.World.has w34 a (bytesV s36))) ∧
    s35.size + s36.size ≤ 9223372036854775807 ∧ C.disk_Disk_Read p32 1 w34 (fun r39 w37 => ∃ p38 : Sl, r39 = .slice p38.a p38.len p38.cap ∧
    (0 < (if ((if ((more.len : Int) : Int) < p3_ then (more.len : Int) else p3_) : Int) > 0 then (if ((more.len : Int) : Int) < p3_ then (more.len : Int) else p3_) else 0).toNat - 0 → withSome (if more.cap = 0 then more.a else Option.map (fun x => Addr.add x (0 * 1)) more.a) fun a => Go.Eng.World.has w37 a (bytesV s36)) ∧ (0 < first.len → withSome first.a fun a => Go.Eng.World.has w37 a (bytesV s35)) ∧ ∃ s40 : ByteArray, (s40.size = p38.len ∧ (0 < p38.len → withSome p38.a fun a => Go.Eng.World.has w37 a (bytesV s40))) ∧
    (cond (strEq s40 (s35 ++ s36))
    (C.disk_Disk_Pending p32 1 w37 (fun r43 w41 => ∃ p42 : Int, r43 = .int .i64 p42 ∧
    (cond ((p42 : Int) == 0)
    (C.disk_Disk_Read p32 0 w41 (fun r46 w44 => ∃ p45 : Sl, r46 = .slice p45.a p45.len p45.cap ∧
    (cond (((p45.len : Int) : Int) == 0)
    (∃ s47 : ByteArray, (s47.size = first.len ∧ (0 < first.len → withSome first.a fun a => Go.Eng.World.has w44 a (bytesV s47))) ∧
    ∃ s48 : ByteArray, (s48.size = more.len ∧ (0 < more.len → withSome more.a fun a => Go.Eng.World.has w44 a (bytesV s48))) ∧
    s47.size + s48.size ≤ 9223372036854775807 ∧ C.disk_Disk_Read p14 1 w44 (fun r51 w49 => ∃ p50 : Sl, r51 = .slice p50.a p50.len p50.cap ∧
    (0 < more.len → withSome more.a fun a => Go.Eng.World.has w49 a (bytesV s48)) ∧ (0 < first.len → withSome first.a fun a => Go.Eng.World.has w49 a (bytesV s47)) ∧ ∃ s52 : ByteArray, (s52.size = p50.len ∧ (0 < p50.len → withSome p50.a fun a => Go.Eng.World.has w49 a (bytesV s52))) ∧
    (cond (strEq s52 (s47 ++ s48))
    (C.disk_Disk_Pending p14 1 w49 (fun r55 w53 => ∃ p54 : Int, r55 = .int .i64 p54 ∧
    K (.bool ((p54 : Int) == (more.len : Int))) w53) KP)
    (K (.bool false) w49))) KP)
    (K (.bool false) w44))) KP)
    (K (.bool false) w41))) KP)
    (K (.bool false) w37))) KP)
    (K (.bool false) w34))) KP))) KP) KP))) KP))) KP) KP) KP))))))) KP
theorem skeplaw03_DiskSure_of {first : Sl} {more : Sl} {a : Int} {p3_ : Int} {w : World} {K : Value → World → Prop} {KP : List PanicEntry → World → Prop} (h : W.skeplaw03_DiskSure first more a p3_ w K KP) : C.skeplaw03_DiskSure first more a p3_ w K KP :=
  xcall (E := E) (T := mkTab [] [] [] [] [(8, [0, 1, 2, 3, 6, 7, 8, 9, 10, 11, 12, 4, 5, 13, 14, 15, 16, 17, 18, 19, 20, 21, 22, 23, 24, 25, 26, 27, 30, 31, 32, 33, 34, 28, 29, 35, 36, 37, 38, 40, 41, 39, 42, 43, 44])] [(8, [0, 1, 3, 7, 15, 31, 7, 71, 7, 7, 775, 1799, 4039, 8191, 16383, 32767, 65535, 131071, 262143, 524287, 1048575, 2097151, 4194303, 8388607, 16777215, 33554431, 67108863, 134217727, 268435455, 536870911, 134217727, 1207959551, 134217727, 4429185023, 16240345087, 34359738367, 68719476735, 137438953471, 274877906943, 549755813887, 274877906943, 1374389534719, 4398046511103, 8796093022207, 17592186044415])] [] []) (c := Try.f3.body.getD .skip) (rs := [.tmp 8]) ⟨⟩ mixed Try.func3 (by kernel_rfl) (by kernel_rfl) [.slice first.a first.len first.cap, .slice more.a more.len more.cap, .int .i64 a, .int .i64 p3_] (by kernel_rfl) (by kernel_rfl) (.inr (by kernel_rfl)) (Eq.mp (by kernel_rfl) h)

def W.skeplaw03_DiskPlays (script : Sl) (w : World) (K : Value → World → Prop) (KP : List PanicEntry → World → Prop) : Prop :=
   C.skeplaw03_awake  w (fun r3 w1 => ∃ p2 : Bool, r3 = .bool p2 ∧
    (cond (!p2)
    (K (.bool false) w1)
    (C.disk_New  w1 (fun r6 w4 => ∃ p5 : (Option Addr), r6 = .pointer p5 ∧
    C.skepref03_New  w4 (fun r9 w7 => ∃ p8 : (Option Addr), r9 = .pointer p8 ∧
    ∃ (I10 : (Option Addr) → (Option Addr) → Int → World → Prop) (M11 : (Option Addr) → (Option Addr) → Int → World → Nat),
    (∃ u12 : (Option Addr), (.pointer p5 : Value) = .pointer u12 ∧ ∃ u13 : (Option Addr), (.pointer p8 : Value) = .pointer u13 ∧ ∃ u14 : Int, (.int .i64 0 : Value) = .int .i64 u14 ∧ I10 u12 u13 u14 w7) ∧
    ∀ e0 : Env, ∀ v15 : (Option Addr), ∀ v16 : (Option Addr), ∀ v17 : Int, ∀ w18 : World, I10 v15 v16 v17 w18 →
    (cond (decide ((v17 : Int) < (script.len : Int)))
    ((cond (decide ((v17 : Int) < 60))
    (((0 : Int) ≤ v17 ∧ (v17 : Int) < (script.len : Int)) ∧ withSome script.a fun a19 =>
    ∃ y20 : Sl, (okVal false 1 (.slice y20.a y20.len y20.cap) = true ∧ w18.cell? (Addr.add (Addr.add a19 (v17.toNat * 5)) 4) = some (.slice y20.a y20.len y20.cap)) ∧
    (cond (decide (((y20.len : Int) : Int) > 2000))
    (K (.bool true) w18)
    (((0 : Int) ≤ v17 ∧ (v17 : Int) < (script.len : Int)) ∧ withSome script.a fun a21 =>
    ∃ y22 : S.skeplaw03_Op, (okVal true 5 (S.skeplaw03_Op.v y22) = true ∧ rd w18 (Addr.add a21 (v17.toNat * 5)) (S.skeplaw03_Op.v y22)) ∧
    C.skeplaw03_do v15 v16 y22 w18 (fun r25 w23 => ∃ p24 : ((Option Addr) × (Option Addr) × Bool), r25 = .tuple #[.pointer p24.1, .pointer p24.2.1, .bool p24.2.2] ∧
    (cond (!p24.2.2)
    (K (.bool false) w23)
    ((cond p24.1.isNone
    (K (.bool false) w23)
    (C.skeplaw03_same p24.1 p24.2.1 w23 (fun r28 w26 => ∃ p27 : Bool, r28 = .bool p27 ∧
    (cond (!p27)
    (K (.bool false) w26)
    (∃ u29 : (Option Addr), (.pointer p24.1 : Value) = .pointer u29 ∧ ∃ u30 : (Option Addr), (.pointer p24.2.1 : Value) = .pointer u30 ∧ ∃ u31 : Int, (.int .i64 (IntKind.i64.wrap (v17 + 1)) : Value) = .int .i64 u31 ∧ (I10 u29 u30 u31 w26 ∧ M11 u29 u30 u31 w26 < M11 v15 v16 v17 w18)))) KP))))) KP)))
    (K (.bool true) w18)))
    (K (.bool true) w18))) KP) KP))) KP
theorem skeplaw03_DiskPlays_of {script : Sl} {w : World} {K : Value → World → Prop} {KP : List PanicEntry → World → Prop} (h : W.skeplaw03_DiskPlays script w K KP) : C.skeplaw03_DiskPlays script w K KP :=
  xcall (E := E) (T := mkTab [(6, [(3, 24), (4, 35), (5, 3)])] [(6, [2, 3, 4, 5, 6, 7, 8, 13, 14, 15, 16, 17, 18, 19, 20, 21, 22, 23, 24, 25, 26, 27, 28, 29, 30, 31, 32, 33, 34, 35, 36, 37, 38, 39, 40, 41, 42, 43, 44, 45, 46, 47, 48, 49, 50, 51, 52, 53, 54])] [] [] [] [] [] []) (c := Try.f4.body.getD .skip) (rs := [.tmp 2]) ⟨⟩ mixed Try.func4 (by kernel_rfl) (by kernel_rfl) [.slice script.a script.len script.cap] (by kernel_rfl) (by kernel_rfl) (.inr (by kernel_rfl)) (Eq.mp (by kernel_rfl) h)

def W.skeplaw03_DiskApart (script : Sl) (more : Sl) (w : World) (K : Value → World → Prop) (KP : List PanicEntry → World → Prop) : Prop :=
   C.skeplaw03_awake  w (fun r3 w1 => ∃ p2 : Bool, r3 = .bool p2 ∧
    (cond (!p2)
    (C.skeplaw03_awake  w1 (fun r6 w4 => ∃ p5 : Bool, r6 = .bool p5 ∧
    K (.bool p5) w4) KP)
    ((cond (decide (((more.len : Int) : Int) > 2000))
    (C.skeplaw03_awake  w1 (fun r9 w7 => ∃ p8 : Bool, r9 = .bool p8 ∧
    K (.bool p8) w7) KP)
    (C.disk_New  w1 (fun r12 w10 => ∃ p11 : (Option Addr), r12 = .pointer p11 ∧
    ∃ J13 : World → Prop,
    (∃ (I14 : Int → World → Prop) (M15 : Int → World → Nat),
    (∃ u16 : Int, (.int .i64 0 : Value) = .int .i64 u16 ∧ I14 u16 w10) ∧
    ∀ e0 : Env, ∀ v17 : Int, ∀ w18 : World, I14 v17 w18 →
    (cond (decide ((v17 : Int) < (script.len : Int)))
    ((cond (decide ((v17 : Int) < 30))
    (((0 : Int) ≤ v17 ∧ (v17 : Int) < (script.len : Int)) ∧ withSome script.a fun a19 =>
    ∃ y20 : Sl, (okVal false 1 (.slice y20.a y20.len y20.cap) = true ∧ w18.cell? (Addr.add (Addr.add a19 (v17.toNat * 5)) 4) = some (.slice y20.a y20.len y20.cap)) ∧
    (cond (decide (((y20.len : Int) : Int) > 2000))
    (K (.bool true) w18)
    (((0 : Int) ≤ v17 ∧ (v17 : Int) < (script.len : Int)) ∧ withSome script.a fun a21 =>
    ∃ y22 : Int, (okVal false 1 (.int .i64 y22) = true ∧ w18.cell? (Addr.add (Addr.add a21 (v17.toNat * 5)) 1) = some (.int .i64 y22)) ∧
    C.skeplaw00_Place y22 2 w18 (fun r25 w23 => ∃ p24 : Int, r25 = .int .i64 p24 ∧
    ((0 : Int) ≤ v17 ∧ (v17 : Int) < (script.len : Int)) ∧ withSome script.a fun a26 =>
    ∃ y27 : Int, (okVal false 1 (.int .i64 y27) = true ∧ w23.cell? (Addr.add a26 (v17.toNat * 5)) = some (.int .i64 y27)) ∧
    C.skeplaw00_Place y27 3 w23 (fun r30 w28 => ∃ p29 : Int, r30 = .int .i64 p29 ∧
    (cond ((p29 : Int) == 0)
    (((0 : Int) ≤ v17 ∧ (v17 : Int) < (script.len : Int)) ∧ withSome script.a fun a31 =>
    ∃ y32 : Sl, (okVal false 1 (.slice y32.a y32.len y32.cap) = true ∧ w28.cell? (Addr.add (Addr.add a31 (v17.toNat * 5)) 4) = some (.slice y32.a y32.len y32.cap)) ∧
    C.skeplaw00_CopyBytes y32 w28 (fun r35 w33 => ∃ p34 : Sl, r35 = .slice p34.a p34.len p34.cap ∧
    C.disk_Disk_Append p11 p24 p34 w33 (fun r38 w36 => ∃ p37 : Int, r38 = .int .i64 p37 ∧
    ∃ u39 : Int, (.int .i64 (IntKind.i64.wrap (v17 + 1)) : Value) = .int .i64 u39 ∧ (I14 u39 w36 ∧ M15 u39 w36 < M15 v17 w18)) KP) KP)
    ((cond ((p29 : Int) == 1)
    (∀ w40, Drew w28 w40 →
    ((0 : Int) ≤ v17 ∧ (v17 : Int) < (script.len : Int)) ∧ withSome script.a fun a41 =>
    ∃ y42 : Int, (okVal false 1 (.int .i64 y42) = true ∧ w40.cell? (Addr.add (Addr.add a41 (v17.toNat * 5)) 2) = some (.int .i64 y42)) ∧
    C.disk_Disk_Size p11 p24 w40 (fun r45 w43 => ∃ p44 : Int, r45 = .int .i64 p44 ∧
    (w43.cell? (Addr.add (Addr.add a41 (v17.toNat * 5)) 2) = some (.int .i64 y42)) ∧ C.skeplaw00_Place y42 (IntKind.i64.wrap (p44 + 1)) w43 (fun r48 w46 => ∃ p47 : Int, r48 = .int .i64 p47 ∧
    C.disk_Disk_Cut p11 p24 p47 w46 (fun r51 w49 => ∃ p50 : Int, r51 = .int .i64 p50 ∧
    ∃ u52 : Int, (.int .i64 (IntKind.i64.wrap (v17 + 1)) : Value) = .int .i64 u52 ∧ (I14 u52 w49 ∧ M15 u52 w49 < M15 v17 w18)) KP) KP) KP)
    (C.disk_Disk_Sync p11 p24 w28 (fun r55 w53 => ∃ p54 : Int, r55 = .int .i64 p54 ∧
    ∃ u56 : Int, (.int .i64 (IntKind.i64.wrap (v17 + 1)) : Value) = .int .i64 u56 ∧ (I14 u56 w53 ∧ M15 u56 w53 < M15 v17 w18)) KP))))) KP) KP)))
    (J13 w18)))
    (J13 w18))) ∧
    ∀ e0 : Env, ∀ w57 : World, J13 w57 →
    ∃ J58 : (Option Addr) → World → Prop,
    (∀ w59, Drew w57 w59 →
    (C.disk_Disk_Read p11 0 w59 (fun r62 w60 => ∃ p61 : Sl, r62 = .slice p61.a p61.len p61.cap ∧
    ∃ s63 : ByteArray, (s63.size = p61.len ∧ (0 < p61.len → withSome p61.a fun a => Go.Eng.World.has w60 a (bytesV s63))) ∧
    (C.disk_Disk_Read p11 1 w60 (fun r66 w64 => ∃ p65 : Sl, r66 = .slice p65.a p65.len p65.cap ∧
    (0 < p61.len → withSome p61.a fun a => Go.Eng.World.has w64 a (bytesV s63)) ∧ ∃ s67 : ByteArray, (s67.size = p65.len ∧ (0 < p65.len → withSome p65.a fun a => Go.Eng.World.has w64 a (bytesV s67))) ∧
    ∀ (b68 : Nat) (w69 : World), Alloc w64 b68 45 [.string ByteArray.empty, .string ByteArray.empty] w69 →
    (0 < p65.len → withSome p65.a fun a => Go.Eng.World.has w69 a (bytesV s67)) ∧ (0 < p61.len → withSome p61.a fun a => Go.Eng.World.has w69 a (bytesV s63)) ∧ (okVal true 2 (.agg #[.string s63, .string s67]) = true ∧ canPut w69 ⟨b68, 0, none⟩ (.agg #[.string s63, .string s67])) ∧ ∀ w70 : World, w70 = putAt w69 ⟨b68, 0, none⟩ (.agg #[.string s63, .string s67]) →
    ∃ u71 : (Option Addr), (.pointer (some ⟨b68, 0, none⟩) : Value) = .pointer u71 ∧ J58 u71 w70) KP) ∧
    (∀ (b72 : Nat) (w73 : World), Alloc w60 b72 45 [.string ByteArray.empty, .string ByteArray.empty] w73 →
    (0 < p61.len → withSome p61.a fun a => Go.Eng.World.has w73 a (bytesV s63)) ∧ C.disk_Disk_Read p11 1 w73 (fun r76 w74 => ∃ p75 : Sl, r76 = .slice p75.a p75.len p75.cap ∧
    (0 < p61.len → withSome p61.a fun a => Go.Eng.World.has w74 a (bytesV s63)) ∧ ∃ s77 : ByteArray, (s77.size = p75.len ∧ (0 < p75.len → withSome p75.a fun a => Go.Eng.World.has w74 a (bytesV s77))) ∧
    (okVal true 2 (.agg #[.string s63, .string s77]) = true ∧ canPut w74 ⟨b72, 0, none⟩ (.agg #[.string s63, .string s77])) ∧ ∀ w78 : World, w78 = putAt w74 ⟨b72, 0, none⟩ (.agg #[.string s63, .string s77]) →
    ∃ u79 : (Option Addr), (.pointer (some ⟨b72, 0, none⟩) : Value) = .pointer u79 ∧ J58 u79 w78) KP)) KP) ∧
    (∀ (b80 : Nat) (w81 : World), Alloc w59 b80 45 [.string ByteArray.empty, .string ByteArray.empty] w81 →
    C.disk_Disk_Read p11 0 w81 (fun r84 w82 => ∃ p83 : Sl, r84 = .slice p83.a p83.len p83.cap ∧
    ∃ s85 : ByteArray, (s85.size = p83.len ∧ (0 < p83.len → withSome p83.a fun a => Go.Eng.World.has w82 a (bytesV s85))) ∧
    C.disk_Disk_Read p11 1 w82 (fun r88 w86 => ∃ p87 : Sl, r88 = .slice p87.a p87.len p87.cap ∧
    (0 < p83.len → withSome p83.a fun a => Go.Eng.World.has w86 a (bytesV s85)) ∧ ∃ s89 : ByteArray, (s89.size = p87.len ∧ (0 < p87.len → withSome p87.a fun a => Go.Eng.World.has w86 a (bytesV s89))) ∧
    (okVal true 2 (.agg #[.string s85, .string s89]) = true ∧ canPut w86 ⟨b80, 0, none⟩ (.agg #[.string s85, .string s89])) ∧ ∀ w90 : World, w90 = putAt w86 ⟨b80, 0, none⟩ (.agg #[.string s85, .string s89]) →
    ∃ u91 : (Option Addr), (.pointer (some ⟨b80, 0, none⟩) : Value) = .pointer u91 ∧ J58 u91 w90) KP) KP)) ∧
    ∀ e0 : Env, ∀ v92 : (Option Addr), ∀ w93 : World, J58 v92 w93 →
    C.disk_Disk_Crash p11 16777216 16777216 w93 (fun r96 w94 => ∃ p95 : (Option Addr), r96 = .pointer p95 ∧
    ∀ w97, Drew w94 w97 →
    (cond p95.isNone
    (K (.bool false) w97)
    (((0 : Int) ≤ 0 ∧ (0 : Int) < (2 : Int)) ∧ withSome v92 fun a98 =>
    ∃ y99 : ByteArray, (okVal false 1 (.string y99) = true ∧ w97.cell? a98 = some (.string y99)) ∧
    C.disk_Disk_Read p95 0 w97 (fun r102 w100 => ∃ p101 : Sl, r102 = .slice p101.a p101.len p101.cap ∧
    (w100.cell? a98 = some (.string y99)) ∧ ∃ s103 : ByteArray, (s103.size = p101.len ∧ (0 < p101.len → withSome p101.a fun a => Go.Eng.World.has w100 a (bytesV s103))) ∧
    (cond (!(strEq s103 y99))
    (K (.bool false) w100)
    (((0 : Int) ≤ 1 ∧ (1 : Int) < (2 : Int)) ∧ withSome v92 fun a104 =>
    ∃ y105 : ByteArray, (okVal false 1 (.string y105) = true ∧ w100.cell? (Addr.add a104 1) = some (.string y105)) ∧
    C.disk_Disk_Read p95 1 w100 (fun r108 w106 => ∃ p107 : Sl, r108 = .slice p107.a p107.len p107.cap ∧
    (w106.cell? (Addr.add a104 1) = some (.string y105)) ∧ ∃ s109 : ByteArray, (s109.size = p107.len ∧ (0 < p107.len → withSome p107.a fun a => Go.Eng.World.has w106 a (bytesV s109))) ∧
    (cond (!(strEq s109 y105))
    (K (.bool false) w106)
    (C.skeplaw00_CopyBytes more w106 (fun r112 w110 => ∃ p111 : Sl, r112 = .slice p111.a p111.len p111.cap ∧
    C.disk_Disk_Append p95 0 p111 w110 (fun r115 w113 => ∃ p114 : Int, r115 = .int .i64 p114 ∧
    C.disk_Disk_Cut p95 1 0 w113 (fun r118 w116 => ∃ p117 : Int, r118 = .int .i64 p117 ∧
    C.disk_Disk_Read p11 0 w116 (fun r121 w119 => ∃ p120 : Sl, r121 = .slice p120.a p120.len p120.cap ∧
    ∃ (I122 : Int → World → Prop) (M123 : Int → World → Nat),
    (∃ u124 : Int, (.int .i64 0 : Value) = .int .i64 u124 ∧ I122 u124 w119) ∧
    ∀ e0 : Env, ∀ v125 : Int, ∀ w126 : World, I122 v125 w126 →
    (cond (decide ((v125 : Int) < (p120.len : Int)))
    (((0 : Int) ≤ v125 ∧ (v125 : Int) < (p120.len : Int)) ∧ withSome p120.a fun a127 =>
    ∃ y128 : Int, (okVal false 1 (.int .u8 y128) = true ∧ w126.cell? (Addr.add a127 (v125.toNat * 1)) = some (.int .u8 y128)) ∧
    ((0 : Int) ≤ v125 ∧ (v125 : Int) < (p120.len : Int)) ∧ withSome p120.a fun a129 =>
    (okVal false 1 (.int .u8 (xorI .u8 y128 255)) = true ∧ canPut w126 (Addr.add a129 (v125.toNat * 1)) (.int .u8 (xorI .u8 y128 255))) ∧ ∀ w130 : World, w130 = putAt w126 (Addr.add a129 (v125.toNat * 1)) (.int .u8 (xorI .u8 y128 255)) →
    ∃ u131 : Int, (.int .i64 (IntKind.i64.wrap (v125 + 1)) : Value) = .int .i64 u131 ∧ (I122 u131 w130 ∧ M123 u131 w130 < M123 v125 w126))
    (∀ (b132 : Nat) (w133 : World), Alloc w126 b132 5 [.int .u8 7] w133 →
    ∃ (q134 : Option Addr) (n135 c136 : Nat) (w137 : World), (Builtin.append_ #[22, 22] 22 #[.slice p120.a p120.len p120.cap, .slice (some ⟨b132, 0, none⟩) 1 1]).run Try.prog w133 = .ok (.slice q134 n135 c136) w137 ∧
    ∀ w138, Drew w137 w138 →
    (cond (decide (((n135 : Int) : Int) > 0))
    (((0 : Int) ≤ 0 ∧ (0 : Int) < (2 : Int)) ∧ withSome v92 fun a139 =>
    ∃ y140 : ByteArray, (okVal false 1 (.string y140) = true ∧ w138.cell? a139 = some (.string y140)) ∧
    C.disk_Disk_Read p11 0 w138 (fun r143 w141 => ∃ p142 : Sl, r143 = .slice p142.a p142.len p142.cap ∧
    (w141.cell? a139 = some (.string y140)) ∧ ∃ s144 : ByteArray, (s144.size = p142.len ∧ (0 < p142.len → withSome p142.a fun a => Go.Eng.World.has w141 a (bytesV s144))) ∧
    (cond (strEq s144 y140)
    (((0 : Int) ≤ 1 ∧ (1 : Int) < (2 : Int)) ∧ withSome v92 fun a145 =>
    ∃ y146 : ByteArray, (okVal false 1 (.string y146) = true ∧ w141.cell? (Addr.add a145 1) = some (.string y146)) ∧
    C.disk_Disk_Read p11 1 w141 (fun r149 w147 => ∃ p148 : Sl, r149 = .slice p148.a p148.len p148.cap ∧
    (w147.cell? (Addr.add a145 1) = some (.string y146)) ∧ ∃ s150 : ByteArray, (s150.size = p148.len ∧ (0 < p148.len → withSome p148.a fun a => Go.Eng.World.has w147 a (bytesV s150))) ∧
    (cond (strEq s150 y146)
    (((0 : Int) ≤ 0 ∧ (0 : Int) < (2 : Int)) ∧ withSome v92 fun a151 =>
    ∃ y152 : ByteArray, (okVal false 1 (.string y152) = true ∧ w147.cell? a151 = some (.string y152)) ∧
    ∃ s153 : ByteArray, (s153.size = more.len ∧ (0 < more.len → withSome more.a fun a => Go.Eng.World.has w147 a (bytesV s153))) ∧
    y152.size + s153.size ≤ 9223372036854775807 ∧ C.disk_Disk_Read p95 0 w147 (fun r156 w154 => ∃ p155 : Sl, r156 = .slice p155.a p155.len p155.cap ∧
    (0 < more.len → withSome more.a fun a => Go.Eng.World.has w154 a (bytesV s153)) ∧ (w154.cell? a151 = some (.string y152)) ∧ ∃ s157 : ByteArray, (s157.size = p155.len ∧ (0 < p155.len → withSome p155.a fun a => Go.Eng.World.has w154 a (bytesV s157))) ∧
    (cond (strEq s157 (y152 ++ s153))
    (C.disk_Disk_Size p95 1 w154 (fun r160 w158 => ∃ p159 : Int, r160 = .int .i64 p159 ∧
    K (.bool ((p159 : Int) == 0)) w158) KP)
    (K (.bool false) w154))) KP)
    (K (.bool false) w147))) KP)
    (K (.bool false) w141))) KP)
    (K (.bool false) w138))))) KP) KP) KP) KP))) KP))) KP))) KP) KP))))) KP
theorem skeplaw03_DiskApart_of {script : Sl} {more : Sl} {w : World} {K : Value → World → Prop} {KP : List PanicEntry → World → Prop} (h : W.skeplaw03_DiskApart script more w K KP) : C.skeplaw03_DiskApart script more w K KP :=
  xcall (E := E) (T := mkTab [(5, [(6, 3)]), (24, [(11, 3)])] [(5, [4, 6, 7, 21, 22, 23, 24, 25, 26, 27, 28, 29, 30, 31, 32, 33, 34, 35, 36, 37, 38, 39, 40, 41, 42, 43, 44, 45, 46, 47, 48, 49, 50, 51, 52, 53, 54, 55, 56, 57, 58, 59, 60, 61, 62, 63, 64, 65, 66, 67, 68, 69, 70, 71, 72, 73, 74, 75, 76, 77, 78]), (24, [11, 114, 115, 116, 117, 118, 119, 120, 121, 122, 123, 124, 125, 126, 127])] [(17, [(8, 1000001)]), (16, [])] [(17, [8, 79, 80, 81, 82, 83, 84, 85]), (16, [4, 6, 7, 21, 22, 23, 24, 25, 26, 27, 28, 29, 30, 31, 32, 33, 34, 35, 36, 37, 38, 39, 40, 41, 42, 43, 44, 45, 46, 47, 48, 49, 50, 51, 52, 53, 54, 55, 56, 57, 58, 59, 60, 61, 62, 63, 64, 65, 66, 67, 68, 69, 70, 71, 72, 73, 74, 75, 76, 77, 78])] [(15, [0, 1, 2, 3, 4, 5, 6, 7, 8, 9, 10, 11, 12]), (18, [0, 1, 2, 3, 6, 7, 4, 5, 8, 9, 10, 11, 14, 15, 12, 13, 16, 17]), (28, [0, 1, 2, 3, 4, 7, 8, 5, 6, 9, 10, 11, 12, 15, 16, 13, 14, 17, 18, 19, 20, 23, 24, 25, 26, 27, 21, 22, 28, 29, 30, 31, 32, 33, 34, 35])] [(15, [0, 0, 0, 0, 12, 28, 60, 0, 0, 384, 896, 2044, 4095]), (16, [0, 1, 3, 0, 11, 27, 63, 0, 255]), (18, [0, 1, 3, 7, 15, 31, 7, 71, 255, 511, 1023, 2047, 4095, 8191, 2047, 18431, 65535, 131071]), (28, [0, 1, 3, 7, 15, 31, 63, 15, 143, 511, 1023, 2047, 4095, 8191, 16383, 4095, 36863, 131071, 262143, 524287, 1048575, 2097151, 4194303, 1048575, 9437183, 1048575, 34603007, 126877695, 268435455, 536870911, 1073741823, 2147483647, 4294967295, 8589934591, 17179869183, 34359738367])] [] [(16, some (.quiet 0 (.quiet 3 (.fork 1 (.quiet 2 (.fork 4 (.quiet 5 (.quiet 6 (.loud 7 (.loud 8 .done)))) (.loud 7 (.loud 4 (.quiet 5 (.quiet 6 (.loud 8 .done))))))) (.loud 7 (.loud 1 (.quiet 2 (.loud 4 (.quiet 5 (.quiet 6 (.loud 8 .done)))))))))))]) (c := Try.f5.body.getD .skip) (rs := [.tmp 4]) ⟨⟩ mixed Try.func5 (by kernel_rfl) (by kernel_rfl) [.slice script.a script.len script.cap, .slice more.a more.len more.cap] (by kernel_rfl) (by kernel_rfl) (.inr (by kernel_rfl)) (Eq.mp (by kernel_rfl) h)

def W.skeplaw03_DiskFull (w : World) (K : Value → World → Prop) (KP : List PanicEntry → World → Prop) : Prop :=
   C.skeplaw03_awake  w (fun r3 w1 => ∃ p2 : Bool, r3 = .bool p2 ∧
    (cond (!p2)
    (K (.bool false) w1)
    (C.disk_New  w1 (fun r6 w4 => ∃ p5 : (Option Addr), r6 = .pointer p5 ∧
    ((0 : Int) ≤ 16777216 ∧ (16777216 : Int) ≤ 16777216 ∧ (1 : Int) * 16777216 ≤ 281474976710656 ∧ (16777216 : Int) ≤ 9223372036854775807) ∧ ∀ (b7 : Nat) (w8 : World), Alloc w4 b7 5 (madeCells #[.int .u8 0] (16777216 * 1)).toList w8 →
    C.disk_Disk_Append p5 0 (⟨(some ⟨b7, 0, none⟩), 16777216, 16777216⟩) w8 (fun r11 w9 => ∃ p10 : Int, r11 = .int .i64 p10 ∧
    (cond ((p10 : Int) != 0)
    (K (.bool false) w9)
    (∀ (b12 : Nat) (w13 : World), Alloc w9 b12 5 [.int .u8 1] w13 →
    C.disk_Disk_Append p5 0 (⟨(some ⟨b12, 0, none⟩), 1, 1⟩) w13 (fun r16 w14 => ∃ p15 : Int, r16 = .int .i64 p15 ∧
    (cond ((p15 : Int) != 2)
    (K (.bool false) w14)
    (C.disk_Disk_Append p5 0 (⟨none, 0, 0⟩) w14 (fun r19 w17 => ∃ p18 : Int, r19 = .int .i64 p18 ∧
    (cond ((p18 : Int) != 0)
    (K (.bool false) w17)
    (∀ (b20 : Nat) (w21 : World), Alloc w17 b20 5 [.int .u8 1] w21 →
    C.disk_Disk_Append p5 1 (⟨(some ⟨b20, 0, none⟩), 1, 1⟩) w21 (fun r24 w22 => ∃ p23 : Int, r24 = .int .i64 p23 ∧
    (cond ((p23 : Int) != 0)
    (K (.bool false) w22)
    (C.disk_Disk_Size p5 0 w22 (fun r27 w25 => ∃ p26 : Int, r27 = .int .i64 p26 ∧
    (cond ((p26 : Int) == 16777216)
    (C.disk_Disk_Cut p5 0 16777215 w25 (fun r30 w28 => ∃ p29 : Int, r30 = .int .i64 p29 ∧
    (cond ((p29 : Int) == 0)
    (∀ (b31 : Nat) (w32 : World), Alloc w28 b31 5 [.int .u8 1] w32 →
    C.disk_Disk_Append p5 0 (⟨(some ⟨b31, 0, none⟩), 1, 1⟩) w32 (fun r35 w33 => ∃ p34 : Int, r35 = .int .i64 p34 ∧
    (cond ((p34 : Int) == 0)
    (∀ (b36 : Nat) (w37 : World), Alloc w33 b36 5 [.int .u8 1] w37 →
    C.disk_Disk_Append p5 0 (⟨(some ⟨b36, 0, none⟩), 1, 1⟩) w37 (fun r40 w38 => ∃ p39 : Int, r40 = .int .i64 p39 ∧
    K (.bool ((p39 : Int) == 2)) w38) KP)
    (K (.bool false) w33))) KP)
    (K (.bool false) w28))) KP)
    (K (.bool false) w25))) KP))) KP))) KP))) KP))) KP) KP))) KP
theorem skeplaw03_DiskFull_of {w : World} {K : Value → World → Prop} {KP : List PanicEntry → World → Prop} (h : W.skeplaw03_DiskFull  w K KP) : C.skeplaw03_DiskFull  w K KP :=
  xcall (E := E) (T := mkTab [] [] [] [] [] [] [] []) (c := Try.f6.body.getD .skip) (rs := [.tmp 0]) ⟨⟩ mixed Try.func6 (by kernel_rfl) (by kernel_rfl) [] (by kernel_rfl) (by kernel_rfl) (.inr (by kernel_rfl)) (Eq.mp (by kernel_rfl) h)

def W.skeplaw03_DiskUnits (script : Sl) (w : World) (K : Value → World → Prop) (KP : List PanicEntry → World → Prop) : Prop :=
   C.skeplaw03_awake  w (fun r3 w1 => ∃ p2 : Bool, r3 = .bool p2 ∧
    (cond (!p2)
    (K (.bool false) w1)
    (C.disk_New  w1 (fun r6 w4 => ∃ p5 : (Option Addr), r6 = .pointer p5 ∧
    ∃ J7 : World → Prop,
    (∃ (I8 : Int → World → Prop) (M9 : Int → World → Nat),
    (∃ u10 : Int, (.int .i64 0 : Value) = .int .i64 u10 ∧ I8 u10 w4) ∧
    ∀ e0 : Env, ∀ v11 : Int, ∀ w12 : World, I8 v11 w12 →
    (cond (decide ((v11 : Int) < (script.len : Int)))
    ((cond (decide ((v11 : Int) < 20))
    (((0 : Int) ≤ v11 ∧ (v11 : Int) < (script.len : Int)) ∧ withSome script.a fun a13 =>
    ∃ y14 : S.skeplaw03_Op, (okVal true 5 (S.skeplaw03_Op.v y14) = true ∧ rd w12 (Addr.add a13 (v11.toNat * 5)) (S.skeplaw03_Op.v y14)) ∧
    ∀ (b15 : Nat) (w16 : World), Alloc w12 b15 38 [.int .i64 0, .int .i64 0, .int .i64 0, .int .i64 0, .slice none 0 0] w16 →
    (okVal true 5 (S.skeplaw03_Op.v y14) = true ∧ canPut w16 ⟨b15, 0, none⟩ (S.skeplaw03_Op.v y14)) ∧ ∀ w17 : World, w17 = putAt w16 ⟨b15, 0, none⟩ (S.skeplaw03_Op.v y14) →
    ∃ y18 : Sl, (okVal false 1 (.slice y18.a y18.len y18.cap) = true ∧ w17.cell? ⟨b15, 4, none⟩ = some (.slice y18.a y18.len y18.cap)) ∧
    (cond (decide (((y18.len : Int) : Int) > 40))
    (K (.bool true) w17)
    (∃ y19 : Int, (okVal false 1 (.int .i64 y19) = true ∧ w17.cell? ⟨b15, 0, none⟩ = some (.int .i64 y19)) ∧
    C.skeplaw00_Place y19 5 w17 (fun r22 w20 => ∃ p21 : Int, r22 = .int .i64 p21 ∧
    (cond ((p21 : Int) == 3)
    (∀ w23, Drew w20 w23 →
    ∃ y24 : Int, (okVal false 1 (.int .i64 y24) = true ∧ w23.cell? ⟨b15, 2, none⟩ = some (.int .i64 y24)) ∧
    C.disk_Disk_Size p5 0 w23 (fun r27 w25 => ∃ p26 : Int, r27 = .int .i64 p26 ∧
    (w25.cell? ⟨b15, 2, none⟩ = some (.int .i64 y24)) ∧ C.skeplaw00_Place y24 (IntKind.i64.wrap (p26 + 1)) w25 (fun r30 w28 => ∃ p29 : Int, r30 = .int .i64 p29 ∧
    C.disk_Disk_Cut p5 0 p29 w28 (fun r33 w31 => ∃ p32 : Int, r33 = .int .i64 p32 ∧
    ∃ u34 : Int, (.int .i64 (IntKind.i64.wrap (v11 + 1)) : Value) = .int .i64 u34 ∧ (I8 u34 w31 ∧ M9 u34 w31 < M9 v11 w12)) KP) KP) KP)
    ((cond ((p21 : Int) == 4)
    (C.disk_Disk_Sync p5 0 w20 (fun r37 w35 => ∃ p36 : Int, r37 = .int .i64 p36 ∧
    ∃ u38 : Int, (.int .i64 (IntKind.i64.wrap (v11 + 1)) : Value) = .int .i64 u38 ∧ (I8 u38 w35 ∧ M9 u38 w35 < M9 v11 w12)) KP)
    (∃ y39 : Sl, (okVal false 1 (.slice y39.a y39.len y39.cap) = true ∧ w20.cell? ⟨b15, 4, none⟩ = some (.slice y39.a y39.len y39.cap)) ∧
    C.skeplaw00_CopyBytes y39 w20 (fun r42 w40 => ∃ p41 : Sl, r42 = .slice p41.a p41.len p41.cap ∧
    C.disk_Disk_Append p5 0 p41 w40 (fun r45 w43 => ∃ p44 : Int, r45 = .int .i64 p44 ∧
    (cond ((p44 : Int) != 0)
    (K (.bool false) w43)
    (∃ u46 : Int, (.int .i64 (IntKind.i64.wrap (v11 + 1)) : Value) = .int .i64 u46 ∧ (I8 u46 w43 ∧ M9 u46 w43 < M9 v11 w12)))) KP) KP))))) KP)))
    (J7 w12)))
    (J7 w12))) ∧
    ∀ e0 : Env, ∀ w47 : World, J7 w47 →
    C.disk_Disk_Pending p5 0 w47 (fun r50 w48 => ∃ p49 : Int, r50 = .int .i64 p49 ∧
    C.disk_Disk_Crash p5 (-1) 0 w48 (fun r53 w51 => ∃ p52 : (Option Addr), r53 = .pointer p52 ∧
    C.disk_Disk_Read p52 0 w51 (fun r56 w54 => ∃ p55 : Sl, r56 = .slice p55.a p55.len p55.cap ∧
    ∃ s57 : ByteArray, (s57.size = p55.len ∧ (0 < p55.len → withSome p55.a fun a => Go.Eng.World.has w54 a (bytesV s57))) ∧
    ∃ (I58 : ByteArray → Int → World → Prop) (M59 : ByteArray → Int → World → Nat),
    (∃ u60 : ByteArray, (.string s57 : Value) = .string u60 ∧ ∃ u61 : Int, (.int .i64 0 : Value) = .int .i64 u61 ∧ I58 u60 u61 w54) ∧
    ∀ e0 : Env, ∀ v62 : ByteArray, ∀ v63 : Int, ∀ w64 : World, I58 v62 v63 w64 →
    (cond (decide ((v63 : Int) ≤ p49))
    (C.disk_Disk_Crash p5 v63 0 w64 (fun r67 w65 => ∃ p66 : (Option Addr), r67 = .pointer p66 ∧
    C.disk_Disk_Read p66 0 w65 (fun r70 w68 => ∃ p69 : Sl, r70 = .slice p69.a p69.len p69.cap ∧
    ∃ s71 : ByteArray, (s71.size = p69.len ∧ (0 < p69.len → withSome p69.a fun a => Go.Eng.World.has w68 a (bytesV s71))) ∧
    ∃ J72 : Bool → World → Prop,
    ((cond (((s71.size : Int) : Int) == (IntKind.i64.wrap ((v62.size : Int) + 1)))
    (((0 : Int) ≤ (v62.size : Int) ∧ ((v62.size : Int) : Int) ≤ (s71.size : Int)) ∧ ∃ u73 : Bool, (.bool (strEq (s71.extract 0 ((v62.size : Int).toNat)) v62) : Value) = .bool u73 ∧ J72 u73 w68)
    (∃ u74 : Bool, (.bool false : Value) = .bool u74 ∧ J72 u74 w68))) ∧
    ∀ e0 : Env, ∀ v75 : Bool, ∀ w76 : World, J72 v75 w76 →
    ∃ J77 : Bool → World → Prop,
    ((cond (decide (((s71.size : Int) : Int) ≤ (v62.size : Int)))
    (((0 : Int) ≤ (s71.size : Int) ∧ ((s71.size : Int) : Int) ≤ (v62.size : Int)) ∧ ∃ u78 : Bool, (.bool (strEq (v62.extract 0 ((s71.size : Int).toNat)) s71) : Value) = .bool u78 ∧ J77 u78 w76)
    (∃ u79 : Bool, (.bool false : Value) = .bool u79 ∧ J77 u79 w76))) ∧
    ∀ e0 : Env, ∀ v80 : Bool, ∀ w81 : World, J77 v80 w81 →
    C.disk_Disk_Pending p66 0 w81 (fun r84 w82 => ∃ p83 : Int, r84 = .int .i64 p83 ∧
    (cond ((p83 : Int) != 0)
    (K (.bool false) w82)
    ((cond ((v63 : Int) == 0)
    ((cond (!(strEq s71 v62))
    (K (.bool false) w82)
    ((cond (decide ((v63 : Int) > 0))
    ((cond (!v75)
    ((cond (!v80)
    (K (.bool false) w82)
    (∃ u85 : ByteArray, (.string s71 : Value) = .string u85 ∧ ∃ u86 : Int, (.int .i64 (IntKind.i64.wrap (v63 + 1)) : Value) = .int .i64 u86 ∧ (I58 u85 u86 w82 ∧ M59 u85 u86 w82 < M59 v62 v63 w64))))
    (∃ u87 : ByteArray, (.string s71 : Value) = .string u87 ∧ ∃ u88 : Int, (.int .i64 (IntKind.i64.wrap (v63 + 1)) : Value) = .int .i64 u88 ∧ (I58 u87 u88 w82 ∧ M59 u87 u88 w82 < M59 v62 v63 w64))))
    (∃ u89 : ByteArray, (.string s71 : Value) = .string u89 ∧ ∃ u90 : Int, (.int .i64 (IntKind.i64.wrap (v63 + 1)) : Value) = .int .i64 u90 ∧ (I58 u89 u90 w82 ∧ M59 u89 u90 w82 < M59 v62 v63 w64))))))
    ((cond (decide ((v63 : Int) > 0))
    ((cond (!v75)
    ((cond (!v80)
    (K (.bool false) w82)
    (∃ u91 : ByteArray, (.string s71 : Value) = .string u91 ∧ ∃ u92 : Int, (.int .i64 (IntKind.i64.wrap (v63 + 1)) : Value) = .int .i64 u92 ∧ (I58 u91 u92 w82 ∧ M59 u91 u92 w82 < M59 v62 v63 w64))))
    (∃ u93 : ByteArray, (.string s71 : Value) = .string u93 ∧ ∃ u94 : Int, (.int .i64 (IntKind.i64.wrap (v63 + 1)) : Value) = .int .i64 u94 ∧ (I58 u93 u94 w82 ∧ M59 u93 u94 w82 < M59 v62 v63 w64))))
    (∃ u95 : ByteArray, (.string s71 : Value) = .string u95 ∧ ∃ u96 : Int, (.int .i64 (IntKind.i64.wrap (v63 + 1)) : Value) = .int .i64 u96 ∧ (I58 u95 u96 w82 ∧ M59 u95 u96 w82 < M59 v62 v63 w64)))))))) KP) KP) KP)
    (C.disk_Disk_Read p5 0 w64 (fun r99 w97 => ∃ p98 : Sl, r99 = .slice p98.a p98.len p98.cap ∧
    ∃ s100 : ByteArray, (s100.size = p98.len ∧ (0 < p98.len → withSome p98.a fun a => Go.Eng.World.has w97 a (bytesV s100))) ∧
    K (.bool (strEq v62 s100)) w97) KP))) KP) KP) KP) KP))) KP
theorem skeplaw03_DiskUnits_of {script : Sl} {w : World} {K : Value → World → Prop} {KP : List PanicEntry → World → Prop} (h : W.skeplaw03_DiskUnits script w K KP) : C.skeplaw03_DiskUnits script w K KP :=
  xcall (E := E) (T := mkTab [(5, [(4, 3)]), (20, [(7, 9), (8, 3)])] [(5, [2, 4, 5, 16, 17, 18, 19, 20, 21, 22, 23, 24, 25, 26, 27, 28, 29, 30, 31, 32, 33, 34, 35, 36, 37, 38, 39, 40, 41, 42, 43, 44, 45, 46, 47, 48, 49, 50, 51, 52, 53, 54, 55, 56]), (20, [2, 7, 8, 9, 10, 11, 12, 63, 64, 65, 66, 67, 68, 69, 70, 71, 72, 73, 74, 75, 76, 77, 78, 79, 80, 81, 82, 83, 84, 85, 86, 87, 88, 89, 90, 91, 92, 93, 94, 95, 96, 97, 98, 99, 100, 101, 102, 103, 104, 105, 106, 107, 108, 109, 110, 111, 112, 113, 114, 115, 116, 117, 118, 119, 120, 121, 122, 123, 124, 125])] [(26, [(12, 4)]), (25, [(11, 4)]), (17, [])] [(26, [12, 88, 89, 90, 91, 92, 93, 94, 95, 96, 97, 98, 99, 100]), (25, [11, 74, 75, 76, 77, 78, 79, 80, 81, 82, 83, 84, 85, 86, 87]), (17, [2, 4, 5, 16, 17, 18, 19, 20, 21, 22, 23, 24, 25, 26, 27, 28, 29, 30, 31, 32, 33, 34, 35, 36, 37, 38, 39, 40, 41, 42, 43, 44, 45, 46, 47, 48, 49, 50, 51, 52, 53, 54, 55, 56])] [(14, [0, 1, 2, 3, 4, 5, 6, 7])] [(14, [0, 0, 2, 0, 8, 24, 62, 127])] [] []) (c := Try.f7.body.getD .skip) (rs := [.tmp 2]) ⟨⟩ mixed Try.func7 (by kernel_rfl) (by kernel_rfl) [.slice script.a script.len script.cap] (by kernel_rfl) (by kernel_rfl) (.inr (by kernel_rfl)) (Eq.mp (by kernel_rfl) h)

def W.skeplaw03_awake (w : World) (K : Value → World → Prop) (KP : List PanicEntry → World → Prop) : Prop :=
   C.disk_New  w (fun r3 w1 => ∃ p2 : (Option Addr), r3 = .pointer p2 ∧
    (cond p2.isNone
    (K (.bool false) w1)
    (∀ (b4 : Nat) (w5 : World), Alloc w1 b4 5 [.int .u8 97, .int .u8 98, .int .u8 99] w5 →
    ∀ w6 : World, Marked w5 ⟨b4, 0, none⟩ w6 →
    C.disk_Disk_Append p2 0 (⟨(some ⟨b4, 0, none⟩), 3, 3⟩) w6 (fun r9 w7 => ∃ p8 : Int, r9 = .int .i64 p8 ∧
    (cond ((p8 : Int) != 0)
    (K (.bool false) w7)
    (C.disk_Disk_Sync p2 0 w7 (fun r12 w10 => ∃ p11 : Int, r12 = .int .i64 p11 ∧
    (cond ((p11 : Int) != 0)
    (K (.bool false) w10)
    (∀ (b13 : Nat) (w14 : World), Alloc w10 b13 5 [.int .u8 100, .int .u8 101] w14 →
    ∀ w15 : World, Marked w14 ⟨b13, 0, none⟩ w15 →
    C.disk_Disk_Append p2 0 (⟨(some ⟨b13, 0, none⟩), 2, 2⟩) w15 (fun r18 w16 => ∃ p17 : Int, r18 = .int .i64 p17 ∧
    (cond ((p17 : Int) != 0)
    (K (.bool false) w16)
    (C.disk_Disk_Cut p2 0 1 w16 (fun r21 w19 => ∃ p20 : Int, r21 = .int .i64 p20 ∧
    (cond ((p20 : Int) != 0)
    (K (.bool false) w19)
    (C.disk_Disk_Crash p2 1 0 w19 (fun r24 w22 => ∃ p23 : (Option Addr), r24 = .pointer p23 ∧
    C.disk_Disk_Crash p2 9 0 w22 (fun r27 w25 => ∃ p26 : (Option Addr), r27 = .pointer p26 ∧
    C.disk_Disk_Pending p2 0 w25 (fun r30 w28 => ∃ p29 : Int, r30 = .int .i64 p29 ∧
    (cond ((p29 : Int) == 3)
    ((cond (!p23.isNone)
    ((cond (!p26.isNone)
    (C.disk_Disk_Read p23 0 w28 (fun r33 w31 => ∃ p32 : Sl, r33 = .slice p32.a p32.len p32.cap ∧
    ∃ s34 : ByteArray, (s34.size = p32.len ∧ (0 < p32.len → withSome p32.a fun a => Go.Eng.World.has w31 a (bytesV s34))) ∧
    (cond (strEq s34 (⟨#[97, 98, 99, 100]⟩))
    (C.disk_Disk_Read p26 0 w31 (fun r37 w35 => ∃ p36 : Sl, r37 = .slice p36.a p36.len p36.cap ∧
    ∃ s38 : ByteArray, (s38.size = p36.len ∧ (0 < p36.len → withSome p36.a fun a => Go.Eng.World.has w35 a (bytesV s38))) ∧
    K (.bool (strEq s38 (⟨#[97]⟩))) w35) KP)
    (K (.bool false) w31))) KP)
    (K (.bool false) w28)))
    (K (.bool false) w28)))
    (K (.bool false) w28))) KP) KP) KP))) KP))) KP))) KP))) KP))) KP
theorem skeplaw03_awake_of {w : World} {K : Value → World → Prop} {KP : List PanicEntry → World → Prop} (h : W.skeplaw03_awake  w K KP) : C.skeplaw03_awake  w K KP :=
  xcall (E := E) (T := mkTab [] [] [] [] [] [] [] []) (c := Try.f8.body.getD .skip) (rs := [.tmp 0]) ⟨⟩ mixed Try.func8 (by kernel_rfl) (by kernel_rfl) [] (by kernel_rfl) (by kernel_rfl) (.inr (by kernel_rfl)) (Eq.mp (by kernel_rfl) h)

def W.disk_New (w : World) (K : Value → World → Prop) (KP : List PanicEntry → World → Prop) : Prop :=
   ∀ (b1 : Nat) (w2 : World), Alloc w b1 52 [.slice none 0 0, .slice none 0 0, .slice none 0 0, .slice none 0 0, .slice none 0 0, .slice none 0 0] w2 →
    K (.pointer (some ⟨b1, 0, none⟩)) w2
theorem disk_New_of {w : World} {K : Value → World → Prop} {KP : List PanicEntry → World → Prop} (h : W.disk_New  w K KP) : C.disk_New  w K KP :=
  xcall (E := E) (T := mkTab [] [] [] [] [] [] [] []) (c := Try.f9.body.getD .skip) (rs := [.tmp 0]) ⟨⟩ mixed Try.func9 (by kernel_rfl) (by kernel_rfl) [] (by kernel_rfl) (by kernel_rfl) (.inr (by kernel_rfl)) (Eq.mp (by kernel_rfl) h)

def W.disk_Disk_Append (d : (Option Addr)) (file : Int) (p2_ : Sl) (w : World) (K : Value → World → Prop) (KP : List PanicEntry → World → Prop) : Prop :=
   C.disk_Disk_file d file w (fun r3 w1 => ∃ p2 : (Option Addr), r3 = .pointer p2 ∧
    (cond p2.isNone
    (K (.int .i64 1) w1)
    (withSome p2 fun a4 =>
    ∃ y5 : Sl, (okVal false 1 (.slice y5.a y5.len y5.cap) = true ∧ w1.cell? (Addr.add a4 1) = some (.slice y5.a y5.len y5.cap)) ∧
    (cond (decide (((p2_.len : Int) : Int) > (IntKind.i64.wrap (16777216 - (y5.len : Int)))))
    (K (.int .i64 2) w1)
    ((cond (((p2_.len : Int) : Int) == 0)
    (K (.int .i64 0) w1)
    (∀ (b6 : Nat) (w7 : World), Alloc w1 b6 5 [] w7 →
    ∃ (q8 : Option Addr) (n9 c10 : Nat) (w11 : World), (Builtin.append_ #[22, 22] 22 #[.slice (some ⟨b6, 0, none⟩) 0 0, .slice p2_.a p2_.len p2_.cap]).run Try.prog w7 = .ok (.slice q8 n9 c10) w11 ∧
    withSome p2 fun a12 =>
    ∃ y13 : Sl, (okVal false 1 (.slice y13.a y13.len y13.cap) = true ∧ w11.cell? (Addr.add a12 1) = some (.slice y13.a y13.len y13.cap)) ∧
    ∃ (q14 : Option Addr) (n15 c16 : Nat) (w17 : World), (Builtin.append_ #[22, 22] 22 #[.slice y13.a y13.len y13.cap, .slice q8 n9 c10]).run Try.prog w11 = .ok (.slice q14 n15 c16) w17 ∧
    withSome p2 fun a18 =>
    (okVal false 1 (.slice q14 n15 c16) = true ∧ canPut w17 (Addr.add a18 1) (.slice q14 n15 c16)) ∧ ∀ w19 : World, w19 = putAt w17 (Addr.add a18 1) (.slice q14 n15 c16) →
    withSome p2 fun a20 =>
    ∃ y21 : Sl, (okVal false 1 (.slice y21.a y21.len y21.cap) = true ∧ w19.cell? (Addr.add a20 2) = some (.slice y21.a y21.len y21.cap)) ∧
    ∀ (b22 : Nat) (w23 : World), Alloc w19 b22 56 [.bool false, .int .i64 0, .slice q8 n9 c10] w23 →
    ∃ (q24 : Option Addr) (n25 c26 : Nat) (w27 : World), (Builtin.append_ #[47, 47] 47 #[.slice y21.a y21.len y21.cap, .slice (some ⟨b22, 0, none⟩) 1 1]).run Try.prog w23 = .ok (.slice q24 n25 c26) w27 ∧
    withSome p2 fun a28 =>
    (okVal false 1 (.slice q24 n25 c26) = true ∧ canPut w27 (Addr.add a28 2) (.slice q24 n25 c26)) ∧ ∀ w29 : World, w29 = putAt w27 (Addr.add a28 2) (.slice q24 n25 c26) →
    K (.int .i64 0) w29))))))) KP
theorem disk_Disk_Append_of {d : (Option Addr)} {file : Int} {p2_ : Sl} {w : World} {K : Value → World → Prop} {KP : List PanicEntry → World → Prop} (h : W.disk_Disk_Append d file p2_ w K KP) : C.disk_Disk_Append d file p2_ w K KP :=
  xcall (E := E) (T := mkTab [] [] [] [] [] [] [] []) (c := Try.f10.body.getD .skip) (rs := [.tmp 6]) ⟨⟩ mixed Try.func10 (by kernel_rfl) (by kernel_rfl) [.pointer d, .int .i64 file, .slice p2_.a p2_.len p2_.cap] (by kernel_rfl) (by kernel_rfl) (.inr (by kernel_rfl)) (Eq.mp (by kernel_rfl) h)

def W.skeplaw00_CopyBytes (p0_ : Sl) (w : World) (K : Value → World → Prop) (KP : List PanicEntry → World → Prop) : Prop :=
   ∃ (q1 : Option Addr) (n2 c3 : Nat) (w4 : World), (Builtin.append_ #[22, 22] 22 #[.slice none 0 0, .slice p0_.a p0_.len p0_.cap]).run Try.prog w = .ok (.slice q1 n2 c3) w4 ∧
    K (.slice q1 n2 c3) w4
theorem skeplaw00_CopyBytes_of {p0_ : Sl} {w : World} {K : Value → World → Prop} {KP : List PanicEntry → World → Prop} (h : W.skeplaw00_CopyBytes p0_ w K KP) : C.skeplaw00_CopyBytes p0_ w K KP :=
  xcall (E := E) (T := mkTab [] [] [] [] [] [] [] []) (c := Try.f11.body.getD .skip) (rs := [.tmp 2]) ⟨⟩ mixed Try.func11 (by kernel_rfl) (by kernel_rfl) [.slice p0_.a p0_.len p0_.cap] (by kernel_rfl) (by kernel_rfl) (.inr (by kernel_rfl)) (Eq.mp (by kernel_rfl) h)

def W.disk_Disk_Sync (d : (Option Addr)) (file : Int) (w : World) (K : Value → World → Prop) (KP : List PanicEntry → World → Prop) : Prop :=
   C.disk_Disk_file d file w (fun r3 w1 => ∃ p2 : (Option Addr), r3 = .pointer p2 ∧
    (cond p2.isNone
    (K (.int .i64 1) w1)
    (∀ w4, Drew w1 w4 →
    withSome p2 fun a5 =>
    ∃ y6 : Sl, (okVal false 1 (.slice y6.a y6.len y6.cap) = true ∧ w4.cell? (Addr.add a5 1) = some (.slice y6.a y6.len y6.cap)) ∧
    withSome p2 fun a7 =>
    ∃ y8 : Sl, (okVal false 1 (.slice y8.a y8.len y8.cap) = true ∧ w4.cell? (Addr.add a7 1) = some (.slice y8.a y8.len y8.cap)) ∧
    withSome p2 fun a9 =>
    ∃ y10 : Sl, (okVal false 1 (.slice y10.a y10.len y10.cap) = true ∧ w4.cell? (Addr.add a9 1) = some (.slice y10.a y10.len y10.cap)) ∧
    ((0 : Int) ≤ (y10.len : Int) ∧ ((y10.len : Int) : Int) ≤ (y6.cap : Int)) ∧ ((0 : Int) ≤ (y8.len : Int) ∧ ((y8.len : Int) : Int) ≤ ((y10.len : Int).toNat : Int)) ∧ withSome p2 fun a11 =>
    (okVal false 1 (.slice (if (y10.len : Int).toNat = 0 then y6.a else Option.map (fun x => Addr.add x (0 * 1)) y6.a) ((y8.len : Int).toNat - 0) ((y10.len : Int).toNat - 0)) = true ∧ canPut w4 a11 (.slice (if (y10.len : Int).toNat = 0 then y6.a else Option.map (fun x => Addr.add x (0 * 1)) y6.a) ((y8.len : Int).toNat - 0) ((y10.len : Int).toNat - 0))) ∧ ∀ w12 : World, w12 = putAt w4 a11 (.slice (if (y10.len : Int).toNat = 0 then y6.a else Option.map (fun x => Addr.add x (0 * 1)) y6.a) ((y8.len : Int).toNat - 0) ((y10.len : Int).toNat - 0)) →
    withSome p2 fun a13 =>
    (okVal false 1 (.slice none 0 0) = true ∧ canPut w12 (Addr.add a13 2) (.slice none 0 0)) ∧ ∀ w14 : World, w14 = putAt w12 (Addr.add a13 2) (.slice none 0 0) →
    K (.int .i64 0) w14))) KP
theorem disk_Disk_Sync_of {d : (Option Addr)} {file : Int} {w : World} {K : Value → World → Prop} {KP : List PanicEntry → World → Prop} (h : W.disk_Disk_Sync d file w K KP) : C.disk_Disk_Sync d file w K KP :=
  xcall (E := E) (T := mkTab [] [] [] [] [(4, [0, 1, 2, 3, 4, 5, 6, 7, 8, 9, 10, 11, 12, 13, 14, 15, 16, 17, 18])] [(4, [0, 0, 2, 6, 14, 0, 32, 96, 224, 480, 0, 1024, 3072, 7168, 15360, 32766, 65535, 131071, 262143])] [] []) (c := Try.f12.body.getD .skip) (rs := [.tmp 4]) ⟨⟩ mixed Try.func12 (by kernel_rfl) (by kernel_rfl) [.pointer d, .int .i64 file] (by kernel_rfl) (by kernel_rfl) (.inr (by kernel_rfl)) (Eq.mp (by kernel_rfl) h)

def W.disk_Disk_Crash (d : (Option Addr)) (a : Int) (p2_ : Int) (w : World) (K : Value → World → Prop) (KP : List PanicEntry → World → Prop) : Prop :=
   C.disk_New  w (fun r3 w1 => ∃ p2 : (Option Addr), r3 = .pointer p2 ∧
    (cond d.isNone
    (K (.pointer p2) w1)
    (∀ (b4 : Nat) (w5 : World), Alloc w1 b4 57 [.int .i64 0, .int .i64 0] w5 →
    (okVal true 2 (.agg #[.int .i64 a, .int .i64 p2_]) = true ∧ canPut w5 ⟨b4, 0, none⟩ (.agg #[.int .i64 a, .int .i64 p2_])) ∧ ∀ w6 : World, w6 = putAt w5 ⟨b4, 0, none⟩ (.agg #[.int .i64 a, .int .i64 p2_]) →
    ∃ (I7 : Int → World → Prop) (M8 : Int → World → Nat),
    (∃ u9 : Int, (.int .i64 0 : Value) = .int .i64 u9 ∧ I7 u9 w6) ∧
    ∀ e0 : Env, ∀ v10 : Int, ∀ w11 : World, I7 v10 w11 →
    (cond (decide ((v10 : Int) < 2))
    (withSome d fun a12 =>
    ((0 : Int) ≤ v10 ∧ (v10 : Int) < (2 : Int)) ∧ ∃ y13 : S.disk_file, (okVal true 3 (S.disk_file.v y13) = true ∧ rd w11 (Addr.add a12 (v10.toNat * 3)) (S.disk_file.v y13)) ∧
    ∀ (b14 : Nat) (w15 : World), Alloc w11 b14 49 [.slice none 0 0, .slice none 0 0, .slice none 0 0] w15 →
    (okVal true 3 (S.disk_file.v y13) = true ∧ canPut w15 ⟨b14, 0, none⟩ (S.disk_file.v y13)) ∧ ∀ w16 : World, w16 = putAt w15 ⟨b14, 0, none⟩ (S.disk_file.v y13) →
    ∀ (b17 : Nat) (w18 : World), Alloc w16 b17 5 [] w18 →
    ∃ y19 : Sl, (okVal false 1 (.slice y19.a y19.len y19.cap) = true ∧ w18.cell? ⟨b14, 0, none⟩ = some (.slice y19.a y19.len y19.cap)) ∧
    ∃ (q20 : Option Addr) (n21 c22 : Nat) (w23 : World), (Builtin.append_ #[22, 22] 22 #[.slice (some ⟨b17, 0, none⟩) 0 0, .slice y19.a y19.len y19.cap]).run Try.prog w18 = .ok (.slice q20 n21 c22) w23 ∧
    ∃ J24 : Sl → World → Prop,
    (∃ y25 : Sl, (okVal false 1 (.slice y25.a y25.len y25.cap) = true ∧ w23.cell? ⟨b14, 2, none⟩ = some (.slice y25.a y25.len y25.cap)) ∧
    ∃ (I26 : Sl → Int → World → Prop) (M27 : Sl → Int → World → Nat),
    (∃ u28 : Sl, (.slice q20 n21 c22 : Value) = .slice u28.a u28.len u28.cap ∧ ∃ u29 : Int, (.int .i64 0 : Value) = .int .i64 u29 ∧ I26 u28 u29 w23) ∧
    ∀ e0 : Env, ∀ v30 : Sl, ∀ v31 : Int, ∀ w32 : World, I26 v30 v31 w32 →
    (cond (decide ((v31 : Int) < (y25.len : Int)))
    (((0 : Int) ≤ v31 ∧ (v31 : Int) < (y25.len : Int)) ∧ withSome y25.a fun a33 =>
    ∃ y34 : S.disk_done, (okVal true 3 (S.disk_done.v y34) = true ∧ rd w32 (Addr.add a33 (v31.toNat * 3)) (S.disk_done.v y34)) ∧
    ∀ (b35 : Nat) (w36 : World), Alloc w32 b35 56 [.bool false, .int .i64 0, .slice none 0 0] w36 →
    (okVal true 3 (S.disk_done.v y34) = true ∧ canPut w36 ⟨b35, 0, none⟩ (S.disk_done.v y34)) ∧ ∀ w37 : World, w37 = putAt w36 ⟨b35, 0, none⟩ (S.disk_done.v y34) →
    ∀ w38, Drew w37 w38 →
    ∃ y39 : S.disk_done, (okVal true 3 (S.disk_done.v y39) = true ∧ rd w38 ⟨b35, 0, none⟩ (S.disk_done.v y39)) ∧
    ((0 : Int) ≤ v10 ∧ (v10 : Int) < (2 : Int)) ∧ ∃ y40 : Int, (okVal false 1 (.int .i64 y40) = true ∧ w38.cell? (Addr.add ⟨b4, 0, none⟩ (v10.toNat * 1)) = some (.int .i64 y40)) ∧
    C.disk_done_units y39 w38 (fun r43 w41 => ∃ p42 : Int, r43 = .int .i64 p42 ∧
    (w41.cell? (Addr.add ⟨b4, 0, none⟩ (v10.toNat * 1)) = some (.int .i64 y40)) ∧ ((0 : Int) ≤ v10 ∧ (v10 : Int) < (2 : Int)) ∧ ∃ y44 : Int, (okVal false 1 (.int .i64 y44) = true ∧ w41.cell? (Addr.add ⟨b4, 0, none⟩ (v10.toNat * 1)) = some (.int .i64 y44)) ∧
    ((0 : Int) ≤ v10 ∧ (v10 : Int) < (2 : Int)) ∧ (okVal false 1 (.int .i64 (IntKind.i64.wrap (y44 - (if ((if (0 : Int) > y40 then 0 else y40) : Int) < p42 then (if (0 : Int) > y40 then 0 else y40) else p42)))) = true ∧ canPut w41 (Addr.add ⟨b4, 0, none⟩ (v10.toNat * 1)) (.int .i64 (IntKind.i64.wrap (y44 - (if ((if (0 : Int) > y40 then 0 else y40) : Int) < p42 then (if (0 : Int) > y40 then 0 else y40) else p42))))) ∧ ∀ w45 : World, w45 = putAt w41 (Addr.add ⟨b4, 0, none⟩ (v10.toNat * 1)) (.int .i64 (IntKind.i64.wrap (y44 - (if ((if (0 : Int) > y40 then 0 else y40) : Int) < p42 then (if (0 : Int) > y40 then 0 else y40) else p42)))) →
    (cond (((if ((if (0 : Int) > y40 then 0 else y40) : Int) < p42 then (if (0 : Int) > y40 then 0 else y40) else p42) : Int) == 0)
    (∃ y46 : S.disk_done, (okVal true 3 (S.disk_done.v y46) = true ∧ rd w45 ⟨b35, 0, none⟩ (S.disk_done.v y46)) ∧
    C.disk_done_units y46 w45 (fun r49 w47 => ∃ p48 : Int, r49 = .int .i64 p48 ∧
    (cond (decide (((if ((if (0 : Int) > y40 then 0 else y40) : Int) < p42 then (if (0 : Int) > y40 then 0 else y40) else p42) : Int) < p48))
    (∃ u50 : Sl, (.slice v30.a v30.len v30.cap : Value) = .slice u50.a u50.len u50.cap ∧ J24 u50 w47)
    (∃ u51 : Sl, (.slice v30.a v30.len v30.cap : Value) = .slice u51.a u51.len u51.cap ∧ ∃ u52 : Int, (.int .i64 (IntKind.i64.wrap (v31 + 1)) : Value) = .int .i64 u52 ∧ (I26 u51 u52 w47 ∧ M27 u51 u52 w47 < M27 v30 v31 w32)))) KP)
    (∃ y53 : Bool, (okVal false 1 (.bool y53) = true ∧ w45.cell? ⟨b35, 0, none⟩ = some (.bool y53)) ∧
    (cond y53
    (∃ y54 : Int, (okVal false 1 (.int .i64 y54) = true ∧ w45.cell? ⟨b35, 1, none⟩ = some (.int .i64 y54)) ∧
    ((0 : Int) ≤ y54 ∧ (y54 : Int) ≤ (v30.cap : Int)) ∧ ∃ y55 : S.disk_done, (okVal true 3 (S.disk_done.v y55) = true ∧ rd w45 ⟨b35, 0, none⟩ (S.disk_done.v y55)) ∧
    C.disk_done_units y55 w45 (fun r58 w56 => ∃ p57 : Int, r58 = .int .i64 p57 ∧
    (cond (decide (((if ((if (0 : Int) > y40 then 0 else y40) : Int) < p42 then (if (0 : Int) > y40 then 0 else y40) else p42) : Int) < p57))
    (∃ u59 : Sl, (.slice (if v30.cap = 0 then v30.a else Option.map (fun x => Addr.add x (0 * 1)) v30.a) (y54.toNat - 0) (v30.cap - 0) : Value) = .slice u59.a u59.len u59.cap ∧ J24 u59 w56)
    (∃ u60 : Sl, (.slice (if v30.cap = 0 then v30.a else Option.map (fun x => Addr.add x (0 * 1)) v30.a) (y54.toNat - 0) (v30.cap - 0) : Value) = .slice u60.a u60.len u60.cap ∧ ∃ u61 : Int, (.int .i64 (IntKind.i64.wrap (v31 + 1)) : Value) = .int .i64 u61 ∧ (I26 u60 u61 w56 ∧ M27 u60 u61 w56 < M27 v30 v31 w32)))) KP)
    (∃ y62 : Sl, (okVal false 1 (.slice y62.a y62.len y62.cap) = true ∧ w45.cell? ⟨b35, 2, none⟩ = some (.slice y62.a y62.len y62.cap)) ∧
    ((0 : Int) ≤ (if ((if (0 : Int) > y40 then 0 else y40) : Int) < p42 then (if (0 : Int) > y40 then 0 else y40) else p42) ∧ ((if ((if (0 : Int) > y40 then 0 else y40) : Int) < p42 then (if (0 : Int) > y40 then 0 else y40) else p42) : Int) ≤ (y62.cap : Int)) ∧ ∃ (q63 : Option Addr) (n64 c65 : Nat) (w66 : World), (Builtin.append_ #[22, 22] 22 #[.slice v30.a v30.len v30.cap, .slice (if y62.cap = 0 then y62.a else Option.map (fun x => Addr.add x (0 * 1)) y62.a) ((if ((if (0 : Int) > y40 then 0 else y40) : Int) < p42 then (if (0 : Int) > y40 then 0 else y40) else p42).toNat - 0) (y62.cap - 0)]).run Try.prog w45 = .ok (.slice q63 n64 c65) w66 ∧
    ∃ y67 : S.disk_done, (okVal true 3 (S.disk_done.v y67) = true ∧ rd w66 ⟨b35, 0, none⟩ (S.disk_done.v y67)) ∧
    C.disk_done_units y67 w66 (fun r70 w68 => ∃ p69 : Int, r70 = .int .i64 p69 ∧
    (cond (decide (((if ((if (0 : Int) > y40 then 0 else y40) : Int) < p42 then (if (0 : Int) > y40 then 0 else y40) else p42) : Int) < p69))
    (∃ u71 : Sl, (.slice q63 n64 c65 : Value) = .slice u71.a u71.len u71.cap ∧ J24 u71 w68)
    (∃ u72 : Sl, (.slice q63 n64 c65 : Value) = .slice u72.a u72.len u72.cap ∧ ∃ u73 : Int, (.int .i64 (IntKind.i64.wrap (v31 + 1)) : Value) = .int .i64 u73 ∧ (I26 u72 u73 w68 ∧ M27 u72 u73 w68 < M27 v30 v31 w32)))) KP))))) KP)
    (∃ u74 : Sl, (.slice v30.a v30.len v30.cap : Value) = .slice u74.a u74.len u74.cap ∧ J24 u74 w32))) ∧
    ∀ e0 : Env, ∀ v75 : Sl, ∀ w76 : World, J24 v75 w76 →
    ∀ w77, Drew w76 w77 →
    ((0 : Int) ≤ (v75.len : Int) ∧ ((v75.len : Int) : Int) ≤ (v75.cap : Int)) ∧ ((0 : Int) ≤ (v75.len : Int) ∧ ((v75.len : Int) : Int) ≤ ((v75.len : Int).toNat : Int)) ∧ withSome p2 fun a78 =>
    ((0 : Int) ≤ v10 ∧ (v10 : Int) < (2 : Int)) ∧ (okVal true 3 (.agg #[.slice (if (v75.len : Int).toNat = 0 then v75.a else Option.map (fun x => Addr.add x (0 * 1)) v75.a) ((v75.len : Int).toNat - 0) ((v75.len : Int).toNat - 0), .slice v75.a v75.len v75.cap, .slice none 0 0]) = true ∧ canPut w77 (Addr.add a78 (v10.toNat * 3)) (.agg #[.slice (if (v75.len : Int).toNat = 0 then v75.a else Option.map (fun x => Addr.add x (0 * 1)) v75.a) ((v75.len : Int).toNat - 0) ((v75.len : Int).toNat - 0), .slice v75.a v75.len v75.cap, .slice none 0 0])) ∧ ∀ w79 : World, w79 = putAt w77 (Addr.add a78 (v10.toNat * 3)) (.agg #[.slice (if (v75.len : Int).toNat = 0 then v75.a else Option.map (fun x => Addr.add x (0 * 1)) v75.a) ((v75.len : Int).toNat - 0) ((v75.len : Int).toNat - 0), .slice v75.a v75.len v75.cap, .slice none 0 0]) →
    ∃ u80 : Int, (.int .i64 (IntKind.i64.wrap (v10 + 1)) : Value) = .int .i64 u80 ∧ (I7 u80 w79 ∧ M8 u80 w79 < M8 v10 w11))
    (K (.pointer p2) w11))))) KP
theorem disk_Disk_Crash_of {d : (Option Addr)} {a : Int} {p2_ : Int} {w : World} {K : Value → World → Prop} {KP : List PanicEntry → World → Prop} (h : W.disk_Disk_Crash d a p2_ w K KP) : C.disk_Disk_Crash d a p2_ w K KP :=
  xcall (E := E) (T := mkTab [(6, [(22, 3)]), (11, [(11, 22), (38, 3)])] [(6, [9, 10, 11, 13, 14, 22, 23, 24, 25, 26, 27, 28, 29, 30, 31, 32, 33, 34, 35, 36, 37, 38, 39, 40, 41, 42, 43, 44, 45, 46, 47, 48, 49, 50, 51, 52, 53, 54, 55, 56, 57, 58, 59, 60, 61, 62, 63, 64, 65, 66, 67, 68, 69, 70, 71, 72, 73, 74, 75, 76, 77, 78, 79, 80, 81, 82, 83, 84, 85, 86, 87, 88, 89]), (11, [11, 13, 14, 38, 39, 40, 41, 42, 43, 44, 45, 46, 47, 48, 49, 50, 51, 52, 53, 54, 55, 56, 57, 58, 59, 60, 61, 62, 63, 64, 65, 66, 67, 68, 69, 70, 71, 72, 73, 74, 75])] [(21, [(11, 22)])] [(21, [11, 13, 14, 35, 36, 37, 38, 39, 40, 41, 42, 43, 44, 45, 46, 47, 48, 49, 50, 51, 52, 53, 54, 55, 56, 57, 58, 59, 60, 61, 62, 63, 64, 65, 66, 67, 68, 69, 70, 71, 72, 73, 74, 75])] [(13, [0, 2, 3, 4, 5, 1, 6, 7]), (21, [0, 1, 2, 3, 4, 5, 6, 7, 8, 9, 10, 11, 12, 13])] [(13, [0, 1, 0, 4, 12, 28, 63, 127]), (21, [0, 0, 0, 0, 8, 0, 32, 124, 0, 508, 1, 1025, 4095, 8191])] [] []) (c := Try.f13.body.getD .skip) (rs := [.tmp 6]) ⟨⟩ mixed Try.func13 (by kernel_rfl) (by kernel_rfl) [.pointer d, .int .i64 a, .int .i64 p2_] (by kernel_rfl) (by kernel_rfl) (.inr (by kernel_rfl)) (Eq.mp (by kernel_rfl) h)

def W.disk_Disk_Read (d : (Option Addr)) (file : Int) (w : World) (K : Value → World → Prop) (KP : List PanicEntry → World → Prop) : Prop :=
   C.disk_Disk_file d file w (fun r3 w1 => ∃ p2 : (Option Addr), r3 = .pointer p2 ∧
    (cond p2.isNone
    (K (.slice none 0 0) w1)
    (∀ (b4 : Nat) (w5 : World), Alloc w1 b4 5 [] w5 →
    withSome p2 fun a6 =>
    ∃ y7 : Sl, (okVal false 1 (.slice y7.a y7.len y7.cap) = true ∧ w5.cell? (Addr.add a6 1) = some (.slice y7.a y7.len y7.cap)) ∧
    ∃ (q8 : Option Addr) (n9 c10 : Nat) (w11 : World), (Builtin.append_ #[22, 22] 22 #[.slice (some ⟨b4, 0, none⟩) 0 0, .slice y7.a y7.len y7.cap]).run Try.prog w5 = .ok (.slice q8 n9 c10) w11 ∧
    K (.slice q8 n9 c10) w11))) KP
theorem disk_Disk_Read_of {d : (Option Addr)} {file : Int} {w : World} {K : Value → World → Prop} {KP : List PanicEntry → World → Prop} (h : W.disk_Disk_Read d file w K KP) : C.disk_Disk_Read d file w K KP :=
  xcall (E := E) (T := mkTab [] [] [] [] [] [] [] []) (c := Try.f14.body.getD .skip) (rs := [.tmp 4]) ⟨⟩ mixed Try.func14 (by kernel_rfl) (by kernel_rfl) [.pointer d, .int .i64 file] (by kernel_rfl) (by kernel_rfl) (.inr (by kernel_rfl)) (Eq.mp (by kernel_rfl) h)

def W.disk_Disk_Pending (d : (Option Addr)) (file : Int) (w : World) (K : Value → World → Prop) (KP : List PanicEntry → World → Prop) : Prop :=
   C.disk_Disk_file d file w (fun r3 w1 => ∃ p2 : (Option Addr), r3 = .pointer p2 ∧
    (cond p2.isNone
    (K (.int .i64 0) w1)
    (withSome p2 fun a4 =>
    ∃ y5 : Sl, (okVal false 1 (.slice y5.a y5.len y5.cap) = true ∧ w1.cell? (Addr.add a4 2) = some (.slice y5.a y5.len y5.cap)) ∧
    ∃ (I6 : Int → Int → World → Prop) (M7 : Int → Int → World → Nat),
    (∃ u8 : Int, (.int .i64 0 : Value) = .int .i64 u8 ∧ ∃ u9 : Int, (.int .i64 0 : Value) = .int .i64 u9 ∧ I6 u8 u9 w1) ∧
    ∀ e0 : Env, ∀ v10 : Int, ∀ v11 : Int, ∀ w12 : World, I6 v10 v11 w12 →
    (cond (decide ((v11 : Int) < (y5.len : Int)))
    (withSome p2 fun a13 =>
    ∃ y14 : Sl, (okVal false 1 (.slice y14.a y14.len y14.cap) = true ∧ w12.cell? (Addr.add a13 2) = some (.slice y14.a y14.len y14.cap)) ∧
    ((0 : Int) ≤ v11 ∧ (v11 : Int) < (y14.len : Int)) ∧ withSome y14.a fun a15 =>
    ∃ y16 : S.disk_done, (okVal true 3 (S.disk_done.v y16) = true ∧ rd w12 (Addr.add a15 (v11.toNat * 3)) (S.disk_done.v y16)) ∧
    C.disk_done_units y16 w12 (fun r19 w17 => ∃ p18 : Int, r19 = .int .i64 p18 ∧
    ∃ u20 : Int, (.int .i64 (IntKind.i64.wrap (v10 + p18)) : Value) = .int .i64 u20 ∧ ∃ u21 : Int, (.int .i64 (IntKind.i64.wrap (v11 + 1)) : Value) = .int .i64 u21 ∧ (I6 u20 u21 w17 ∧ M7 u20 u21 w17 < M7 v10 v11 w12)) KP)
    (K (.int .i64 v10) w12))))) KP
theorem disk_Disk_Pending_of {d : (Option Addr)} {file : Int} {w : World} {K : Value → World → Prop} {KP : List PanicEntry → World → Prop} (h : W.disk_Disk_Pending d file w K KP) : C.disk_Disk_Pending d file w K KP :=
  xcall (E := E) (T := mkTab [(6, [(6, 3), (18, 3)])] [(6, [6, 7, 18, 19, 20, 21, 22, 23, 24, 25, 26, 27, 28, 29, 30, 31])] [] [] [] [] [] []) (c := Try.f15.body.getD .skip) (rs := [.tmp 4]) ⟨⟩ mixed Try.func15 (by kernel_rfl) (by kernel_rfl) [.pointer d, .int .i64 file] (by kernel_rfl) (by kernel_rfl) (.inr (by kernel_rfl)) (Eq.mp (by kernel_rfl) h)

def W.skepref03_New (w : World) (K : Value → World → Prop) (KP : List PanicEntry → World → Prop) : Prop :=
   ∀ (b1 : Nat) (w2 : World), Alloc w b1 64 [.slice none 0 0, .slice none 0 0, .slice none 0 0, .slice none 0 0] w2 →
    K (.pointer (some ⟨b1, 0, none⟩)) w2
theorem skepref03_New_of {w : World} {K : Value → World → Prop} {KP : List PanicEntry → World → Prop} (h : W.skepref03_New  w K KP) : C.skepref03_New  w K KP :=
  xcall (E := E) (T := mkTab [] [] [] [] [] [] [] []) (c := Try.f16.body.getD .skip) (rs := [.tmp 0]) ⟨⟩ mixed Try.func16 (by kernel_rfl) (by kernel_rfl) [] (by kernel_rfl) (by kernel_rfl) (.inr (by kernel_rfl)) (Eq.mp (by kernel_rfl) h)

def W.skeplaw03_do (d : (Option Addr)) (p1_ : (Option Addr)) (p2_ : S.skeplaw03_Op) (w : World) (K : Value → World → Prop) (KP : List PanicEntry → World → Prop) : Prop :=
   ∀ (b1 : Nat) (w2 : World), Alloc w b1 38 (S.skeplaw03_Op.v p2_ : Value).cells.toList w2 →
    ∃ y3 : Int, (okVal false 1 (.int .i64 y3) = true ∧ w2.cell? ⟨b1, 1, none⟩ = some (.int .i64 y3)) ∧
    C.skeplaw00_Place y3 4 w2 (fun r6 w4 => ∃ p5 : Int, r6 = .int .i64 p5 ∧
    ∃ y7 : Int, (okVal false 1 (.int .i64 y7) = true ∧ w4.cell? ⟨b1, 0, none⟩ = some (.int .i64 y7)) ∧
    C.skeplaw00_Place y7 4 w4 (fun r10 w8 => ∃ p9 : Int, r10 = .int .i64 p9 ∧
    (cond ((p9 : Int) == 0)
    (∃ y11 : Sl, (okVal false 1 (.slice y11.a y11.len y11.cap) = true ∧ w8.cell? ⟨b1, 4, none⟩ = some (.slice y11.a y11.len y11.cap)) ∧
    C.skeplaw00_CopyBytes y11 w8 (fun r14 w12 => ∃ p13 : Sl, r14 = .slice p13.a p13.len p13.cap ∧
    C.disk_Disk_Append d (IntKind.i64.wrap (p5 - 1)) p13 w12 (fun r17 w15 => ∃ p16 : Int, r17 = .int .i64 p16 ∧
    ∃ (I18 : Int → World → Prop) (M19 : Int → World → Nat),
    (∃ u20 : Int, (.int .i64 0 : Value) = .int .i64 u20 ∧ I18 u20 w15) ∧
    ∀ e0 : Env, ∀ v21 : Int, ∀ w22 : World, I18 v21 w22 →
    (cond (decide ((v21 : Int) < (p13.len : Int)))
    (((0 : Int) ≤ v21 ∧ (v21 : Int) < (p13.len : Int)) ∧ withSome p13.a fun a23 =>
    ∃ y24 : Int, (okVal false 1 (.int .u8 y24) = true ∧ w22.cell? (Addr.add a23 (v21.toNat * 1)) = some (.int .u8 y24)) ∧
    ((0 : Int) ≤ v21 ∧ (v21 : Int) < (p13.len : Int)) ∧ withSome p13.a fun a25 =>
    (okVal false 1 (.int .u8 (xorI .u8 y24 255)) = true ∧ canPut w22 (Addr.add a25 (v21.toNat * 1)) (.int .u8 (xorI .u8 y24 255))) ∧ ∀ w26 : World, w26 = putAt w22 (Addr.add a25 (v21.toNat * 1)) (.int .u8 (xorI .u8 y24 255)) →
    ∃ u27 : Int, (.int .i64 (IntKind.i64.wrap (v21 + 1)) : Value) = .int .i64 u27 ∧ (I18 u27 w26 ∧ M19 u27 w26 < M19 v21 w22))
    (∃ y28 : Sl, (okVal false 1 (.slice y28.a y28.len y28.cap) = true ∧ w22.cell? ⟨b1, 4, none⟩ = some (.slice y28.a y28.len y28.cap)) ∧
    C.skepref03_Disk_Append p1_ (IntKind.i64.wrap (p5 - 1)) y28 w22 (fun r31 w29 => ∃ p30 : Int, r31 = .int .i64 p30 ∧
    K (.tuple #[.pointer d, .pointer p1_, .bool ((p16 : Int) == p30)]) w29) KP))) KP) KP)
    ((cond ((p9 : Int) == 1)
    (∀ w32, Drew w8 w32 →
    ∃ y33 : Int, (okVal false 1 (.int .i64 y33) = true ∧ w32.cell? ⟨b1, 2, none⟩ = some (.int .i64 y33)) ∧
    ∃ y34 : Int, (okVal false 1 (.int .i64 y34) = true ∧ w32.cell? ⟨b1, 2, none⟩ = some (.int .i64 y34)) ∧
    C.disk_Disk_Cut d (IntKind.i64.wrap (p5 - 1)) y33 w32 (fun r37 w35 => ∃ p36 : Int, r37 = .int .i64 p36 ∧
    (w35.cell? ⟨b1, 2, none⟩ = some (.int .i64 y34)) ∧ C.skepref03_Disk_Cut p1_ (IntKind.i64.wrap (p5 - 1)) y34 w35 (fun r40 w38 => ∃ p39 : Int, r40 = .int .i64 p39 ∧
    K (.tuple #[.pointer d, .pointer p1_, .bool ((p36 : Int) == p39)]) w38) KP) KP)
    ((cond ((p9 : Int) == 2)
    (C.disk_Disk_Sync d (IntKind.i64.wrap (p5 - 1)) w8 (fun r43 w41 => ∃ p42 : Int, r43 = .int .i64 p42 ∧
    C.skepref03_Disk_Sync p1_ (IntKind.i64.wrap (p5 - 1)) w41 (fun r46 w44 => ∃ p45 : Int, r46 = .int .i64 p45 ∧
    K (.tuple #[.pointer d, .pointer p1_, .bool ((p42 : Int) == p45)]) w44) KP) KP)
    (∀ w47, Drew w8 w47 →
    ∃ y48 : Int, (okVal false 1 (.int .i64 y48) = true ∧ w47.cell? ⟨b1, 2, none⟩ = some (.int .i64 y48)) ∧
    ∃ y49 : Int, (okVal false 1 (.int .i64 y49) = true ∧ w47.cell? ⟨b1, 3, none⟩ = some (.int .i64 y49)) ∧
    ∃ y50 : Int, (okVal false 1 (.int .i64 y50) = true ∧ w47.cell? ⟨b1, 2, none⟩ = some (.int .i64 y50)) ∧
    ∃ y51 : Int, (okVal false 1 (.int .i64 y51) = true ∧ w47.cell? ⟨b1, 3, none⟩ = some (.int .i64 y51)) ∧
    C.disk_Disk_Crash d y48 y49 w47 (fun r54 w52 => ∃ p53 : (Option Addr), r54 = .pointer p53 ∧
    (w52.cell? ⟨b1, 3, none⟩ = some (.int .i64 y51)) ∧ (w52.cell? ⟨b1, 2, none⟩ = some (.int .i64 y50)) ∧ C.skepref03_Disk_Crash p1_ y50 y51 w52 (fun r57 w55 => ∃ p56 : (Option Addr), r57 = .pointer p56 ∧
    K (.tuple #[.pointer p53, .pointer p56, .bool true]) w55) KP) KP))))))) KP) KP
theorem skeplaw03_do_of {d : (Option Addr)} {p1_ : (Option Addr)} {p2_ : S.skeplaw03_Op} {w : World} {K : Value → World → Prop} {KP : List PanicEntry → World → Prop} (h : W.skeplaw03_do d p1_ p2_ w K KP) : C.skeplaw03_do d p1_ p2_ w K KP :=
  xcall (E := E) (T := mkTab [(7, [(12, 3)])] [(7, [12, 29, 30, 31, 32, 33, 34, 35, 36, 37, 38, 39, 40, 41, 42])] [] [] [(12, [0, 1, 2, 3, 4, 5, 7, 8, 9, 10, 6, 11, 12, 13, 14, 15]), (15, [0, 1, 2, 3, 4, 6, 7, 8, 9, 10, 5, 11, 12, 13, 14])] [(12, [0, 0, 0, 0, 0, 16, 60, 0, 0, 0, 512, 2044, 4092, 4093, 12287, 32767]), (15, [0, 0, 2, 0, 8, 31, 0, 0, 128, 0, 512, 2047, 4095, 8191, 16383])] [] []) (c := Try.f17.body.getD .skip) (rs := [.tmp 6, .tmp 7, .tmp 8]) ⟨⟩ mixed Try.func17 (by kernel_rfl) (by kernel_rfl) [.pointer d, .pointer p1_, S.skeplaw03_Op.v p2_] (by kernel_rfl) (by kernel_rfl) (.inr (by kernel_rfl)) (Eq.mp (by kernel_rfl) h)

def W.skeplaw03_same (d : (Option Addr)) (p1_ : (Option Addr)) (w : World) (K : Value → World → Prop) (KP : List PanicEntry → World → Prop) : Prop :=
   ∃ (I1 : Int → World → Prop) (M2 : Int → World → Nat),
    (∃ u3 : Int, (.int .i64 (-1) : Value) = .int .i64 u3 ∧ I1 u3 w) ∧
    ∀ e0 : Env, ∀ v4 : Int, ∀ w5 : World, I1 v4 w5 →
    (cond (decide ((v4 : Int) < 3))
    (∀ w6, Drew w5 w6 →
    C.disk_Disk_Read d v4 w6 (fun r9 w7 => ∃ p8 : Sl, r9 = .slice p8.a p8.len p8.cap ∧
    ∃ s10 : ByteArray, (s10.size = p8.len ∧ (0 < p8.len → withSome p8.a fun a => Go.Eng.World.has w7 a (bytesV s10))) ∧
    C.skepref03_Disk_Read p1_ v4 w7 (fun r13 w11 => ∃ p12 : Sl, r13 = .slice p12.a p12.len p12.cap ∧
    (0 < p8.len → withSome p8.a fun a => Go.Eng.World.has w11 a (bytesV s10)) ∧ ∃ s14 : ByteArray, (s14.size = p12.len ∧ (0 < p12.len → withSome p12.a fun a => Go.Eng.World.has w11 a (bytesV s14))) ∧
    (cond (!(strEq s10 s14))
    (K (.bool false) w11)
    (C.disk_Disk_Size d v4 w11 (fun r17 w15 => ∃ p16 : Int, r17 = .int .i64 p16 ∧
    C.skepref03_Disk_Size p1_ v4 w15 (fun r20 w18 => ∃ p19 : Int, r20 = .int .i64 p19 ∧
    (cond ((p16 : Int) != p19)
    (K (.bool false) w18)
    (C.disk_Disk_Pending d v4 w18 (fun r23 w21 => ∃ p22 : Int, r23 = .int .i64 p22 ∧
    C.skepref03_Disk_Pending p1_ v4 w21 (fun r26 w24 => ∃ p25 : Int, r26 = .int .i64 p25 ∧
    (cond ((p22 : Int) != p25)
    (K (.bool false) w24)
    (∃ u27 : Int, (.int .i64 (IntKind.i64.wrap (v4 + 1)) : Value) = .int .i64 u27 ∧ (I1 u27 w24 ∧ M2 u27 w24 < M2 v4 w5)))) KP) KP))) KP) KP))) KP) KP)
    (K (.bool true) w5))
theorem skeplaw03_same_of {d : (Option Addr)} {p1_ : (Option Addr)} {w : World} {K : Value → World → Prop} {KP : List PanicEntry → World → Prop} (h : W.skeplaw03_same d p1_ w K KP) : C.skeplaw03_same d p1_ w K KP :=
  xcall (E := E) (T := mkTab [(2, [(5, 3)])] [(2, [4, 5, 6, 7, 8, 9, 10, 11, 12, 13, 14, 15, 16, 17, 18, 19, 20, 21, 22, 23, 24, 25, 26, 27, 28, 29, 30, 31, 32, 33, 34, 35, 36])] [] [] [(4, [0, 1, 4, 5, 2, 3, 6, 7, 8, 9, 10, 11, 13, 14, 12, 15, 16, 17, 18, 19, 20, 22, 23, 21, 24, 25, 26])] [(4, [0, 0, 3, 7, 0, 0, 55, 119, 255, 511, 1023, 1023, 4095, 1023, 1023, 32767, 65535, 131071, 262143, 524287, 524287, 2097151, 524287, 524287, 16777215, 33554431, 67108863])] [] []) (c := Try.f18.body.getD .skip) (rs := [.tmp 4]) ⟨⟩ mixed Try.func18 (by kernel_rfl) (by kernel_rfl) [.pointer d, .pointer p1_] (by kernel_rfl) (by kernel_rfl) (.inr (by kernel_rfl)) (Eq.mp (by kernel_rfl) h)

def W.skeplaw00_Place (v : Int) (n : Int) (w : World) (K : Value → World → Prop) (KP : List PanicEntry → World → Prop) : Prop :=
   (n : Int) ≠ 0 ∧ (cond (decide (((Int.tmod v n) : Int) < 0))
    (K (.int .i64 (IntKind.i64.wrap ((Int.tmod v n) + n))) w)
    (K (.int .i64 (Int.tmod v n)) w))
theorem skeplaw00_Place_of {v : Int} {n : Int} {w : World} {K : Value → World → Prop} {KP : List PanicEntry → World → Prop} (h : W.skeplaw00_Place v n w K KP) : C.skeplaw00_Place v n w K KP :=
  xcall (E := E) (T := mkTab [] [] [] [] [] [] [] []) (c := Try.f19.body.getD .skip) (rs := [.tmp 4]) ⟨⟩ mixed Try.func19 (by kernel_rfl) (by kernel_rfl) [.int .i64 v, .int .i64 n] (by kernel_rfl) (by kernel_rfl) (.inr (by kernel_rfl)) (Eq.mp (by kernel_rfl) h)

def W.disk_Disk_Cut (d : (Option Addr)) (file : Int) (size : Int) (w : World) (K : Value → World → Prop) (KP : List PanicEntry → World → Prop) : Prop :=
   C.disk_Disk_file d file w (fun r3 w1 => ∃ p2 : (Option Addr), r3 = .pointer p2 ∧
    (cond p2.isNone
    (K (.int .i64 1) w1)
    ((cond (decide ((size : Int) < 0))
    (K (.int .i64 1) w1)
    (withSome p2 fun a4 =>
    ∃ y5 : Sl, (okVal false 1 (.slice y5.a y5.len y5.cap) = true ∧ w1.cell? (Addr.add a4 1) = some (.slice y5.a y5.len y5.cap)) ∧
    (cond (decide ((size : Int) > (y5.len : Int)))
    (K (.int .i64 1) w1)
    (∀ (b6 : Nat) (w7 : World), Alloc w1 b6 5 [] w7 →
    withSome p2 fun a8 =>
    ∃ y9 : Sl, (okVal false 1 (.slice y9.a y9.len y9.cap) = true ∧ w7.cell? (Addr.add a8 1) = some (.slice y9.a y9.len y9.cap)) ∧
    ((0 : Int) ≤ size ∧ (size : Int) ≤ (y9.cap : Int)) ∧ ∃ (q10 : Option Addr) (n11 c12 : Nat) (w13 : World), (Builtin.append_ #[22, 22] 22 #[.slice (some ⟨b6, 0, none⟩) 0 0, .slice (if y9.cap = 0 then y9.a else Option.map (fun x => Addr.add x (0 * 1)) y9.a) (size.toNat - 0) (y9.cap - 0)]).run Try.prog w7 = .ok (.slice q10 n11 c12) w13 ∧
    withSome p2 fun a14 =>
    (okVal false 1 (.slice q10 n11 c12) = true ∧ canPut w13 (Addr.add a14 1) (.slice q10 n11 c12)) ∧ ∀ w15 : World, w15 = putAt w13 (Addr.add a14 1) (.slice q10 n11 c12) →
    withSome p2 fun a16 =>
    ∃ y17 : Sl, (okVal false 1 (.slice y17.a y17.len y17.cap) = true ∧ w15.cell? (Addr.add a16 2) = some (.slice y17.a y17.len y17.cap)) ∧
    ∀ (b18 : Nat) (w19 : World), Alloc w15 b18 56 [.bool true, .int .i64 size, .slice none 0 0] w19 →
    ∃ (q20 : Option Addr) (n21 c22 : Nat) (w23 : World), (Builtin.append_ #[47, 47] 47 #[.slice y17.a y17.len y17.cap, .slice (some ⟨b18, 0, none⟩) 1 1]).run Try.prog w19 = .ok (.slice q20 n21 c22) w23 ∧
    withSome p2 fun a24 =>
    (okVal false 1 (.slice q20 n21 c22) = true ∧ canPut w23 (Addr.add a24 2) (.slice q20 n21 c22)) ∧ ∀ w25 : World, w25 = putAt w23 (Addr.add a24 2) (.slice q20 n21 c22) →
    K (.int .i64 0) w25))))))) KP
theorem disk_Disk_Cut_of {d : (Option Addr)} {file : Int} {size : Int} {w : World} {K : Value → World → Prop} {KP : List PanicEntry → World → Prop} (h : W.disk_Disk_Cut d file size w K KP) : C.disk_Disk_Cut d file size w K KP :=
  xcall (E := E) (T := mkTab [] [] [] [] [] [] [] []) (c := Try.f20.body.getD .skip) (rs := [.tmp 6]) ⟨⟩ mixed Try.func20 (by kernel_rfl) (by kernel_rfl) [.pointer d, .int .i64 file, .int .i64 size] (by kernel_rfl) (by kernel_rfl) (.inr (by kernel_rfl)) (Eq.mp (by kernel_rfl) h)

def W.disk_Disk_Size (d : (Option Addr)) (file : Int) (w : World) (K : Value → World → Prop) (KP : List PanicEntry → World → Prop) : Prop :=
   C.disk_Disk_file d file w (fun r3 w1 => ∃ p2 : (Option Addr), r3 = .pointer p2 ∧
    (cond p2.isNone
    (K (.int .i64 0) w1)
    (withSome p2 fun a4 =>
    ∃ y5 : Sl, (okVal false 1 (.slice y5.a y5.len y5.cap) = true ∧ w1.cell? (Addr.add a4 1) = some (.slice y5.a y5.len y5.cap)) ∧
    K (.int .i64 (y5.len : Int)) w1))) KP
theorem disk_Disk_Size_of {d : (Option Addr)} {file : Int} {w : World} {K : Value → World → Prop} {KP : List PanicEntry → World → Prop} (h : W.disk_Disk_Size d file w K KP) : C.disk_Disk_Size d file w K KP :=
  xcall (E := E) (T := mkTab [] [] [] [] [] [] [] []) (c := Try.f21.body.getD .skip) (rs := [.tmp 4]) ⟨⟩ mixed Try.func21 (by kernel_rfl) (by kernel_rfl) [.pointer d, .int .i64 file] (by kernel_rfl) (by kernel_rfl) (.inr (by kernel_rfl)) (Eq.mp (by kernel_rfl) h)

def W.disk_Disk_file (d : (Option Addr)) (n : Int) (w : World) (K : Value → World → Prop) (KP : List PanicEntry → World → Prop) : Prop :=
   (cond d.isNone
    (K (.pointer none) w)
    ((cond (decide ((n : Int) < 0))
    (K (.pointer none) w)
    ((cond (decide ((n : Int) ≥ 2))
    (K (.pointer none) w)
    (withSome d fun a1 =>
    ((0 : Int) ≤ n ∧ (n : Int) < (2 : Int)) ∧ K (.pointer (some (Addr.add a1 (n.toNat * 3)))) w))))))
theorem disk_Disk_file_of {d : (Option Addr)} {n : Int} {w : World} {K : Value → World → Prop} {KP : List PanicEntry → World → Prop} (h : W.disk_Disk_file d n w K KP) : C.disk_Disk_file d n w K KP :=
  xcall (E := E) (T := mkTab [] [] [] [] [] [] [] []) (c := Try.f22.body.getD .skip) (rs := [.tmp 4]) ⟨⟩ mixed Try.func22 (by kernel_rfl) (by kernel_rfl) [.pointer d, .int .i64 n] (by kernel_rfl) (by kernel_rfl) (.inr (by kernel_rfl)) (Eq.mp (by kernel_rfl) h)

def W.disk_done_units (p0_ : S.disk_done) (w : World) (K : Value → World → Prop) (KP : List PanicEntry → World → Prop) : Prop :=
   ∀ (b1 : Nat) (w2 : World), Alloc w b1 56 (S.disk_done.v p0_ : Value).cells.toList w2 →
    ∃ y3 : Bool, (okVal false 1 (.bool y3) = true ∧ w2.cell? ⟨b1, 0, none⟩ = some (.bool y3)) ∧
    (cond y3
    (K (.int .i64 1) w2)
    (∃ y4 : Sl, (okVal false 1 (.slice y4.a y4.len y4.cap) = true ∧ w2.cell? ⟨b1, 2, none⟩ = some (.slice y4.a y4.len y4.cap)) ∧
    K (.int .i64 (y4.len : Int)) w2))
theorem disk_done_units_of {p0_ : S.disk_done} {w : World} {K : Value → World → Prop} {KP : List PanicEntry → World → Prop} (h : W.disk_done_units p0_ w K KP) : C.disk_done_units p0_ w K KP :=
  xcall (E := E) (T := mkTab [] [] [] [] [] [] [] []) (c := Try.f23.body.getD .skip) (rs := [.tmp 2]) ⟨⟩ mixed Try.func23 (by kernel_rfl) (by kernel_rfl) [S.disk_done.v p0_] (by kernel_rfl) (by kernel_rfl) (.inr (by kernel_rfl)) (Eq.mp (by kernel_rfl) h)

def W.skepref03_Disk_Append (d : (Option Addr)) (file : Int) (p2_ : Sl) (w : World) (K : Value → World → Prop) (KP : List PanicEntry → World → Prop) : Prop :=
   ∃ J1 : World → Prop,
    ((cond ((file : Int) != 0)
    ((cond ((file : Int) != 1)
    (K (.int .i64 1) w)
    (J1 w)))
    (J1 w))) ∧
    ∀ e0 : Env, ∀ w2 : World, J1 w2 →
    C.skepref03_Disk_Size d file w2 (fun r5 w3 => ∃ p4 : Int, r5 = .int .i64 p4 ∧
    (cond (decide (((IntKind.i64.wrap (p4 + (p2_.len : Int))) : Int) > 16777216))
    (K (.int .i64 2) w3)
    (∃ (I6 : Int → World → Prop) (M7 : Int → World → Nat),
    (∃ u8 : Int, (.int .i64 0 : Value) = .int .i64 u8 ∧ I6 u8 w3) ∧
    ∀ e0 : Env, ∀ v9 : Int, ∀ w10 : World, I6 v9 w10 →
    (cond (decide ((v9 : Int) < (p2_.len : Int)))
    (∀ w11, Drew w10 w11 →
    withSome d fun a12 =>
    ((0 : Int) ≤ file ∧ (file : Int) < (2 : Int)) ∧ ∃ y13 : Sl, (okVal false 1 (.slice y13.a y13.len y13.cap) = true ∧ w11.cell? (Addr.add (Addr.add a12 (file.toNat * 2)) 1) = some (.slice y13.a y13.len y13.cap)) ∧
    ((0 : Int) ≤ v9 ∧ (v9 : Int) < (p2_.len : Int)) ∧ withSome p2_.a fun a14 =>
    ∃ y15 : Int, (okVal false 1 (.int .u8 y15) = true ∧ w11.cell? (Addr.add a14 (v9.toNat * 1)) = some (.int .u8 y15)) ∧
    withSome d fun a16 =>
    ∀ (b17 : Nat) (w18 : World), Alloc w11 b17 67 [.int .u8 y15, .bool false, .int .i64 0] w18 →
    (w18.cell? (Addr.add (Addr.add a12 (file.toNat * 2)) 1) = some (.slice y13.a y13.len y13.cap)) ∧ ∃ (q19 : Option Addr) (n20 c21 : Nat) (w22 : World), (Builtin.append_ #[59, 59] 59 #[.slice y13.a y13.len y13.cap, .slice (some ⟨b17, 0, none⟩) 1 1]).run Try.prog w18 = .ok (.slice q19 n20 c21) w22 ∧
    ((0 : Int) ≤ file ∧ (file : Int) < (2 : Int)) ∧ (okVal false 1 (.slice q19 n20 c21) = true ∧ canPut w22 (Addr.add (Addr.add a16 (file.toNat * 2)) 1) (.slice q19 n20 c21)) ∧ ∀ w23 : World, w23 = putAt w22 (Addr.add (Addr.add a16 (file.toNat * 2)) 1) (.slice q19 n20 c21) →
    ∃ u24 : Int, (.int .i64 (IntKind.i64.wrap (v9 + 1)) : Value) = .int .i64 u24 ∧ (I6 u24 w23 ∧ M7 u24 w23 < M7 v9 w10))
    (K (.int .i64 0) w10))))) KP
theorem skepref03_Disk_Append_of {d : (Option Addr)} {file : Int} {p2_ : Sl} {w : World} {K : Value → World → Prop} {KP : List PanicEntry → World → Prop} (h : W.skepref03_Disk_Append d file p2_ w K KP) : C.skepref03_Disk_Append d file p2_ w K KP :=
  xcall (E := E) (T := mkTab [(6, [(7, 3)])] [(6, [7, 21, 22, 23, 24, 25, 26, 27, 28, 29, 30, 31, 32, 33, 34, 35, 36, 37, 38, 39, 40, 41, 42, 43, 44, 45, 46])] [(3, [])] [(3, [6, 8, 9, 10, 11, 12, 13])] [(8, [0, 1, 2, 3, 4, 5, 6, 7, 8, 9, 10, 11, 12, 13, 16, 17, 14, 15, 18, 19, 20])] [(8, [0, 0, 0, 0, 4, 20, 60, 124, 252, 0, 0, 1536, 3584, 7680, 15872, 32764, 1, 65537, 262143, 524287, 1048575])] [] []) (c := Try.f24.body.getD .skip) (rs := [.tmp 6]) ⟨⟩ mixed Try.func24 (by kernel_rfl) (by kernel_rfl) [.pointer d, .int .i64 file, .slice p2_.a p2_.len p2_.cap] (by kernel_rfl) (by kernel_rfl) (.inr (by kernel_rfl)) (Eq.mp (by kernel_rfl) h)

def W.skepref03_Disk_Cut (d : (Option Addr)) (file : Int) (size : Int) (w : World) (K : Value → World → Prop) (KP : List PanicEntry → World → Prop) : Prop :=
   ∃ J1 : World → Prop,
    ((cond ((file : Int) != 0)
    ((cond ((file : Int) != 1)
    (K (.int .i64 1) w)
    ((cond (decide ((size : Int) < 0))
    (K (.int .i64 1) w)
    (C.skepref03_Disk_Size d file w (fun r4 w2 => ∃ p3 : Int, r4 = .int .i64 p3 ∧
    (cond (decide ((size : Int) > p3))
    (K (.int .i64 1) w2)
    (J1 w2))) KP)))))
    ((cond (decide ((size : Int) < 0))
    (K (.int .i64 1) w)
    (C.skepref03_Disk_Size d file w (fun r7 w5 => ∃ p6 : Int, r7 = .int .i64 p6 ∧
    (cond (decide ((size : Int) > p6))
    (K (.int .i64 1) w5)
    (J1 w5))) KP))))) ∧
    ∀ e0 : Env, ∀ w8 : World, J1 w8 →
    ∀ w9, Drew w8 w9 →
    withSome d fun a10 =>
    ((0 : Int) ≤ file ∧ (file : Int) < (2 : Int)) ∧ ∃ y11 : Sl, (okVal false 1 (.slice y11.a y11.len y11.cap) = true ∧ w9.cell? (Addr.add (Addr.add a10 (file.toNat * 2)) 1) = some (.slice y11.a y11.len y11.cap)) ∧
    withSome d fun a12 =>
    ∀ (b13 : Nat) (w14 : World), Alloc w9 b13 67 [.int .u8 0, .bool true, .int .i64 size] w14 →
    (w14.cell? (Addr.add (Addr.add a10 (file.toNat * 2)) 1) = some (.slice y11.a y11.len y11.cap)) ∧ ∃ (q15 : Option Addr) (n16 c17 : Nat) (w18 : World), (Builtin.append_ #[59, 59] 59 #[.slice y11.a y11.len y11.cap, .slice (some ⟨b13, 0, none⟩) 1 1]).run Try.prog w14 = .ok (.slice q15 n16 c17) w18 ∧
    ((0 : Int) ≤ file ∧ (file : Int) < (2 : Int)) ∧ (okVal false 1 (.slice q15 n16 c17) = true ∧ canPut w18 (Addr.add (Addr.add a12 (file.toNat * 2)) 1) (.slice q15 n16 c17)) ∧ ∀ w19 : World, w19 = putAt w18 (Addr.add (Addr.add a12 (file.toNat * 2)) 1) (.slice q15 n16 c17) →
    K (.int .i64 0) w19
theorem skepref03_Disk_Cut_of {d : (Option Addr)} {file : Int} {size : Int} {w : World} {K : Value → World → Prop} {KP : List PanicEntry → World → Prop} (h : W.skepref03_Disk_Cut d file size w K KP) : C.skepref03_Disk_Cut d file size w K KP :=
  xcall (E := E) (T := mkTab [] [] [(3, [])] [(3, [6, 7, 8, 9, 10, 11, 12, 13, 14, 15, 16, 17, 18, 19, 20, 21, 22, 23])] [(3, [0, 1, 2, 3, 4, 5, 6, 7, 8, 9, 10, 13, 14, 11, 12, 15, 16, 17])] [(3, [0, 0, 0, 0, 4, 20, 60, 124, 252, 0, 512, 1536, 4092, 1, 8193, 32767, 65535, 131071])] [] []) (c := Try.f25.body.getD .skip) (rs := [.tmp 6]) ⟨⟩ mixed Try.func25 (by kernel_rfl) (by kernel_rfl) [.pointer d, .int .i64 file, .int .i64 size] (by kernel_rfl) (by kernel_rfl) (.inr (by kernel_rfl)) (Eq.mp (by kernel_rfl) h)

def W.skepref03_Disk_Sync (d : (Option Addr)) (file : Int) (w : World) (K : Value → World → Prop) (KP : List PanicEntry → World → Prop) : Prop :=
   (cond ((file : Int) != 0)
    ((cond ((file : Int) != 1)
    (K (.int .i64 1) w)
    (∀ w1, Drew w w1 →
    withSome d fun a2 =>
    C.skepref03_Disk_Read d file w1 (fun r5 w3 => ∃ p4 : Sl, r5 = .slice p4.a p4.len p4.cap ∧
    ((0 : Int) ≤ file ∧ (file : Int) < (2 : Int)) ∧ (okVal true 2 (.agg #[.slice p4.a p4.len p4.cap, .slice none 0 0]) = true ∧ canPut w3 (Addr.add a2 (file.toNat * 2)) (.agg #[.slice p4.a p4.len p4.cap, .slice none 0 0])) ∧ ∀ w6 : World, w6 = putAt w3 (Addr.add a2 (file.toNat * 2)) (.agg #[.slice p4.a p4.len p4.cap, .slice none 0 0]) →
    K (.int .i64 0) w6) KP)))
    (∀ w7, Drew w w7 →
    withSome d fun a8 =>
    C.skepref03_Disk_Read d file w7 (fun r11 w9 => ∃ p10 : Sl, r11 = .slice p10.a p10.len p10.cap ∧
    ((0 : Int) ≤ file ∧ (file : Int) < (2 : Int)) ∧ (okVal true 2 (.agg #[.slice p10.a p10.len p10.cap, .slice none 0 0]) = true ∧ canPut w9 (Addr.add a8 (file.toNat * 2)) (.agg #[.slice p10.a p10.len p10.cap, .slice none 0 0])) ∧ ∀ w12 : World, w12 = putAt w9 (Addr.add a8 (file.toNat * 2)) (.agg #[.slice p10.a p10.len p10.cap, .slice none 0 0]) →
    K (.int .i64 0) w12) KP))
theorem skepref03_Disk_Sync_of {d : (Option Addr)} {file : Int} {w : World} {K : Value → World → Prop} {KP : List PanicEntry → World → Prop} (h : W.skepref03_Disk_Sync d file w K KP) : C.skepref03_Disk_Sync d file w K KP :=
  xcall (E := E) (T := mkTab [] [] [] [] [(3, [0, 1, 2, 3, 6, 7, 4, 5, 8, 9])] [(3, [0, 0, 0, 0, 12, 28, 1, 65, 255, 511])] [] []) (c := Try.f26.body.getD .skip) (rs := [.tmp 4]) ⟨⟩ mixed Try.func26 (by kernel_rfl) (by kernel_rfl) [.pointer d, .int .i64 file] (by kernel_rfl) (by kernel_rfl) (.inr (by kernel_rfl)) (Eq.mp (by kernel_rfl) h)

def W.skepref03_Disk_Crash (d : (Option Addr)) (a : Int) (p2_ : Int) (w : World) (K : Value → World → Prop) (KP : List PanicEntry → World → Prop) : Prop :=
   ∀ (b1 : Nat) (w2 : World), Alloc w b1 64 [.slice none 0 0, .slice none 0 0, .slice none 0 0, .slice none 0 0] w2 →
    ∀ w3, Drew w2 w3 →
    withSome d fun a4 =>
    ((0 : Int) ≤ 0 ∧ (0 : Int) < (2 : Int)) ∧ ∃ y5 : S.skepref03_F, (okVal true 2 (S.skepref03_F.v y5) = true ∧ rd w3 a4 (S.skepref03_F.v y5)) ∧
    C.skepref03_with y5 a w3 (fun r8 w6 => ∃ p7 : Sl, r8 = .slice p7.a p7.len p7.cap ∧
    ((0 : Int) ≤ 0 ∧ (0 : Int) < (2 : Int)) ∧ (okVal false 1 (.slice p7.a p7.len p7.cap) = true ∧ canPut w6 ⟨b1, 0, none⟩ (.slice p7.a p7.len p7.cap)) ∧ ∀ w9 : World, w9 = putAt w6 ⟨b1, 0, none⟩ (.slice p7.a p7.len p7.cap) →
    ∀ w10, Drew w9 w10 →
    withSome d fun a11 =>
    ((0 : Int) ≤ 1 ∧ (1 : Int) < (2 : Int)) ∧ ∃ y12 : S.skepref03_F, (okVal true 2 (S.skepref03_F.v y12) = true ∧ rd w10 (Addr.add a11 2) (S.skepref03_F.v y12)) ∧
    C.skepref03_with y12 p2_ w10 (fun r15 w13 => ∃ p14 : Sl, r15 = .slice p14.a p14.len p14.cap ∧
    ((0 : Int) ≤ 1 ∧ (1 : Int) < (2 : Int)) ∧ (okVal false 1 (.slice p14.a p14.len p14.cap) = true ∧ canPut w13 ⟨b1, 2, none⟩ (.slice p14.a p14.len p14.cap)) ∧ ∀ w16 : World, w16 = putAt w13 ⟨b1, 2, none⟩ (.slice p14.a p14.len p14.cap) →
    K (.pointer (some ⟨b1, 0, none⟩)) w16) KP) KP
theorem skepref03_Disk_Crash_of {d : (Option Addr)} {a : Int} {p2_ : Int} {w : World} {K : Value → World → Prop} {KP : List PanicEntry → World → Prop} (h : W.skepref03_Disk_Crash d a p2_ w K KP) : C.skepref03_Disk_Crash d a p2_ w K KP :=
  xcall (E := E) (T := mkTab [] [] [] [] [(2, [0, 1, 2, 3, 4, 5, 6, 8, 9, 7, 10, 11, 12]), (3, [0, 1, 2, 3, 4, 5, 6, 8, 9, 7, 10, 11, 12])] [(2, [0, 0, 2, 6, 14, 30, 0, 126, 1, 257, 1023, 2047, 4095]), (3, [0, 0, 2, 6, 14, 30, 0, 126, 1, 257, 1023, 2047, 4095])] [] []) (c := Try.f27.body.getD .skip) (rs := [.tmp 6]) ⟨⟩ mixed Try.func27 (by kernel_rfl) (by kernel_rfl) [.pointer d, .int .i64 a, .int .i64 p2_] (by kernel_rfl) (by kernel_rfl) (.inr (by kernel_rfl)) (Eq.mp (by kernel_rfl) h)

def W.skepref03_Disk_Read (d : (Option Addr)) (file : Int) (w : World) (K : Value → World → Prop) (KP : List PanicEntry → World → Prop) : Prop :=
   ∃ J1 : World → Prop,
    ((cond ((file : Int) != 0)
    ((cond ((file : Int) != 1)
    (K (.slice none 0 0) w)
    (J1 w)))
    (J1 w))) ∧
    ∀ e0 : Env, ∀ w2 : World, J1 w2 →
    ∀ w3, Drew w2 w3 →
    withSome d fun a4 =>
    ((0 : Int) ≤ file ∧ (file : Int) < (2 : Int)) ∧ ∃ y5 : S.skepref03_F, (okVal true 2 (S.skepref03_F.v y5) = true ∧ rd w3 (Addr.add a4 (file.toNat * 2)) (S.skepref03_F.v y5)) ∧
    withSome d fun a6 =>
    ((0 : Int) ≤ file ∧ (file : Int) < (2 : Int)) ∧ ∃ y7 : Sl, (okVal false 1 (.slice y7.a y7.len y7.cap) = true ∧ w3.cell? (Addr.add (Addr.add a6 (file.toNat * 2)) 1) = some (.slice y7.a y7.len y7.cap)) ∧
    C.skepref03_with y5 (y7.len : Int) w3 (fun r10 w8 => ∃ p9 : Sl, r10 = .slice p9.a p9.len p9.cap ∧
    K (.slice p9.a p9.len p9.cap) w8) KP
theorem skepref03_Disk_Read_of {d : (Option Addr)} {file : Int} {w : World} {K : Value → World → Prop} {KP : List PanicEntry → World → Prop} (h : W.skepref03_Disk_Read d file w K KP) : C.skepref03_Disk_Read d file w K KP :=
  xcall (E := E) (T := mkTab [] [] [(3, [])] [(3, [4, 5, 6, 7, 8, 9, 10])] [(3, [0, 1, 2, 3, 4, 5, 6, 7, 8, 9, 10, 11, 12, 13, 14, 15])] [(3, [0, 0, 1, 5, 15, 31, 0, 0, 64, 320, 960, 1984, 4032, 8128, 16383, 32767])] [] []) (c := Try.f28.body.getD .skip) (rs := [.tmp 4]) ⟨⟩ mixed Try.func28 (by kernel_rfl) (by kernel_rfl) [.pointer d, .int .i64 file] (by kernel_rfl) (by kernel_rfl) (.inr (by kernel_rfl)) (Eq.mp (by kernel_rfl) h)

def W.skepref03_Disk_Size (d : (Option Addr)) (file : Int) (w : World) (K : Value → World → Prop) (KP : List PanicEntry → World → Prop) : Prop :=
   C.skepref03_Disk_Read d file w (fun r3 w1 => ∃ p2 : Sl, r3 = .slice p2.a p2.len p2.cap ∧
    K (.int .i64 (p2.len : Int)) w1) KP
theorem skepref03_Disk_Size_of {d : (Option Addr)} {file : Int} {w : World} {K : Value → World → Prop} {KP : List PanicEntry → World → Prop} (h : W.skepref03_Disk_Size d file w K KP) : C.skepref03_Disk_Size d file w K KP :=
  xcall (E := E) (T := mkTab [] [] [] [] [] [] [] []) (c := Try.f29.body.getD .skip) (rs := [.tmp 4]) ⟨⟩ mixed Try.func29 (by kernel_rfl) (by kernel_rfl) [.pointer d, .int .i64 file] (by kernel_rfl) (by kernel_rfl) (.inr (by kernel_rfl)) (Eq.mp (by kernel_rfl) h)

def W.skepref03_Disk_Pending (d : (Option Addr)) (file : Int) (w : World) (K : Value → World → Prop) (KP : List PanicEntry → World → Prop) : Prop :=
   (cond ((file : Int) != 0)
    ((cond ((file : Int) != 1)
    (K (.int .i64 0) w)
    (withSome d fun a1 =>
    ((0 : Int) ≤ file ∧ (file : Int) < (2 : Int)) ∧ ∃ y2 : Sl, (okVal false 1 (.slice y2.a y2.len y2.cap) = true ∧ w.cell? (Addr.add (Addr.add a1 (file.toNat * 2)) 1) = some (.slice y2.a y2.len y2.cap)) ∧
    K (.int .i64 (y2.len : Int)) w)))
    (withSome d fun a3 =>
    ((0 : Int) ≤ file ∧ (file : Int) < (2 : Int)) ∧ ∃ y4 : Sl, (okVal false 1 (.slice y4.a y4.len y4.cap) = true ∧ w.cell? (Addr.add (Addr.add a3 (file.toNat * 2)) 1) = some (.slice y4.a y4.len y4.cap)) ∧
    K (.int .i64 (y4.len : Int)) w))
theorem skepref03_Disk_Pending_of {d : (Option Addr)} {file : Int} {w : World} {K : Value → World → Prop} {KP : List PanicEntry → World → Prop} (h : W.skepref03_Disk_Pending d file w K KP) : C.skepref03_Disk_Pending d file w K KP :=
  xcall (E := E) (T := mkTab [] [] [] [] [] [] [] []) (c := Try.f30.body.getD .skip) (rs := [.tmp 4]) ⟨⟩ mixed Try.func30 (by kernel_rfl) (by kernel_rfl) [.pointer d, .int .i64 file] (by kernel_rfl) (by kernel_rfl) (.inr (by kernel_rfl)) (Eq.mp (by kernel_rfl) h)

def W.skepref03_with (f : S.skepref03_F) (n : Int) (w : World) (K : Value → World → Prop) (KP : List PanicEntry → World → Prop) : Prop :=
   ∀ (b1 : Nat) (w2 : World), Alloc w b1 61 (S.skepref03_F.v f : Value).cells.toList w2 →
    ∃ y3 : Sl, (okVal false 1 (.slice y3.a y3.len y3.cap) = true ∧ w2.cell? ⟨b1, 0, none⟩ = some (.slice y3.a y3.len y3.cap)) ∧
    ∃ (q4 : Option Addr) (n5 c6 : Nat) (w7 : World), (Builtin.append_ #[22, 22] 22 #[.slice none 0 0, .slice y3.a y3.len y3.cap]).run Try.prog w2 = .ok (.slice q4 n5 c6) w7 ∧
    ∃ (I8 : Sl → Int → World → Prop) (M9 : Sl → Int → World → Nat),
    (∃ u10 : Sl, (.slice q4 n5 c6 : Value) = .slice u10.a u10.len u10.cap ∧ ∃ u11 : Int, (.int .i64 0 : Value) = .int .i64 u11 ∧ I8 u10 u11 w7) ∧
    ∀ e0 : Env, ∀ v12 : Sl, ∀ v13 : Int, ∀ w14 : World, I8 v12 v13 w14 →
    ∃ y15 : Sl, (okVal false 1 (.slice y15.a y15.len y15.cap) = true ∧ w14.cell? ⟨b1, 1, none⟩ = some (.slice y15.a y15.len y15.cap)) ∧
    (cond (decide ((v13 : Int) < (y15.len : Int)))
    ((cond (decide ((v13 : Int) < n))
    (∃ y16 : Sl, (okVal false 1 (.slice y16.a y16.len y16.cap) = true ∧ w14.cell? ⟨b1, 1, none⟩ = some (.slice y16.a y16.len y16.cap)) ∧
    ((0 : Int) ≤ v13 ∧ (v13 : Int) < (y16.len : Int)) ∧ withSome y16.a fun a17 =>
    ∃ y18 : Bool, (okVal false 1 (.bool y18) = true ∧ w14.cell? (Addr.add (Addr.add a17 (v13.toNat * 3)) 1) = some (.bool y18)) ∧
    (cond y18
    (∃ y19 : Sl, (okVal false 1 (.slice y19.a y19.len y19.cap) = true ∧ w14.cell? ⟨b1, 1, none⟩ = some (.slice y19.a y19.len y19.cap)) ∧
    ((0 : Int) ≤ v13 ∧ (v13 : Int) < (y19.len : Int)) ∧ withSome y19.a fun a20 =>
    ∃ y21 : Int, (okVal false 1 (.int .i64 y21) = true ∧ w14.cell? (Addr.add (Addr.add a20 (v13.toNat * 3)) 2) = some (.int .i64 y21)) ∧
    ((0 : Int) ≤ y21 ∧ (y21 : Int) ≤ (v12.cap : Int)) ∧ ∃ u22 : Sl, (.slice (if v12.cap = 0 then v12.a else Option.map (fun x => Addr.add x (0 * 1)) v12.a) (y21.toNat - 0) (v12.cap - 0) : Value) = .slice u22.a u22.len u22.cap ∧ ∃ u23 : Int, (.int .i64 (IntKind.i64.wrap (v13 + 1)) : Value) = .int .i64 u23 ∧ (I8 u22 u23 w14 ∧ M9 u22 u23 w14 < M9 v12 v13 w14))
    (∃ y24 : Sl, (okVal false 1 (.slice y24.a y24.len y24.cap) = true ∧ w14.cell? ⟨b1, 1, none⟩ = some (.slice y24.a y24.len y24.cap)) ∧
    ((0 : Int) ≤ v13 ∧ (v13 : Int) < (y24.len : Int)) ∧ withSome y24.a fun a25 =>
    ∃ y26 : Int, (okVal false 1 (.int .u8 y26) = true ∧ w14.cell? (Addr.add a25 (v13.toNat * 3)) = some (.int .u8 y26)) ∧
    ∀ (b27 : Nat) (w28 : World), Alloc w14 b27 5 [.int .u8 y26] w28 →
    ∃ (q29 : Option Addr) (n30 c31 : Nat) (w32 : World), (Builtin.append_ #[22, 22] 22 #[.slice v12.a v12.len v12.cap, .slice (some ⟨b27, 0, none⟩) 1 1]).run Try.prog w28 = .ok (.slice q29 n30 c31) w32 ∧
    ∃ u33 : Sl, (.slice q29 n30 c31 : Value) = .slice u33.a u33.len u33.cap ∧ ∃ u34 : Int, (.int .i64 (IntKind.i64.wrap (v13 + 1)) : Value) = .int .i64 u34 ∧ (I8 u33 u34 w32 ∧ M9 u33 u34 w32 < M9 v12 v13 w14))))
    (K (.slice v12.a v12.len v12.cap) w14)))
    (K (.slice v12.a v12.len v12.cap) w14))
theorem skepref03_with_of {f : S.skepref03_F} {n : Int} {w : World} {K : Value → World → Prop} {KP : List PanicEntry → World → Prop} (h : W.skepref03_with f n w K KP) : C.skepref03_with f n w K KP :=
  xcall (E := E) (T := mkTab [(3, [(5, 22), (6, 3)])] [(3, [5, 6, 10, 11, 12, 13, 14, 15, 16, 17, 18, 19, 20, 21, 22, 23, 24, 25, 26, 27, 28, 29, 30, 31, 32, 33, 34, 35, 36, 37, 38, 39, 40, 41, 42, 43, 44])] [] [] [] [] [] []) (c := Try.f31.body.getD .skip) (rs := [.tmp 4]) ⟨⟩ mixed Try.func31 (by kernel_rfl) (by kernel_rfl) [S.skepref03_F.v f, .int .i64 n] (by kernel_rfl) (by kernel_rfl) (.inr (by kernel_rfl)) (Eq.mp (by kernel_rfl) h)
end Go.Proofs.Ytjjleboohldkiaa
