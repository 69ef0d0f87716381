/- Printed by vc.py: what functions of this seat come to, as predicates of typed values, each with its proof. No conditions. -/
import Derived.Test.YtocbjadhcfjfiaaTab
namespace Go.Proofs.Ytocbjadhcfjfiaa
open Go.Eng
set_option linter.unusedVariables false
set_option maxRecDepth 100000
def W.skeplaw05_CodecNumbers (v : Int) (p1_ : Sl) (p2_ : Int) (w : World) (K : Value → World → Prop) (KP : List PanicEntry → World → Prop) : Prop :=
   ∃ (q1 : Option Addr) (n2 c3 : Nat) (w4 : World), (Builtin.append_ #[22, 22] 22 #[.slice none 0 0, .slice p1_.a p1_.len p1_.cap]).run Try.prog w = .ok (.slice q1 n2 c3) w4 ∧
    ∀ (b5 : Nat) (w6 : World), Alloc w4 b5 5 [.int .u8 99] w6 →
    ∃ (q7 : Option Addr) (n8 c9 : Nat) (w10 : World), (Builtin.append_ #[22, 22] 22 #[.slice q1 n2 c3, .slice (some ⟨b5, 0, none⟩) 1 1]).run Try.prog w6 = .ok (.slice q7 n8 c9) w10 ∧
    ((0 : Int) ≤ (p1_.len : Int) ∧ ((p1_.len : Int) : Int) ≤ (c9 : Int)) ∧ C.codec_PutNumber (⟨(if c9 = 0 then q7 else Option.map (fun x => Addr.add x (0 * 1)) q7), (p1_.len : Int).toNat - 0, c9 - 0⟩) v w10 (fun r13 w11 => ∃ p12 : Sl, r13 = .slice p12.a p12.len p12.cap ∧
    ∀ w14, Drew w11 w14 →
    ∃ s15 : ByteArray, (s15.size = p12.len ∧ (0 < p12.len → withSome p12.a fun a => Go.Eng.World.has w14 a (bytesV s15))) ∧
    ∃ s16 : ByteArray, (s16.size = p1_.len ∧ (0 < p1_.len → withSome p1_.a fun a => Go.Eng.World.has w14 a (bytesV s16))) ∧
    C.skepref05_Number v w14 (fun r19 w17 => ∃ p18 : Sl, r19 = .slice p18.a p18.len p18.cap ∧
    (0 < p1_.len → withSome p1_.a fun a => Go.Eng.World.has w17 a (bytesV s16)) ∧ (0 < p12.len → withSome p12.a fun a => Go.Eng.World.has w17 a (bytesV s15)) ∧ ∃ s20 : ByteArray, (s20.size = p18.len ∧ (0 < p18.len → withSome p18.a fun a => Go.Eng.World.has w17 a (bytesV s20))) ∧
    s16.size + s20.size ≤ 9223372036854775807 ∧ (cond (!(strEq s15 (s16 ++ s20)))
    (K (.bool false) w17)
    (((0 : Int) ≤ (IntKind.i64.wrap ((p1_.len : Int) + 1)) ∧ ((IntKind.i64.wrap ((p1_.len : Int) + 1)) : Int) ≤ (c9 - 0 : Int)) ∧ ((0 : Int) ≤ (p1_.len : Int) ∧ ((p1_.len : Int) : Int) < ((IntKind.i64.wrap ((p1_.len : Int) + 1)).toNat - 0 : Int)) ∧ withSome (if c9 - 0 = 0 then (if c9 = 0 then q7 else Option.map (fun x => Addr.add x (0 * 1)) q7) else Option.map (fun x => Addr.add x (0 * 1)) (if c9 = 0 then q7 else Option.map (fun x => Addr.add x (0 * 1)) q7)) fun a21 =>
    ∃ y22 : Int, (okVal false 1 (.int .u8 y22) = true ∧ w17.cell? (Addr.add a21 ((p1_.len : Int).toNat * 1)) = some (.int .u8 y22)) ∧
    (cond ((y22 : Int) != 99)
    (K (.bool false) w17)
    (C.codec_GetNumber p12 (p1_.len : Int) w17 (fun r25 w23 => ∃ p24 : (Int × Int × Bool), r25 = .tuple #[.int .i64 p24.1, .int .i64 p24.2.1, .bool p24.2.2] ∧
    (cond ((p24.1 : Int) != v)
    (K (.bool false) w23)
    ((cond ((p24.2.1 : Int) != (p12.len : Int))
    (K (.bool false) w23)
    ((cond (!p24.2.2)
    (K (.bool false) w23)
    (C.skeplaw00_CopyBytes p1_ w23 (fun r28 w26 => ∃ p27 : Sl, r28 = .slice p27.a p27.len p27.cap ∧
    C.codec_GetNumber p27 p2_ w26 (fun r31 w29 => ∃ p30 : (Int × Int × Bool), r31 = .tuple #[.int .i64 p30.1, .int .i64 p30.2.1, .bool p30.2.2] ∧
    (cond (decide ((p2_ : Int) < 0))
    ((cond ((p30.1 : Int) == 0)
    ((cond ((p30.2.1 : Int) == 0)
    ((cond (!p30.2.2)
    (C.skeplaw05_awake  w29 (fun r34 w32 => ∃ p33 : Bool, r34 = .bool p33 ∧
    K (.bool p33) w32) KP)
    (K (.bool false) w29)))
    (K (.bool false) w29)))
    (K (.bool false) w29)))
    ((cond (decide ((p2_ : Int) ≥ (p1_.len : Int)))
    ((cond ((p30.1 : Int) == 0)
    ((cond ((p30.2.1 : Int) == 0)
    ((cond (!p30.2.2)
    (C.skeplaw05_awake  w29 (fun r37 w35 => ∃ p36 : Bool, r37 = .bool p36 ∧
    K (.bool p36) w35) KP)
    (K (.bool false) w29)))
    (K (.bool false) w29)))
    (K (.bool false) w29)))
    (∀ (b38 : Nat) (w39 : World), Alloc w29 b38 31 [.slice p1_.a p1_.len p1_.cap, .int .i64 p2_, .bool false] w39 →
    C.skepref05_R_Number (some ⟨b38, 0, none⟩) w39 (fun r42 w40 => ∃ p41 : Int, r42 = .int .i64 p41 ∧
    ∃ y43 : Bool, (okVal false 1 (.bool y43) = true ∧ w40.cell? ⟨b38, 2, none⟩ = some (.bool y43)) ∧
    (cond y43
    ((cond ((p30.1 : Int) == 0)
    ((cond ((p30.2.1 : Int) == 0)
    ((cond (!p30.2.2)
    (C.skeplaw05_awake  w40 (fun r46 w44 => ∃ p45 : Bool, r46 = .bool p45 ∧
    K (.bool p45) w44) KP)
    (K (.bool false) w40)))
    (K (.bool false) w40)))
    (K (.bool false) w40)))
    ((cond ((p30.1 : Int) == p41)
    (∃ y47 : Int, (okVal false 1 (.int .i64 y47) = true ∧ w40.cell? ⟨b38, 1, none⟩ = some (.int .i64 y47)) ∧
    (cond ((p30.2.1 : Int) == y47)
    ((cond p30.2.2
    (C.skeplaw05_awake  w40 (fun r50 w48 => ∃ p49 : Bool, r50 = .bool p49 ∧
    K (.bool p49) w48) KP)
    (K (.bool false) w40)))
    (K (.bool false) w40)))
    (K (.bool false) w40))))) KP))))) KP) KP))))))) KP))))) KP) KP
theorem skeplaw05_CodecNumbers_of {v : Int} {p1_ : Sl} {p2_ : Int} {w : World} {K : Value → World → Prop} {KP : List PanicEntry → World → Prop} (h : W.skeplaw05_CodecNumbers v p1_ p2_ w K KP) : C.skeplaw05_CodecNumbers v p1_ p2_ w K KP :=
  xcall (E := E) (T := mkTab [] [] [] [] [(3, [0, 1, 2, 3, 4, 5, 6, 7, 8, 9, 10, 11, 12, 13, 14, 15, 16, 17, 18, 19, 20])] [(3, [0, 1, 0, 4, 0, 16, 48, 124, 255, 511, 1023, 1023, 3071, 7167, 16383, 1023, 33791, 131071, 262143, 524287, 1048575])] []) (c := Try.f3.body.getD .skip) (rs := [.tmp 6]) ⟨⟩ mixed Try.func3 (by kernel_rfl) (by kernel_rfl) [.int .i64 v, .slice p1_.a p1_.len p1_.cap, .int .i64 p2_] (by kernel_rfl) (by kernel_rfl) (.inr (by kernel_rfl)) (Eq.mp (by kernel_rfl) h)

def W.skeplaw05_CodecOps (o : S.api_Op) (p1_ : Sl) (w : World) (K : Value → World → Prop) (KP : List PanicEntry → World → Prop) : Prop :=
   ∀ (b1 : Nat) (w2 : World), Alloc w b1 35 (S.api_Op.v o : Value).cells.toList w2 →
    ∃ y3 : S.api_Op, (okVal true 3 (S.api_Op.v y3) = true ∧ rd w2 ⟨b1, 0, none⟩ (S.api_Op.v y3)) ∧
    C.codec_PutOp y3 w2 (fun r6 w4 => ∃ p5 : Sl, r6 = .slice p5.a p5.len p5.cap ∧
    C.skeplaw00_CopyBytes p5 w4 (fun r9 w7 => ∃ p8 : Sl, r9 = .slice p8.a p8.len p8.cap ∧
    C.codec_GetOp p8 w7 (fun r12 w10 => ∃ p11 : (S.api_Op × Int), r12 = .tuple #[S.api_Op.v p11.1, .int .i64 p11.2] ∧
    ∀ (b13 : Nat) (w14 : World), Alloc w10 b13 35 [.int .i64 0, .int .i64 0, .int .i64 0] w14 →
    (okVal true 3 (S.api_Op.v p11.1) = true ∧ canPut w14 ⟨b13, 0, none⟩ (S.api_Op.v p11.1)) ∧ ∀ w15 : World, w15 = putAt w14 ⟨b13, 0, none⟩ (S.api_Op.v p11.1) →
    C.skeplaw00_CopyBytes p1_ w15 (fun r18 w16 => ∃ p17 : Sl, r18 = .slice p17.a p17.len p17.cap ∧
    C.codec_GetOp p17 w16 (fun r21 w19 => ∃ p20 : (S.api_Op × Int), r21 = .tuple #[S.api_Op.v p20.1, .int .i64 p20.2] ∧
    ∀ (b22 : Nat) (w23 : World), Alloc w19 b22 35 [.int .i64 0, .int .i64 0, .int .i64 0] w23 →
    (okVal true 3 (S.api_Op.v p20.1) = true ∧ canPut w23 ⟨b22, 0, none⟩ (S.api_Op.v p20.1)) ∧ ∀ w24 : World, w24 = putAt w23 ⟨b22, 0, none⟩ (S.api_Op.v p20.1) →
    C.skepref05_GetOp p1_ w24 (fun r27 w25 => ∃ p26 : (S.api_Op × Bool), r27 = .tuple #[S.api_Op.v p26.1, .bool p26.2] ∧
    ∀ (b28 : Nat) (w29 : World), Alloc w25 b28 35 [.int .i64 0, .int .i64 0, .int .i64 0] w29 →
    (okVal true 3 (S.api_Op.v p26.1) = true ∧ canPut w29 ⟨b28, 0, none⟩ (S.api_Op.v p26.1)) ∧ ∀ w30 : World, w30 = putAt w29 ⟨b28, 0, none⟩ (S.api_Op.v p26.1) →
    ∀ w31, Drew w30 w31 →
    ∃ s32 : ByteArray, (s32.size = p5.len ∧ (0 < p5.len → withSome p5.a fun a => Go.Eng.World.has w31 a (bytesV s32))) ∧
    ∃ y33 : S.api_Op, (okVal true 3 (S.api_Op.v y33) = true ∧ rd w31 ⟨b1, 0, none⟩ (S.api_Op.v y33)) ∧
    C.skepref05_PutOp y33 w31 (fun r36 w34 => ∃ p35 : Sl, r36 = .slice p35.a p35.len p35.cap ∧
    (0 < p5.len → withSome p5.a fun a => Go.Eng.World.has w34 a (bytesV s32)) ∧ ∃ s37 : ByteArray, (s37.size = p35.len ∧ (0 < p35.len → withSome p35.a fun a => Go.Eng.World.has w34 a (bytesV s37))) ∧
    (cond (strEq s32 s37)
    ((cond ((p11.2 : Int) == 0)
    (∃ y38 : S.api_Op, (okVal true 3 (S.api_Op.v y38) = true ∧ rd w34 ⟨b13, 0, none⟩ (S.api_Op.v y38)) ∧
    ∃ y39 : S.api_Op, (okVal true 3 (S.api_Op.v y39) = true ∧ rd w34 ⟨b1, 0, none⟩ (S.api_Op.v y39)) ∧
    (cond (((y38.Kind : Int) == y39.Kind) && (((y38.A : Int) == y39.A) && (((y38.B : Int) == y39.B) && true)))
    ((cond (((p20.2 : Int) == 0) == p26.2)
    ((cond p26.2
    (∃ y40 : S.api_Op, (okVal true 3 (S.api_Op.v y40) = true ∧ rd w34 ⟨b22, 0, none⟩ (S.api_Op.v y40)) ∧
    ∃ y41 : S.api_Op, (okVal true 3 (S.api_Op.v y41) = true ∧ rd w34 ⟨b28, 0, none⟩ (S.api_Op.v y41)) ∧
    (cond (((y40.Kind : Int) == y41.Kind) && (((y40.A : Int) == y41.A) && (((y40.B : Int) == y41.B) && true)))
    (C.skeplaw05_awake  w34 (fun r44 w42 => ∃ p43 : Bool, r44 = .bool p43 ∧
    K (.bool p43) w42) KP)
    (K (.bool false) w34)))
    ((cond ((p20.2 : Int) == 4)
    (∃ y45 : S.api_Op, (okVal true 3 (S.api_Op.v y45) = true ∧ rd w34 ⟨b22, 0, none⟩ (S.api_Op.v y45)) ∧
    ∃ y46 : S.api_Op, (okVal true 3 (S.api_Op.v y46) = true ∧ rd w34 ⟨b28, 0, none⟩ (S.api_Op.v y46)) ∧
    (cond (((y45.Kind : Int) == y46.Kind) && (((y45.A : Int) == y46.A) && (((y45.B : Int) == y46.B) && true)))
    (C.skeplaw05_awake  w34 (fun r49 w47 => ∃ p48 : Bool, r49 = .bool p48 ∧
    K (.bool p48) w47) KP)
    (K (.bool false) w34)))
    (K (.bool false) w34)))))
    (K (.bool false) w34)))
    (K (.bool false) w34)))
    (K (.bool false) w34)))
    (K (.bool false) w34))) KP) KP) KP) KP) KP) KP) KP
theorem skeplaw05_CodecOps_of {o : S.api_Op} {p1_ : Sl} {w : World} {K : Value → World → Prop} {KP : List PanicEntry → World → Prop} (h : W.skeplaw05_CodecOps o p1_ w K KP) : C.skeplaw05_CodecOps o p1_ w K KP :=
  xcall (E := E) (T := mkTab [] [] [] [] [(5, [0, 1, 2, 3, 4, 5, 6, 7, 8, 9, 10, 11, 12, 13, 14, 15, 16, 17, 18, 19, 20, 21, 22, 23, 24, 25, 26, 27, 28, 29, 30, 31, 32, 33, 34, 35, 36])] [(5, [0, 1, 0, 4, 12, 31, 63, 127, 255, 511, 1023, 2047, 2047, 8191, 16383, 32767, 65535, 131071, 65535, 524287, 1048575, 2097151, 4194303, 8388607, 16777215, 33554431, 67108863, 134217727, 268435455, 536870911, 536870911, 2147483647, 4294967295, 8589934591, 17179869183, 34359738367, 68719476735])] []) (c := Try.f4.body.getD .skip) (rs := [.tmp 4]) ⟨⟩ mixed Try.func4 (by kernel_rfl) (by kernel_rfl) [S.api_Op.v o, .slice p1_.a p1_.len p1_.cap] (by kernel_rfl) (by kernel_rfl) (.inr (by kernel_rfl)) (Eq.mp (by kernel_rfl) h)

def W.skeplaw05_CodecSizes (a : Int) (p1_ : Int) (w : World) (K : Value → World → Prop) (KP : List PanicEntry → World → Prop) : Prop :=
   C.codec_PutNumber (⟨none, 0, 0⟩) a w (fun r3 w1 => ∃ p2 : Sl, r3 = .slice p2.a p2.len p2.cap ∧
    C.codec_PutNumber (⟨none, 0, 0⟩) p1_ w1 (fun r6 w4 => ∃ p5 : Sl, r6 = .slice p5.a p5.len p5.cap ∧
    (cond (decide (((p2.len : Int) : Int) < 1))
    (K (.bool false) w4)
    ((cond (decide (((p2.len : Int) : Int) > 10))
    (K (.bool false) w4)
    ((cond (decide (((p5.len : Int) : Int) < 1))
    (K (.bool false) w4)
    ((cond (decide (((p5.len : Int) : Int) > 10))
    (K (.bool false) w4)
    (∃ J7 : World → Prop,
    (bodied Try.prog 22 = true ∧ C.skeplaw05_CodecSizes_1 a w4 (fun r10 w8 => ∃ p9 : Int, r10 = .int .u64 p9 ∧
    bodied Try.prog 22 = true ∧ C.skeplaw05_CodecSizes_1 p1_ w8 (fun r13 w11 => ∃ p12 : Int, r13 = .int .u64 p12 ∧
    (cond (decide ((p9 : Int) ≤ p12))
    ((cond (decide (((p2.len : Int) : Int) > (p5.len : Int)))
    (K (.bool false) w11)
    (bodied Try.prog 22 = true ∧ C.skeplaw05_CodecSizes_1 p1_ w11 (fun r16 w14 => ∃ p15 : Int, r16 = .int .u64 p15 ∧
    bodied Try.prog 22 = true ∧ C.skeplaw05_CodecSizes_1 a w14 (fun r19 w17 => ∃ p18 : Int, r19 = .int .u64 p18 ∧
    (cond (decide ((p15 : Int) ≤ p18))
    ((cond (decide (((p5.len : Int) : Int) > (p2.len : Int)))
    (K (.bool false) w17)
    (J7 w17)))
    (J7 w17))) KP) KP)))
    (bodied Try.prog 22 = true ∧ C.skeplaw05_CodecSizes_1 p1_ w11 (fun r22 w20 => ∃ p21 : Int, r22 = .int .u64 p21 ∧
    bodied Try.prog 22 = true ∧ C.skeplaw05_CodecSizes_1 a w20 (fun r25 w23 => ∃ p24 : Int, r25 = .int .u64 p24 ∧
    (cond (decide ((p21 : Int) ≤ p24))
    ((cond (decide (((p5.len : Int) : Int) > (p2.len : Int)))
    (K (.bool false) w23)
    (J7 w23)))
    (J7 w23))) KP) KP))) KP) KP) ∧
    ∀ e0 : Env, ∀ w26 : World, J7 w26 →
    (cond (decide ((a : Int) ≥ (-64)))
    ((cond ((((p2.len : Int) : Int) == 1) == (decide ((a : Int) < 64)))
    (C.skeplaw05_awake  w26 (fun r29 w27 => ∃ p28 : Bool, r29 = .bool p28 ∧
    K (.bool p28) w27) KP)
    (K (.bool false) w26)))
    ((cond ((((p2.len : Int) : Int) == 1) == false)
    (C.skeplaw05_awake  w26 (fun r32 w30 => ∃ p31 : Bool, r32 = .bool p31 ∧
    K (.bool p31) w30) KP)
    (K (.bool false) w26))))))))))))) KP) KP
theorem skeplaw05_CodecSizes_of {a : Int} {p1_ : Int} {w : World} {K : Value → World → Prop} {KP : List PanicEntry → World → Prop} (h : W.skeplaw05_CodecSizes a p1_ w K KP) : C.skeplaw05_CodecSizes a p1_ w K KP :=
  xcall (E := E) (T := mkTab [] [] [(8, [])] [(8, [4, 28, 29, 30, 31, 32, 33, 34, 35, 36, 37, 38, 39, 40, 41, 42, 43, 44, 45, 46, 47, 48, 49, 50, 51, 52, 53])] [] [] []) (c := Try.f5.body.getD .skip) (rs := [.tmp 4]) ⟨⟩ mixed Try.func5 (by kernel_rfl) (by kernel_rfl) [.int .i64 a, .int .i64 p1_] (by kernel_rfl) (by kernel_rfl) (.inr (by kernel_rfl)) (Eq.mp (by kernel_rfl) h)

def W.skeplaw05_CodecUnlike (a : S.api_Op) (p1_ : S.api_Op) (t : S.api_Tele) (u : S.api_Tele) (w : World) (K : Value → World → Prop) (KP : List PanicEntry → World → Prop) : Prop :=
   ∀ (b1 : Nat) (w2 : World), Alloc w b1 35 (S.api_Op.v a : Value).cells.toList w2 →
    ∀ (b3 : Nat) (w4 : World), Alloc w2 b3 35 (S.api_Op.v p1_ : Value).cells.toList w4 →
    ∀ (b5 : Nat) (w6 : World), Alloc w4 b5 53 (S.api_Tele.v t : Value).cells.toList w6 →
    ∀ (b7 : Nat) (w8 : World), Alloc w6 b7 53 (S.api_Tele.v u : Value).cells.toList w8 →
    ∀ w9, Drew w8 w9 →
    ∃ y10 : S.api_Op, (okVal true 3 (S.api_Op.v y10) = true ∧ rd w9 ⟨b1, 0, none⟩ (S.api_Op.v y10)) ∧
    ∃ y11 : S.api_Op, (okVal true 3 (S.api_Op.v y11) = true ∧ rd w9 ⟨b3, 0, none⟩ (S.api_Op.v y11)) ∧
    ∃ y12 : S.api_Op, (okVal true 3 (S.api_Op.v y12) = true ∧ rd w9 ⟨b1, 0, none⟩ (S.api_Op.v y12)) ∧
    ∃ y13 : S.api_Op, (okVal true 3 (S.api_Op.v y13) = true ∧ rd w9 ⟨b3, 0, none⟩ (S.api_Op.v y13)) ∧
    C.codec_PutOp y10 w9 (fun r16 w14 => ∃ p15 : Sl, r16 = .slice p15.a p15.len p15.cap ∧
    (rd w14 ⟨b3, 0, none⟩ (S.api_Op.v y13)) ∧ (rd w14 ⟨b1, 0, none⟩ (S.api_Op.v y12)) ∧ (rd w14 ⟨b3, 0, none⟩ (S.api_Op.v y11)) ∧ ∃ s17 : ByteArray, (s17.size = p15.len ∧ (0 < p15.len → withSome p15.a fun a => Go.Eng.World.has w14 a (bytesV s17))) ∧
    C.codec_PutOp y11 w14 (fun r20 w18 => ∃ p19 : Sl, r20 = .slice p19.a p19.len p19.cap ∧
    (0 < p15.len → withSome p15.a fun a => Go.Eng.World.has w18 a (bytesV s17)) ∧ (rd w18 ⟨b3, 0, none⟩ (S.api_Op.v y13)) ∧ (rd w18 ⟨b1, 0, none⟩ (S.api_Op.v y12)) ∧ ∃ s21 : ByteArray, (s21.size = p19.len ∧ (0 < p19.len → withSome p19.a fun a => Go.Eng.World.has w18 a (bytesV s21))) ∧
    (cond ((strEq s17 s21) == (((y12.Kind : Int) == y13.Kind) && (((y12.A : Int) == y13.A) && (((y12.B : Int) == y13.B) && true))))
    (∃ y22 : S.api_Tele, (okVal true 19 (S.api_Tele.v y22) = true ∧ rd w18 ⟨b5, 0, none⟩ (S.api_Tele.v y22)) ∧
    ∃ y23 : S.api_Tele, (okVal true 19 (S.api_Tele.v y23) = true ∧ rd w18 ⟨b7, 0, none⟩ (S.api_Tele.v y23)) ∧
    ∃ y24 : S.api_Tele, (okVal true 19 (S.api_Tele.v y24) = true ∧ rd w18 ⟨b5, 0, none⟩ (S.api_Tele.v y24)) ∧
    ∃ y25 : S.api_Tele, (okVal true 19 (S.api_Tele.v y25) = true ∧ rd w18 ⟨b7, 0, none⟩ (S.api_Tele.v y25)) ∧
    C.codec_PutTele y22 w18 (fun r28 w26 => ∃ p27 : Sl, r28 = .slice p27.a p27.len p27.cap ∧
    (rd w26 ⟨b7, 0, none⟩ (S.api_Tele.v y25)) ∧ (rd w26 ⟨b5, 0, none⟩ (S.api_Tele.v y24)) ∧ (rd w26 ⟨b7, 0, none⟩ (S.api_Tele.v y23)) ∧ ∃ s29 : ByteArray, (s29.size = p27.len ∧ (0 < p27.len → withSome p27.a fun a => Go.Eng.World.has w26 a (bytesV s29))) ∧
    C.codec_PutTele y23 w26 (fun r32 w30 => ∃ p31 : Sl, r32 = .slice p31.a p31.len p31.cap ∧
    (0 < p27.len → withSome p27.a fun a => Go.Eng.World.has w30 a (bytesV s29)) ∧ (rd w30 ⟨b7, 0, none⟩ (S.api_Tele.v y25)) ∧ (rd w30 ⟨b5, 0, none⟩ (S.api_Tele.v y24)) ∧ ∃ s33 : ByteArray, (s33.size = p31.len ∧ (0 < p31.len → withSome p31.a fun a => Go.Eng.World.has w30 a (bytesV s33))) ∧
    (cond ((strEq s29 s33) == (((y24.Kind : Int) == y25.Kind) && (((y24.Robot : Int) == y25.Robot) && (((y24.Epoch : Int) == y25.Epoch) && (((y24.Num : Int) == y25.Num) && ((((y24.Move.Kind : Int) == y25.Move.Kind) && (((y24.Move.Dir : Int) == y25.Move.Dir) && (((y24.Move.N : Int) == y25.Move.N) && (((((y24.Move.From.At.X : Int) == y25.Move.From.At.X) && (((y24.Move.From.At.Y : Int) == y25.Move.From.At.Y) && true)) && ((y24.Move.From.Down == y25.Move.From.Down) && true)) && (((((y24.Move.To.At.X : Int) == y25.Move.To.At.X) && (((y24.Move.To.At.Y : Int) == y25.Move.To.At.Y) && true)) && ((y24.Move.To.Down == y25.Move.To.Down) && true)) && (((y24.Move.At : Int) == y25.Move.At) && (((y24.Move.End : Int) == y25.Move.End) && true))))))) && (((((y24.Pose.At.X : Int) == y25.Pose.At.X) && (((y24.Pose.At.Y : Int) == y25.Pose.At.Y) && true)) && ((y24.Pose.Down == y25.Pose.Down) && true)) && (((y24.Load : Int) == y25.Load) && true))))))))
    (C.skeplaw05_awake  w30 (fun r36 w34 => ∃ p35 : Bool, r36 = .bool p35 ∧
    K (.bool p35) w34) KP)
    (K (.bool false) w30))) KP) KP)
    (K (.bool false) w18))) KP) KP
theorem skeplaw05_CodecUnlike_of {a : S.api_Op} {p1_ : S.api_Op} {t : S.api_Tele} {u : S.api_Tele} {w : World} {K : Value → World → Prop} {KP : List PanicEntry → World → Prop} (h : W.skeplaw05_CodecUnlike a p1_ t u w K KP) : C.skeplaw05_CodecUnlike a p1_ t u w K KP :=
  xcall (E := E) (T := mkTab [] [] [] [] [(1, [0, 3, 7, 8, 9, 1, 2, 4, 5, 6, 10, 11, 12, 15, 19, 20, 21, 13, 14, 16, 17, 18, 22, 23, 24, 25, 26, 27])] [(1, [0, 1, 3, 0, 11, 27, 63, 0, 0, 384, 1023, 2047, 4095, 8191, 16383, 4095, 49151, 114687, 262143, 4095, 4095, 1576959, 4194303, 8388607, 16777215, 33554431, 67108863, 134217727])] []) (c := Try.f6.body.getD .skip) (rs := [.tmp 8]) ⟨⟩ mixed Try.func6 (by kernel_rfl) (by kernel_rfl) [S.api_Op.v a, S.api_Op.v p1_, S.api_Tele.v t, S.api_Tele.v u] (by kernel_rfl) (by kernel_rfl) (.inr (by kernel_rfl)) (Eq.mp (by kernel_rfl) h)

def W.skeplaw05_CodecTeles (t : S.api_Tele) (p1_ : Sl) (w : World) (K : Value → World → Prop) (KP : List PanicEntry → World → Prop) : Prop :=
   ∀ (b1 : Nat) (w2 : World), Alloc w b1 53 (S.api_Tele.v t : Value).cells.toList w2 →
    ∃ y3 : S.api_Tele, (okVal true 19 (S.api_Tele.v y3) = true ∧ rd w2 ⟨b1, 0, none⟩ (S.api_Tele.v y3)) ∧
    C.codec_PutTele y3 w2 (fun r6 w4 => ∃ p5 : Sl, r6 = .slice p5.a p5.len p5.cap ∧
    C.skeplaw00_CopyBytes p5 w4 (fun r9 w7 => ∃ p8 : Sl, r9 = .slice p8.a p8.len p8.cap ∧
    C.codec_GetTele p8 w7 (fun r12 w10 => ∃ p11 : (S.api_Tele × Int), r12 = .tuple #[S.api_Tele.v p11.1, .int .i64 p11.2] ∧
    ∀ (b13 : Nat) (w14 : World), Alloc w10 b13 53 [.int .i64 0, .int .i64 0, .int .i64 0, .int .i64 0, .int .i64 0, .int .i64 0, .int .i64 0, .int .i64 0, .int .i64 0, .bool false, .int .i64 0, .int .i64 0, .bool false, .int .i64 0, .int .i64 0, .int .i64 0, .int .i64 0, .bool false, .int .i64 0] w14 →
    (okVal true 19 (S.api_Tele.v p11.1) = true ∧ canPut w14 ⟨b13, 0, none⟩ (S.api_Tele.v p11.1)) ∧ ∀ w15 : World, w15 = putAt w14 ⟨b13, 0, none⟩ (S.api_Tele.v p11.1) →
    C.skeplaw00_CopyBytes p1_ w15 (fun r18 w16 => ∃ p17 : Sl, r18 = .slice p17.a p17.len p17.cap ∧
    C.codec_GetTele p17 w16 (fun r21 w19 => ∃ p20 : (S.api_Tele × Int), r21 = .tuple #[S.api_Tele.v p20.1, .int .i64 p20.2] ∧
    ∀ (b22 : Nat) (w23 : World), Alloc w19 b22 53 [.int .i64 0, .int .i64 0, .int .i64 0, .int .i64 0, .int .i64 0, .int .i64 0, .int .i64 0, .int .i64 0, .int .i64 0, .bool false, .int .i64 0, .int .i64 0, .bool false, .int .i64 0, .int .i64 0, .int .i64 0, .int .i64 0, .bool false, .int .i64 0] w23 →
    (okVal true 19 (S.api_Tele.v p20.1) = true ∧ canPut w23 ⟨b22, 0, none⟩ (S.api_Tele.v p20.1)) ∧ ∀ w24 : World, w24 = putAt w23 ⟨b22, 0, none⟩ (S.api_Tele.v p20.1) →
    C.skepref05_GetTele p1_ w24 (fun r27 w25 => ∃ p26 : (S.api_Tele × Bool), r27 = .tuple #[S.api_Tele.v p26.1, .bool p26.2] ∧
    ∀ (b28 : Nat) (w29 : World), Alloc w25 b28 53 [.int .i64 0, .int .i64 0, .int .i64 0, .int .i64 0, .int .i64 0, .int .i64 0, .int .i64 0, .int .i64 0, .int .i64 0, .bool false, .int .i64 0, .int .i64 0, .bool false, .int .i64 0, .int .i64 0, .int .i64 0, .int .i64 0, .bool false, .int .i64 0] w29 →
    (okVal true 19 (S.api_Tele.v p26.1) = true ∧ canPut w29 ⟨b28, 0, none⟩ (S.api_Tele.v p26.1)) ∧ ∀ w30 : World, w30 = putAt w29 ⟨b28, 0, none⟩ (S.api_Tele.v p26.1) →
    ∀ w31, Drew w30 w31 →
    ∃ s32 : ByteArray, (s32.size = p5.len ∧ (0 < p5.len → withSome p5.a fun a => Go.Eng.World.has w31 a (bytesV s32))) ∧
    ∃ y33 : S.api_Tele, (okVal true 19 (S.api_Tele.v y33) = true ∧ rd w31 ⟨b1, 0, none⟩ (S.api_Tele.v y33)) ∧
    C.skepref05_PutTele y33 w31 (fun r36 w34 => ∃ p35 : Sl, r36 = .slice p35.a p35.len p35.cap ∧
    (0 < p5.len → withSome p5.a fun a => Go.Eng.World.has w34 a (bytesV s32)) ∧ ∃ s37 : ByteArray, (s37.size = p35.len ∧ (0 < p35.len → withSome p35.a fun a => Go.Eng.World.has w34 a (bytesV s37))) ∧
    (cond (strEq s32 s37)
    ((cond ((p11.2 : Int) == 0)
    (∃ y38 : S.api_Tele, (okVal true 19 (S.api_Tele.v y38) = true ∧ rd w34 ⟨b13, 0, none⟩ (S.api_Tele.v y38)) ∧
    ∃ y39 : S.api_Tele, (okVal true 19 (S.api_Tele.v y39) = true ∧ rd w34 ⟨b1, 0, none⟩ (S.api_Tele.v y39)) ∧
    (cond (((y38.Kind : Int) == y39.Kind) && (((y38.Robot : Int) == y39.Robot) && (((y38.Epoch : Int) == y39.Epoch) && (((y38.Num : Int) == y39.Num) && ((((y38.Move.Kind : Int) == y39.Move.Kind) && (((y38.Move.Dir : Int) == y39.Move.Dir) && (((y38.Move.N : Int) == y39.Move.N) && (((((y38.Move.From.At.X : Int) == y39.Move.From.At.X) && (((y38.Move.From.At.Y : Int) == y39.Move.From.At.Y) && true)) && ((y38.Move.From.Down == y39.Move.From.Down) && true)) && (((((y38.Move.To.At.X : Int) == y39.Move.To.At.X) && (((y38.Move.To.At.Y : Int) == y39.Move.To.At.Y) && true)) && ((y38.Move.To.Down == y39.Move.To.Down) && true)) && (((y38.Move.At : Int) == y39.Move.At) && (((y38.Move.End : Int) == y39.Move.End) && true))))))) && (((((y38.Pose.At.X : Int) == y39.Pose.At.X) && (((y38.Pose.At.Y : Int) == y39.Pose.At.Y) && true)) && ((y38.Pose.Down == y39.Pose.Down) && true)) && (((y38.Load : Int) == y39.Load) && true)))))))
    ((cond (((p20.2 : Int) == 0) == p26.2)
    ((cond p26.2
    (∃ y40 : S.api_Tele, (okVal true 19 (S.api_Tele.v y40) = true ∧ rd w34 ⟨b22, 0, none⟩ (S.api_Tele.v y40)) ∧
    ∃ y41 : S.api_Tele, (okVal true 19 (S.api_Tele.v y41) = true ∧ rd w34 ⟨b28, 0, none⟩ (S.api_Tele.v y41)) ∧
    (cond (((y40.Kind : Int) == y41.Kind) && (((y40.Robot : Int) == y41.Robot) && (((y40.Epoch : Int) == y41.Epoch) && (((y40.Num : Int) == y41.Num) && ((((y40.Move.Kind : Int) == y41.Move.Kind) && (((y40.Move.Dir : Int) == y41.Move.Dir) && (((y40.Move.N : Int) == y41.Move.N) && (((((y40.Move.From.At.X : Int) == y41.Move.From.At.X) && (((y40.Move.From.At.Y : Int) == y41.Move.From.At.Y) && true)) && ((y40.Move.From.Down == y41.Move.From.Down) && true)) && (((((y40.Move.To.At.X : Int) == y41.Move.To.At.X) && (((y40.Move.To.At.Y : Int) == y41.Move.To.At.Y) && true)) && ((y40.Move.To.Down == y41.Move.To.Down) && true)) && (((y40.Move.At : Int) == y41.Move.At) && (((y40.Move.End : Int) == y41.Move.End) && true))))))) && (((((y40.Pose.At.X : Int) == y41.Pose.At.X) && (((y40.Pose.At.Y : Int) == y41.Pose.At.Y) && true)) && ((y40.Pose.Down == y41.Pose.Down) && true)) && (((y40.Load : Int) == y41.Load) && true)))))))
    (C.skeplaw05_awake  w34 (fun r44 w42 => ∃ p43 : Bool, r44 = .bool p43 ∧
    K (.bool p43) w42) KP)
    (K (.bool false) w34)))
    ((cond ((p20.2 : Int) == 4)
    (∃ y45 : S.api_Tele, (okVal true 19 (S.api_Tele.v y45) = true ∧ rd w34 ⟨b22, 0, none⟩ (S.api_Tele.v y45)) ∧
    ∃ y46 : S.api_Tele, (okVal true 19 (S.api_Tele.v y46) = true ∧ rd w34 ⟨b28, 0, none⟩ (S.api_Tele.v y46)) ∧
    (cond (((y45.Kind : Int) == y46.Kind) && (((y45.Robot : Int) == y46.Robot) && (((y45.Epoch : Int) == y46.Epoch) && (((y45.Num : Int) == y46.Num) && ((((y45.Move.Kind : Int) == y46.Move.Kind) && (((y45.Move.Dir : Int) == y46.Move.Dir) && (((y45.Move.N : Int) == y46.Move.N) && (((((y45.Move.From.At.X : Int) == y46.Move.From.At.X) && (((y45.Move.From.At.Y : Int) == y46.Move.From.At.Y) && true)) && ((y45.Move.From.Down == y46.Move.From.Down) && true)) && (((((y45.Move.To.At.X : Int) == y46.Move.To.At.X) && (((y45.Move.To.At.Y : Int) == y46.Move.To.At.Y) && true)) && ((y45.Move.To.Down == y46.Move.To.Down) && true)) && (((y45.Move.At : Int) == y46.Move.At) && (((y45.Move.End : Int) == y46.Move.End) && true))))))) && (((((y45.Pose.At.X : Int) == y46.Pose.At.X) && (((y45.Pose.At.Y : Int) == y46.Pose.At.Y) && true)) && ((y45.Pose.Down == y46.Pose.Down) && true)) && (((y45.Load : Int) == y46.Load) && true)))))))
    (C.skeplaw05_awake  w34 (fun r49 w47 => ∃ p48 : Bool, r49 = .bool p48 ∧
    K (.bool p48) w47) KP)
    (K (.bool false) w34)))
    (K (.bool false) w34)))))
    (K (.bool false) w34)))
    (K (.bool false) w34)))
    (K (.bool false) w34)))
    (K (.bool false) w34))) KP) KP) KP) KP) KP) KP) KP
theorem skeplaw05_CodecTeles_of {t : S.api_Tele} {p1_ : Sl} {w : World} {K : Value → World → Prop} {KP : List PanicEntry → World → Prop} (h : W.skeplaw05_CodecTeles t p1_ w K KP) : C.skeplaw05_CodecTeles t p1_ w K KP :=
  xcall (E := E) (T := mkTab [] [] [] [] [(5, [0, 1, 2, 3, 4, 5, 6, 7, 8, 9, 10, 11, 12, 13, 14, 15, 16, 17, 18, 19, 20, 21, 22, 23, 24, 25, 26, 27, 28, 29, 30, 31, 32, 33, 34, 35, 36])] [(5, [0, 1, 0, 4, 12, 31, 63, 127, 255, 511, 1023, 2047, 2047, 8191, 16383, 32767, 65535, 131071, 65535, 524287, 1048575, 2097151, 4194303, 8388607, 16777215, 33554431, 67108863, 134217727, 268435455, 536870911, 536870911, 2147483647, 4294967295, 8589934591, 17179869183, 34359738367, 68719476735])] []) (c := Try.f7.body.getD .skip) (rs := [.tmp 4]) ⟨⟩ mixed Try.func7 (by kernel_rfl) (by kernel_rfl) [S.api_Tele.v t, .slice p1_.a p1_.len p1_.cap] (by kernel_rfl) (by kernel_rfl) (.inr (by kernel_rfl)) (Eq.mp (by kernel_rfl) h)

def W.skeplaw05_CodecEvents (p0_ : S.api_Event) (p1_ : Sl) (w : World) (K : Value → World → Prop) (KP : List PanicEntry → World → Prop) : Prop :=
   ∀ (b1 : Nat) (w2 : World), Alloc w b1 63 (S.api_Event.v p0_ : Value).cells.toList w2 →
    ∃ y3 : S.api_Event, (okVal true 7 (S.api_Event.v y3) = true ∧ rd w2 ⟨b1, 0, none⟩ (S.api_Event.v y3)) ∧
    C.skeplaw00_CopyEvent y3 w2 (fun r6 w4 => ∃ p5 : S.api_Event, r6 = S.api_Event.v p5 ∧
    C.codec_PutEvent p5 w4 (fun r9 w7 => ∃ p8 : Sl, r9 = .slice p8.a p8.len p8.cap ∧
    C.skeplaw00_CopyBytes p8 w7 (fun r12 w10 => ∃ p11 : Sl, r12 = .slice p11.a p11.len p11.cap ∧
    C.codec_GetEvent p11 w10 (fun r15 w13 => ∃ p14 : (S.api_Event × Int), r15 = .tuple #[S.api_Event.v p14.1, .int .i64 p14.2] ∧
    ∀ (b16 : Nat) (w17 : World), Alloc w13 b16 63 [.int .i64 0, .int .i64 0, .int .i64 0, .int .i64 0, .int .i64 0, .bool false, .slice none 0 0] w17 →
    (okVal true 7 (S.api_Event.v p14.1) = true ∧ canPut w17 ⟨b16, 0, none⟩ (S.api_Event.v p14.1)) ∧ ∀ w18 : World, w18 = putAt w17 ⟨b16, 0, none⟩ (S.api_Event.v p14.1) →
    C.skeplaw00_CopyBytes p1_ w18 (fun r21 w19 => ∃ p20 : Sl, r21 = .slice p20.a p20.len p20.cap ∧
    C.codec_GetEvent p20 w19 (fun r24 w22 => ∃ p23 : (S.api_Event × Int), r24 = .tuple #[S.api_Event.v p23.1, .int .i64 p23.2] ∧
    ∀ (b25 : Nat) (w26 : World), Alloc w22 b25 63 [.int .i64 0, .int .i64 0, .int .i64 0, .int .i64 0, .int .i64 0, .bool false, .slice none 0 0] w26 →
    (okVal true 7 (S.api_Event.v p23.1) = true ∧ canPut w26 ⟨b25, 0, none⟩ (S.api_Event.v p23.1)) ∧ ∀ w27 : World, w27 = putAt w26 ⟨b25, 0, none⟩ (S.api_Event.v p23.1) →
    C.skepref05_GetEvent p1_ w27 (fun r30 w28 => ∃ p29 : (S.api_Event × Bool), r30 = .tuple #[S.api_Event.v p29.1, .bool p29.2] ∧
    ∀ (b31 : Nat) (w32 : World), Alloc w28 b31 63 [.int .i64 0, .int .i64 0, .int .i64 0, .int .i64 0, .int .i64 0, .bool false, .slice none 0 0] w32 →
    (okVal true 7 (S.api_Event.v p29.1) = true ∧ canPut w32 ⟨b31, 0, none⟩ (S.api_Event.v p29.1)) ∧ ∀ w33 : World, w33 = putAt w32 ⟨b31, 0, none⟩ (S.api_Event.v p29.1) →
    ∀ w34, Drew w33 w34 →
    ∃ s35 : ByteArray, (s35.size = p8.len ∧ (0 < p8.len → withSome p8.a fun a => Go.Eng.World.has w34 a (bytesV s35))) ∧
    ∃ y36 : S.api_Event, (okVal true 7 (S.api_Event.v y36) = true ∧ rd w34 ⟨b1, 0, none⟩ (S.api_Event.v y36)) ∧
    C.skepref05_PutEvent y36 w34 (fun r39 w37 => ∃ p38 : Sl, r39 = .slice p38.a p38.len p38.cap ∧
    (0 < p8.len → withSome p8.a fun a => Go.Eng.World.has w37 a (bytesV s35)) ∧ ∃ s40 : ByteArray, (s40.size = p38.len ∧ (0 < p38.len → withSome p38.a fun a => Go.Eng.World.has w37 a (bytesV s40))) ∧
    (cond (!(strEq s35 s40))
    (K (.bool false) w37)
    ((cond ((p14.2 : Int) != 0)
    (K (.bool false) w37)
    (∃ y41 : S.api_Event, (okVal true 7 (S.api_Event.v y41) = true ∧ rd w37 ⟨b16, 0, none⟩ (S.api_Event.v y41)) ∧
    ∃ y42 : S.api_Event, (okVal true 7 (S.api_Event.v y42) = true ∧ rd w37 ⟨b1, 0, none⟩ (S.api_Event.v y42)) ∧
    C.skeplaw00_SameEvent y41 y42 w37 (fun r45 w43 => ∃ p44 : Bool, r45 = .bool p44 ∧
    (cond (!p44)
    (K (.bool false) w43)
    ((cond (!(((p23.2 : Int) == 0) == p29.2))
    (K (.bool false) w43)
    ((cond (!p29.2)
    ((cond ((p23.2 : Int) != 4)
    (K (.bool false) w43)
    (∃ y46 : S.api_Event, (okVal true 7 (S.api_Event.v y46) = true ∧ rd w43 ⟨b25, 0, none⟩ (S.api_Event.v y46)) ∧
    ∃ y47 : S.api_Event, (okVal true 7 (S.api_Event.v y47) = true ∧ rd w43 ⟨b31, 0, none⟩ (S.api_Event.v y47)) ∧
    C.skeplaw00_SameEvent y46 y47 w43 (fun r50 w48 => ∃ p49 : Bool, r50 = .bool p49 ∧
    (cond p49
    (C.skeplaw05_awake  w48 (fun r53 w51 => ∃ p52 : Bool, r53 = .bool p52 ∧
    K (.bool p52) w51) KP)
    (K (.bool false) w48))) KP)))
    (∃ y54 : S.api_Event, (okVal true 7 (S.api_Event.v y54) = true ∧ rd w43 ⟨b25, 0, none⟩ (S.api_Event.v y54)) ∧
    ∃ y55 : S.api_Event, (okVal true 7 (S.api_Event.v y55) = true ∧ rd w43 ⟨b31, 0, none⟩ (S.api_Event.v y55)) ∧
    C.skeplaw00_SameEvent y54 y55 w43 (fun r58 w56 => ∃ p57 : Bool, r58 = .bool p57 ∧
    (cond p57
    (C.skeplaw05_awake  w56 (fun r61 w59 => ∃ p60 : Bool, r61 = .bool p60 ∧
    K (.bool p60) w59) KP)
    (K (.bool false) w56))) KP))))))) KP))))) KP) KP) KP) KP) KP) KP) KP) KP
theorem skeplaw05_CodecEvents_of {p0_ : S.api_Event} {p1_ : Sl} {w : World} {K : Value → World → Prop} {KP : List PanicEntry → World → Prop} (h : W.skeplaw05_CodecEvents p0_ p1_ w K KP) : C.skeplaw05_CodecEvents p0_ p1_ w K KP :=
  xcall (E := E) (T := mkTab [] [] [] [] [(5, [0, 1, 2, 3, 4, 5, 6, 7, 8, 9, 10, 11, 12, 13, 14, 15, 16, 17, 18, 19, 20, 21, 22, 23, 24, 25, 26, 27, 28, 29])] [(5, [0, 1, 0, 4, 12, 31, 63, 127, 255, 511, 1023, 2047, 2047, 8191, 16383, 32767, 65535, 131071, 262143, 131071, 1048575, 2097151, 4194303, 8388607, 16777215, 33554431, 67108863, 134217727, 268435455, 536870911])] []) (c := Try.f8.body.getD .skip) (rs := [.tmp 4]) ⟨⟩ mixed Try.func8 (by kernel_rfl) (by kernel_rfl) [S.api_Event.v p0_, .slice p1_.a p1_.len p1_.cap] (by kernel_rfl) (by kernel_rfl) (.inr (by kernel_rfl)) (Eq.mp (by kernel_rfl) h)

def W.skeplaw05_CodecStates (s : S.api_State) (p1_ : Sl) (w : World) (K : Value → World → Prop) (KP : List PanicEntry → World → Prop) : Prop :=
   ∀ (b1 : Nat) (w2 : World), Alloc w b1 78 (S.api_State.v s : Value).cells.toList w2 →
    ∃ y3 : S.api_State, (okVal true 10 (S.api_State.v y3) = true ∧ rd w2 ⟨b1, 0, none⟩ (S.api_State.v y3)) ∧
    C.codec_PutState y3 w2 (fun r6 w4 => ∃ p5 : Sl, r6 = .slice p5.a p5.len p5.cap ∧
    C.skeplaw00_CopyBytes p5 w4 (fun r9 w7 => ∃ p8 : Sl, r9 = .slice p8.a p8.len p8.cap ∧
    C.codec_GetState p8 w7 (fun r12 w10 => ∃ p11 : (S.api_State × Int), r12 = .tuple #[S.api_State.v p11.1, .int .i64 p11.2] ∧
    ∀ (b13 : Nat) (w14 : World), Alloc w10 b13 78 [.int .i64 0, .int .i64 0, .bool false, .slice none 0 0, .slice none 0 0, .slice none 0 0, .slice none 0 0, .slice none 0 0, .int .i64 0, .int .i64 0] w14 →
    (okVal true 10 (S.api_State.v p11.1) = true ∧ canPut w14 ⟨b13, 0, none⟩ (S.api_State.v p11.1)) ∧ ∀ w15 : World, w15 = putAt w14 ⟨b13, 0, none⟩ (S.api_State.v p11.1) →
    C.skeplaw00_CopyBytes p1_ w15 (fun r18 w16 => ∃ p17 : Sl, r18 = .slice p17.a p17.len p17.cap ∧
    C.codec_GetState p17 w16 (fun r21 w19 => ∃ p20 : (S.api_State × Int), r21 = .tuple #[S.api_State.v p20.1, .int .i64 p20.2] ∧
    ∀ (b22 : Nat) (w23 : World), Alloc w19 b22 78 [.int .i64 0, .int .i64 0, .bool false, .slice none 0 0, .slice none 0 0, .slice none 0 0, .slice none 0 0, .slice none 0 0, .int .i64 0, .int .i64 0] w23 →
    (okVal true 10 (S.api_State.v p20.1) = true ∧ canPut w23 ⟨b22, 0, none⟩ (S.api_State.v p20.1)) ∧ ∀ w24 : World, w24 = putAt w23 ⟨b22, 0, none⟩ (S.api_State.v p20.1) →
    C.skepref05_GetState p1_ w24 (fun r27 w25 => ∃ p26 : (S.api_State × Bool), r27 = .tuple #[S.api_State.v p26.1, .bool p26.2] ∧
    ∀ (b28 : Nat) (w29 : World), Alloc w25 b28 78 [.int .i64 0, .int .i64 0, .bool false, .slice none 0 0, .slice none 0 0, .slice none 0 0, .slice none 0 0, .slice none 0 0, .int .i64 0, .int .i64 0] w29 →
    (okVal true 10 (S.api_State.v p26.1) = true ∧ canPut w29 ⟨b28, 0, none⟩ (S.api_State.v p26.1)) ∧ ∀ w30 : World, w30 = putAt w29 ⟨b28, 0, none⟩ (S.api_State.v p26.1) →
    ∀ w31, Drew w30 w31 →
    ∃ s32 : ByteArray, (s32.size = p5.len ∧ (0 < p5.len → withSome p5.a fun a => Go.Eng.World.has w31 a (bytesV s32))) ∧
    ∃ y33 : S.api_State, (okVal true 10 (S.api_State.v y33) = true ∧ rd w31 ⟨b1, 0, none⟩ (S.api_State.v y33)) ∧
    C.skepref05_PutState y33 w31 (fun r36 w34 => ∃ p35 : Sl, r36 = .slice p35.a p35.len p35.cap ∧
    (0 < p5.len → withSome p5.a fun a => Go.Eng.World.has w34 a (bytesV s32)) ∧ ∃ s37 : ByteArray, (s37.size = p35.len ∧ (0 < p35.len → withSome p35.a fun a => Go.Eng.World.has w34 a (bytesV s37))) ∧
    (cond (!(strEq s32 s37))
    (K (.bool false) w34)
    ((cond ((p11.2 : Int) != 0)
    (K (.bool false) w34)
    (∃ y38 : S.api_State, (okVal true 10 (S.api_State.v y38) = true ∧ rd w34 ⟨b13, 0, none⟩ (S.api_State.v y38)) ∧
    ∃ y39 : S.api_State, (okVal true 10 (S.api_State.v y39) = true ∧ rd w34 ⟨b1, 0, none⟩ (S.api_State.v y39)) ∧
    C.skeplaw00_SameState y38 y39 w34 (fun r42 w40 => ∃ p41 : Bool, r42 = .bool p41 ∧
    (cond (!p41)
    (K (.bool false) w40)
    ((cond (!(((p20.2 : Int) == 0) == p26.2))
    (K (.bool false) w40)
    ((cond (!p26.2)
    ((cond ((p20.2 : Int) != 4)
    (K (.bool false) w40)
    (∃ y43 : S.api_State, (okVal true 10 (S.api_State.v y43) = true ∧ rd w40 ⟨b22, 0, none⟩ (S.api_State.v y43)) ∧
    ∃ y44 : S.api_State, (okVal true 10 (S.api_State.v y44) = true ∧ rd w40 ⟨b28, 0, none⟩ (S.api_State.v y44)) ∧
    C.skeplaw00_SameState y43 y44 w40 (fun r47 w45 => ∃ p46 : Bool, r47 = .bool p46 ∧
    (cond p46
    (C.skeplaw05_awake  w45 (fun r50 w48 => ∃ p49 : Bool, r50 = .bool p49 ∧
    K (.bool p49) w48) KP)
    (K (.bool false) w45))) KP)))
    (∃ y51 : S.api_State, (okVal true 10 (S.api_State.v y51) = true ∧ rd w40 ⟨b22, 0, none⟩ (S.api_State.v y51)) ∧
    ∃ y52 : S.api_State, (okVal true 10 (S.api_State.v y52) = true ∧ rd w40 ⟨b28, 0, none⟩ (S.api_State.v y52)) ∧
    C.skeplaw00_SameState y51 y52 w40 (fun r55 w53 => ∃ p54 : Bool, r55 = .bool p54 ∧
    (cond p54
    (C.skeplaw05_awake  w53 (fun r58 w56 => ∃ p57 : Bool, r58 = .bool p57 ∧
    K (.bool p57) w56) KP)
    (K (.bool false) w53))) KP))))))) KP))))) KP) KP) KP) KP) KP) KP) KP
theorem skeplaw05_CodecStates_of {s : S.api_State} {p1_ : Sl} {w : World} {K : Value → World → Prop} {KP : List PanicEntry → World → Prop} (h : W.skeplaw05_CodecStates s p1_ w K KP) : C.skeplaw05_CodecStates s p1_ w K KP :=
  xcall (E := E) (T := mkTab [] [] [] [] [(5, [0, 1, 2, 3, 4, 5, 6, 7, 8, 9, 10, 11, 12, 13, 14, 15, 16, 17, 18, 19, 20, 21, 22, 23, 24, 25, 26, 27, 28, 29])] [(5, [0, 1, 0, 4, 12, 31, 63, 127, 255, 511, 1023, 2047, 2047, 8191, 16383, 32767, 65535, 131071, 262143, 131071, 1048575, 2097151, 4194303, 8388607, 16777215, 33554431, 67108863, 134217727, 268435455, 536870911])] []) (c := Try.f9.body.getD .skip) (rs := [.tmp 4]) ⟨⟩ mixed Try.func9 (by kernel_rfl) (by kernel_rfl) [S.api_State.v s, .slice p1_.a p1_.len p1_.cap] (by kernel_rfl) (by kernel_rfl) (.inr (by kernel_rfl)) (Eq.mp (by kernel_rfl) h)

def W.skeplaw05_CodecCuts (s : S.api_State) (p1_ : S.api_Event) (p2_ : Int) (more : Sl) (w : World) (K : Value → World → Prop) (KP : List PanicEntry → World → Prop) : Prop :=
   ∀ (b1 : Nat) (w2 : World), Alloc w b1 78 (S.api_State.v s : Value).cells.toList w2 →
    ∀ (b3 : Nat) (w4 : World), Alloc w2 b3 63 (S.api_Event.v p1_ : Value).cells.toList w4 →
    ∃ y5 : S.api_State, (okVal true 10 (S.api_State.v y5) = true ∧ rd w4 ⟨b1, 0, none⟩ (S.api_State.v y5)) ∧
    C.codec_PutState y5 w4 (fun r8 w6 => ∃ p7 : Sl, r8 = .slice p7.a p7.len p7.cap ∧
    ∃ y9 : S.api_Event, (okVal true 7 (S.api_Event.v y9) = true ∧ rd w6 ⟨b3, 0, none⟩ (S.api_Event.v y9)) ∧
    C.codec_PutEvent y9 w6 (fun r12 w10 => ∃ p11 : Sl, r12 = .slice p11.a p11.len p11.cap ∧
    (cond (((p7.len : Int) : Int) == 0)
    (K (.bool false) w10)
    ((cond (((p11.len : Int) : Int) == 0)
    (K (.bool false) w10)
    (C.skeplaw00_Place p2_ (p7.len : Int) w10 (fun r15 w13 => ∃ p14 : Int, r15 = .int .i64 p14 ∧
    ((0 : Int) ≤ p14 ∧ (p14 : Int) ≤ (p7.cap : Int)) ∧ C.codec_GetState (⟨(if p7.cap = 0 then p7.a else Option.map (fun x => Addr.add x (0 * 1)) p7.a), p14.toNat - 0, p7.cap - 0⟩) w13 (fun r18 w16 => ∃ p17 : (S.api_State × Int), r18 = .tuple #[S.api_State.v p17.1, .int .i64 p17.2] ∧
    ∀ (b19 : Nat) (w20 : World), Alloc w16 b19 78 [.int .i64 0, .int .i64 0, .bool false, .slice none 0 0, .slice none 0 0, .slice none 0 0, .slice none 0 0, .slice none 0 0, .int .i64 0, .int .i64 0] w20 →
    (okVal true 10 (S.api_State.v p17.1) = true ∧ canPut w20 ⟨b19, 0, none⟩ (S.api_State.v p17.1)) ∧ ∀ w21 : World, w21 = putAt w20 ⟨b19, 0, none⟩ (S.api_State.v p17.1) →
    C.skeplaw00_Place p2_ (p11.len : Int) w21 (fun r24 w22 => ∃ p23 : Int, r24 = .int .i64 p23 ∧
    ((0 : Int) ≤ p23 ∧ (p23 : Int) ≤ (p11.cap : Int)) ∧ C.codec_GetEvent (⟨(if p11.cap = 0 then p11.a else Option.map (fun x => Addr.add x (0 * 1)) p11.a), p23.toNat - 0, p11.cap - 0⟩) w22 (fun r27 w25 => ∃ p26 : (S.api_Event × Int), r27 = .tuple #[S.api_Event.v p26.1, .int .i64 p26.2] ∧
    ∀ (b28 : Nat) (w29 : World), Alloc w25 b28 63 [.int .i64 0, .int .i64 0, .int .i64 0, .int .i64 0, .int .i64 0, .bool false, .slice none 0 0] w29 →
    (okVal true 7 (S.api_Event.v p26.1) = true ∧ canPut w29 ⟨b28, 0, none⟩ (S.api_Event.v p26.1)) ∧ ∀ w30 : World, w30 = putAt w29 ⟨b28, 0, none⟩ (S.api_Event.v p26.1) →
    (cond ((p17.2 : Int) != 4)
    ((cond ((p17.2 : Int) == 4)
    ((cond ((p26.2 : Int) == 4)
    (C.skeplaw05_awake  w30 (fun r33 w31 => ∃ p32 : Bool, r33 = .bool p32 ∧
    K (.bool p32) w31) KP)
    (K (.bool false) w30)))
    (K (.bool false) w30)))
    ((cond ((p26.2 : Int) != 4)
    ((cond ((p17.2 : Int) == 4)
    ((cond ((p26.2 : Int) == 4)
    (C.skeplaw05_awake  w30 (fun r36 w34 => ∃ p35 : Bool, r36 = .bool p35 ∧
    K (.bool p35) w34) KP)
    (K (.bool false) w30)))
    (K (.bool false) w30)))
    ((cond (((more.len : Int) : Int) == 0)
    ((cond ((p17.2 : Int) == 4)
    ((cond ((p26.2 : Int) == 4)
    (C.skeplaw05_awake  w30 (fun r39 w37 => ∃ p38 : Bool, r39 = .bool p38 ∧
    K (.bool p38) w37) KP)
    (K (.bool false) w30)))
    (K (.bool false) w30)))
    (∃ (q40 : Option Addr) (n41 c42 : Nat) (w43 : World), (Builtin.append_ #[22, 22] 22 #[.slice p7.a p7.len p7.cap, .slice more.a more.len more.cap]).run Try.prog w30 = .ok (.slice q40 n41 c42) w43 ∧
    C.codec_GetState (⟨q40, n41, c42⟩) w43 (fun r46 w44 => ∃ p45 : (S.api_State × Int), r46 = .tuple #[S.api_State.v p45.1, .int .i64 p45.2] ∧
    ∃ (q47 : Option Addr) (n48 c49 : Nat) (w50 : World), (Builtin.append_ #[22, 22] 22 #[.slice p11.a p11.len p11.cap, .slice more.a more.len more.cap]).run Try.prog w44 = .ok (.slice q47 n48 c49) w50 ∧
    C.codec_GetEvent (⟨q47, n48, c49⟩) w50 (fun r53 w51 => ∃ p52 : (S.api_Event × Int), r53 = .tuple #[S.api_Event.v p52.1, .int .i64 p52.2] ∧
    (cond ((p45.2 : Int) == 4)
    ((cond ((p52.2 : Int) == 4)
    (C.skeplaw05_awake  w51 (fun r56 w54 => ∃ p55 : Bool, r56 = .bool p55 ∧
    K (.bool p55) w54) KP)
    (K (.bool false) w51)))
    (K (.bool false) w51))) KP) KP))))))) KP) KP) KP) KP))))) KP) KP
theorem skeplaw05_CodecCuts_of {s : S.api_State} {p1_ : S.api_Event} {p2_ : Int} {more : Sl} {w : World} {K : Value → World → Prop} {KP : List PanicEntry → World → Prop} (h : W.skeplaw05_CodecCuts s p1_ p2_ more w K KP) : C.skeplaw05_CodecCuts s p1_ p2_ more w K KP :=
  xcall (E := E) (T := mkTab [] [] [] [] [] [] []) (c := Try.f10.body.getD .skip) (rs := [.tmp 8]) ⟨⟩ mixed Try.func10 (by kernel_rfl) (by kernel_rfl) [S.api_State.v s, S.api_Event.v p1_, .int .i64 p2_, .slice more.a more.len more.cap] (by kernel_rfl) (by kernel_rfl) (.inr (by kernel_rfl)) (Eq.mp (by kernel_rfl) h)

def W.skeplaw05_CodecOne (p0_ : Sl) (w : World) (K : Value → World → Prop) (KP : List PanicEntry → World → Prop) : Prop :=
   C.skeplaw00_CopyBytes p0_ w (fun r3 w1 => ∃ p2 : Sl, r3 = .slice p2.a p2.len p2.cap ∧
    C.codec_GetEvent p2 w1 (fun r6 w4 => ∃ p5 : (S.api_Event × Int), r6 = .tuple #[S.api_Event.v p5.1, .int .i64 p5.2] ∧
    ∀ (b7 : Nat) (w8 : World), Alloc w4 b7 63 [.int .i64 0, .int .i64 0, .int .i64 0, .int .i64 0, .int .i64 0, .bool false, .slice none 0 0] w8 →
    (okVal true 7 (S.api_Event.v p5.1) = true ∧ canPut w8 ⟨b7, 0, none⟩ (S.api_Event.v p5.1)) ∧ ∀ w9 : World, w9 = putAt w8 ⟨b7, 0, none⟩ (S.api_Event.v p5.1) →
    ∃ J10 : World → Prop,
    (∀ w11, Drew w9 w11 →
    (cond ((p5.2 : Int) == 0)
    (∃ y12 : S.api_Event, (okVal true 7 (S.api_Event.v y12) = true ∧ rd w11 ⟨b7, 0, none⟩ (S.api_Event.v y12)) ∧
    ∃ s13 : ByteArray, (s13.size = p0_.len ∧ (0 < p0_.len → withSome p0_.a fun a => Go.Eng.World.has w11 a (bytesV s13))) ∧
    C.codec_PutEvent y12 w11 (fun r16 w14 => ∃ p15 : Sl, r16 = .slice p15.a p15.len p15.cap ∧
    (0 < p0_.len → withSome p0_.a fun a => Go.Eng.World.has w14 a (bytesV s13)) ∧ ∃ s17 : ByteArray, (s17.size = p15.len ∧ (0 < p15.len → withSome p15.a fun a => Go.Eng.World.has w14 a (bytesV s17))) ∧
    (cond (!(strEq s17 s13))
    (K (.bool false) w14)
    (J10 w14))) KP)
    (J10 w11))) ∧
    ∀ e0 : Env, ∀ w18 : World, J10 w18 →
    C.skeplaw00_CopyBytes p0_ w18 (fun r21 w19 => ∃ p20 : Sl, r21 = .slice p20.a p20.len p20.cap ∧
    C.codec_GetTele p20 w19 (fun r24 w22 => ∃ p23 : (S.api_Tele × Int), r24 = .tuple #[S.api_Tele.v p23.1, .int .i64 p23.2] ∧
    ∀ (b25 : Nat) (w26 : World), Alloc w22 b25 53 [.int .i64 0, .int .i64 0, .int .i64 0, .int .i64 0, .int .i64 0, .int .i64 0, .int .i64 0, .int .i64 0, .int .i64 0, .bool false, .int .i64 0, .int .i64 0, .bool false, .int .i64 0, .int .i64 0, .int .i64 0, .int .i64 0, .bool false, .int .i64 0] w26 →
    (okVal true 19 (S.api_Tele.v p23.1) = true ∧ canPut w26 ⟨b25, 0, none⟩ (S.api_Tele.v p23.1)) ∧ ∀ w27 : World, w27 = putAt w26 ⟨b25, 0, none⟩ (S.api_Tele.v p23.1) →
    ∃ J28 : World → Prop,
    (∀ w29, Drew w27 w29 →
    (cond ((p23.2 : Int) == 0)
    (∃ y30 : S.api_Tele, (okVal true 19 (S.api_Tele.v y30) = true ∧ rd w29 ⟨b25, 0, none⟩ (S.api_Tele.v y30)) ∧
    ∃ s31 : ByteArray, (s31.size = p0_.len ∧ (0 < p0_.len → withSome p0_.a fun a => Go.Eng.World.has w29 a (bytesV s31))) ∧
    C.codec_PutTele y30 w29 (fun r34 w32 => ∃ p33 : Sl, r34 = .slice p33.a p33.len p33.cap ∧
    (0 < p0_.len → withSome p0_.a fun a => Go.Eng.World.has w32 a (bytesV s31)) ∧ ∃ s35 : ByteArray, (s35.size = p33.len ∧ (0 < p33.len → withSome p33.a fun a => Go.Eng.World.has w32 a (bytesV s35))) ∧
    (cond (!(strEq s35 s31))
    (K (.bool false) w32)
    (J28 w32))) KP)
    (J28 w29))) ∧
    ∀ e0 : Env, ∀ w36 : World, J28 w36 →
    C.skeplaw00_CopyBytes p0_ w36 (fun r39 w37 => ∃ p38 : Sl, r39 = .slice p38.a p38.len p38.cap ∧
    C.codec_GetOp p38 w37 (fun r42 w40 => ∃ p41 : (S.api_Op × Int), r42 = .tuple #[S.api_Op.v p41.1, .int .i64 p41.2] ∧
    ∀ (b43 : Nat) (w44 : World), Alloc w40 b43 35 [.int .i64 0, .int .i64 0, .int .i64 0] w44 →
    (okVal true 3 (S.api_Op.v p41.1) = true ∧ canPut w44 ⟨b43, 0, none⟩ (S.api_Op.v p41.1)) ∧ ∀ w45 : World, w45 = putAt w44 ⟨b43, 0, none⟩ (S.api_Op.v p41.1) →
    ∃ J46 : World → Prop,
    (∀ w47, Drew w45 w47 →
    (cond ((p41.2 : Int) == 0)
    (∃ y48 : S.api_Op, (okVal true 3 (S.api_Op.v y48) = true ∧ rd w47 ⟨b43, 0, none⟩ (S.api_Op.v y48)) ∧
    ∃ s49 : ByteArray, (s49.size = p0_.len ∧ (0 < p0_.len → withSome p0_.a fun a => Go.Eng.World.has w47 a (bytesV s49))) ∧
    C.codec_PutOp y48 w47 (fun r52 w50 => ∃ p51 : Sl, r52 = .slice p51.a p51.len p51.cap ∧
    (0 < p0_.len → withSome p0_.a fun a => Go.Eng.World.has w50 a (bytesV s49)) ∧ ∃ s53 : ByteArray, (s53.size = p51.len ∧ (0 < p51.len → withSome p51.a fun a => Go.Eng.World.has w50 a (bytesV s53))) ∧
    (cond (!(strEq s53 s49))
    (K (.bool false) w50)
    (J46 w50))) KP)
    (J46 w47))) ∧
    ∀ e0 : Env, ∀ w54 : World, J46 w54 →
    C.skeplaw00_CopyBytes p0_ w54 (fun r57 w55 => ∃ p56 : Sl, r57 = .slice p56.a p56.len p56.cap ∧
    C.codec_GetState p56 w55 (fun r60 w58 => ∃ p59 : (S.api_State × Int), r60 = .tuple #[S.api_State.v p59.1, .int .i64 p59.2] ∧
    ∀ (b61 : Nat) (w62 : World), Alloc w58 b61 78 [.int .i64 0, .int .i64 0, .bool false, .slice none 0 0, .slice none 0 0, .slice none 0 0, .slice none 0 0, .slice none 0 0, .int .i64 0, .int .i64 0] w62 →
    (okVal true 10 (S.api_State.v p59.1) = true ∧ canPut w62 ⟨b61, 0, none⟩ (S.api_State.v p59.1)) ∧ ∀ w63 : World, w63 = putAt w62 ⟨b61, 0, none⟩ (S.api_State.v p59.1) →
    ∃ J64 : World → Prop,
    (∀ w65, Drew w63 w65 →
    (cond ((p59.2 : Int) == 0)
    (∃ y66 : S.api_State, (okVal true 10 (S.api_State.v y66) = true ∧ rd w65 ⟨b61, 0, none⟩ (S.api_State.v y66)) ∧
    ∃ s67 : ByteArray, (s67.size = p0_.len ∧ (0 < p0_.len → withSome p0_.a fun a => Go.Eng.World.has w65 a (bytesV s67))) ∧
    C.codec_PutState y66 w65 (fun r70 w68 => ∃ p69 : Sl, r70 = .slice p69.a p69.len p69.cap ∧
    (0 < p0_.len → withSome p0_.a fun a => Go.Eng.World.has w68 a (bytesV s67)) ∧ ∃ s71 : ByteArray, (s71.size = p69.len ∧ (0 < p69.len → withSome p69.a fun a => Go.Eng.World.has w68 a (bytesV s71))) ∧
    (cond (!(strEq s71 s67))
    (K (.bool false) w68)
    (J64 w68))) KP)
    (J64 w65))) ∧
    ∀ e0 : Env, ∀ w72 : World, J64 w72 →
    C.skeplaw00_CopyBytes p0_ w72 (fun r75 w73 => ∃ p74 : Sl, r75 = .slice p74.a p74.len p74.cap ∧
    C.codec_GetNumber p74 0 w73 (fun r78 w76 => ∃ p77 : (Int × Int × Bool), r78 = .tuple #[.int .i64 p77.1, .int .i64 p77.2.1, .bool p77.2.2] ∧
    ∀ w79, Drew w76 w79 →
    (cond p77.2.2
    ((cond (decide ((p77.2.1 : Int) < 1))
    (K (.bool false) w79)
    ((cond (decide ((p77.2.1 : Int) > (p0_.len : Int)))
    (K (.bool false) w79)
    (((0 : Int) ≤ p77.2.1 ∧ (p77.2.1 : Int) ≤ (p0_.cap : Int)) ∧ ∃ s80 : ByteArray, (s80.size = p77.2.1.toNat - 0 ∧ (0 < p77.2.1.toNat - 0 → withSome (if p0_.cap = 0 then p0_.a else Option.map (fun x => Addr.add x (0 * 1)) p0_.a) fun a => Go.Eng.World.has w79 a (bytesV s80))) ∧
    C.codec_PutNumber (⟨none, 0, 0⟩) p77.1 w79 (fun r83 w81 => ∃ p82 : Sl, r83 = .slice p82.a p82.len p82.cap ∧
    (0 < p77.2.1.toNat - 0 → withSome (if p0_.cap = 0 then p0_.a else Option.map (fun x => Addr.add x (0 * 1)) p0_.a) fun a => Go.Eng.World.has w81 a (bytesV s80)) ∧ ∃ s84 : ByteArray, (s84.size = p82.len ∧ (0 < p82.len → withSome p82.a fun a => Go.Eng.World.has w81 a (bytesV s84))) ∧
    (cond (!(strEq s84 s80))
    (K (.bool false) w81)
    (C.skeplaw05_awake  w81 (fun r87 w85 => ∃ p86 : Bool, r87 = .bool p86 ∧
    K (.bool p86) w85) KP))) KP)))))
    (C.skeplaw05_awake  w79 (fun r90 w88 => ∃ p89 : Bool, r90 = .bool p89 ∧
    K (.bool p89) w88) KP))) KP) KP) KP) KP) KP) KP) KP) KP) KP) KP
theorem skeplaw05_CodecOne_of {p0_ : Sl} {w : World} {K : Value → World → Prop} {KP : List PanicEntry → World → Prop} (h : W.skeplaw05_CodecOne p0_ w K KP) : C.skeplaw05_CodecOne p0_ w K KP :=
  xcall (E := E) (T := mkTab [] [] [(13, []), (10, []), (7, []), (4, [])] [(13, [2, 68, 69, 70, 71, 72, 73, 74, 75, 76, 77]), (10, [2, 52, 53, 54, 55, 56, 57, 58, 59, 60, 61]), (7, [2, 36, 37, 38, 39, 40, 41, 42, 43, 44, 45]), (4, [2, 20, 21, 22, 23, 24, 25, 26, 27, 28, 29])] [(2, [0, 1, 2, 3, 6, 7, 4, 5, 8, 9]), (5, [0, 1, 2, 3, 6, 7, 4, 5, 8, 9]), (8, [0, 1, 2, 3, 6, 7, 4, 5, 8, 9]), (11, [0, 1, 2, 3, 6, 7, 4, 5, 8, 9]), (14, [0, 1, 2, 3, 4, 5, 6, 7, 8, 9, 10, 11, 14, 15, 16, 17, 12, 13, 18, 19, 20])] [(2, [0, 1, 3, 7, 15, 31, 7, 71, 255, 511]), (5, [0, 1, 3, 7, 15, 31, 7, 71, 255, 511]), (8, [0, 1, 3, 7, 15, 31, 7, 71, 255, 511]), (11, [0, 1, 3, 7, 15, 31, 7, 71, 255, 511]), (14, [0, 1, 3, 7, 15, 31, 31, 95, 255, 511, 1023, 2047, 4095, 8191, 2047, 2047, 51199, 116735, 262143, 524287, 1048575])] []) (c := Try.f11.body.getD .skip) (rs := [.tmp 2]) ⟨⟩ mixed Try.func11 (by kernel_rfl) (by kernel_rfl) [.slice p0_.a p0_.len p0_.cap] (by kernel_rfl) (by kernel_rfl) (.inr (by kernel_rfl)) (Eq.mp (by kernel_rfl) h)

def W.codec_PutNumber (p0_ : Sl) (v : Int) (w : World) (K : Value → World → Prop) (KP : List PanicEntry → World → Prop) : Prop :=
   ((0 : Int) ≤ (p0_.len : Int) ∧ ((p0_.len : Int) : Int) ≤ (IntKind.i64.wrap ((p0_.len : Int) + 10)) ∧ (1 : Int) * (IntKind.i64.wrap ((p0_.len : Int) + 10)) ≤ 281474976710656 ∧ ((IntKind.i64.wrap ((p0_.len : Int) + 10)) : Int) ≤ 9223372036854775807) ∧ ∀ (b1 : Nat) (w2 : World), Alloc w b1 5 (madeCells #[.int .u8 0] ((IntKind.i64.wrap ((p0_.len : Int) + 10)).toNat * 1)).toList w2 →
    ∃ (n3 : Int) (w4 : World), (Builtin.copy_ #[22, 22] 3 #[.slice (some ⟨b1, 0, none⟩) ((p0_.len : Int).toNat) ((IntKind.i64.wrap ((p0_.len : Int) + 10)).toNat), .slice p0_.a p0_.len p0_.cap]).run Try.prog w2 = .ok (.int .i64 n3) w4 ∧
    C.codec_number (⟨(some ⟨b1, 0, none⟩), (p0_.len : Int).toNat, (IntKind.i64.wrap ((p0_.len : Int) + 10)).toNat⟩) v w4 (fun r7 w5 => ∃ p6 : Sl, r7 = .slice p6.a p6.len p6.cap ∧
    K (.slice p6.a p6.len p6.cap) w5) KP
theorem codec_PutNumber_of {p0_ : Sl} {v : Int} {w : World} {K : Value → World → Prop} {KP : List PanicEntry → World → Prop} (h : W.codec_PutNumber p0_ v w K KP) : C.codec_PutNumber p0_ v w K KP :=
  xcall (E := E) (T := mkTab [] [] [] [] [] [] []) (c := Try.f12.body.getD .skip) (rs := [.tmp 4]) ⟨⟩ mixed Try.func12 (by kernel_rfl) (by kernel_rfl) [.slice p0_.a p0_.len p0_.cap, .int .i64 v] (by kernel_rfl) (by kernel_rfl) (.inr (by kernel_rfl)) (Eq.mp (by kernel_rfl) h)

def W.skepref05_Number (v : Int) (w : World) (K : Value → World → Prop) (KP : List PanicEntry → World → Prop) : Prop :=
   (0 : Int) ≤ 1 ∧ ∃ J1 : Int → World → Prop,
    ((cond (decide ((v : Int) < 0))
    ((0 : Int) ≤ 1 ∧ ∃ u2 : Int, (.int .u64 (IntKind.u64.wrap ((shlI .u64 (IntKind.u64.wrap (IntKind.i64.wrap (0 - (IntKind.i64.wrap (v + 1))))) 1) + 1)) : Value) = .int .u64 u2 ∧ J1 u2 w)
    (∃ u3 : Int, (.int .u64 (shlI .u64 (IntKind.u64.wrap v) 1) : Value) = .int .u64 u3 ∧ J1 u3 w))) ∧
    ∀ e0 : Env, ∀ v4 : Int, ∀ w5 : World, J1 v4 w5 →
    ∃ (I6 : Int → Sl → World → Prop) (M7 : Int → Sl → World → Nat),
    (∃ u8 : Int, (.int .u64 v4 : Value) = .int .u64 u8 ∧ ∃ u9 : Sl, (.slice none 0 0 : Value) = .slice u9.a u9.len u9.cap ∧ I6 u8 u9 w5) ∧
    ∀ e0 : Env, ∀ v10 : Int, ∀ v11 : Sl, ∀ w12 : World, I6 v10 v11 w12 →
    (cond (decide ((v10 : Int) ≥ 128))
    ((128 : Int) ≠ 0 ∧ ∀ (b13 : Nat) (w14 : World), Alloc w12 b13 5 [.int .u8 (IntKind.u8.wrap ((IntKind.u8.wrap (Int.tmod v10 128)) + 128))] w14 →
    ∃ (q15 : Option Addr) (n16 c17 : Nat) (w18 : World), (Builtin.append_ #[22, 22] 22 #[.slice v11.a v11.len v11.cap, .slice (some ⟨b13, 0, none⟩) 1 1]).run Try.prog w14 = .ok (.slice q15 n16 c17) w18 ∧
    (128 : Int) ≠ 0 ∧ ∃ u19 : Int, (.int .u64 (IntKind.u64.wrap (Int.tdiv v10 128)) : Value) = .int .u64 u19 ∧ ∃ u20 : Sl, (.slice q15 n16 c17 : Value) = .slice u20.a u20.len u20.cap ∧ (I6 u19 u20 w18 ∧ M7 u19 u20 w18 < M7 v10 v11 w12))
    (∀ (b21 : Nat) (w22 : World), Alloc w12 b21 5 [.int .u8 (IntKind.u8.wrap v10)] w22 →
    ∃ (q23 : Option Addr) (n24 c25 : Nat) (w26 : World), (Builtin.append_ #[22, 22] 22 #[.slice v11.a v11.len v11.cap, .slice (some ⟨b21, 0, none⟩) 1 1]).run Try.prog w22 = .ok (.slice q23 n24 c25) w26 ∧
    K (.slice q23 n24 c25) w26))
theorem skepref05_Number_of {v : Int} {w : World} {K : Value → World → Prop} {KP : List PanicEntry → World → Prop} (h : W.skepref05_Number v w K KP) : C.skepref05_Number v w K KP :=
  xcall (E := E) (T := mkTab [(5, [(3, 43), (4, 22)])] [(5, [3, 4, 16, 17, 18, 19, 20, 21, 22, 23, 24, 25, 26])] [(4, [(3, 43)])] [(4, [3, 8, 9, 10, 11, 12, 13, 14, 15])] [] [] []) (c := Try.f13.body.getD .skip) (rs := [.tmp 2]) ⟨⟩ mixed Try.func13 (by kernel_rfl) (by kernel_rfl) [.int .i64 v] (by kernel_rfl) (by kernel_rfl) (.inr (by kernel_rfl)) (Eq.mp (by kernel_rfl) h)

def W.codec_GetNumber (p0_ : Sl) (p1_ : Int) (w : World) (K : Value → World → Prop) (KP : List PanicEntry → World → Prop) : Prop :=
   (cond (decide ((p1_ : Int) < 0))
    (K (.tuple #[.int .i64 0, .int .i64 0, .bool false]) w)
    ((cond (decide ((p1_ : Int) ≥ (p0_.len : Int)))
    (K (.tuple #[.int .i64 0, .int .i64 0, .bool false]) w)
    (∃ (I1 : Int → Int → World → Prop) (M2 : Int → Int → World → Nat),
    (∃ u3 : Int, (.int .u64 0 : Value) = .int .u64 u3 ∧ ∃ u4 : Int, (.int .i64 0 : Value) = .int .i64 u4 ∧ I1 u3 u4 w) ∧
    ∀ e0 : Env, ∀ v5 : Int, ∀ v6 : Int, ∀ w7 : World, I1 v5 v6 w7 →
    (cond (decide ((v6 : Int) < 10))
    ((cond (decide (((IntKind.i64.wrap (p1_ + v6)) : Int) ≥ (p0_.len : Int)))
    (K (.tuple #[.int .i64 0, .int .i64 0, .bool false]) w7)
    (((0 : Int) ≤ (IntKind.i64.wrap (p1_ + v6)) ∧ ((IntKind.i64.wrap (p1_ + v6)) : Int) < (p0_.len : Int)) ∧ withSome p0_.a fun a8 =>
    ∃ y9 : Int, (okVal false 1 (.int .u8 y9) = true ∧ w7.cell? (Addr.add a8 ((IntKind.i64.wrap (p1_ + v6)).toNat * 1)) = some (.int .u8 y9)) ∧
    ∃ J10 : World → Prop,
    ((cond ((v6 : Int) == 9)
    ((cond (decide ((y9 : Int) > 1))
    (K (.tuple #[.int .i64 0, .int .i64 0, .bool false]) w7)
    ((cond (decide ((v6 : Int) > 0))
    ((cond ((y9 : Int) == 0)
    (K (.tuple #[.int .i64 0, .int .i64 0, .bool false]) w7)
    (J10 w7)))
    (J10 w7)))))
    ((cond (decide ((v6 : Int) > 0))
    ((cond ((y9 : Int) == 0)
    (K (.tuple #[.int .i64 0, .int .i64 0, .bool false]) w7)
    (J10 w7)))
    (J10 w7))))) ∧
    ∀ e0 : Env, ∀ w11 : World, J10 w11 →
    (0 : Int) ≤ (IntKind.i64.wrap (7 * v6)) ∧ (cond (decide ((y9 : Int) < 128))
    ((0 : Int) ≤ 1 ∧ K (.tuple #[.int .i64 (xorI .i64 (IntKind.i64.wrap (shrI .u64 (orI .u64 v5 (shlI .u64 (IntKind.u64.wrap (andI .u8 y9 127)) (IntKind.i64.wrap (7 * v6)))) 1)) (IntKind.i64.wrap (0 - (IntKind.i64.wrap (andI .u64 (orI .u64 v5 (shlI .u64 (IntKind.u64.wrap (andI .u8 y9 127)) (IntKind.i64.wrap (7 * v6)))) 1))))), .int .i64 (IntKind.i64.wrap ((IntKind.i64.wrap (p1_ + v6)) + 1)), .bool true]) w11)
    (∃ u12 : Int, (.int .u64 (orI .u64 v5 (shlI .u64 (IntKind.u64.wrap (andI .u8 y9 127)) (IntKind.i64.wrap (7 * v6)))) : Value) = .int .u64 u12 ∧ ∃ u13 : Int, (.int .i64 (IntKind.i64.wrap (v6 + 1)) : Value) = .int .i64 u13 ∧ (I1 u12 u13 w11 ∧ M2 u12 u13 w11 < M2 v5 v6 w7))))))
    (K (.tuple #[.int .i64 0, .int .i64 0, .bool false]) w7))))))
theorem codec_GetNumber_of {p0_ : Sl} {p1_ : Int} {w : World} {K : Value → World → Prop} {KP : List PanicEntry → World → Prop} (h : W.codec_GetNumber p0_ p1_ w K KP) : C.codec_GetNumber p0_ p1_ w K KP :=
  xcall (E := E) (T := mkTab [(5, [(7, 43), (18, 3)])] [(5, [4, 5, 6, 7, 8, 9, 18, 19, 20, 21, 22, 23, 24, 25, 26, 27, 28, 29, 30, 31, 32, 33, 34, 35, 36, 37, 38, 39, 40, 41, 42, 43, 44, 45, 46, 47, 48, 49, 50, 51, 52, 53, 54, 55, 56, 57, 58, 59, 60, 61, 62, 63, 64, 65, 66, 67, 68, 69])] [(12, [])] [(12, [4, 5, 6, 33, 34, 35, 36, 37, 38, 39, 40, 41, 42, 43, 44, 45, 46])] [] [] []) (c := Try.f14.body.getD .skip) (rs := [.tmp 4, .tmp 5, .tmp 6]) ⟨⟩ mixed Try.func14 (by kernel_rfl) (by kernel_rfl) [.slice p0_.a p0_.len p0_.cap, .int .i64 p1_] (by kernel_rfl) (by kernel_rfl) (.inr (by kernel_rfl)) (Eq.mp (by kernel_rfl) h)

def W.skeplaw00_CopyBytes (p0_ : Sl) (w : World) (K : Value → World → Prop) (KP : List PanicEntry → World → Prop) : Prop :=
   ∃ (q1 : Option Addr) (n2 c3 : Nat) (w4 : World), (Builtin.append_ #[22, 22] 22 #[.slice none 0 0, .slice p0_.a p0_.len p0_.cap]).run Try.prog w = .ok (.slice q1 n2 c3) w4 ∧
    K (.slice q1 n2 c3) w4
theorem skeplaw00_CopyBytes_of {p0_ : Sl} {w : World} {K : Value → World → Prop} {KP : List PanicEntry → World → Prop} (h : W.skeplaw00_CopyBytes p0_ w K KP) : C.skeplaw00_CopyBytes p0_ w K KP :=
  xcall (E := E) (T := mkTab [] [] [] [] [] [] []) (c := Try.f15.body.getD .skip) (rs := [.tmp 2]) ⟨⟩ mixed Try.func15 (by kernel_rfl) (by kernel_rfl) [.slice p0_.a p0_.len p0_.cap] (by kernel_rfl) (by kernel_rfl) (.inr (by kernel_rfl)) (Eq.mp (by kernel_rfl) h)

def W.skeplaw05_awake (w : World) (K : Value → World → Prop) (KP : List PanicEntry → World → Prop) : Prop :=
   ∀ (b1 : Nat) (w2 : World), Alloc w b1 5 [.int .u8 2, .int .u8 0, .int .u8 0] w2 →
    C.codec_GetOp (⟨(some ⟨b1, 0, none⟩), 3, 3⟩) w2 (fun r5 w3 => ∃ p4 : (S.api_Op × Int), r5 = .tuple #[S.api_Op.v p4.1, .int .i64 p4.2] ∧
    ∀ (b6 : Nat) (w7 : World), Alloc w3 b6 35 [.int .i64 0, .int .i64 0, .int .i64 0] w7 →
    (okVal true 3 (S.api_Op.v p4.1) = true ∧ canPut w7 ⟨b6, 0, none⟩ (S.api_Op.v p4.1)) ∧ ∀ w8 : World, w8 = putAt w7 ⟨b6, 0, none⟩ (S.api_Op.v p4.1) →
    C.codec_PutNumber (⟨none, 0, 0⟩) (-1) w8 (fun r11 w9 => ∃ p10 : Sl, r11 = .slice p10.a p10.len p10.cap ∧
    ∃ s12 : ByteArray, (s12.size = p10.len ∧ (0 < p10.len → withSome p10.a fun a => Go.Eng.World.has w9 a (bytesV s12))) ∧
    (cond (strEq s12 (⟨#[1]⟩))
    (C.codec_PutNumber (⟨none, 0, 0⟩) 64 w9 (fun r15 w13 => ∃ p14 : Sl, r15 = .slice p14.a p14.len p14.cap ∧
    ∃ s16 : ByteArray, (s16.size = p14.len ∧ (0 < p14.len → withSome p14.a fun a => Go.Eng.World.has w13 a (bytesV s16))) ∧
    (cond (strEq s16 (⟨#[128, 1]⟩))
    (C.codec_PutOp (⟨1, 0, 0⟩) w13 (fun r19 w17 => ∃ p18 : Sl, r19 = .slice p18.a p18.len p18.cap ∧
    ∃ s20 : ByteArray, (s20.size = p18.len ∧ (0 < p18.len → withSome p18.a fun a => Go.Eng.World.has w17 a (bytesV s20))) ∧
    (cond (strEq s20 (⟨#[2, 0, 0]⟩))
    ((cond ((p4.2 : Int) == 0)
    (∃ y21 : Int, (okVal false 1 (.int .i64 y21) = true ∧ w17.cell? ⟨b6, 0, none⟩ = some (.int .i64 y21)) ∧
    K (.bool ((y21 : Int) == 1)) w17)
    (K (.bool false) w17)))
    (K (.bool false) w17))) KP)
    (K (.bool false) w13))) KP)
    (K (.bool false) w9))) KP) KP
theorem skeplaw05_awake_of {w : World} {K : Value → World → Prop} {KP : List PanicEntry → World → Prop} (h : W.skeplaw05_awake  w K KP) : C.skeplaw05_awake  w K KP :=
  xcall (E := E) (T := mkTab [] [] [] [] [] [] []) (c := Try.f16.body.getD .skip) (rs := [.tmp 0]) ⟨⟩ mixed Try.func16 (by kernel_rfl) (by kernel_rfl) [] (by kernel_rfl) (by kernel_rfl) (.inr (by kernel_rfl)) (Eq.mp (by kernel_rfl) h)

def W.skepref05_R_Number (r : (Option Addr)) (w : World) (K : Value → World → Prop) (KP : List PanicEntry → World → Prop) : Prop :=
   ∃ (I1 : Int → Int → World → Prop) (M2 : Int → Int → World → Nat),
    (∃ u3 : Int, (.int .u64 0 : Value) = .int .u64 u3 ∧ ∃ u4 : Int, (.int .i64 0 : Value) = .int .i64 u4 ∧ I1 u3 u4 w) ∧
    ∀ e0 : Env, ∀ v5 : Int, ∀ v6 : Int, ∀ w7 : World, I1 v5 v6 w7 →
    (cond (decide ((v6 : Int) < 10))
    (∀ w8, Drew w7 w8 →
    withSome r fun a9 =>
    ∃ y10 : Bool, (okVal false 1 (.bool y10) = true ∧ w8.cell? (Addr.add a9 2) = some (.bool y10)) ∧
    (cond y10
    (withSome r fun a11 =>
    (okVal false 1 (.bool true) = true ∧ canPut w8 (Addr.add a11 2) (.bool true)) ∧ ∀ w12 : World, w12 = putAt w8 (Addr.add a11 2) (.bool true) →
    K (.int .i64 0) w12)
    (withSome r fun a13 =>
    ∃ y14 : Int, (okVal false 1 (.int .i64 y14) = true ∧ w8.cell? (Addr.add a13 1) = some (.int .i64 y14)) ∧
    withSome r fun a15 =>
    ∃ y16 : Sl, (okVal false 1 (.slice y16.a y16.len y16.cap) = true ∧ w8.cell? a15 = some (.slice y16.a y16.len y16.cap)) ∧
    (cond (decide ((y14 : Int) ≥ (y16.len : Int)))
    (withSome r fun a17 =>
    (okVal false 1 (.bool true) = true ∧ canPut w8 (Addr.add a17 2) (.bool true)) ∧ ∀ w18 : World, w18 = putAt w8 (Addr.add a17 2) (.bool true) →
    K (.int .i64 0) w18)
    (∀ w19, Drew w8 w19 →
    withSome r fun a20 =>
    ∃ y21 : Sl, (okVal false 1 (.slice y21.a y21.len y21.cap) = true ∧ w19.cell? a20 = some (.slice y21.a y21.len y21.cap)) ∧
    withSome r fun a22 =>
    ∃ y23 : Int, (okVal false 1 (.int .i64 y23) = true ∧ w19.cell? (Addr.add a22 1) = some (.int .i64 y23)) ∧
    ((0 : Int) ≤ y23 ∧ (y23 : Int) < (y21.len : Int)) ∧ withSome y21.a fun a24 =>
    ∃ y25 : Int, (okVal false 1 (.int .u8 y25) = true ∧ w19.cell? (Addr.add a24 (y23.toNat * 1)) = some (.int .u8 y25)) ∧
    withSome r fun a26 =>
    ∃ y27 : Int, (okVal false 1 (.int .i64 y27) = true ∧ w19.cell? (Addr.add a26 1) = some (.int .i64 y27)) ∧
    withSome r fun a28 =>
    (okVal false 1 (.int .i64 (IntKind.i64.wrap (y27 + 1))) = true ∧ canPut w19 (Addr.add a28 1) (.int .i64 (IntKind.i64.wrap (y27 + 1)))) ∧ ∀ w29 : World, w29 = putAt w19 (Addr.add a28 1) (.int .i64 (IntKind.i64.wrap (y27 + 1))) →
    ∃ J30 : World → Prop,
    ((cond ((v6 : Int) == 9)
    ((cond (decide ((y25 : Int) > 1))
    (withSome r fun a31 =>
    (okVal false 1 (.bool true) = true ∧ canPut w29 (Addr.add a31 2) (.bool true)) ∧ ∀ w32 : World, w32 = putAt w29 (Addr.add a31 2) (.bool true) →
    K (.int .i64 0) w32)
    (J30 w29)))
    (J30 w29))) ∧
    ∀ e0 : Env, ∀ w33 : World, J30 w33 →
    (128 : Int) ≠ 0 ∧ (0 : Int) ≤ (IntKind.u64.wrap (IntKind.i64.wrap (7 * v6))) ∧ (cond (decide ((y25 : Int) < 128))
    (∃ J34 : World → Prop,
    ((cond ((y25 : Int) == 0)
    ((cond (decide ((v6 : Int) > 0))
    (withSome r fun a35 =>
    (okVal false 1 (.bool true) = true ∧ canPut w33 (Addr.add a35 2) (.bool true)) ∧ ∀ w36 : World, w36 = putAt w33 (Addr.add a35 2) (.bool true) →
    K (.int .i64 0) w36)
    (J34 w33)))
    (J34 w33))) ∧
    ∀ e0 : Env, ∀ w37 : World, J34 w37 →
    (2 : Int) ≠ 0 ∧ (cond (((Int.tmod (IntKind.u64.wrap (v5 + (shlI .u64 (IntKind.u64.wrap (Int.tmod y25 128)) (IntKind.u64.wrap (IntKind.i64.wrap (7 * v6)))))) 2) : Int) == 1)
    ((2 : Int) ≠ 0 ∧ K (.int .i64 (IntKind.i64.wrap ((IntKind.i64.wrap (0 - (IntKind.i64.wrap (IntKind.u64.wrap (Int.tdiv (IntKind.u64.wrap (v5 + (shlI .u64 (IntKind.u64.wrap (Int.tmod y25 128)) (IntKind.u64.wrap (IntKind.i64.wrap (7 * v6)))))) 2))))) - 1))) w37)
    ((2 : Int) ≠ 0 ∧ K (.int .i64 (IntKind.i64.wrap (IntKind.u64.wrap (Int.tdiv (IntKind.u64.wrap (v5 + (shlI .u64 (IntKind.u64.wrap (Int.tmod y25 128)) (IntKind.u64.wrap (IntKind.i64.wrap (7 * v6)))))) 2)))) w37)))
    (∃ u38 : Int, (.int .u64 (IntKind.u64.wrap (v5 + (shlI .u64 (IntKind.u64.wrap (Int.tmod y25 128)) (IntKind.u64.wrap (IntKind.i64.wrap (7 * v6)))))) : Value) = .int .u64 u38 ∧ ∃ u39 : Int, (.int .i64 (IntKind.i64.wrap (v6 + 1)) : Value) = .int .i64 u39 ∧ (I1 u38 u39 w33 ∧ M2 u38 u39 w33 < M2 v5 v6 w7))))))))
    (withSome r fun a40 =>
    (okVal false 1 (.bool true) = true ∧ canPut w7 (Addr.add a40 2) (.bool true)) ∧ ∀ w41 : World, w41 = putAt w7 (Addr.add a40 2) (.bool true) →
    K (.int .i64 0) w41))
theorem skepref05_R_Number_of {r : (Option Addr)} {w : World} {K : Value → World → Prop} {KP : List PanicEntry → World → Prop} (h : W.skepref05_R_Number r w K KP) : C.skepref05_R_Number r w K KP :=
  xcall (E := E) (T := mkTab [(3, [(3, 43), (4, 3)])] [(3, [2, 3, 4, 5, 6, 7, 8, 9, 10, 11, 12, 13, 14, 15, 16, 17, 18, 19, 20, 21, 22, 23, 24, 25, 26, 27, 28, 29, 30, 31, 32, 33, 34, 35, 36, 37, 38, 39, 40, 41, 42, 43, 44, 45, 46, 47, 48, 49, 50, 51, 52, 53, 54, 55, 56, 57, 58, 59, 60, 61, 62, 63, 64, 65, 66, 67, 68, 69, 70, 71, 72, 73, 74, 75, 76, 77, 78, 79, 80, 81, 82, 83, 84, 85])] [(18, []), (13, [])] [(18, [2, 66, 67, 68, 69, 70, 71, 72, 73, 74]), (13, [2, 46, 47, 48, 49, 50, 51, 52, 53, 54])] [(5, [0, 1, 2, 3, 4, 5, 6, 7, 8, 9, 10, 11, 12, 13, 14, 15]), (8, [0, 1, 2, 3, 4, 5, 6, 7, 8, 9, 10])] [(5, [0, 1, 3, 7, 15, 31, 63, 127, 255, 31, 543, 1567, 3615, 7711, 16383, 32767]), (8, [0, 1, 3, 7, 0, 16, 48, 112, 255, 511, 1023])] []) (c := Try.f17.body.getD .skip) (rs := [.tmp 2]) ⟨⟩ mixed Try.func17 (by kernel_rfl) (by kernel_rfl) [.pointer r] (by kernel_rfl) (by kernel_rfl) (.inr (by kernel_rfl)) (Eq.mp (by kernel_rfl) h)

def W.codec_PutOp (o : S.api_Op) (w : World) (K : Value → World → Prop) (KP : List PanicEntry → World → Prop) : Prop :=
   ∀ (b1 : Nat) (w2 : World), Alloc w b1 35 (S.api_Op.v o : Value).cells.toList w2 →
    ∀ w3, Drew w2 w3 →
    ∃ y4 : Int, (okVal false 1 (.int .i64 y4) = true ∧ w3.cell? ⟨b1, 0, none⟩ = some (.int .i64 y4)) ∧
    ∃ y5 : Int, (okVal false 1 (.int .i64 y5) = true ∧ w3.cell? ⟨b1, 1, none⟩ = some (.int .i64 y5)) ∧
    ∃ y6 : Int, (okVal false 1 (.int .i64 y6) = true ∧ w3.cell? ⟨b1, 2, none⟩ = some (.int .i64 y6)) ∧
    C.codec_number (⟨none, 0, 0⟩) y4 w3 (fun r9 w7 => ∃ p8 : Sl, r9 = .slice p8.a p8.len p8.cap ∧
    (w7.cell? ⟨b1, 2, none⟩ = some (.int .i64 y6)) ∧ (w7.cell? ⟨b1, 1, none⟩ = some (.int .i64 y5)) ∧ C.codec_number p8 y5 w7 (fun r12 w10 => ∃ p11 : Sl, r12 = .slice p11.a p11.len p11.cap ∧
    (w10.cell? ⟨b1, 2, none⟩ = some (.int .i64 y6)) ∧ C.codec_number p11 y6 w10 (fun r15 w13 => ∃ p14 : Sl, r15 = .slice p14.a p14.len p14.cap ∧
    K (.slice p14.a p14.len p14.cap) w13) KP) KP) KP
theorem codec_PutOp_of {o : S.api_Op} {w : World} {K : Value → World → Prop} {KP : List PanicEntry → World → Prop} (h : W.codec_PutOp o w K KP) : C.codec_PutOp o w K KP :=
  xcall (E := E) (T := mkTab [] [] [] [] [(1, [0, 1, 3, 4, 6, 7, 2, 5, 8, 9])] [(1, [0, 1, 3, 0, 8, 31, 0, 64, 255, 511])] []) (c := Try.f18.body.getD .skip) (rs := [.tmp 2]) ⟨⟩ mixed Try.func18 (by kernel_rfl) (by kernel_rfl) [S.api_Op.v o] (by kernel_rfl) (by kernel_rfl) (.inr (by kernel_rfl)) (Eq.mp (by kernel_rfl) h)

def W.codec_GetOp (p0_ : Sl) (w : World) (K : Value → World → Prop) (KP : List PanicEntry → World → Prop) : Prop :=
   ∀ (b1 : Nat) (w2 : World), Alloc w b1 35 [.int .i64 0, .int .i64 0, .int .i64 0] w2 →
    C.codec_read_api_Op p0_ (.func (.func 41) #[] #[]) w2 (fun r5 w3 => ∃ p4 : (S.api_Op × Int), r5 = .tuple #[S.api_Op.v p4.1, .int .i64 p4.2] ∧
    (okVal true 3 (S.api_Op.v p4.1) = true ∧ canPut w3 ⟨b1, 0, none⟩ (S.api_Op.v p4.1)) ∧ ∀ w6 : World, w6 = putAt w3 ⟨b1, 0, none⟩ (S.api_Op.v p4.1) →
    ∃ y7 : S.api_Op, (okVal true 3 (S.api_Op.v y7) = true ∧ rd w6 ⟨b1, 0, none⟩ (S.api_Op.v y7)) ∧ K (.tuple #[S.api_Op.v y7, .int .i64 p4.2]) w6) KP
theorem codec_GetOp_of {p0_ : Sl} {w : World} {K : Value → World → Prop} {KP : List PanicEntry → World → Prop} (h : W.codec_GetOp p0_ w K KP) : C.codec_GetOp p0_ w K KP :=
  xcall (E := E) (T := mkTab [] [] [] [] [] [] []) (c := Try.f19.body.getD .skip) (rs := [.cell 2 35, .tmp 3]) ⟨⟩ mixed Try.func19 (by kernel_rfl) (by kernel_rfl) [.slice p0_.a p0_.len p0_.cap] (by kernel_rfl) (by kernel_rfl) (.inr (by kernel_rfl)) (Eq.mp (by kernel_rfl) h)

def W.skepref05_GetOp (p0_ : Sl) (w : World) (K : Value → World → Prop) (KP : List PanicEntry → World → Prop) : Prop :=
   ∀ (b1 : Nat) (w2 : World), Alloc w b1 35 [.int .i64 0, .int .i64 0, .int .i64 0] w2 →
    ∀ (b3 : Nat) (w4 : World), Alloc w2 b3 31 [.slice p0_.a p0_.len p0_.cap, .int .i64 0, .bool false] w4 →
    ∀ (b5 : Nat) (w6 : World), Alloc w4 b5 35 [.int .i64 0, .int .i64 0, .int .i64 0] w6 →
    (okVal true 3 (.agg #[.int .i64 0, .int .i64 0, .int .i64 0]) = true ∧ canPut w6 ⟨b5, 0, none⟩ (.agg #[.int .i64 0, .int .i64 0, .int .i64 0])) ∧ ∀ w7 : World, w7 = putAt w6 ⟨b5, 0, none⟩ (.agg #[.int .i64 0, .int .i64 0, .int .i64 0]) →
    C.skepref05_R_Number (some ⟨b3, 0, none⟩) w7 (fun r10 w8 => ∃ p9 : Int, r10 = .int .i64 p9 ∧
    (okVal false 1 (.int .i64 p9) = true ∧ canPut w8 ⟨b5, 0, none⟩ (.int .i64 p9)) ∧ ∀ w11 : World, w11 = putAt w8 ⟨b5, 0, none⟩ (.int .i64 p9) →
    C.skepref05_R_Number (some ⟨b3, 0, none⟩) w11 (fun r14 w12 => ∃ p13 : Int, r14 = .int .i64 p13 ∧
    (okVal false 1 (.int .i64 p13) = true ∧ canPut w12 ⟨b5, 1, none⟩ (.int .i64 p13)) ∧ ∀ w15 : World, w15 = putAt w12 ⟨b5, 1, none⟩ (.int .i64 p13) →
    C.skepref05_R_Number (some ⟨b3, 0, none⟩) w15 (fun r18 w16 => ∃ p17 : Int, r18 = .int .i64 p17 ∧
    (okVal false 1 (.int .i64 p17) = true ∧ canPut w16 ⟨b5, 2, none⟩ (.int .i64 p17)) ∧ ∀ w19 : World, w19 = putAt w16 ⟨b5, 2, none⟩ (.int .i64 p17) →
    C.skepref05_R_whole (some ⟨b3, 0, none⟩) w19 (fun r22 w20 => ∃ p21 : Bool, r22 = .bool p21 ∧
    (cond (!p21)
    ((okVal true 3 (.agg #[.int .i64 0, .int .i64 0, .int .i64 0]) = true ∧ canPut w20 ⟨b1, 0, none⟩ (.agg #[.int .i64 0, .int .i64 0, .int .i64 0])) ∧ ∀ w23 : World, w23 = putAt w20 ⟨b1, 0, none⟩ (.agg #[.int .i64 0, .int .i64 0, .int .i64 0]) →
    ∃ y24 : S.api_Op, (okVal true 3 (S.api_Op.v y24) = true ∧ rd w23 ⟨b1, 0, none⟩ (S.api_Op.v y24)) ∧ K (.tuple #[S.api_Op.v y24, .bool false]) w23)
    (∃ y25 : S.api_Op, (okVal true 3 (S.api_Op.v y25) = true ∧ rd w20 ⟨b5, 0, none⟩ (S.api_Op.v y25)) ∧
    (okVal true 3 (S.api_Op.v y25) = true ∧ canPut w20 ⟨b1, 0, none⟩ (S.api_Op.v y25)) ∧ ∀ w26 : World, w26 = putAt w20 ⟨b1, 0, none⟩ (S.api_Op.v y25) →
    ∃ y27 : S.api_Op, (okVal true 3 (S.api_Op.v y27) = true ∧ rd w26 ⟨b1, 0, none⟩ (S.api_Op.v y27)) ∧ K (.tuple #[S.api_Op.v y27, .bool true]) w26))) KP) KP) KP) KP
theorem skepref05_GetOp_of {p0_ : Sl} {w : World} {K : Value → World → Prop} {KP : List PanicEntry → World → Prop} (h : W.skepref05_GetOp p0_ w K KP) : C.skepref05_GetOp p0_ w K KP :=
  xcall (E := E) (T := mkTab [] [] [] [] [] [] []) (c := Try.f20.body.getD .skip) (rs := [.cell 2 35, .tmp 3]) ⟨⟩ mixed Try.func20 (by kernel_rfl) (by kernel_rfl) [.slice p0_.a p0_.len p0_.cap] (by kernel_rfl) (by kernel_rfl) (.inr (by kernel_rfl)) (Eq.mp (by kernel_rfl) h)

def W.skepref05_PutOp (o : S.api_Op) (w : World) (K : Value → World → Prop) (KP : List PanicEntry → World → Prop) : Prop :=
   ∀ (b1 : Nat) (w2 : World), Alloc w b1 35 (S.api_Op.v o : Value).cells.toList w2 →
    ∀ w3, Drew w2 w3 →
    ∃ y4 : Int, (okVal false 1 (.int .i64 y4) = true ∧ w3.cell? ⟨b1, 0, none⟩ = some (.int .i64 y4)) ∧
    ∃ y5 : Int, (okVal false 1 (.int .i64 y5) = true ∧ w3.cell? ⟨b1, 1, none⟩ = some (.int .i64 y5)) ∧
    ∃ y6 : Int, (okVal false 1 (.int .i64 y6) = true ∧ w3.cell? ⟨b1, 2, none⟩ = some (.int .i64 y6)) ∧
    C.skepref05_num (⟨none, 0, 0⟩) y4 w3 (fun r9 w7 => ∃ p8 : Sl, r9 = .slice p8.a p8.len p8.cap ∧
    (w7.cell? ⟨b1, 2, none⟩ = some (.int .i64 y6)) ∧ (w7.cell? ⟨b1, 1, none⟩ = some (.int .i64 y5)) ∧ C.skepref05_num p8 y5 w7 (fun r12 w10 => ∃ p11 : Sl, r12 = .slice p11.a p11.len p11.cap ∧
    (w10.cell? ⟨b1, 2, none⟩ = some (.int .i64 y6)) ∧ C.skepref05_num p11 y6 w10 (fun r15 w13 => ∃ p14 : Sl, r15 = .slice p14.a p14.len p14.cap ∧
    K (.slice p14.a p14.len p14.cap) w13) KP) KP) KP
theorem skepref05_PutOp_of {o : S.api_Op} {w : World} {K : Value → World → Prop} {KP : List PanicEntry → World → Prop} (h : W.skepref05_PutOp o w K KP) : C.skepref05_PutOp o w K KP :=
  xcall (E := E) (T := mkTab [] [] [] [] [(1, [0, 1, 3, 4, 6, 7, 2, 5, 8, 9])] [(1, [0, 1, 3, 0, 8, 31, 0, 64, 255, 511])] []) (c := Try.f21.body.getD .skip) (rs := [.tmp 2]) ⟨⟩ mixed Try.func21 (by kernel_rfl) (by kernel_rfl) [S.api_Op.v o] (by kernel_rfl) (by kernel_rfl) (.inr (by kernel_rfl)) (Eq.mp (by kernel_rfl) h)

def W.skeplaw05_CodecSizes_1 (v : Int) (w : World) (K : Value → World → Prop) (KP : List PanicEntry → World → Prop) : Prop :=
   (cond (decide ((v : Int) < 0))
    (K (.int .u64 (IntKind.u64.wrap (IntKind.i64.wrap (0 - (IntKind.i64.wrap (v + 1)))))) w)
    (K (.int .u64 (IntKind.u64.wrap v)) w))
theorem skeplaw05_CodecSizes_1_of {v : Int} {w : World} {K : Value → World → Prop} {KP : List PanicEntry → World → Prop} (h : W.skeplaw05_CodecSizes_1 v w K KP) : C.skeplaw05_CodecSizes_1 v w K KP :=
  xcall (E := E) (T := mkTab [] [] [] [] [] [] []) (c := Try.f22.body.getD .skip) (rs := [.tmp 2]) ⟨⟩ mixed Try.func22 (by kernel_rfl) (by kernel_rfl) [.int .i64 v] (by kernel_rfl) (by kernel_rfl) (.inr (by kernel_rfl)) (Eq.mp (by kernel_rfl) h)

def W.codec_PutTele (t : S.api_Tele) (w : World) (K : Value → World → Prop) (KP : List PanicEntry → World → Prop) : Prop :=
   ∀ (b1 : Nat) (w2 : World), Alloc w b1 53 (S.api_Tele.v t : Value).cells.toList w2 →
    ∀ w3, Drew w2 w3 →
    ∃ y4 : Int, (okVal false 1 (.int .i64 y4) = true ∧ w3.cell? ⟨b1, 0, none⟩ = some (.int .i64 y4)) ∧
    ∃ y5 : Int, (okVal false 1 (.int .i64 y5) = true ∧ w3.cell? ⟨b1, 1, none⟩ = some (.int .i64 y5)) ∧
    ∃ y6 : Int, (okVal false 1 (.int .i64 y6) = true ∧ w3.cell? ⟨b1, 2, none⟩ = some (.int .i64 y6)) ∧
    ∃ y7 : Int, (okVal false 1 (.int .i64 y7) = true ∧ w3.cell? ⟨b1, 3, none⟩ = some (.int .i64 y7)) ∧
    C.codec_number (⟨none, 0, 0⟩) y4 w3 (fun r10 w8 => ∃ p9 : Sl, r10 = .slice p9.a p9.len p9.cap ∧
    (w8.cell? ⟨b1, 3, none⟩ = some (.int .i64 y7)) ∧ (w8.cell? ⟨b1, 2, none⟩ = some (.int .i64 y6)) ∧ (w8.cell? ⟨b1, 1, none⟩ = some (.int .i64 y5)) ∧ C.codec_number p9 y5 w8 (fun r13 w11 => ∃ p12 : Sl, r13 = .slice p12.a p12.len p12.cap ∧
    (w11.cell? ⟨b1, 3, none⟩ = some (.int .i64 y7)) ∧ (w11.cell? ⟨b1, 2, none⟩ = some (.int .i64 y6)) ∧ C.codec_number p12 y6 w11 (fun r16 w14 => ∃ p15 : Sl, r16 = .slice p15.a p15.len p15.cap ∧
    (w14.cell? ⟨b1, 3, none⟩ = some (.int .i64 y7)) ∧ C.codec_number p15 y7 w14 (fun r19 w17 => ∃ p18 : Sl, r19 = .slice p18.a p18.len p18.cap ∧
    ∀ w20, Drew w17 w20 →
    ∃ y21 : S.api_Move, (okVal true 11 (S.api_Move.v y21) = true ∧ rd w20 ⟨b1, 4, none⟩ (S.api_Move.v y21)) ∧
    ∃ y22 : S.api_Pose, (okVal true 3 (S.api_Pose.v y22) = true ∧ rd w20 ⟨b1, 15, none⟩ (S.api_Pose.v y22)) ∧
    ∃ y23 : Int, (okVal false 1 (.int .i64 y23) = true ∧ w20.cell? ⟨b1, 18, none⟩ = some (.int .i64 y23)) ∧
    C.codec_move p18 y21 w20 (fun r26 w24 => ∃ p25 : Sl, r26 = .slice p25.a p25.len p25.cap ∧
    (w24.cell? ⟨b1, 18, none⟩ = some (.int .i64 y23)) ∧ (rd w24 ⟨b1, 15, none⟩ (S.api_Pose.v y22)) ∧ C.codec_pose p25 y22 w24 (fun r29 w27 => ∃ p28 : Sl, r29 = .slice p28.a p28.len p28.cap ∧
    (w27.cell? ⟨b1, 18, none⟩ = some (.int .i64 y23)) ∧ C.codec_number p28 y23 w27 (fun r32 w30 => ∃ p31 : Sl, r32 = .slice p31.a p31.len p31.cap ∧
    K (.slice p31.a p31.len p31.cap) w30) KP) KP) KP) KP) KP) KP) KP
theorem codec_PutTele_of {t : S.api_Tele} {w : World} {K : Value → World → Prop} {KP : List PanicEntry → World → Prop} (h : W.codec_PutTele t w K KP) : C.codec_PutTele t w K KP :=
  xcall (E := E) (T := mkTab [] [] [] [] [(1, [0, 1, 3, 4, 6, 7, 9, 10, 2, 5, 8, 11, 12]), (2, [0, 1, 2, 4, 5, 7, 8, 3, 6, 9, 10])] [(1, [0, 1, 3, 0, 8, 31, 0, 64, 255, 0, 512, 2047, 4095]), (2, [0, 0, 2, 7, 0, 16, 63, 0, 128, 511, 1023])] []) (c := Try.f23.body.getD .skip) (rs := [.tmp 2]) ⟨⟩ mixed Try.func23 (by kernel_rfl) (by kernel_rfl) [S.api_Tele.v t] (by kernel_rfl) (by kernel_rfl) (.inr (by kernel_rfl)) (Eq.mp (by kernel_rfl) h)

def W.codec_GetTele (p0_ : Sl) (w : World) (K : Value → World → Prop) (KP : List PanicEntry → World → Prop) : Prop :=
   ∀ (b1 : Nat) (w2 : World), Alloc w b1 53 [.int .i64 0, .int .i64 0, .int .i64 0, .int .i64 0, .int .i64 0, .int .i64 0, .int .i64 0, .int .i64 0, .int .i64 0, .bool false, .int .i64 0, .int .i64 0, .bool false, .int .i64 0, .int .i64 0, .int .i64 0, .int .i64 0, .bool false, .int .i64 0] w2 →
    C.codec_read_api_Tele p0_ (.func (.func 48) #[] #[]) w2 (fun r5 w3 => ∃ p4 : (S.api_Tele × Int), r5 = .tuple #[S.api_Tele.v p4.1, .int .i64 p4.2] ∧
    (okVal true 19 (S.api_Tele.v p4.1) = true ∧ canPut w3 ⟨b1, 0, none⟩ (S.api_Tele.v p4.1)) ∧ ∀ w6 : World, w6 = putAt w3 ⟨b1, 0, none⟩ (S.api_Tele.v p4.1) →
    ∃ y7 : S.api_Tele, (okVal true 19 (S.api_Tele.v y7) = true ∧ rd w6 ⟨b1, 0, none⟩ (S.api_Tele.v y7)) ∧ K (.tuple #[S.api_Tele.v y7, .int .i64 p4.2]) w6) KP
theorem codec_GetTele_of {p0_ : Sl} {w : World} {K : Value → World → Prop} {KP : List PanicEntry → World → Prop} (h : W.codec_GetTele p0_ w K KP) : C.codec_GetTele p0_ w K KP :=
  xcall (E := E) (T := mkTab [] [] [] [] [] [] []) (c := Try.f24.body.getD .skip) (rs := [.cell 2 53, .tmp 3]) ⟨⟩ mixed Try.func24 (by kernel_rfl) (by kernel_rfl) [.slice p0_.a p0_.len p0_.cap] (by kernel_rfl) (by kernel_rfl) (.inr (by kernel_rfl)) (Eq.mp (by kernel_rfl) h)

def W.skepref05_GetTele (p0_ : Sl) (w : World) (K : Value → World → Prop) (KP : List PanicEntry → World → Prop) : Prop :=
   ∀ (b1 : Nat) (w2 : World), Alloc w b1 53 [.int .i64 0, .int .i64 0, .int .i64 0, .int .i64 0, .int .i64 0, .int .i64 0, .int .i64 0, .int .i64 0, .int .i64 0, .bool false, .int .i64 0, .int .i64 0, .bool false, .int .i64 0, .int .i64 0, .int .i64 0, .int .i64 0, .bool false, .int .i64 0] w2 →
    ∀ (b3 : Nat) (w4 : World), Alloc w2 b3 31 [.slice p0_.a p0_.len p0_.cap, .int .i64 0, .bool false] w4 →
    ∀ (b5 : Nat) (w6 : World), Alloc w4 b5 53 [.int .i64 0, .int .i64 0, .int .i64 0, .int .i64 0, .int .i64 0, .int .i64 0, .int .i64 0, .int .i64 0, .int .i64 0, .bool false, .int .i64 0, .int .i64 0, .bool false, .int .i64 0, .int .i64 0, .int .i64 0, .int .i64 0, .bool false, .int .i64 0] w6 →
    (okVal true 19 (.agg #[.int .i64 0, .int .i64 0, .int .i64 0, .int .i64 0, .int .i64 0, .int .i64 0, .int .i64 0, .int .i64 0, .int .i64 0, .bool false, .int .i64 0, .int .i64 0, .bool false, .int .i64 0, .int .i64 0, .int .i64 0, .int .i64 0, .bool false, .int .i64 0]) = true ∧ canPut w6 ⟨b5, 0, none⟩ (.agg #[.int .i64 0, .int .i64 0, .int .i64 0, .int .i64 0, .int .i64 0, .int .i64 0, .int .i64 0, .int .i64 0, .int .i64 0, .bool false, .int .i64 0, .int .i64 0, .bool false, .int .i64 0, .int .i64 0, .int .i64 0, .int .i64 0, .bool false, .int .i64 0])) ∧ ∀ w7 : World, w7 = putAt w6 ⟨b5, 0, none⟩ (.agg #[.int .i64 0, .int .i64 0, .int .i64 0, .int .i64 0, .int .i64 0, .int .i64 0, .int .i64 0, .int .i64 0, .int .i64 0, .bool false, .int .i64 0, .int .i64 0, .bool false, .int .i64 0, .int .i64 0, .int .i64 0, .int .i64 0, .bool false, .int .i64 0]) →
    C.skepref05_R_Number (some ⟨b3, 0, none⟩) w7 (fun r10 w8 => ∃ p9 : Int, r10 = .int .i64 p9 ∧
    (okVal false 1 (.int .i64 p9) = true ∧ canPut w8 ⟨b5, 0, none⟩ (.int .i64 p9)) ∧ ∀ w11 : World, w11 = putAt w8 ⟨b5, 0, none⟩ (.int .i64 p9) →
    C.skepref05_R_Number (some ⟨b3, 0, none⟩) w11 (fun r14 w12 => ∃ p13 : Int, r14 = .int .i64 p13 ∧
    (okVal false 1 (.int .i64 p13) = true ∧ canPut w12 ⟨b5, 1, none⟩ (.int .i64 p13)) ∧ ∀ w15 : World, w15 = putAt w12 ⟨b5, 1, none⟩ (.int .i64 p13) →
    C.skepref05_R_Number (some ⟨b3, 0, none⟩) w15 (fun r18 w16 => ∃ p17 : Int, r18 = .int .i64 p17 ∧
    (okVal false 1 (.int .i64 p17) = true ∧ canPut w16 ⟨b5, 2, none⟩ (.int .i64 p17)) ∧ ∀ w19 : World, w19 = putAt w16 ⟨b5, 2, none⟩ (.int .i64 p17) →
    C.skepref05_R_Number (some ⟨b3, 0, none⟩) w19 (fun r22 w20 => ∃ p21 : Int, r22 = .int .i64 p21 ∧
    (okVal false 1 (.int .i64 p21) = true ∧ canPut w20 ⟨b5, 3, none⟩ (.int .i64 p21)) ∧ ∀ w23 : World, w23 = putAt w20 ⟨b5, 3, none⟩ (.int .i64 p21) →
    C.skepref05_R_move (some ⟨b3, 0, none⟩) w23 (fun r26 w24 => ∃ p25 : S.api_Move, r26 = S.api_Move.v p25 ∧
    (okVal true 11 (S.api_Move.v p25) = true ∧ canPut w24 ⟨b5, 4, none⟩ (S.api_Move.v p25)) ∧ ∀ w27 : World, w27 = putAt w24 ⟨b5, 4, none⟩ (S.api_Move.v p25) →
    C.skepref05_R_pose (some ⟨b3, 0, none⟩) w27 (fun r30 w28 => ∃ p29 : S.api_Pose, r30 = S.api_Pose.v p29 ∧
    (okVal true 3 (S.api_Pose.v p29) = true ∧ canPut w28 ⟨b5, 15, none⟩ (S.api_Pose.v p29)) ∧ ∀ w31 : World, w31 = putAt w28 ⟨b5, 15, none⟩ (S.api_Pose.v p29) →
    C.skepref05_R_Number (some ⟨b3, 0, none⟩) w31 (fun r34 w32 => ∃ p33 : Int, r34 = .int .i64 p33 ∧
    (okVal false 1 (.int .i64 p33) = true ∧ canPut w32 ⟨b5, 18, none⟩ (.int .i64 p33)) ∧ ∀ w35 : World, w35 = putAt w32 ⟨b5, 18, none⟩ (.int .i64 p33) →
    C.skepref05_R_whole (some ⟨b3, 0, none⟩) w35 (fun r38 w36 => ∃ p37 : Bool, r38 = .bool p37 ∧
    (cond (!p37)
    ((okVal true 19 (.agg #[.int .i64 0, .int .i64 0, .int .i64 0, .int .i64 0, .int .i64 0, .int .i64 0, .int .i64 0, .int .i64 0, .int .i64 0, .bool false, .int .i64 0, .int .i64 0, .bool false, .int .i64 0, .int .i64 0, .int .i64 0, .int .i64 0, .bool false, .int .i64 0]) = true ∧ canPut w36 ⟨b1, 0, none⟩ (.agg #[.int .i64 0, .int .i64 0, .int .i64 0, .int .i64 0, .int .i64 0, .int .i64 0, .int .i64 0, .int .i64 0, .int .i64 0, .bool false, .int .i64 0, .int .i64 0, .bool false, .int .i64 0, .int .i64 0, .int .i64 0, .int .i64 0, .bool false, .int .i64 0])) ∧ ∀ w39 : World, w39 = putAt w36 ⟨b1, 0, none⟩ (.agg #[.int .i64 0, .int .i64 0, .int .i64 0, .int .i64 0, .int .i64 0, .int .i64 0, .int .i64 0, .int .i64 0, .int .i64 0, .bool false, .int .i64 0, .int .i64 0, .bool false, .int .i64 0, .int .i64 0, .int .i64 0, .int .i64 0, .bool false, .int .i64 0]) →
    ∃ y40 : S.api_Tele, (okVal true 19 (S.api_Tele.v y40) = true ∧ rd w39 ⟨b1, 0, none⟩ (S.api_Tele.v y40)) ∧ K (.tuple #[S.api_Tele.v y40, .bool false]) w39)
    (∃ y41 : S.api_Tele, (okVal true 19 (S.api_Tele.v y41) = true ∧ rd w36 ⟨b5, 0, none⟩ (S.api_Tele.v y41)) ∧
    (okVal true 19 (S.api_Tele.v y41) = true ∧ canPut w36 ⟨b1, 0, none⟩ (S.api_Tele.v y41)) ∧ ∀ w42 : World, w42 = putAt w36 ⟨b1, 0, none⟩ (S.api_Tele.v y41) →
    ∃ y43 : S.api_Tele, (okVal true 19 (S.api_Tele.v y43) = true ∧ rd w42 ⟨b1, 0, none⟩ (S.api_Tele.v y43)) ∧ K (.tuple #[S.api_Tele.v y43, .bool true]) w42))) KP) KP) KP) KP) KP) KP) KP) KP
theorem skepref05_GetTele_of {p0_ : Sl} {w : World} {K : Value → World → Prop} {KP : List PanicEntry → World → Prop} (h : W.skepref05_GetTele p0_ w K KP) : C.skepref05_GetTele p0_ w K KP :=
  xcall (E := E) (T := mkTab [] [] [] [] [] [] []) (c := Try.f25.body.getD .skip) (rs := [.cell 2 53, .tmp 3]) ⟨⟩ mixed Try.func25 (by kernel_rfl) (by kernel_rfl) [.slice p0_.a p0_.len p0_.cap] (by kernel_rfl) (by kernel_rfl) (.inr (by kernel_rfl)) (Eq.mp (by kernel_rfl) h)

def W.skepref05_PutTele (t : S.api_Tele) (w : World) (K : Value → World → Prop) (KP : List PanicEntry → World → Prop) : Prop :=
   ∀ (b1 : Nat) (w2 : World), Alloc w b1 53 (S.api_Tele.v t : Value).cells.toList w2 →
    ∀ w3, Drew w2 w3 →
    ∃ y4 : Int, (okVal false 1 (.int .i64 y4) = true ∧ w3.cell? ⟨b1, 0, none⟩ = some (.int .i64 y4)) ∧
    ∃ y5 : Int, (okVal false 1 (.int .i64 y5) = true ∧ w3.cell? ⟨b1, 1, none⟩ = some (.int .i64 y5)) ∧
    ∃ y6 : Int, (okVal false 1 (.int .i64 y6) = true ∧ w3.cell? ⟨b1, 2, none⟩ = some (.int .i64 y6)) ∧
    ∃ y7 : Int, (okVal false 1 (.int .i64 y7) = true ∧ w3.cell? ⟨b1, 3, none⟩ = some (.int .i64 y7)) ∧
    C.skepref05_num (⟨none, 0, 0⟩) y4 w3 (fun r10 w8 => ∃ p9 : Sl, r10 = .slice p9.a p9.len p9.cap ∧
    (w8.cell? ⟨b1, 3, none⟩ = some (.int .i64 y7)) ∧ (w8.cell? ⟨b1, 2, none⟩ = some (.int .i64 y6)) ∧ (w8.cell? ⟨b1, 1, none⟩ = some (.int .i64 y5)) ∧ C.skepref05_num p9 y5 w8 (fun r13 w11 => ∃ p12 : Sl, r13 = .slice p12.a p12.len p12.cap ∧
    (w11.cell? ⟨b1, 3, none⟩ = some (.int .i64 y7)) ∧ (w11.cell? ⟨b1, 2, none⟩ = some (.int .i64 y6)) ∧ C.skepref05_num p12 y6 w11 (fun r16 w14 => ∃ p15 : Sl, r16 = .slice p15.a p15.len p15.cap ∧
    (w14.cell? ⟨b1, 3, none⟩ = some (.int .i64 y7)) ∧ C.skepref05_num p15 y7 w14 (fun r19 w17 => ∃ p18 : Sl, r19 = .slice p18.a p18.len p18.cap ∧
    ∀ w20, Drew w17 w20 →
    ∃ y21 : S.api_Move, (okVal true 11 (S.api_Move.v y21) = true ∧ rd w20 ⟨b1, 4, none⟩ (S.api_Move.v y21)) ∧
    ∃ y22 : S.api_Pose, (okVal true 3 (S.api_Pose.v y22) = true ∧ rd w20 ⟨b1, 15, none⟩ (S.api_Pose.v y22)) ∧
    ∃ y23 : Int, (okVal false 1 (.int .i64 y23) = true ∧ w20.cell? ⟨b1, 18, none⟩ = some (.int .i64 y23)) ∧
    C.skepref05_move p18 y21 w20 (fun r26 w24 => ∃ p25 : Sl, r26 = .slice p25.a p25.len p25.cap ∧
    (w24.cell? ⟨b1, 18, none⟩ = some (.int .i64 y23)) ∧ (rd w24 ⟨b1, 15, none⟩ (S.api_Pose.v y22)) ∧ C.skepref05_pose p25 y22 w24 (fun r29 w27 => ∃ p28 : Sl, r29 = .slice p28.a p28.len p28.cap ∧
    (w27.cell? ⟨b1, 18, none⟩ = some (.int .i64 y23)) ∧ C.skepref05_num p28 y23 w27 (fun r32 w30 => ∃ p31 : Sl, r32 = .slice p31.a p31.len p31.cap ∧
    K (.slice p31.a p31.len p31.cap) w30) KP) KP) KP) KP) KP) KP) KP
theorem skepref05_PutTele_of {t : S.api_Tele} {w : World} {K : Value → World → Prop} {KP : List PanicEntry → World → Prop} (h : W.skepref05_PutTele t w K KP) : C.skepref05_PutTele t w K KP :=
  xcall (E := E) (T := mkTab [] [] [] [] [(1, [0, 1, 3, 4, 6, 7, 9, 10, 2, 5, 8, 11, 12]), (2, [0, 1, 2, 4, 5, 7, 8, 3, 6, 9, 10])] [(1, [0, 1, 3, 0, 8, 31, 0, 64, 255, 0, 512, 2047, 4095]), (2, [0, 0, 2, 7, 0, 16, 63, 0, 128, 511, 1023])] []) (c := Try.f26.body.getD .skip) (rs := [.tmp 2]) ⟨⟩ mixed Try.func26 (by kernel_rfl) (by kernel_rfl) [S.api_Tele.v t] (by kernel_rfl) (by kernel_rfl) (.inr (by kernel_rfl)) (Eq.mp (by kernel_rfl) h)

def W.codec_PutEvent (p0_ : S.api_Event) (w : World) (K : Value → World → Prop) (KP : List PanicEntry → World → Prop) : Prop :=
   ∀ (b1 : Nat) (w2 : World), Alloc w b1 63 (S.api_Event.v p0_ : Value).cells.toList w2 →
    ∀ w3, Drew w2 w3 →
    ∃ y4 : Int, (okVal false 1 (.int .i64 y4) = true ∧ w3.cell? ⟨b1, 0, none⟩ = some (.int .i64 y4)) ∧
    ∃ y5 : Int, (okVal false 1 (.int .i64 y5) = true ∧ w3.cell? ⟨b1, 1, none⟩ = some (.int .i64 y5)) ∧
    ∃ y6 : Int, (okVal false 1 (.int .i64 y6) = true ∧ w3.cell? ⟨b1, 2, none⟩ = some (.int .i64 y6)) ∧
    C.codec_number (⟨none, 0, 0⟩) y4 w3 (fun r9 w7 => ∃ p8 : Sl, r9 = .slice p8.a p8.len p8.cap ∧
    (w7.cell? ⟨b1, 2, none⟩ = some (.int .i64 y6)) ∧ (w7.cell? ⟨b1, 1, none⟩ = some (.int .i64 y5)) ∧ C.codec_number p8 y5 w7 (fun r12 w10 => ∃ p11 : Sl, r12 = .slice p11.a p11.len p11.cap ∧
    (w10.cell? ⟨b1, 2, none⟩ = some (.int .i64 y6)) ∧ C.codec_number p11 y6 w10 (fun r15 w13 => ∃ p14 : Sl, r15 = .slice p14.a p14.len p14.cap ∧
    ∀ w16, Drew w13 w16 →
    ∃ y17 : S.api_Pose, (okVal true 3 (S.api_Pose.v y17) = true ∧ rd w16 ⟨b1, 3, none⟩ (S.api_Pose.v y17)) ∧
    ∃ y18 : Sl, (okVal false 1 (.slice y18.a y18.len y18.cap) = true ∧ w16.cell? ⟨b1, 6, none⟩ = some (.slice y18.a y18.len y18.cap)) ∧
    C.codec_pose p14 y17 w16 (fun r21 w19 => ∃ p20 : Sl, r21 = .slice p20.a p20.len p20.cap ∧
    (w19.cell? ⟨b1, 6, none⟩ = some (.slice y18.a y18.len y18.cap)) ∧ C.codec_puts_api_Move p20 y18 (.func (.func 46) #[] #[]) w19 (fun r24 w22 => ∃ p23 : Sl, r24 = .slice p23.a p23.len p23.cap ∧
    K (.slice p23.a p23.len p23.cap) w22) KP) KP) KP) KP) KP
theorem codec_PutEvent_of {p0_ : S.api_Event} {w : World} {K : Value → World → Prop} {KP : List PanicEntry → World → Prop} (h : W.codec_PutEvent p0_ w K KP) : C.codec_PutEvent p0_ w K KP :=
  xcall (E := E) (T := mkTab [] [] [] [] [(1, [0, 1, 3, 4, 6, 7, 2, 5, 8, 9]), (2, [0, 1, 2, 4, 5, 3, 6, 7])] [(1, [0, 1, 3, 0, 8, 31, 0, 64, 255, 511]), (2, [0, 0, 2, 7, 0, 16, 63, 127])] []) (c := Try.f27.body.getD .skip) (rs := [.tmp 2]) ⟨⟩ mixed Try.func27 (by kernel_rfl) (by kernel_rfl) [S.api_Event.v p0_] (by kernel_rfl) (by kernel_rfl) (.inr (by kernel_rfl)) (Eq.mp (by kernel_rfl) h)

def W.skeplaw00_CopyEvent (p0_ : S.api_Event) (w : World) (K : Value → World → Prop) (KP : List PanicEntry → World → Prop) : Prop :=
   ∀ (b1 : Nat) (w2 : World), Alloc w b1 63 (S.api_Event.v p0_ : Value).cells.toList w2 →
    ∀ (b3 : Nat) (w4 : World), Alloc w2 b3 63 [.int .i64 0, .int .i64 0, .int .i64 0, .int .i64 0, .int .i64 0, .bool false, .slice none 0 0] w4 →
    ∃ y5 : Sl, (okVal false 1 (.slice y5.a y5.len y5.cap) = true ∧ w4.cell? ⟨b1, 6, none⟩ = some (.slice y5.a y5.len y5.cap)) ∧
    ∃ (q6 : Option Addr) (n7 c8 : Nat) (w9 : World), (Builtin.append_ #[61, 61] 61 #[.slice none 0 0, .slice y5.a y5.len y5.cap]).run Try.prog w4 = .ok (.slice q6 n7 c8) w9 ∧
    (okVal false 1 (.slice q6 n7 c8) = true ∧ canPut w9 ⟨b1, 6, none⟩ (.slice q6 n7 c8)) ∧ ∀ w10 : World, w10 = putAt w9 ⟨b1, 6, none⟩ (.slice q6 n7 c8) →
    ∃ y11 : S.api_Event, (okVal true 7 (S.api_Event.v y11) = true ∧ rd w10 ⟨b1, 0, none⟩ (S.api_Event.v y11)) ∧
    (okVal true 7 (S.api_Event.v y11) = true ∧ canPut w10 ⟨b3, 0, none⟩ (S.api_Event.v y11)) ∧ ∀ w12 : World, w12 = putAt w10 ⟨b3, 0, none⟩ (S.api_Event.v y11) →
    ∃ y13 : S.api_Event, (okVal true 7 (S.api_Event.v y13) = true ∧ rd w12 ⟨b3, 0, none⟩ (S.api_Event.v y13)) ∧ K (S.api_Event.v y13) w12
theorem skeplaw00_CopyEvent_of {p0_ : S.api_Event} {w : World} {K : Value → World → Prop} {KP : List PanicEntry → World → Prop} (h : W.skeplaw00_CopyEvent p0_ w K KP) : C.skeplaw00_CopyEvent p0_ w K KP :=
  xcall (E := E) (T := mkTab [] [] [] [] [] [] []) (c := Try.f28.body.getD .skip) (rs := [.cell 2 63]) ⟨⟩ mixed Try.func28 (by kernel_rfl) (by kernel_rfl) [S.api_Event.v p0_] (by kernel_rfl) (by kernel_rfl) (.inr (by kernel_rfl)) (Eq.mp (by kernel_rfl) h)

def W.codec_GetEvent (p0_ : Sl) (w : World) (K : Value → World → Prop) (KP : List PanicEntry → World → Prop) : Prop :=
   ∀ (b1 : Nat) (w2 : World), Alloc w b1 63 [.int .i64 0, .int .i64 0, .int .i64 0, .int .i64 0, .int .i64 0, .bool false, .slice none 0 0] w2 →
    C.codec_read_api_Event p0_ (.func (.func 57) #[] #[]) w2 (fun r5 w3 => ∃ p4 : (S.api_Event × Int), r5 = .tuple #[S.api_Event.v p4.1, .int .i64 p4.2] ∧
    (okVal true 7 (S.api_Event.v p4.1) = true ∧ canPut w3 ⟨b1, 0, none⟩ (S.api_Event.v p4.1)) ∧ ∀ w6 : World, w6 = putAt w3 ⟨b1, 0, none⟩ (S.api_Event.v p4.1) →
    ∃ y7 : S.api_Event, (okVal true 7 (S.api_Event.v y7) = true ∧ rd w6 ⟨b1, 0, none⟩ (S.api_Event.v y7)) ∧ K (.tuple #[S.api_Event.v y7, .int .i64 p4.2]) w6) KP
theorem codec_GetEvent_of {p0_ : Sl} {w : World} {K : Value → World → Prop} {KP : List PanicEntry → World → Prop} (h : W.codec_GetEvent p0_ w K KP) : C.codec_GetEvent p0_ w K KP :=
  xcall (E := E) (T := mkTab [] [] [] [] [] [] []) (c := Try.f29.body.getD .skip) (rs := [.cell 2 63, .tmp 3]) ⟨⟩ mixed Try.func29 (by kernel_rfl) (by kernel_rfl) [.slice p0_.a p0_.len p0_.cap] (by kernel_rfl) (by kernel_rfl) (.inr (by kernel_rfl)) (Eq.mp (by kernel_rfl) h)

def W.skepref05_GetEvent (p0_ : Sl) (w : World) (K : Value → World → Prop) (KP : List PanicEntry → World → Prop) : Prop :=
   ∀ (b1 : Nat) (w2 : World), Alloc w b1 63 [.int .i64 0, .int .i64 0, .int .i64 0, .int .i64 0, .int .i64 0, .bool false, .slice none 0 0] w2 →
    ∀ (b3 : Nat) (w4 : World), Alloc w2 b3 31 [.slice p0_.a p0_.len p0_.cap, .int .i64 0, .bool false] w4 →
    ∀ (b5 : Nat) (w6 : World), Alloc w4 b5 63 [.int .i64 0, .int .i64 0, .int .i64 0, .int .i64 0, .int .i64 0, .bool false, .slice none 0 0] w6 →
    (okVal true 7 (.agg #[.int .i64 0, .int .i64 0, .int .i64 0, .int .i64 0, .int .i64 0, .bool false, .slice none 0 0]) = true ∧ canPut w6 ⟨b5, 0, none⟩ (.agg #[.int .i64 0, .int .i64 0, .int .i64 0, .int .i64 0, .int .i64 0, .bool false, .slice none 0 0])) ∧ ∀ w7 : World, w7 = putAt w6 ⟨b5, 0, none⟩ (.agg #[.int .i64 0, .int .i64 0, .int .i64 0, .int .i64 0, .int .i64 0, .bool false, .slice none 0 0]) →
    C.skepref05_R_Number (some ⟨b3, 0, none⟩) w7 (fun r10 w8 => ∃ p9 : Int, r10 = .int .i64 p9 ∧
    (okVal false 1 (.int .i64 p9) = true ∧ canPut w8 ⟨b5, 0, none⟩ (.int .i64 p9)) ∧ ∀ w11 : World, w11 = putAt w8 ⟨b5, 0, none⟩ (.int .i64 p9) →
    C.skepref05_R_Number (some ⟨b3, 0, none⟩) w11 (fun r14 w12 => ∃ p13 : Int, r14 = .int .i64 p13 ∧
    (okVal false 1 (.int .i64 p13) = true ∧ canPut w12 ⟨b5, 1, none⟩ (.int .i64 p13)) ∧ ∀ w15 : World, w15 = putAt w12 ⟨b5, 1, none⟩ (.int .i64 p13) →
    C.skepref05_R_Number (some ⟨b3, 0, none⟩) w15 (fun r18 w16 => ∃ p17 : Int, r18 = .int .i64 p17 ∧
    (okVal false 1 (.int .i64 p17) = true ∧ canPut w16 ⟨b5, 2, none⟩ (.int .i64 p17)) ∧ ∀ w19 : World, w19 = putAt w16 ⟨b5, 2, none⟩ (.int .i64 p17) →
    C.skepref05_R_pose (some ⟨b3, 0, none⟩) w19 (fun r22 w20 => ∃ p21 : S.api_Pose, r22 = S.api_Pose.v p21 ∧
    (okVal true 3 (S.api_Pose.v p21) = true ∧ canPut w20 ⟨b5, 3, none⟩ (S.api_Pose.v p21)) ∧ ∀ w23 : World, w23 = putAt w20 ⟨b5, 3, none⟩ (S.api_Pose.v p21) →
    C.skepref05_R_moves (some ⟨b3, 0, none⟩) w23 (fun r26 w24 => ∃ p25 : Sl, r26 = .slice p25.a p25.len p25.cap ∧
    (okVal false 1 (.slice p25.a p25.len p25.cap) = true ∧ canPut w24 ⟨b5, 6, none⟩ (.slice p25.a p25.len p25.cap)) ∧ ∀ w27 : World, w27 = putAt w24 ⟨b5, 6, none⟩ (.slice p25.a p25.len p25.cap) →
    C.skepref05_R_whole (some ⟨b3, 0, none⟩) w27 (fun r30 w28 => ∃ p29 : Bool, r30 = .bool p29 ∧
    (cond (!p29)
    ((okVal true 7 (.agg #[.int .i64 0, .int .i64 0, .int .i64 0, .int .i64 0, .int .i64 0, .bool false, .slice none 0 0]) = true ∧ canPut w28 ⟨b1, 0, none⟩ (.agg #[.int .i64 0, .int .i64 0, .int .i64 0, .int .i64 0, .int .i64 0, .bool false, .slice none 0 0])) ∧ ∀ w31 : World, w31 = putAt w28 ⟨b1, 0, none⟩ (.agg #[.int .i64 0, .int .i64 0, .int .i64 0, .int .i64 0, .int .i64 0, .bool false, .slice none 0 0]) →
    ∃ y32 : S.api_Event, (okVal true 7 (S.api_Event.v y32) = true ∧ rd w31 ⟨b1, 0, none⟩ (S.api_Event.v y32)) ∧ K (.tuple #[S.api_Event.v y32, .bool false]) w31)
    (∃ y33 : S.api_Event, (okVal true 7 (S.api_Event.v y33) = true ∧ rd w28 ⟨b5, 0, none⟩ (S.api_Event.v y33)) ∧
    (okVal true 7 (S.api_Event.v y33) = true ∧ canPut w28 ⟨b1, 0, none⟩ (S.api_Event.v y33)) ∧ ∀ w34 : World, w34 = putAt w28 ⟨b1, 0, none⟩ (S.api_Event.v y33) →
    ∃ y35 : S.api_Event, (okVal true 7 (S.api_Event.v y35) = true ∧ rd w34 ⟨b1, 0, none⟩ (S.api_Event.v y35)) ∧ K (.tuple #[S.api_Event.v y35, .bool true]) w34))) KP) KP) KP) KP) KP) KP
theorem skepref05_GetEvent_of {p0_ : Sl} {w : World} {K : Value → World → Prop} {KP : List PanicEntry → World → Prop} (h : W.skepref05_GetEvent p0_ w K KP) : C.skepref05_GetEvent p0_ w K KP :=
  xcall (E := E) (T := mkTab [] [] [] [] [] [] []) (c := Try.f30.body.getD .skip) (rs := [.cell 2 63, .tmp 3]) ⟨⟩ mixed Try.func30 (by kernel_rfl) (by kernel_rfl) [.slice p0_.a p0_.len p0_.cap] (by kernel_rfl) (by kernel_rfl) (.inr (by kernel_rfl)) (Eq.mp (by kernel_rfl) h)

def W.skepref05_PutEvent (p0_ : S.api_Event) (w : World) (K : Value → World → Prop) (KP : List PanicEntry → World → Prop) : Prop :=
   ∀ (b1 : Nat) (w2 : World), Alloc w b1 63 (S.api_Event.v p0_ : Value).cells.toList w2 →
    ∀ w3, Drew w2 w3 →
    ∃ y4 : Int, (okVal false 1 (.int .i64 y4) = true ∧ w3.cell? ⟨b1, 0, none⟩ = some (.int .i64 y4)) ∧
    ∃ y5 : Int, (okVal false 1 (.int .i64 y5) = true ∧ w3.cell? ⟨b1, 1, none⟩ = some (.int .i64 y5)) ∧
    ∃ y6 : Int, (okVal false 1 (.int .i64 y6) = true ∧ w3.cell? ⟨b1, 2, none⟩ = some (.int .i64 y6)) ∧
    ∃ y7 : S.api_Pose, (okVal true 3 (S.api_Pose.v y7) = true ∧ rd w3 ⟨b1, 3, none⟩ (S.api_Pose.v y7)) ∧
    ∃ y8 : Sl, (okVal false 1 (.slice y8.a y8.len y8.cap) = true ∧ w3.cell? ⟨b1, 6, none⟩ = some (.slice y8.a y8.len y8.cap)) ∧
    C.skepref05_num (⟨none, 0, 0⟩) y4 w3 (fun r11 w9 => ∃ p10 : Sl, r11 = .slice p10.a p10.len p10.cap ∧
    (w9.cell? ⟨b1, 6, none⟩ = some (.slice y8.a y8.len y8.cap)) ∧ (rd w9 ⟨b1, 3, none⟩ (S.api_Pose.v y7)) ∧ (w9.cell? ⟨b1, 2, none⟩ = some (.int .i64 y6)) ∧ (w9.cell? ⟨b1, 1, none⟩ = some (.int .i64 y5)) ∧ C.skepref05_num p10 y5 w9 (fun r14 w12 => ∃ p13 : Sl, r14 = .slice p13.a p13.len p13.cap ∧
    (w12.cell? ⟨b1, 6, none⟩ = some (.slice y8.a y8.len y8.cap)) ∧ (rd w12 ⟨b1, 3, none⟩ (S.api_Pose.v y7)) ∧ (w12.cell? ⟨b1, 2, none⟩ = some (.int .i64 y6)) ∧ C.skepref05_num p13 y6 w12 (fun r17 w15 => ∃ p16 : Sl, r17 = .slice p16.a p16.len p16.cap ∧
    (w15.cell? ⟨b1, 6, none⟩ = some (.slice y8.a y8.len y8.cap)) ∧ (rd w15 ⟨b1, 3, none⟩ (S.api_Pose.v y7)) ∧ C.skepref05_pose p16 y7 w15 (fun r20 w18 => ∃ p19 : Sl, r20 = .slice p19.a p19.len p19.cap ∧
    (w18.cell? ⟨b1, 6, none⟩ = some (.slice y8.a y8.len y8.cap)) ∧ C.skepref05_moves p19 y8 w18 (fun r23 w21 => ∃ p22 : Sl, r23 = .slice p22.a p22.len p22.cap ∧
    K (.slice p22.a p22.len p22.cap) w21) KP) KP) KP) KP) KP
theorem skepref05_PutEvent_of {p0_ : S.api_Event} {w : World} {K : Value → World → Prop} {KP : List PanicEntry → World → Prop} (h : W.skepref05_PutEvent p0_ w K KP) : C.skepref05_PutEvent p0_ w K KP :=
  xcall (E := E) (T := mkTab [] [] [] [] [(1, [0, 1, 3, 4, 6, 7, 9, 10, 12, 13, 2, 5, 8, 11, 14, 15])] [(1, [0, 1, 3, 0, 8, 31, 0, 64, 255, 0, 512, 2047, 0, 4096, 16383, 32767])] []) (c := Try.f31.body.getD .skip) (rs := [.tmp 2]) ⟨⟩ mixed Try.func31 (by kernel_rfl) (by kernel_rfl) [S.api_Event.v p0_] (by kernel_rfl) (by kernel_rfl) (.inr (by kernel_rfl)) (Eq.mp (by kernel_rfl) h)

def W.skeplaw00_SameEvent (a : S.api_Event) (p1_ : S.api_Event) (w : World) (K : Value → World → Prop) (KP : List PanicEntry → World → Prop) : Prop :=
   ∀ (b1 : Nat) (w2 : World), Alloc w b1 63 (S.api_Event.v a : Value).cells.toList w2 →
    ∀ (b3 : Nat) (w4 : World), Alloc w2 b3 63 (S.api_Event.v p1_ : Value).cells.toList w4 →
    ∃ y5 : Int, (okVal false 1 (.int .i64 y5) = true ∧ w4.cell? ⟨b1, 0, none⟩ = some (.int .i64 y5)) ∧
    ∃ y6 : Int, (okVal false 1 (.int .i64 y6) = true ∧ w4.cell? ⟨b3, 0, none⟩ = some (.int .i64 y6)) ∧
    (cond ((y5 : Int) == y6)
    (∃ y7 : Int, (okVal false 1 (.int .i64 y7) = true ∧ w4.cell? ⟨b1, 1, none⟩ = some (.int .i64 y7)) ∧
    ∃ y8 : Int, (okVal false 1 (.int .i64 y8) = true ∧ w4.cell? ⟨b3, 1, none⟩ = some (.int .i64 y8)) ∧
    (cond ((y7 : Int) == y8)
    (∃ y9 : Int, (okVal false 1 (.int .i64 y9) = true ∧ w4.cell? ⟨b1, 2, none⟩ = some (.int .i64 y9)) ∧
    ∃ y10 : Int, (okVal false 1 (.int .i64 y10) = true ∧ w4.cell? ⟨b3, 2, none⟩ = some (.int .i64 y10)) ∧
    (cond ((y9 : Int) == y10)
    (∃ y11 : S.api_Pose, (okVal true 3 (S.api_Pose.v y11) = true ∧ rd w4 ⟨b1, 3, none⟩ (S.api_Pose.v y11)) ∧
    ∃ y12 : S.api_Pose, (okVal true 3 (S.api_Pose.v y12) = true ∧ rd w4 ⟨b3, 3, none⟩ (S.api_Pose.v y12)) ∧
    (cond ((((y11.At.X : Int) == y12.At.X) && (((y11.At.Y : Int) == y12.At.Y) && true)) && ((y11.Down == y12.Down) && true))
    (∃ y13 : Sl, (okVal false 1 (.slice y13.a y13.len y13.cap) = true ∧ w4.cell? ⟨b1, 6, none⟩ = some (.slice y13.a y13.len y13.cap)) ∧
    ∃ y14 : Sl, (okVal false 1 (.slice y14.a y14.len y14.cap) = true ∧ w4.cell? ⟨b3, 6, none⟩ = some (.slice y14.a y14.len y14.cap)) ∧
    C.skeplaw00_SameMoves y13 y14 w4 (fun r17 w15 => ∃ p16 : Bool, r17 = .bool p16 ∧
    K (.bool p16) w15) KP)
    (K (.bool false) w4)))
    (K (.bool false) w4)))
    (K (.bool false) w4)))
    (K (.bool false) w4))
theorem skeplaw00_SameEvent_of {a : S.api_Event} {p1_ : S.api_Event} {w : World} {K : Value → World → Prop} {KP : List PanicEntry → World → Prop} (h : W.skeplaw00_SameEvent a p1_ w K KP) : C.skeplaw00_SameEvent a p1_ w K KP :=
  xcall (E := E) (T := mkTab [] [] [] [] [] [] []) (c := Try.f32.body.getD .skip) (rs := [.tmp 4]) ⟨⟩ mixed Try.func32 (by kernel_rfl) (by kernel_rfl) [S.api_Event.v a, S.api_Event.v p1_] (by kernel_rfl) (by kernel_rfl) (.inr (by kernel_rfl)) (Eq.mp (by kernel_rfl) h)

def W.codec_PutState (s : S.api_State) (w : World) (K : Value → World → Prop) (KP : List PanicEntry → World → Prop) : Prop :=
   ∀ (b1 : Nat) (w2 : World), Alloc w b1 78 (S.api_State.v s : Value).cells.toList w2 →
    ∀ w3, Drew w2 w3 →
    ∃ y4 : Int, (okVal false 1 (.int .i64 y4) = true ∧ w3.cell? ⟨b1, 0, none⟩ = some (.int .i64 y4)) ∧
    ∃ y5 : Int, (okVal false 1 (.int .i64 y5) = true ∧ w3.cell? ⟨b1, 1, none⟩ = some (.int .i64 y5)) ∧
    ∃ y6 : Bool, (okVal false 1 (.bool y6) = true ∧ w3.cell? ⟨b1, 2, none⟩ = some (.bool y6)) ∧
    C.codec_number (⟨none, 0, 0⟩) y4 w3 (fun r9 w7 => ∃ p8 : Sl, r9 = .slice p8.a p8.len p8.cap ∧
    (w7.cell? ⟨b1, 2, none⟩ = some (.bool y6)) ∧ (w7.cell? ⟨b1, 1, none⟩ = some (.int .i64 y5)) ∧ C.codec_number p8 y5 w7 (fun r12 w10 => ∃ p11 : Sl, r12 = .slice p11.a p11.len p11.cap ∧
    (w10.cell? ⟨b1, 2, none⟩ = some (.bool y6)) ∧ C.codec_flag p11 y6 w10 (fun r15 w13 => ∃ p14 : Sl, r15 = .slice p14.a p14.len p14.cap ∧
    ∃ y16 : Sl, (okVal false 1 (.slice y16.a y16.len y16.cap) = true ∧ w13.cell? ⟨b1, 3, none⟩ = some (.slice y16.a y16.len y16.cap)) ∧
    C.codec_puts_api_Stack p14 y16 (.func (.func 64) #[] #[]) w13 (fun r19 w17 => ∃ p18 : Sl, r19 = .slice p18.a p18.len p18.cap ∧
    ∃ y20 : Sl, (okVal false 1 (.slice y20.a y20.len y20.cap) = true ∧ w17.cell? ⟨b1, 4, none⟩ = some (.slice y20.a y20.len y20.cap)) ∧
    C.codec_puts_api_Robot p18 y20 (.func (.func 68) #[] #[]) w17 (fun r23 w21 => ∃ p22 : Sl, r23 = .slice p22.a p22.len p22.cap ∧
    ∃ y24 : Sl, (okVal false 1 (.slice y24.a y24.len y24.cap) = true ∧ w21.cell? ⟨b1, 5, none⟩ = some (.slice y24.a y24.len y24.cap)) ∧
    C.codec_puts_api_Port p22 y24 (.func (.func 70) #[] #[]) w21 (fun r27 w25 => ∃ p26 : Sl, r27 = .slice p26.a p26.len p26.cap ∧
    ∃ y28 : Sl, (okVal false 1 (.slice y28.a y28.len y28.cap) = true ∧ w25.cell? ⟨b1, 6, none⟩ = some (.slice y28.a y28.len y28.cap)) ∧
    C.codec_puts_api_Order p26 y28 (.func (.func 72) #[] #[]) w25 (fun r31 w29 => ∃ p30 : Sl, r31 = .slice p30.a p30.len p30.cap ∧
    ∃ y32 : Sl, (okVal false 1 (.slice y32.a y32.len y32.cap) = true ∧ w29.cell? ⟨b1, 7, none⟩ = some (.slice y32.a y32.len y32.cap)) ∧
    C.codec_puts_api_Job p30 y32 (.func (.func 74) #[] #[]) w29 (fun r35 w33 => ∃ p34 : Sl, r35 = .slice p34.a p34.len p34.cap ∧
    ∀ w36, Drew w33 w36 →
    ∃ y37 : Int, (okVal false 1 (.int .i64 y37) = true ∧ w36.cell? ⟨b1, 8, none⟩ = some (.int .i64 y37)) ∧
    ∃ y38 : Int, (okVal false 1 (.int .i64 y38) = true ∧ w36.cell? ⟨b1, 9, none⟩ = some (.int .i64 y38)) ∧
    C.codec_number p34 y37 w36 (fun r41 w39 => ∃ p40 : Sl, r41 = .slice p40.a p40.len p40.cap ∧
    (w39.cell? ⟨b1, 9, none⟩ = some (.int .i64 y38)) ∧ C.codec_number p40 y38 w39 (fun r44 w42 => ∃ p43 : Sl, r44 = .slice p43.a p43.len p43.cap ∧
    K (.slice p43.a p43.len p43.cap) w42) KP) KP) KP) KP) KP) KP) KP) KP) KP) KP
theorem codec_PutState_of {s : S.api_State} {w : World} {K : Value → World → Prop} {KP : List PanicEntry → World → Prop} (h : W.codec_PutState s w K KP) : C.codec_PutState s w K KP :=
  xcall (E := E) (T := mkTab [] [] [] [] [(1, [0, 1, 3, 4, 6, 7, 2, 5, 8, 9]), (7, [0, 1, 2, 4, 5, 3, 6, 7])] [(1, [0, 1, 3, 0, 8, 31, 0, 64, 255, 511]), (7, [0, 0, 2, 7, 0, 16, 63, 127])] []) (c := Try.f33.body.getD .skip) (rs := [.tmp 2]) ⟨⟩ mixed Try.func33 (by kernel_rfl) (by kernel_rfl) [S.api_State.v s] (by kernel_rfl) (by kernel_rfl) (.inr (by kernel_rfl)) (Eq.mp (by kernel_rfl) h)

def W.codec_GetState (p0_ : Sl) (w : World) (K : Value → World → Prop) (KP : List PanicEntry → World → Prop) : Prop :=
   ∀ (b1 : Nat) (w2 : World), Alloc w b1 78 [.int .i64 0, .int .i64 0, .bool false, .slice none 0 0, .slice none 0 0, .slice none 0 0, .slice none 0 0, .slice none 0 0, .int .i64 0, .int .i64 0] w2 →
    C.codec_read_api_State p0_ (.func (.func 76) #[] #[]) w2 (fun r5 w3 => ∃ p4 : (S.api_State × Int), r5 = .tuple #[S.api_State.v p4.1, .int .i64 p4.2] ∧
    (okVal true 10 (S.api_State.v p4.1) = true ∧ canPut w3 ⟨b1, 0, none⟩ (S.api_State.v p4.1)) ∧ ∀ w6 : World, w6 = putAt w3 ⟨b1, 0, none⟩ (S.api_State.v p4.1) →
    ∃ y7 : S.api_State, (okVal true 10 (S.api_State.v y7) = true ∧ rd w6 ⟨b1, 0, none⟩ (S.api_State.v y7)) ∧ K (.tuple #[S.api_State.v y7, .int .i64 p4.2]) w6) KP
theorem codec_GetState_of {p0_ : Sl} {w : World} {K : Value → World → Prop} {KP : List PanicEntry → World → Prop} (h : W.codec_GetState p0_ w K KP) : C.codec_GetState p0_ w K KP :=
  xcall (E := E) (T := mkTab [] [] [] [] [] [] []) (c := Try.f34.body.getD .skip) (rs := [.cell 2 78, .tmp 3]) ⟨⟩ mixed Try.func34 (by kernel_rfl) (by kernel_rfl) [.slice p0_.a p0_.len p0_.cap] (by kernel_rfl) (by kernel_rfl) (.inr (by kernel_rfl)) (Eq.mp (by kernel_rfl) h)

def W.skepref05_GetState (p0_ : Sl) (w : World) (K : Value → World → Prop) (KP : List PanicEntry → World → Prop) : Prop :=
   ∀ (b1 : Nat) (w2 : World), Alloc w b1 78 [.int .i64 0, .int .i64 0, .bool false, .slice none 0 0, .slice none 0 0, .slice none 0 0, .slice none 0 0, .slice none 0 0, .int .i64 0, .int .i64 0] w2 →
    ∀ (b3 : Nat) (w4 : World), Alloc w2 b3 31 [.slice p0_.a p0_.len p0_.cap, .int .i64 0, .bool false] w4 →
    ∀ (b5 : Nat) (w6 : World), Alloc w4 b5 78 [.int .i64 0, .int .i64 0, .bool false, .slice none 0 0, .slice none 0 0, .slice none 0 0, .slice none 0 0, .slice none 0 0, .int .i64 0, .int .i64 0] w6 →
    (okVal true 10 (.agg #[.int .i64 0, .int .i64 0, .bool false, .slice none 0 0, .slice none 0 0, .slice none 0 0, .slice none 0 0, .slice none 0 0, .int .i64 0, .int .i64 0]) = true ∧ canPut w6 ⟨b5, 0, none⟩ (.agg #[.int .i64 0, .int .i64 0, .bool false, .slice none 0 0, .slice none 0 0, .slice none 0 0, .slice none 0 0, .slice none 0 0, .int .i64 0, .int .i64 0])) ∧ ∀ w7 : World, w7 = putAt w6 ⟨b5, 0, none⟩ (.agg #[.int .i64 0, .int .i64 0, .bool false, .slice none 0 0, .slice none 0 0, .slice none 0 0, .slice none 0 0, .slice none 0 0, .int .i64 0, .int .i64 0]) →
    C.skepref05_R_Number (some ⟨b3, 0, none⟩) w7 (fun r10 w8 => ∃ p9 : Int, r10 = .int .i64 p9 ∧
    (okVal false 1 (.int .i64 p9) = true ∧ canPut w8 ⟨b5, 0, none⟩ (.int .i64 p9)) ∧ ∀ w11 : World, w11 = putAt w8 ⟨b5, 0, none⟩ (.int .i64 p9) →
    C.skepref05_R_Number (some ⟨b3, 0, none⟩) w11 (fun r14 w12 => ∃ p13 : Int, r14 = .int .i64 p13 ∧
    (okVal false 1 (.int .i64 p13) = true ∧ canPut w12 ⟨b5, 1, none⟩ (.int .i64 p13)) ∧ ∀ w15 : World, w15 = putAt w12 ⟨b5, 1, none⟩ (.int .i64 p13) →
    C.skepref05_R_Flag (some ⟨b3, 0, none⟩) w15 (fun r18 w16 => ∃ p17 : Bool, r18 = .bool p17 ∧
    (okVal false 1 (.bool p17) = true ∧ canPut w16 ⟨b5, 2, none⟩ (.bool p17)) ∧ ∀ w19 : World, w19 = putAt w16 ⟨b5, 2, none⟩ (.bool p17) →
    C.skepref05_R_Count (some ⟨b3, 0, none⟩) w19 (fun r22 w20 => ∃ p21 : Int, r22 = .int .i64 p21 ∧
    ∃ J23 : World → Prop,
    (∃ (I24 : Int → World → Prop) (M25 : Int → World → Nat),
    (∃ u26 : Int, (.int .i64 0 : Value) = .int .i64 u26 ∧ I24 u26 w20) ∧
    ∀ e0 : Env, ∀ v27 : Int, ∀ w28 : World, I24 v27 w28 →
    (cond (decide ((v27 : Int) < p21))
    (∃ y29 : Bool, (okVal false 1 (.bool y29) = true ∧ w28.cell? ⟨b3, 2, none⟩ = some (.bool y29)) ∧
    (cond (!y29)
    (C.skepref05_R_cell (some ⟨b3, 0, none⟩) w28 (fun r32 w30 => ∃ p31 : S.api_Cell, r32 = S.api_Cell.v p31 ∧
    ∀ (b33 : Nat) (w34 : World), Alloc w30 b33 47 [.int .i64 0, .int .i64 0] w34 →
    (okVal true 2 (S.api_Cell.v p31) = true ∧ canPut w34 ⟨b33, 0, none⟩ (S.api_Cell.v p31)) ∧ ∀ w35 : World, w35 = putAt w34 ⟨b33, 0, none⟩ (S.api_Cell.v p31) →
    C.skepref05_R_numbers (some ⟨b3, 0, none⟩) w35 (fun r38 w36 => ∃ p37 : Sl, r38 = .slice p37.a p37.len p37.cap ∧
    ∃ y39 : Sl, (okVal false 1 (.slice y39.a y39.len y39.cap) = true ∧ w36.cell? ⟨b5, 3, none⟩ = some (.slice y39.a y39.len y39.cap)) ∧
    ∃ y40 : S.api_Cell, (okVal true 2 (S.api_Cell.v y40) = true ∧ rd w36 ⟨b33, 0, none⟩ (S.api_Cell.v y40)) ∧
    ∀ (b41 : Nat) (w42 : World), Alloc w36 b41 110 [.int .i64 y40.X, .int .i64 y40.Y, .slice p37.a p37.len p37.cap] w42 →
    ∃ (q43 : Option Addr) (n44 c45 : Nat) (w46 : World), (Builtin.append_ #[72, 72] 72 #[.slice y39.a y39.len y39.cap, .slice (some ⟨b41, 0, none⟩) 1 1]).run Try.prog w42 = .ok (.slice q43 n44 c45) w46 ∧
    (okVal false 1 (.slice q43 n44 c45) = true ∧ canPut w46 ⟨b5, 3, none⟩ (.slice q43 n44 c45)) ∧ ∀ w47 : World, w47 = putAt w46 ⟨b5, 3, none⟩ (.slice q43 n44 c45) →
    ∃ u48 : Int, (.int .i64 (IntKind.i64.wrap (v27 + 1)) : Value) = .int .i64 u48 ∧ (I24 u48 w47 ∧ M25 u48 w47 < M25 v27 w28)) KP) KP)
    (J23 w28)))
    (J23 w28))) ∧
    ∀ e0 : Env, ∀ w49 : World, J23 w49 →
    C.skepref05_R_Count (some ⟨b3, 0, none⟩) w49 (fun r52 w50 => ∃ p51 : Int, r52 = .int .i64 p51 ∧
    ∃ J53 : World → Prop,
    (∃ (I54 : Int → World → Prop) (M55 : Int → World → Nat),
    (∃ u56 : Int, (.int .i64 0 : Value) = .int .i64 u56 ∧ I54 u56 w50) ∧
    ∀ e0 : Env, ∀ v57 : Int, ∀ w58 : World, I54 v57 w58 →
    (cond (decide ((v57 : Int) < p51))
    (∃ y59 : Bool, (okVal false 1 (.bool y59) = true ∧ w58.cell? ⟨b3, 2, none⟩ = some (.bool y59)) ∧
    (cond (!y59)
    (C.skepref05_R_robot (some ⟨b3, 0, none⟩) w58 (fun r62 w60 => ∃ p61 : S.api_Robot, r62 = S.api_Robot.v p61 ∧
    ∀ (b63 : Nat) (w64 : World), Alloc w60 b63 116 [.int .i64 0, .int .i64 0, .bool false, .int .i64 0, .int .i64 0, .slice none 0 0, .bool false, .int .i64 0, .bool false] w64 →
    (okVal true 9 (S.api_Robot.v p61) = true ∧ canPut w64 ⟨b63, 0, none⟩ (S.api_Robot.v p61)) ∧ ∀ w65 : World, w65 = putAt w64 ⟨b63, 0, none⟩ (S.api_Robot.v p61) →
    ∃ y66 : Sl, (okVal false 1 (.slice y66.a y66.len y66.cap) = true ∧ w65.cell? ⟨b5, 4, none⟩ = some (.slice y66.a y66.len y66.cap)) ∧
    ∃ y67 : S.api_Robot, (okVal true 9 (S.api_Robot.v y67) = true ∧ rd w65 ⟨b63, 0, none⟩ (S.api_Robot.v y67)) ∧
    ∀ (b68 : Nat) (w69 : World), Alloc w65 b68 116 [.int .i64 y67.At.At.X, .int .i64 y67.At.At.Y, .bool y67.At.Down, .int .i64 y67.Load, .int .i64 y67.Job, .slice y67.Moves.a y67.Moves.len y67.Moves.cap, .bool y67.Out, .int .i64 y67.Num, .bool y67.Stands] w69 →
    ∃ (q70 : Option Addr) (n71 c72 : Nat) (w73 : World), (Builtin.append_ #[73, 73] 73 #[.slice y66.a y66.len y66.cap, .slice (some ⟨b68, 0, none⟩) 1 1]).run Try.prog w69 = .ok (.slice q70 n71 c72) w73 ∧
    (okVal false 1 (.slice q70 n71 c72) = true ∧ canPut w73 ⟨b5, 4, none⟩ (.slice q70 n71 c72)) ∧ ∀ w74 : World, w74 = putAt w73 ⟨b5, 4, none⟩ (.slice q70 n71 c72) →
    ∃ u75 : Int, (.int .i64 (IntKind.i64.wrap (v57 + 1)) : Value) = .int .i64 u75 ∧ (I54 u75 w74 ∧ M55 u75 w74 < M55 v57 w58)) KP)
    (J53 w58)))
    (J53 w58))) ∧
    ∀ e0 : Env, ∀ w76 : World, J53 w76 →
    C.skepref05_R_Count (some ⟨b3, 0, none⟩) w76 (fun r79 w77 => ∃ p78 : Int, r79 = .int .i64 p78 ∧
    ∃ J80 : World → Prop,
    (∃ (I81 : Int → World → Prop) (M82 : Int → World → Nat),
    (∃ u83 : Int, (.int .i64 0 : Value) = .int .i64 u83 ∧ I81 u83 w77) ∧
    ∀ e0 : Env, ∀ v84 : Int, ∀ w85 : World, I81 v84 w85 →
    (cond (decide ((v84 : Int) < p78))
    (∃ y86 : Bool, (okVal false 1 (.bool y86) = true ∧ w85.cell? ⟨b3, 2, none⟩ = some (.bool y86)) ∧
    (cond (!y86)
    (∀ (b87 : Nat) (w88 : World), Alloc w85 b87 120 [.int .i64 0, .int .i64 0, .slice none 0 0] w88 →
    (okVal true 3 (.agg #[.int .i64 0, .int .i64 0, .slice none 0 0]) = true ∧ canPut w88 ⟨b87, 0, none⟩ (.agg #[.int .i64 0, .int .i64 0, .slice none 0 0])) ∧ ∀ w89 : World, w89 = putAt w88 ⟨b87, 0, none⟩ (.agg #[.int .i64 0, .int .i64 0, .slice none 0 0]) →
    C.skepref05_R_Number (some ⟨b3, 0, none⟩) w89 (fun r92 w90 => ∃ p91 : Int, r92 = .int .i64 p91 ∧
    (okVal false 1 (.int .i64 p91) = true ∧ canPut w90 ⟨b87, 0, none⟩ (.int .i64 p91)) ∧ ∀ w93 : World, w93 = putAt w90 ⟨b87, 0, none⟩ (.int .i64 p91) →
    C.skepref05_R_Number (some ⟨b3, 0, none⟩) w93 (fun r96 w94 => ∃ p95 : Int, r96 = .int .i64 p95 ∧
    (okVal false 1 (.int .i64 p95) = true ∧ canPut w94 ⟨b87, 1, none⟩ (.int .i64 p95)) ∧ ∀ w97 : World, w97 = putAt w94 ⟨b87, 1, none⟩ (.int .i64 p95) →
    C.skepref05_R_numbers (some ⟨b3, 0, none⟩) w97 (fun r100 w98 => ∃ p99 : Sl, r100 = .slice p99.a p99.len p99.cap ∧
    (okVal false 1 (.slice p99.a p99.len p99.cap) = true ∧ canPut w98 ⟨b87, 2, none⟩ (.slice p99.a p99.len p99.cap)) ∧ ∀ w101 : World, w101 = putAt w98 ⟨b87, 2, none⟩ (.slice p99.a p99.len p99.cap) →
    ∃ y102 : Sl, (okVal false 1 (.slice y102.a y102.len y102.cap) = true ∧ w101.cell? ⟨b5, 5, none⟩ = some (.slice y102.a y102.len y102.cap)) ∧
    ∃ y103 : S.api_Port, (okVal true 3 (S.api_Port.v y103) = true ∧ rd w101 ⟨b87, 0, none⟩ (S.api_Port.v y103)) ∧
    ∀ (b104 : Nat) (w105 : World), Alloc w101 b104 120 [.int .i64 y103.Bin, .int .i64 y103.Active, .slice y103.Queue.a y103.Queue.len y103.Queue.cap] w105 →
    ∃ (q106 : Option Addr) (n107 c108 : Nat) (w109 : World), (Builtin.append_ #[74, 74] 74 #[.slice y102.a y102.len y102.cap, .slice (some ⟨b104, 0, none⟩) 1 1]).run Try.prog w105 = .ok (.slice q106 n107 c108) w109 ∧
    (okVal false 1 (.slice q106 n107 c108) = true ∧ canPut w109 ⟨b5, 5, none⟩ (.slice q106 n107 c108)) ∧ ∀ w110 : World, w110 = putAt w109 ⟨b5, 5, none⟩ (.slice q106 n107 c108) →
    ∃ u111 : Int, (.int .i64 (IntKind.i64.wrap (v84 + 1)) : Value) = .int .i64 u111 ∧ (I81 u111 w110 ∧ M82 u111 w110 < M82 v84 w85)) KP) KP) KP)
    (J80 w85)))
    (J80 w85))) ∧
    ∀ e0 : Env, ∀ w112 : World, J80 w112 →
    C.skepref05_R_Count (some ⟨b3, 0, none⟩) w112 (fun r115 w113 => ∃ p114 : Int, r115 = .int .i64 p114 ∧
    ∃ J116 : World → Prop,
    (∃ (I117 : Int → World → Prop) (M118 : Int → World → Nat),
    (∃ u119 : Int, (.int .i64 0 : Value) = .int .i64 u119 ∧ I117 u119 w113) ∧
    ∀ e0 : Env, ∀ v120 : Int, ∀ w121 : World, I117 v120 w121 →
    (cond (decide ((v120 : Int) < p114))
    (∃ y122 : Bool, (okVal false 1 (.bool y122) = true ∧ w121.cell? ⟨b3, 2, none⟩ = some (.bool y122)) ∧
    (cond (!y122)
    (∀ (b123 : Nat) (w124 : World), Alloc w121 b123 124 [.int .i64 0, .int .i64 0, .int .i64 0, .int .i64 0] w124 →
    (okVal true 4 (.agg #[.int .i64 0, .int .i64 0, .int .i64 0, .int .i64 0]) = true ∧ canPut w124 ⟨b123, 0, none⟩ (.agg #[.int .i64 0, .int .i64 0, .int .i64 0, .int .i64 0])) ∧ ∀ w125 : World, w125 = putAt w124 ⟨b123, 0, none⟩ (.agg #[.int .i64 0, .int .i64 0, .int .i64 0, .int .i64 0]) →
    C.skepref05_R_Number (some ⟨b3, 0, none⟩) w125 (fun r128 w126 => ∃ p127 : Int, r128 = .int .i64 p127 ∧
    (okVal false 1 (.int .i64 p127) = true ∧ canPut w126 ⟨b123, 0, none⟩ (.int .i64 p127)) ∧ ∀ w129 : World, w129 = putAt w126 ⟨b123, 0, none⟩ (.int .i64 p127) →
    C.skepref05_R_Number (some ⟨b3, 0, none⟩) w129 (fun r132 w130 => ∃ p131 : Int, r132 = .int .i64 p131 ∧
    (okVal false 1 (.int .i64 p131) = true ∧ canPut w130 ⟨b123, 1, none⟩ (.int .i64 p131)) ∧ ∀ w133 : World, w133 = putAt w130 ⟨b123, 1, none⟩ (.int .i64 p131) →
    C.skepref05_R_Number (some ⟨b3, 0, none⟩) w133 (fun r136 w134 => ∃ p135 : Int, r136 = .int .i64 p135 ∧
    (okVal false 1 (.int .i64 p135) = true ∧ canPut w134 ⟨b123, 2, none⟩ (.int .i64 p135)) ∧ ∀ w137 : World, w137 = putAt w134 ⟨b123, 2, none⟩ (.int .i64 p135) →
    C.skepref05_R_Number (some ⟨b3, 0, none⟩) w137 (fun r140 w138 => ∃ p139 : Int, r140 = .int .i64 p139 ∧
    (okVal false 1 (.int .i64 p139) = true ∧ canPut w138 ⟨b123, 3, none⟩ (.int .i64 p139)) ∧ ∀ w141 : World, w141 = putAt w138 ⟨b123, 3, none⟩ (.int .i64 p139) →
    ∃ y142 : Sl, (okVal false 1 (.slice y142.a y142.len y142.cap) = true ∧ w141.cell? ⟨b5, 6, none⟩ = some (.slice y142.a y142.len y142.cap)) ∧
    ∃ y143 : S.api_Order, (okVal true 4 (S.api_Order.v y143) = true ∧ rd w141 ⟨b123, 0, none⟩ (S.api_Order.v y143)) ∧
    ∀ (b144 : Nat) (w145 : World), Alloc w141 b144 124 [.int .i64 y143.ID, .int .i64 y143.Bin, .int .i64 y143.Port, .int .i64 y143.State] w145 →
    ∃ (q146 : Option Addr) (n147 c148 : Nat) (w149 : World), (Builtin.append_ #[75, 75] 75 #[.slice y142.a y142.len y142.cap, .slice (some ⟨b144, 0, none⟩) 1 1]).run Try.prog w145 = .ok (.slice q146 n147 c148) w149 ∧
    (okVal false 1 (.slice q146 n147 c148) = true ∧ canPut w149 ⟨b5, 6, none⟩ (.slice q146 n147 c148)) ∧ ∀ w150 : World, w150 = putAt w149 ⟨b5, 6, none⟩ (.slice q146 n147 c148) →
    ∃ u151 : Int, (.int .i64 (IntKind.i64.wrap (v120 + 1)) : Value) = .int .i64 u151 ∧ (I117 u151 w150 ∧ M118 u151 w150 < M118 v120 w121)) KP) KP) KP) KP)
    (J116 w121)))
    (J116 w121))) ∧
    ∀ e0 : Env, ∀ w152 : World, J116 w152 →
    C.skepref05_R_Count (some ⟨b3, 0, none⟩) w152 (fun r155 w153 => ∃ p154 : Int, r155 = .int .i64 p154 ∧
    ∃ J156 : World → Prop,
    (∃ (I157 : Int → World → Prop) (M158 : Int → World → Nat),
    (∃ u159 : Int, (.int .i64 0 : Value) = .int .i64 u159 ∧ I157 u159 w153) ∧
    ∀ e0 : Env, ∀ v160 : Int, ∀ w161 : World, I157 v160 w161 →
    (cond (decide ((v160 : Int) < p154))
    (∃ y162 : Bool, (okVal false 1 (.bool y162) = true ∧ w161.cell? ⟨b3, 2, none⟩ = some (.bool y162)) ∧
    (cond (!y162)
    (C.skepref05_R_job (some ⟨b3, 0, none⟩) w161 (fun r165 w163 => ∃ p164 : S.api_Job, r165 = S.api_Job.v p164 ∧
    ∀ (b166 : Nat) (w167 : World), Alloc w163 b166 128 [.int .i64 0, .int .i64 0, .int .i64 0, .int .i64 0, .int .i64 0, .int .i64 0, .int .i64 0, .int .i64 0, .int .i64 0] w167 →
    (okVal true 9 (S.api_Job.v p164) = true ∧ canPut w167 ⟨b166, 0, none⟩ (S.api_Job.v p164)) ∧ ∀ w168 : World, w168 = putAt w167 ⟨b166, 0, none⟩ (S.api_Job.v p164) →
    ∃ y169 : Sl, (okVal false 1 (.slice y169.a y169.len y169.cap) = true ∧ w168.cell? ⟨b5, 7, none⟩ = some (.slice y169.a y169.len y169.cap)) ∧
    ∃ y170 : S.api_Job, (okVal true 9 (S.api_Job.v y170) = true ∧ rd w168 ⟨b166, 0, none⟩ (S.api_Job.v y170)) ∧
    ∀ (b171 : Nat) (w172 : World), Alloc w168 b171 128 [.int .i64 y170.ID, .int .i64 y170.Kind, .int .i64 y170.Order, .int .i64 y170.Bin, .int .i64 y170.From.X, .int .i64 y170.From.Y, .int .i64 y170.To.X, .int .i64 y170.To.Y, .int .i64 y170.Robot] w172 →
    ∃ (q173 : Option Addr) (n174 c175 : Nat) (w176 : World), (Builtin.append_ #[76, 76] 76 #[.slice y169.a y169.len y169.cap, .slice (some ⟨b171, 0, none⟩) 1 1]).run Try.prog w172 = .ok (.slice q173 n174 c175) w176 ∧
    (okVal false 1 (.slice q173 n174 c175) = true ∧ canPut w176 ⟨b5, 7, none⟩ (.slice q173 n174 c175)) ∧ ∀ w177 : World, w177 = putAt w176 ⟨b5, 7, none⟩ (.slice q173 n174 c175) →
    ∃ u178 : Int, (.int .i64 (IntKind.i64.wrap (v160 + 1)) : Value) = .int .i64 u178 ∧ (I157 u178 w177 ∧ M158 u178 w177 < M158 v160 w161)) KP)
    (J156 w161)))
    (J156 w161))) ∧
    ∀ e0 : Env, ∀ w179 : World, J156 w179 →
    C.skepref05_R_Number (some ⟨b3, 0, none⟩) w179 (fun r182 w180 => ∃ p181 : Int, r182 = .int .i64 p181 ∧
    (okVal false 1 (.int .i64 p181) = true ∧ canPut w180 ⟨b5, 8, none⟩ (.int .i64 p181)) ∧ ∀ w183 : World, w183 = putAt w180 ⟨b5, 8, none⟩ (.int .i64 p181) →
    C.skepref05_R_Number (some ⟨b3, 0, none⟩) w183 (fun r186 w184 => ∃ p185 : Int, r186 = .int .i64 p185 ∧
    (okVal false 1 (.int .i64 p185) = true ∧ canPut w184 ⟨b5, 9, none⟩ (.int .i64 p185)) ∧ ∀ w187 : World, w187 = putAt w184 ⟨b5, 9, none⟩ (.int .i64 p185) →
    C.skepref05_R_whole (some ⟨b3, 0, none⟩) w187 (fun r190 w188 => ∃ p189 : Bool, r190 = .bool p189 ∧
    (cond (!p189)
    ((okVal true 10 (.agg #[.int .i64 0, .int .i64 0, .bool false, .slice none 0 0, .slice none 0 0, .slice none 0 0, .slice none 0 0, .slice none 0 0, .int .i64 0, .int .i64 0]) = true ∧ canPut w188 ⟨b1, 0, none⟩ (.agg #[.int .i64 0, .int .i64 0, .bool false, .slice none 0 0, .slice none 0 0, .slice none 0 0, .slice none 0 0, .slice none 0 0, .int .i64 0, .int .i64 0])) ∧ ∀ w191 : World, w191 = putAt w188 ⟨b1, 0, none⟩ (.agg #[.int .i64 0, .int .i64 0, .bool false, .slice none 0 0, .slice none 0 0, .slice none 0 0, .slice none 0 0, .slice none 0 0, .int .i64 0, .int .i64 0]) →
    ∃ y192 : S.api_State, (okVal true 10 (S.api_State.v y192) = true ∧ rd w191 ⟨b1, 0, none⟩ (S.api_State.v y192)) ∧ K (.tuple #[S.api_State.v y192, .bool false]) w191)
    (∃ y193 : S.api_State, (okVal true 10 (S.api_State.v y193) = true ∧ rd w188 ⟨b5, 0, none⟩ (S.api_State.v y193)) ∧
    (okVal true 10 (S.api_State.v y193) = true ∧ canPut w188 ⟨b1, 0, none⟩ (S.api_State.v y193)) ∧ ∀ w194 : World, w194 = putAt w188 ⟨b1, 0, none⟩ (S.api_State.v y193) →
    ∃ y195 : S.api_State, (okVal true 10 (S.api_State.v y195) = true ∧ rd w194 ⟨b1, 0, none⟩ (S.api_State.v y195)) ∧ K (.tuple #[S.api_State.v y195, .bool true]) w194))) KP) KP) KP) KP) KP) KP) KP) KP) KP) KP) KP
theorem skepref05_GetState_of {p0_ : Sl} {w : World} {K : Value → World → Prop} {KP : List PanicEntry → World → Prop} (h : W.skepref05_GetState p0_ w K KP) : C.skepref05_GetState p0_ w K KP :=
  xcall (E := E) (T := mkTab [(8, [(7, 3)]), (15, [(10, 3)]), (21, [(12, 3)]), (30, [(14, 3)]), (40, [(16, 3)])] [(8, [7, 8, 9, 33, 34, 35, 36, 37, 38, 39, 40, 41, 42, 43, 44, 45, 46, 47, 48, 49, 50, 51, 52, 53, 54, 55, 56]), (15, [10, 11, 59, 60, 61, 62, 63, 64, 65, 66, 67, 68, 69, 70, 71, 72, 73, 74, 75, 76, 77, 78]), (21, [12, 13, 81, 82, 83, 84, 85, 86, 87, 88, 89, 90, 91, 92, 93, 94, 95, 96, 97, 98, 99, 100, 101, 102, 103, 104, 105, 106, 107, 108]), (30, [14, 15, 111, 112, 113, 114, 115, 116, 117, 118, 119, 120, 121, 122, 123, 124, 125, 126, 127, 128, 129, 130, 131, 132, 133, 134, 135, 136, 137, 138, 139, 140, 141]), (40, [16, 17, 144, 145, 146, 147, 148, 149, 150, 151, 152, 153, 154, 155, 156, 157, 158, 159, 160, 161, 162, 163])] [(44, []), (38, []), (28, []), (19, []), (13, [])] [(44, [16, 17, 144, 145, 146, 147, 148, 149, 150, 151, 152, 153, 154, 155, 156, 157, 158, 159, 160, 161, 162, 163]), (38, [14, 15, 111, 112, 113, 114, 115, 116, 117, 118, 119, 120, 121, 122, 123, 124, 125, 126, 127, 128, 129, 130, 131, 132, 133, 134, 135, 136, 137, 138, 139, 140, 141]), (28, [12, 13, 81, 82, 83, 84, 85, 86, 87, 88, 89, 90, 91, 92, 93, 94, 95, 96, 97, 98, 99, 100, 101, 102, 103, 104, 105, 106, 107, 108]), (19, [10, 11, 59, 60, 61, 62, 63, 64, 65, 66, 67, 68, 69, 70, 71, 72, 73, 74, 75, 76, 77, 78]), (13, [7, 8, 9, 33, 34, 35, 36, 37, 38, 39, 40, 41, 42, 43, 44, 45, 46, 47, 48, 49, 50, 51, 52, 53, 54, 55, 56])] [] [] []) (c := Try.f35.body.getD .skip) (rs := [.cell 2 78, .tmp 3]) ⟨⟩ mixed Try.func35 (by kernel_rfl) (by kernel_rfl) [.slice p0_.a p0_.len p0_.cap] (by kernel_rfl) (by kernel_rfl) (.inr (by kernel_rfl)) (Eq.mp (by kernel_rfl) h)

def W.skepref05_PutState (s : S.api_State) (w : World) (K : Value → World → Prop) (KP : List PanicEntry → World → Prop) : Prop :=
   ∀ (b1 : Nat) (w2 : World), Alloc w b1 78 (S.api_State.v s : Value).cells.toList w2 →
    ∀ w3, Drew w2 w3 →
    ∃ y4 : Int, (okVal false 1 (.int .i64 y4) = true ∧ w3.cell? ⟨b1, 0, none⟩ = some (.int .i64 y4)) ∧
    ∃ y5 : Int, (okVal false 1 (.int .i64 y5) = true ∧ w3.cell? ⟨b1, 1, none⟩ = some (.int .i64 y5)) ∧
    ∃ y6 : Bool, (okVal false 1 (.bool y6) = true ∧ w3.cell? ⟨b1, 2, none⟩ = some (.bool y6)) ∧
    C.skepref05_num (⟨none, 0, 0⟩) y4 w3 (fun r9 w7 => ∃ p8 : Sl, r9 = .slice p8.a p8.len p8.cap ∧
    (w7.cell? ⟨b1, 2, none⟩ = some (.bool y6)) ∧ (w7.cell? ⟨b1, 1, none⟩ = some (.int .i64 y5)) ∧ C.skepref05_num p8 y5 w7 (fun r12 w10 => ∃ p11 : Sl, r12 = .slice p11.a p11.len p11.cap ∧
    (w10.cell? ⟨b1, 2, none⟩ = some (.bool y6)) ∧ C.skepref05_flag p11 y6 w10 (fun r15 w13 => ∃ p14 : Sl, r15 = .slice p14.a p14.len p14.cap ∧
    ∃ y16 : Sl, (okVal false 1 (.slice y16.a y16.len y16.cap) = true ∧ w13.cell? ⟨b1, 3, none⟩ = some (.slice y16.a y16.len y16.cap)) ∧
    C.skepref05_num p14 (y16.len : Int) w13 (fun r19 w17 => ∃ p18 : Sl, r19 = .slice p18.a p18.len p18.cap ∧
    ∃ (I20 : Sl → Int → World → Prop) (M21 : Sl → Int → World → Nat),
    (∃ u22 : Sl, (.slice p18.a p18.len p18.cap : Value) = .slice u22.a u22.len u22.cap ∧ ∃ u23 : Int, (.int .i64 0 : Value) = .int .i64 u23 ∧ I20 u22 u23 w17) ∧
    ∀ e0 : Env, ∀ v24 : Sl, ∀ v25 : Int, ∀ w26 : World, I20 v24 v25 w26 →
    ∃ y27 : Sl, (okVal false 1 (.slice y27.a y27.len y27.cap) = true ∧ w26.cell? ⟨b1, 3, none⟩ = some (.slice y27.a y27.len y27.cap)) ∧
    (cond (decide ((v25 : Int) < (y27.len : Int)))
    (∀ w28, Drew w26 w28 →
    ∃ y29 : Sl, (okVal false 1 (.slice y29.a y29.len y29.cap) = true ∧ w28.cell? ⟨b1, 3, none⟩ = some (.slice y29.a y29.len y29.cap)) ∧
    ((0 : Int) ≤ v25 ∧ (v25 : Int) < (y29.len : Int)) ∧ withSome y29.a fun a30 =>
    ∃ y31 : S.api_Cell, (okVal true 2 (S.api_Cell.v y31) = true ∧ rd w28 (Addr.add a30 (v25.toNat * 3)) (S.api_Cell.v y31)) ∧
    ∃ y32 : Sl, (okVal false 1 (.slice y32.a y32.len y32.cap) = true ∧ w28.cell? ⟨b1, 3, none⟩ = some (.slice y32.a y32.len y32.cap)) ∧
    ((0 : Int) ≤ v25 ∧ (v25 : Int) < (y32.len : Int)) ∧ withSome y32.a fun a33 =>
    ∃ y34 : Sl, (okVal false 1 (.slice y34.a y34.len y34.cap) = true ∧ w28.cell? (Addr.add (Addr.add a33 (v25.toNat * 3)) 2) = some (.slice y34.a y34.len y34.cap)) ∧
    C.skepref05_cell v24 y31 w28 (fun r37 w35 => ∃ p36 : Sl, r37 = .slice p36.a p36.len p36.cap ∧
    (w35.cell? (Addr.add (Addr.add a33 (v25.toNat * 3)) 2) = some (.slice y34.a y34.len y34.cap)) ∧ (w35.cell? ⟨b1, 3, none⟩ = some (.slice y32.a y32.len y32.cap)) ∧ C.skepref05_numbers p36 y34 w35 (fun r40 w38 => ∃ p39 : Sl, r40 = .slice p39.a p39.len p39.cap ∧
    ∃ u41 : Sl, (.slice p39.a p39.len p39.cap : Value) = .slice u41.a u41.len u41.cap ∧ ∃ u42 : Int, (.int .i64 (IntKind.i64.wrap (v25 + 1)) : Value) = .int .i64 u42 ∧ (I20 u41 u42 w38 ∧ M21 u41 u42 w38 < M21 v24 v25 w26)) KP) KP)
    (∃ y43 : Sl, (okVal false 1 (.slice y43.a y43.len y43.cap) = true ∧ w26.cell? ⟨b1, 4, none⟩ = some (.slice y43.a y43.len y43.cap)) ∧
    C.skepref05_num v24 (y43.len : Int) w26 (fun r46 w44 => ∃ p45 : Sl, r46 = .slice p45.a p45.len p45.cap ∧
    ∃ (I47 : Sl → Int → World → Prop) (M48 : Sl → Int → World → Nat),
    (∃ u49 : Sl, (.slice p45.a p45.len p45.cap : Value) = .slice u49.a u49.len u49.cap ∧ ∃ u50 : Int, (.int .i64 0 : Value) = .int .i64 u50 ∧ I47 u49 u50 w44) ∧
    ∀ e0 : Env, ∀ v51 : Sl, ∀ v52 : Int, ∀ w53 : World, I47 v51 v52 w53 →
    ∃ y54 : Sl, (okVal false 1 (.slice y54.a y54.len y54.cap) = true ∧ w53.cell? ⟨b1, 4, none⟩ = some (.slice y54.a y54.len y54.cap)) ∧
    (cond (decide ((v52 : Int) < (y54.len : Int)))
    (∃ y55 : Sl, (okVal false 1 (.slice y55.a y55.len y55.cap) = true ∧ w53.cell? ⟨b1, 4, none⟩ = some (.slice y55.a y55.len y55.cap)) ∧
    ((0 : Int) ≤ v52 ∧ (v52 : Int) < (y55.len : Int)) ∧ withSome y55.a fun a56 =>
    ∃ y57 : S.api_Robot, (okVal true 9 (S.api_Robot.v y57) = true ∧ rd w53 (Addr.add a56 (v52.toNat * 9)) (S.api_Robot.v y57)) ∧
    ∀ (b58 : Nat) (w59 : World), Alloc w53 b58 116 [.int .i64 0, .int .i64 0, .bool false, .int .i64 0, .int .i64 0, .slice none 0 0, .bool false, .int .i64 0, .bool false] w59 →
    (okVal true 9 (S.api_Robot.v y57) = true ∧ canPut w59 ⟨b58, 0, none⟩ (S.api_Robot.v y57)) ∧ ∀ w60 : World, w60 = putAt w59 ⟨b58, 0, none⟩ (S.api_Robot.v y57) →
    ∀ w61, Drew w60 w61 →
    ∃ y62 : S.api_Pose, (okVal true 3 (S.api_Pose.v y62) = true ∧ rd w61 ⟨b58, 0, none⟩ (S.api_Pose.v y62)) ∧
    ∃ y63 : Int, (okVal false 1 (.int .i64 y63) = true ∧ w61.cell? ⟨b58, 3, none⟩ = some (.int .i64 y63)) ∧
    ∃ y64 : Int, (okVal false 1 (.int .i64 y64) = true ∧ w61.cell? ⟨b58, 4, none⟩ = some (.int .i64 y64)) ∧
    ∃ y65 : Sl, (okVal false 1 (.slice y65.a y65.len y65.cap) = true ∧ w61.cell? ⟨b58, 5, none⟩ = some (.slice y65.a y65.len y65.cap)) ∧
    C.skepref05_pose v51 y62 w61 (fun r68 w66 => ∃ p67 : Sl, r68 = .slice p67.a p67.len p67.cap ∧
    (w66.cell? ⟨b58, 5, none⟩ = some (.slice y65.a y65.len y65.cap)) ∧ (w66.cell? ⟨b58, 4, none⟩ = some (.int .i64 y64)) ∧ (w66.cell? ⟨b58, 3, none⟩ = some (.int .i64 y63)) ∧ C.skepref05_num p67 y63 w66 (fun r71 w69 => ∃ p70 : Sl, r71 = .slice p70.a p70.len p70.cap ∧
    (w69.cell? ⟨b58, 5, none⟩ = some (.slice y65.a y65.len y65.cap)) ∧ (w69.cell? ⟨b58, 4, none⟩ = some (.int .i64 y64)) ∧ C.skepref05_num p70 y64 w69 (fun r74 w72 => ∃ p73 : Sl, r74 = .slice p73.a p73.len p73.cap ∧
    (w72.cell? ⟨b58, 5, none⟩ = some (.slice y65.a y65.len y65.cap)) ∧ C.skepref05_moves p73 y65 w72 (fun r77 w75 => ∃ p76 : Sl, r77 = .slice p76.a p76.len p76.cap ∧
    ∀ w78, Drew w75 w78 →
    ∃ y79 : Bool, (okVal false 1 (.bool y79) = true ∧ w78.cell? ⟨b58, 6, none⟩ = some (.bool y79)) ∧
    ∃ y80 : Int, (okVal false 1 (.int .i64 y80) = true ∧ w78.cell? ⟨b58, 7, none⟩ = some (.int .i64 y80)) ∧
    ∃ y81 : Bool, (okVal false 1 (.bool y81) = true ∧ w78.cell? ⟨b58, 8, none⟩ = some (.bool y81)) ∧
    C.skepref05_flag p76 y79 w78 (fun r84 w82 => ∃ p83 : Sl, r84 = .slice p83.a p83.len p83.cap ∧
    (w82.cell? ⟨b58, 8, none⟩ = some (.bool y81)) ∧ (w82.cell? ⟨b58, 7, none⟩ = some (.int .i64 y80)) ∧ C.skepref05_num p83 y80 w82 (fun r87 w85 => ∃ p86 : Sl, r87 = .slice p86.a p86.len p86.cap ∧
    (w85.cell? ⟨b58, 8, none⟩ = some (.bool y81)) ∧ C.skepref05_flag p86 y81 w85 (fun r90 w88 => ∃ p89 : Sl, r90 = .slice p89.a p89.len p89.cap ∧
    ∃ u91 : Sl, (.slice p89.a p89.len p89.cap : Value) = .slice u91.a u91.len u91.cap ∧ ∃ u92 : Int, (.int .i64 (IntKind.i64.wrap (v52 + 1)) : Value) = .int .i64 u92 ∧ (I47 u91 u92 w88 ∧ M48 u91 u92 w88 < M48 v51 v52 w53)) KP) KP) KP) KP) KP) KP) KP)
    (∃ y93 : Sl, (okVal false 1 (.slice y93.a y93.len y93.cap) = true ∧ w53.cell? ⟨b1, 5, none⟩ = some (.slice y93.a y93.len y93.cap)) ∧
    C.skepref05_num v51 (y93.len : Int) w53 (fun r96 w94 => ∃ p95 : Sl, r96 = .slice p95.a p95.len p95.cap ∧
    ∃ (I97 : Sl → Int → World → Prop) (M98 : Sl → Int → World → Nat),
    (∃ u99 : Sl, (.slice p95.a p95.len p95.cap : Value) = .slice u99.a u99.len u99.cap ∧ ∃ u100 : Int, (.int .i64 0 : Value) = .int .i64 u100 ∧ I97 u99 u100 w94) ∧
    ∀ e0 : Env, ∀ v101 : Sl, ∀ v102 : Int, ∀ w103 : World, I97 v101 v102 w103 →
    ∃ y104 : Sl, (okVal false 1 (.slice y104.a y104.len y104.cap) = true ∧ w103.cell? ⟨b1, 5, none⟩ = some (.slice y104.a y104.len y104.cap)) ∧
    (cond (decide ((v102 : Int) < (y104.len : Int)))
    (∀ w105, Drew w103 w105 →
    ∃ y106 : Sl, (okVal false 1 (.slice y106.a y106.len y106.cap) = true ∧ w105.cell? ⟨b1, 5, none⟩ = some (.slice y106.a y106.len y106.cap)) ∧
    ((0 : Int) ≤ v102 ∧ (v102 : Int) < (y106.len : Int)) ∧ withSome y106.a fun a107 =>
    ∃ y108 : Int, (okVal false 1 (.int .i64 y108) = true ∧ w105.cell? (Addr.add a107 (v102.toNat * 3)) = some (.int .i64 y108)) ∧
    ∃ y109 : Sl, (okVal false 1 (.slice y109.a y109.len y109.cap) = true ∧ w105.cell? ⟨b1, 5, none⟩ = some (.slice y109.a y109.len y109.cap)) ∧
    ((0 : Int) ≤ v102 ∧ (v102 : Int) < (y109.len : Int)) ∧ withSome y109.a fun a110 =>
    ∃ y111 : Int, (okVal false 1 (.int .i64 y111) = true ∧ w105.cell? (Addr.add (Addr.add a110 (v102.toNat * 3)) 1) = some (.int .i64 y111)) ∧
    ∃ y112 : Sl, (okVal false 1 (.slice y112.a y112.len y112.cap) = true ∧ w105.cell? ⟨b1, 5, none⟩ = some (.slice y112.a y112.len y112.cap)) ∧
    ((0 : Int) ≤ v102 ∧ (v102 : Int) < (y112.len : Int)) ∧ withSome y112.a fun a113 =>
    ∃ y114 : Sl, (okVal false 1 (.slice y114.a y114.len y114.cap) = true ∧ w105.cell? (Addr.add (Addr.add a113 (v102.toNat * 3)) 2) = some (.slice y114.a y114.len y114.cap)) ∧
    C.skepref05_num v101 y108 w105 (fun r117 w115 => ∃ p116 : Sl, r117 = .slice p116.a p116.len p116.cap ∧
    (w115.cell? (Addr.add (Addr.add a113 (v102.toNat * 3)) 2) = some (.slice y114.a y114.len y114.cap)) ∧ (w115.cell? ⟨b1, 5, none⟩ = some (.slice y112.a y112.len y112.cap)) ∧ (w115.cell? (Addr.add (Addr.add a110 (v102.toNat * 3)) 1) = some (.int .i64 y111)) ∧ (w115.cell? ⟨b1, 5, none⟩ = some (.slice y109.a y109.len y109.cap)) ∧ C.skepref05_num p116 y111 w115 (fun r120 w118 => ∃ p119 : Sl, r120 = .slice p119.a p119.len p119.cap ∧
    (w118.cell? (Addr.add (Addr.add a113 (v102.toNat * 3)) 2) = some (.slice y114.a y114.len y114.cap)) ∧ (w118.cell? ⟨b1, 5, none⟩ = some (.slice y112.a y112.len y112.cap)) ∧ C.skepref05_numbers p119 y114 w118 (fun r123 w121 => ∃ p122 : Sl, r123 = .slice p122.a p122.len p122.cap ∧
    ∃ u124 : Sl, (.slice p122.a p122.len p122.cap : Value) = .slice u124.a u124.len u124.cap ∧ ∃ u125 : Int, (.int .i64 (IntKind.i64.wrap (v102 + 1)) : Value) = .int .i64 u125 ∧ (I97 u124 u125 w121 ∧ M98 u124 u125 w121 < M98 v101 v102 w103)) KP) KP) KP)
    (∃ y126 : Sl, (okVal false 1 (.slice y126.a y126.len y126.cap) = true ∧ w103.cell? ⟨b1, 6, none⟩ = some (.slice y126.a y126.len y126.cap)) ∧
    C.skepref05_num v101 (y126.len : Int) w103 (fun r129 w127 => ∃ p128 : Sl, r129 = .slice p128.a p128.len p128.cap ∧
    ∃ (I130 : Sl → Int → World → Prop) (M131 : Sl → Int → World → Nat),
    (∃ u132 : Sl, (.slice p128.a p128.len p128.cap : Value) = .slice u132.a u132.len u132.cap ∧ ∃ u133 : Int, (.int .i64 0 : Value) = .int .i64 u133 ∧ I130 u132 u133 w127) ∧
    ∀ e0 : Env, ∀ v134 : Sl, ∀ v135 : Int, ∀ w136 : World, I130 v134 v135 w136 →
    ∃ y137 : Sl, (okVal false 1 (.slice y137.a y137.len y137.cap) = true ∧ w136.cell? ⟨b1, 6, none⟩ = some (.slice y137.a y137.len y137.cap)) ∧
    (cond (decide ((v135 : Int) < (y137.len : Int)))
    (∃ y138 : Sl, (okVal false 1 (.slice y138.a y138.len y138.cap) = true ∧ w136.cell? ⟨b1, 6, none⟩ = some (.slice y138.a y138.len y138.cap)) ∧
    ((0 : Int) ≤ v135 ∧ (v135 : Int) < (y138.len : Int)) ∧ withSome y138.a fun a139 =>
    ∃ y140 : S.api_Order, (okVal true 4 (S.api_Order.v y140) = true ∧ rd w136 (Addr.add a139 (v135.toNat * 4)) (S.api_Order.v y140)) ∧
    ∀ (b141 : Nat) (w142 : World), Alloc w136 b141 124 [.int .i64 0, .int .i64 0, .int .i64 0, .int .i64 0] w142 →
    (okVal true 4 (S.api_Order.v y140) = true ∧ canPut w142 ⟨b141, 0, none⟩ (S.api_Order.v y140)) ∧ ∀ w143 : World, w143 = putAt w142 ⟨b141, 0, none⟩ (S.api_Order.v y140) →
    ∀ w144, Drew w143 w144 →
    ∃ y145 : Int, (okVal false 1 (.int .i64 y145) = true ∧ w144.cell? ⟨b141, 0, none⟩ = some (.int .i64 y145)) ∧
    ∃ y146 : Int, (okVal false 1 (.int .i64 y146) = true ∧ w144.cell? ⟨b141, 1, none⟩ = some (.int .i64 y146)) ∧
    ∃ y147 : Int, (okVal false 1 (.int .i64 y147) = true ∧ w144.cell? ⟨b141, 2, none⟩ = some (.int .i64 y147)) ∧
    ∃ y148 : Int, (okVal false 1 (.int .i64 y148) = true ∧ w144.cell? ⟨b141, 3, none⟩ = some (.int .i64 y148)) ∧
    C.skepref05_num v134 y145 w144 (fun r151 w149 => ∃ p150 : Sl, r151 = .slice p150.a p150.len p150.cap ∧
    (w149.cell? ⟨b141, 3, none⟩ = some (.int .i64 y148)) ∧ (w149.cell? ⟨b141, 2, none⟩ = some (.int .i64 y147)) ∧ (w149.cell? ⟨b141, 1, none⟩ = some (.int .i64 y146)) ∧ C.skepref05_num p150 y146 w149 (fun r154 w152 => ∃ p153 : Sl, r154 = .slice p153.a p153.len p153.cap ∧
    (w152.cell? ⟨b141, 3, none⟩ = some (.int .i64 y148)) ∧ (w152.cell? ⟨b141, 2, none⟩ = some (.int .i64 y147)) ∧ C.skepref05_num p153 y147 w152 (fun r157 w155 => ∃ p156 : Sl, r157 = .slice p156.a p156.len p156.cap ∧
    (w155.cell? ⟨b141, 3, none⟩ = some (.int .i64 y148)) ∧ C.skepref05_num p156 y148 w155 (fun r160 w158 => ∃ p159 : Sl, r160 = .slice p159.a p159.len p159.cap ∧
    ∃ u161 : Sl, (.slice p159.a p159.len p159.cap : Value) = .slice u161.a u161.len u161.cap ∧ ∃ u162 : Int, (.int .i64 (IntKind.i64.wrap (v135 + 1)) : Value) = .int .i64 u162 ∧ (I130 u161 u162 w158 ∧ M131 u161 u162 w158 < M131 v134 v135 w136)) KP) KP) KP) KP)
    (∃ y163 : Sl, (okVal false 1 (.slice y163.a y163.len y163.cap) = true ∧ w136.cell? ⟨b1, 7, none⟩ = some (.slice y163.a y163.len y163.cap)) ∧
    C.skepref05_num v134 (y163.len : Int) w136 (fun r166 w164 => ∃ p165 : Sl, r166 = .slice p165.a p165.len p165.cap ∧
    ∃ (I167 : Sl → Int → World → Prop) (M168 : Sl → Int → World → Nat),
    (∃ u169 : Sl, (.slice p165.a p165.len p165.cap : Value) = .slice u169.a u169.len u169.cap ∧ ∃ u170 : Int, (.int .i64 0 : Value) = .int .i64 u170 ∧ I167 u169 u170 w164) ∧
    ∀ e0 : Env, ∀ v171 : Sl, ∀ v172 : Int, ∀ w173 : World, I167 v171 v172 w173 →
    ∃ y174 : Sl, (okVal false 1 (.slice y174.a y174.len y174.cap) = true ∧ w173.cell? ⟨b1, 7, none⟩ = some (.slice y174.a y174.len y174.cap)) ∧
    (cond (decide ((v172 : Int) < (y174.len : Int)))
    (∃ y175 : Sl, (okVal false 1 (.slice y175.a y175.len y175.cap) = true ∧ w173.cell? ⟨b1, 7, none⟩ = some (.slice y175.a y175.len y175.cap)) ∧
    ((0 : Int) ≤ v172 ∧ (v172 : Int) < (y175.len : Int)) ∧ withSome y175.a fun a176 =>
    ∃ y177 : S.api_Job, (okVal true 9 (S.api_Job.v y177) = true ∧ rd w173 (Addr.add a176 (v172.toNat * 9)) (S.api_Job.v y177)) ∧
    ∀ (b178 : Nat) (w179 : World), Alloc w173 b178 128 [.int .i64 0, .int .i64 0, .int .i64 0, .int .i64 0, .int .i64 0, .int .i64 0, .int .i64 0, .int .i64 0, .int .i64 0] w179 →
    (okVal true 9 (S.api_Job.v y177) = true ∧ canPut w179 ⟨b178, 0, none⟩ (S.api_Job.v y177)) ∧ ∀ w180 : World, w180 = putAt w179 ⟨b178, 0, none⟩ (S.api_Job.v y177) →
    ∀ w181, Drew w180 w181 →
    ∃ y182 : Int, (okVal false 1 (.int .i64 y182) = true ∧ w181.cell? ⟨b178, 0, none⟩ = some (.int .i64 y182)) ∧
    ∃ y183 : Int, (okVal false 1 (.int .i64 y183) = true ∧ w181.cell? ⟨b178, 1, none⟩ = some (.int .i64 y183)) ∧
    ∃ y184 : Int, (okVal false 1 (.int .i64 y184) = true ∧ w181.cell? ⟨b178, 2, none⟩ = some (.int .i64 y184)) ∧
    ∃ y185 : Int, (okVal false 1 (.int .i64 y185) = true ∧ w181.cell? ⟨b178, 3, none⟩ = some (.int .i64 y185)) ∧
    C.skepref05_num v171 y182 w181 (fun r188 w186 => ∃ p187 : Sl, r188 = .slice p187.a p187.len p187.cap ∧
    (w186.cell? ⟨b178, 3, none⟩ = some (.int .i64 y185)) ∧ (w186.cell? ⟨b178, 2, none⟩ = some (.int .i64 y184)) ∧ (w186.cell? ⟨b178, 1, none⟩ = some (.int .i64 y183)) ∧ C.skepref05_num p187 y183 w186 (fun r191 w189 => ∃ p190 : Sl, r191 = .slice p190.a p190.len p190.cap ∧
    (w189.cell? ⟨b178, 3, none⟩ = some (.int .i64 y185)) ∧ (w189.cell? ⟨b178, 2, none⟩ = some (.int .i64 y184)) ∧ C.skepref05_num p190 y184 w189 (fun r194 w192 => ∃ p193 : Sl, r194 = .slice p193.a p193.len p193.cap ∧
    (w192.cell? ⟨b178, 3, none⟩ = some (.int .i64 y185)) ∧ C.skepref05_num p193 y185 w192 (fun r197 w195 => ∃ p196 : Sl, r197 = .slice p196.a p196.len p196.cap ∧
    ∀ w198, Drew w195 w198 →
    ∃ y199 : S.api_Cell, (okVal true 2 (S.api_Cell.v y199) = true ∧ rd w198 ⟨b178, 4, none⟩ (S.api_Cell.v y199)) ∧
    ∃ y200 : S.api_Cell, (okVal true 2 (S.api_Cell.v y200) = true ∧ rd w198 ⟨b178, 6, none⟩ (S.api_Cell.v y200)) ∧
    ∃ y201 : Int, (okVal false 1 (.int .i64 y201) = true ∧ w198.cell? ⟨b178, 8, none⟩ = some (.int .i64 y201)) ∧
    C.skepref05_cell p196 y199 w198 (fun r204 w202 => ∃ p203 : Sl, r204 = .slice p203.a p203.len p203.cap ∧
    (w202.cell? ⟨b178, 8, none⟩ = some (.int .i64 y201)) ∧ (rd w202 ⟨b178, 6, none⟩ (S.api_Cell.v y200)) ∧ C.skepref05_cell p203 y200 w202 (fun r207 w205 => ∃ p206 : Sl, r207 = .slice p206.a p206.len p206.cap ∧
    (w205.cell? ⟨b178, 8, none⟩ = some (.int .i64 y201)) ∧ C.skepref05_num p206 y201 w205 (fun r210 w208 => ∃ p209 : Sl, r210 = .slice p209.a p209.len p209.cap ∧
    ∃ u211 : Sl, (.slice p209.a p209.len p209.cap : Value) = .slice u211.a u211.len u211.cap ∧ ∃ u212 : Int, (.int .i64 (IntKind.i64.wrap (v172 + 1)) : Value) = .int .i64 u212 ∧ (I167 u211 u212 w208 ∧ M168 u211 u212 w208 < M168 v171 v172 w173)) KP) KP) KP) KP) KP) KP) KP)
    (∀ w213, Drew w173 w213 →
    ∃ y214 : Int, (okVal false 1 (.int .i64 y214) = true ∧ w213.cell? ⟨b1, 8, none⟩ = some (.int .i64 y214)) ∧
    ∃ y215 : Int, (okVal false 1 (.int .i64 y215) = true ∧ w213.cell? ⟨b1, 9, none⟩ = some (.int .i64 y215)) ∧
    C.skepref05_num v171 y214 w213 (fun r218 w216 => ∃ p217 : Sl, r218 = .slice p217.a p217.len p217.cap ∧
    (w216.cell? ⟨b1, 9, none⟩ = some (.int .i64 y215)) ∧ C.skepref05_num p217 y215 w216 (fun r221 w219 => ∃ p220 : Sl, r221 = .slice p220.a p220.len p220.cap ∧
    K (.slice p220.a p220.len p220.cap) w219) KP) KP))) KP))) KP))) KP))) KP))) KP) KP) KP) KP
theorem skepref05_PutState_of {s : S.api_State} {w : World} {K : Value → World → Prop} {KP : List PanicEntry → World → Prop} (h : W.skepref05_PutState s w K KP) : C.skepref05_PutState s w K KP :=
  xcall (E := E) (T := mkTab [(4, [(3, 22), (4, 3)]), (9, [(3, 22), (5, 3)]), (16, [(3, 22), (7, 3)]), (21, [(3, 22), (8, 3)]), (27, [(3, 22), (10, 3)])] [(4, [3, 4, 26, 27, 28, 29, 30, 31, 32, 33, 34, 35, 36, 37, 38, 39, 40, 41, 42, 43, 44, 45, 46, 47]), (9, [3, 5, 6, 53, 54, 55, 56, 57, 58, 59, 60, 61, 62, 63, 64, 65, 66, 67, 68, 69, 70, 71, 72, 73, 74, 75, 76, 77, 78, 79, 80, 81, 82, 83, 84, 85, 86, 87]), (16, [3, 7, 93, 94, 95, 96, 97, 98, 99, 100, 101, 102, 103, 104, 105, 106, 107, 108, 109, 110, 111, 112, 113, 114, 115, 116, 117, 118, 119, 120, 121]), (21, [3, 8, 9, 127, 128, 129, 130, 131, 132, 133, 134, 135, 136, 137, 138, 139, 140, 141, 142, 143, 144, 145, 146, 147, 148, 149, 150, 151]), (27, [3, 10, 11, 157, 158, 159, 160, 161, 162, 163, 164, 165, 166, 167, 168, 169, 170, 171, 172, 173, 174, 175, 176, 177, 178, 179, 180, 181, 182, 183, 184, 185, 186, 187, 188, 189, 190, 191])] [] [] [(1, [0, 1, 3, 4, 6, 7, 2, 5, 8, 9]), (6, [0, 1, 2, 3, 4, 5, 6, 8, 9, 10, 11, 12, 13, 7, 14, 15]), (12, [0, 1, 2, 4, 5, 7, 8, 10, 11, 3, 6, 9, 12, 13]), (13, [0, 1, 2, 4, 5, 7, 8, 3, 6, 9, 10]), (18, [0, 1, 2, 3, 4, 5, 6, 8, 9, 10, 11, 12, 13, 15, 16, 17, 18, 19, 20, 7, 14, 21, 22]), (24, [0, 1, 2, 4, 5, 7, 8, 10, 11, 3, 6, 9, 12, 13]), (30, [0, 1, 2, 4, 5, 7, 8, 10, 11, 3, 6, 9, 12, 13]), (31, [0, 1, 2, 4, 5, 7, 8, 3, 6, 9, 10]), (32, [0, 1, 2, 4, 5, 3, 6, 7])] [(1, [0, 1, 3, 0, 8, 31, 0, 64, 255, 511]), (6, [0, 0, 2, 0, 14, 30, 62, 127, 0, 256, 0, 1792, 3840, 7936, 16383, 32767]), (12, [0, 0, 2, 7, 0, 16, 63, 0, 128, 511, 0, 1024, 4095, 8191]), (13, [0, 0, 2, 7, 0, 16, 63, 0, 128, 511, 1023]), (18, [0, 0, 2, 0, 14, 30, 62, 127, 0, 256, 0, 1792, 3840, 7936, 16383, 0, 32768, 0, 229376, 491520, 1015808, 2097151, 4194303]), (24, [0, 0, 2, 7, 0, 16, 63, 0, 128, 511, 0, 1024, 4095, 8191]), (30, [0, 0, 2, 7, 0, 16, 63, 0, 128, 511, 0, 1024, 4095, 8191]), (31, [0, 0, 2, 7, 0, 16, 63, 0, 128, 511, 1023]), (32, [0, 0, 2, 7, 0, 16, 63, 127])] []) (c := Try.f36.body.getD .skip) (rs := [.tmp 2]) ⟨⟩ mixed Try.func36 (by kernel_rfl) (by kernel_rfl) [S.api_State.v s] (by kernel_rfl) (by kernel_rfl) (.inr (by kernel_rfl)) (Eq.mp (by kernel_rfl) h)

def W.skeplaw00_SameState (a : S.api_State) (p1_ : S.api_State) (w : World) (K : Value → World → Prop) (KP : List PanicEntry → World → Prop) : Prop :=
   ∀ (b1 : Nat) (w2 : World), Alloc w b1 78 (S.api_State.v a : Value).cells.toList w2 →
    ∀ (b3 : Nat) (w4 : World), Alloc w2 b3 78 (S.api_State.v p1_ : Value).cells.toList w4 →
    ∃ y5 : Int, (okVal false 1 (.int .i64 y5) = true ∧ w4.cell? ⟨b1, 0, none⟩ = some (.int .i64 y5)) ∧
    ∃ y6 : Int, (okVal false 1 (.int .i64 y6) = true ∧ w4.cell? ⟨b3, 0, none⟩ = some (.int .i64 y6)) ∧
    (cond ((y5 : Int) != y6)
    (K (.bool false) w4)
    (∃ y7 : Int, (okVal false 1 (.int .i64 y7) = true ∧ w4.cell? ⟨b1, 1, none⟩ = some (.int .i64 y7)) ∧
    ∃ y8 : Int, (okVal false 1 (.int .i64 y8) = true ∧ w4.cell? ⟨b3, 1, none⟩ = some (.int .i64 y8)) ∧
    (cond ((y7 : Int) != y8)
    (K (.bool false) w4)
    (∃ y9 : Bool, (okVal false 1 (.bool y9) = true ∧ w4.cell? ⟨b1, 2, none⟩ = some (.bool y9)) ∧
    ∃ y10 : Bool, (okVal false 1 (.bool y10) = true ∧ w4.cell? ⟨b3, 2, none⟩ = some (.bool y10)) ∧
    (cond (!(y9 == y10))
    (K (.bool false) w4)
    (∃ y11 : Int, (okVal false 1 (.int .i64 y11) = true ∧ w4.cell? ⟨b1, 8, none⟩ = some (.int .i64 y11)) ∧
    ∃ y12 : Int, (okVal false 1 (.int .i64 y12) = true ∧ w4.cell? ⟨b3, 8, none⟩ = some (.int .i64 y12)) ∧
    (cond ((y11 : Int) != y12)
    (K (.bool false) w4)
    (∃ y13 : Int, (okVal false 1 (.int .i64 y13) = true ∧ w4.cell? ⟨b1, 9, none⟩ = some (.int .i64 y13)) ∧
    ∃ y14 : Int, (okVal false 1 (.int .i64 y14) = true ∧ w4.cell? ⟨b3, 9, none⟩ = some (.int .i64 y14)) ∧
    (cond ((y13 : Int) != y14)
    (K (.bool false) w4)
    (∃ y15 : Sl, (okVal false 1 (.slice y15.a y15.len y15.cap) = true ∧ w4.cell? ⟨b1, 3, none⟩ = some (.slice y15.a y15.len y15.cap)) ∧
    ∃ y16 : Sl, (okVal false 1 (.slice y16.a y16.len y16.cap) = true ∧ w4.cell? ⟨b3, 3, none⟩ = some (.slice y16.a y16.len y16.cap)) ∧
    C.skeplaw00_SameStacks y15 y16 w4 (fun r19 w17 => ∃ p18 : Bool, r19 = .bool p18 ∧
    (cond (!p18)
    (K (.bool false) w17)
    (∃ y20 : Sl, (okVal false 1 (.slice y20.a y20.len y20.cap) = true ∧ w17.cell? ⟨b1, 7, none⟩ = some (.slice y20.a y20.len y20.cap)) ∧
    ∃ y21 : Sl, (okVal false 1 (.slice y21.a y21.len y21.cap) = true ∧ w17.cell? ⟨b3, 7, none⟩ = some (.slice y21.a y21.len y21.cap)) ∧
    C.skeplaw00_SameJobs y20 y21 w17 (fun r24 w22 => ∃ p23 : Bool, r24 = .bool p23 ∧
    (cond (!p23)
    (K (.bool false) w22)
    (∃ y25 : Sl, (okVal false 1 (.slice y25.a y25.len y25.cap) = true ∧ w22.cell? ⟨b1, 4, none⟩ = some (.slice y25.a y25.len y25.cap)) ∧
    ∃ y26 : Sl, (okVal false 1 (.slice y26.a y26.len y26.cap) = true ∧ w22.cell? ⟨b3, 4, none⟩ = some (.slice y26.a y26.len y26.cap)) ∧
    (cond (((y25.len : Int) : Int) != (y26.len : Int))
    (K (.bool false) w22)
    (∃ y27 : Sl, (okVal false 1 (.slice y27.a y27.len y27.cap) = true ∧ w22.cell? ⟨b1, 5, none⟩ = some (.slice y27.a y27.len y27.cap)) ∧
    ∃ y28 : Sl, (okVal false 1 (.slice y28.a y28.len y28.cap) = true ∧ w22.cell? ⟨b3, 5, none⟩ = some (.slice y28.a y28.len y28.cap)) ∧
    (cond (((y27.len : Int) : Int) != (y28.len : Int))
    (K (.bool false) w22)
    (∃ y29 : Sl, (okVal false 1 (.slice y29.a y29.len y29.cap) = true ∧ w22.cell? ⟨b1, 6, none⟩ = some (.slice y29.a y29.len y29.cap)) ∧
    ∃ y30 : Sl, (okVal false 1 (.slice y30.a y30.len y30.cap) = true ∧ w22.cell? ⟨b3, 6, none⟩ = some (.slice y30.a y30.len y30.cap)) ∧
    (cond (((y29.len : Int) : Int) != (y30.len : Int))
    (K (.bool false) w22)
    (∃ (I31 : Int → World → Prop) (M32 : Int → World → Nat),
    (∃ u33 : Int, (.int .i64 0 : Value) = .int .i64 u33 ∧ I31 u33 w22) ∧
    ∀ e0 : Env, ∀ v34 : Int, ∀ w35 : World, I31 v34 w35 →
    ∃ y36 : Sl, (okVal false 1 (.slice y36.a y36.len y36.cap) = true ∧ w35.cell? ⟨b1, 4, none⟩ = some (.slice y36.a y36.len y36.cap)) ∧
    (cond (decide ((v34 : Int) < (y36.len : Int)))
    (∀ w37, Drew w35 w37 →
    ∃ y38 : Sl, (okVal false 1 (.slice y38.a y38.len y38.cap) = true ∧ w37.cell? ⟨b1, 4, none⟩ = some (.slice y38.a y38.len y38.cap)) ∧
    ((0 : Int) ≤ v34 ∧ (v34 : Int) < (y38.len : Int)) ∧ withSome y38.a fun a39 =>
    ∃ y40 : S.api_Robot, (okVal true 9 (S.api_Robot.v y40) = true ∧ rd w37 (Addr.add a39 (v34.toNat * 9)) (S.api_Robot.v y40)) ∧
    ∃ y41 : Sl, (okVal false 1 (.slice y41.a y41.len y41.cap) = true ∧ w37.cell? ⟨b3, 4, none⟩ = some (.slice y41.a y41.len y41.cap)) ∧
    ((0 : Int) ≤ v34 ∧ (v34 : Int) < (y41.len : Int)) ∧ withSome y41.a fun a42 =>
    ∃ y43 : S.api_Robot, (okVal true 9 (S.api_Robot.v y43) = true ∧ rd w37 (Addr.add a42 (v34.toNat * 9)) (S.api_Robot.v y43)) ∧
    C.skeplaw00_sameRobot y40 y43 w37 (fun r46 w44 => ∃ p45 : Bool, r46 = .bool p45 ∧
    (cond (!p45)
    (K (.bool false) w44)
    (∃ u47 : Int, (.int .i64 (IntKind.i64.wrap (v34 + 1)) : Value) = .int .i64 u47 ∧ (I31 u47 w44 ∧ M32 u47 w44 < M32 v34 w35)))) KP)
    (∃ (I48 : Int → World → Prop) (M49 : Int → World → Nat),
    (∃ u50 : Int, (.int .i64 0 : Value) = .int .i64 u50 ∧ I48 u50 w35) ∧
    ∀ e0 : Env, ∀ v51 : Int, ∀ w52 : World, I48 v51 w52 →
    ∃ y53 : Sl, (okVal false 1 (.slice y53.a y53.len y53.cap) = true ∧ w52.cell? ⟨b1, 5, none⟩ = some (.slice y53.a y53.len y53.cap)) ∧
    (cond (decide ((v51 : Int) < (y53.len : Int)))
    (∀ w54, Drew w52 w54 →
    ∃ y55 : Sl, (okVal false 1 (.slice y55.a y55.len y55.cap) = true ∧ w54.cell? ⟨b1, 5, none⟩ = some (.slice y55.a y55.len y55.cap)) ∧
    ((0 : Int) ≤ v51 ∧ (v51 : Int) < (y55.len : Int)) ∧ withSome y55.a fun a56 =>
    ∃ y57 : Int, (okVal false 1 (.int .i64 y57) = true ∧ w54.cell? (Addr.add a56 (v51.toNat * 3)) = some (.int .i64 y57)) ∧
    ∃ y58 : Sl, (okVal false 1 (.slice y58.a y58.len y58.cap) = true ∧ w54.cell? ⟨b3, 5, none⟩ = some (.slice y58.a y58.len y58.cap)) ∧
    ((0 : Int) ≤ v51 ∧ (v51 : Int) < (y58.len : Int)) ∧ withSome y58.a fun a59 =>
    ∃ y60 : Int, (okVal false 1 (.int .i64 y60) = true ∧ w54.cell? (Addr.add a59 (v51.toNat * 3)) = some (.int .i64 y60)) ∧
    (cond ((y57 : Int) != y60)
    (K (.bool false) w54)
    (∃ y61 : Sl, (okVal false 1 (.slice y61.a y61.len y61.cap) = true ∧ w54.cell? ⟨b1, 5, none⟩ = some (.slice y61.a y61.len y61.cap)) ∧
    ((0 : Int) ≤ v51 ∧ (v51 : Int) < (y61.len : Int)) ∧ withSome y61.a fun a62 =>
    ∃ y63 : Int, (okVal false 1 (.int .i64 y63) = true ∧ w54.cell? (Addr.add (Addr.add a62 (v51.toNat * 3)) 1) = some (.int .i64 y63)) ∧
    ∃ y64 : Sl, (okVal false 1 (.slice y64.a y64.len y64.cap) = true ∧ w54.cell? ⟨b3, 5, none⟩ = some (.slice y64.a y64.len y64.cap)) ∧
    ((0 : Int) ≤ v51 ∧ (v51 : Int) < (y64.len : Int)) ∧ withSome y64.a fun a65 =>
    ∃ y66 : Int, (okVal false 1 (.int .i64 y66) = true ∧ w54.cell? (Addr.add (Addr.add a65 (v51.toNat * 3)) 1) = some (.int .i64 y66)) ∧
    (cond ((y63 : Int) != y66)
    (K (.bool false) w54)
    (∃ y67 : Sl, (okVal false 1 (.slice y67.a y67.len y67.cap) = true ∧ w54.cell? ⟨b1, 5, none⟩ = some (.slice y67.a y67.len y67.cap)) ∧
    ((0 : Int) ≤ v51 ∧ (v51 : Int) < (y67.len : Int)) ∧ withSome y67.a fun a68 =>
    ∃ y69 : Sl, (okVal false 1 (.slice y69.a y69.len y69.cap) = true ∧ w54.cell? (Addr.add (Addr.add a68 (v51.toNat * 3)) 2) = some (.slice y69.a y69.len y69.cap)) ∧
    ∃ y70 : Sl, (okVal false 1 (.slice y70.a y70.len y70.cap) = true ∧ w54.cell? ⟨b3, 5, none⟩ = some (.slice y70.a y70.len y70.cap)) ∧
    ((0 : Int) ≤ v51 ∧ (v51 : Int) < (y70.len : Int)) ∧ withSome y70.a fun a71 =>
    ∃ y72 : Sl, (okVal false 1 (.slice y72.a y72.len y72.cap) = true ∧ w54.cell? (Addr.add (Addr.add a71 (v51.toNat * 3)) 2) = some (.slice y72.a y72.len y72.cap)) ∧
    C.skeplaw00_SameInts y69 y72 w54 (fun r75 w73 => ∃ p74 : Bool, r75 = .bool p74 ∧
    (cond (!p74)
    (K (.bool false) w73)
    (∃ u76 : Int, (.int .i64 (IntKind.i64.wrap (v51 + 1)) : Value) = .int .i64 u76 ∧ (I48 u76 w73 ∧ M49 u76 w73 < M49 v51 w52)))) KP)))))
    (∃ (I77 : Int → World → Prop) (M78 : Int → World → Nat),
    (∃ u79 : Int, (.int .i64 0 : Value) = .int .i64 u79 ∧ I77 u79 w52) ∧
    ∀ e0 : Env, ∀ v80 : Int, ∀ w81 : World, I77 v80 w81 →
    ∃ y82 : Sl, (okVal false 1 (.slice y82.a y82.len y82.cap) = true ∧ w81.cell? ⟨b1, 6, none⟩ = some (.slice y82.a y82.len y82.cap)) ∧
    (cond (decide ((v80 : Int) < (y82.len : Int)))
    (∀ w83, Drew w81 w83 →
    ∃ y84 : Sl, (okVal false 1 (.slice y84.a y84.len y84.cap) = true ∧ w83.cell? ⟨b1, 6, none⟩ = some (.slice y84.a y84.len y84.cap)) ∧
    ((0 : Int) ≤ v80 ∧ (v80 : Int) < (y84.len : Int)) ∧ withSome y84.a fun a85 =>
    ∃ y86 : S.api_Order, (okVal true 4 (S.api_Order.v y86) = true ∧ rd w83 (Addr.add a85 (v80.toNat * 4)) (S.api_Order.v y86)) ∧
    ∃ y87 : Sl, (okVal false 1 (.slice y87.a y87.len y87.cap) = true ∧ w83.cell? ⟨b3, 6, none⟩ = some (.slice y87.a y87.len y87.cap)) ∧
    ((0 : Int) ≤ v80 ∧ (v80 : Int) < (y87.len : Int)) ∧ withSome y87.a fun a88 =>
    ∃ y89 : S.api_Order, (okVal true 4 (S.api_Order.v y89) = true ∧ rd w83 (Addr.add a88 (v80.toNat * 4)) (S.api_Order.v y89)) ∧
    (cond (!((((y86.ID : Int) == y89.ID) && (((y86.Bin : Int) == y89.Bin) && (((y86.Port : Int) == y89.Port) && (((y86.State : Int) == y89.State) && true))))))
    (K (.bool false) w83)
    (∃ u90 : Int, (.int .i64 (IntKind.i64.wrap (v80 + 1)) : Value) = .int .i64 u90 ∧ (I77 u90 w83 ∧ M78 u90 w83 < M78 v80 w81))))
    (K (.bool true) w81))))))))))))))) KP))) KP))))))))))
theorem skeplaw00_SameState_of {a : S.api_State} {p1_ : S.api_State} {w : World} {K : Value → World → Prop} {KP : List PanicEntry → World → Prop} (h : W.skeplaw00_SameState a p1_ w K KP) : C.skeplaw00_SameState a p1_ w K KP :=
  xcall (E := E) (T := mkTab [(6, [(5, 3)]), (11, [(6, 3)]), (16, [(7, 3)])] [(6, [4, 5, 82, 83, 84, 85, 86, 87, 88, 89, 90, 91, 92, 93, 94, 95, 96, 97, 98, 99, 100]), (11, [4, 6, 101, 102, 103, 104, 105, 106, 107, 108, 109, 110, 111, 112, 113, 114, 115, 116, 117, 118, 119, 120, 121, 122, 123, 124, 125, 126, 127, 128, 129, 130, 131, 132, 133, 134, 135, 136, 137, 138, 139, 140, 141, 142, 143, 144, 145, 146, 147, 148, 149, 150, 151]), (16, [4, 7, 152, 153, 154, 155, 156, 157, 158, 159, 160, 161, 162, 163, 164, 165, 166, 167, 168, 169])] [] [] [(8, [0, 1, 2, 3, 4, 5, 6, 7, 8, 9, 10, 11]), (13, [0, 1, 2, 3, 4, 5, 6, 7, 8, 9, 10, 11, 12, 13, 14, 15, 16, 17, 18, 19, 20, 21, 22, 23, 24, 25, 26, 27, 28, 29, 30, 31, 32, 33, 34, 35, 36, 37, 38, 39, 40, 41, 42, 43]), (18, [0, 1, 2, 3, 4, 5, 6, 7, 8, 9, 10])] [(8, [0, 1, 0, 7, 15, 0, 32, 0, 224, 480, 1023, 2047]), (13, [0, 1, 0, 7, 15, 31, 0, 64, 0, 448, 960, 1984, 4095, 8191, 16383, 32767, 16383, 131071, 262143, 524287, 16383, 1064959, 16383, 7356415, 15745023, 32522239, 67108863, 134217727, 268435455, 536870911, 1073741823, 536870911, 4294967295, 8589934591, 17179869183, 536870911, 34896609279, 536870911, 241055039487, 515932946431, 1065688760319, 2199023255551, 4398046511103, 8796093022207]), (18, [0, 1, 0, 7, 15, 0, 32, 0, 224, 480, 1023])] []) (c := Try.f37.body.getD .skip) (rs := [.tmp 4]) ⟨⟩ mixed Try.func37 (by kernel_rfl) (by kernel_rfl) [S.api_State.v a, S.api_State.v p1_] (by kernel_rfl) (by kernel_rfl) (.inr (by kernel_rfl)) (Eq.mp (by kernel_rfl) h)

def W.skeplaw00_Place (v : Int) (n : Int) (w : World) (K : Value → World → Prop) (KP : List PanicEntry → World → Prop) : Prop :=
   (n : Int) ≠ 0 ∧ (cond (decide (((Int.tmod v n) : Int) < 0))
    (K (.int .i64 (IntKind.i64.wrap ((Int.tmod v n) + n))) w)
    (K (.int .i64 (Int.tmod v n)) w))
theorem skeplaw00_Place_of {v : Int} {n : Int} {w : World} {K : Value → World → Prop} {KP : List PanicEntry → World → Prop} (h : W.skeplaw00_Place v n w K KP) : C.skeplaw00_Place v n w K KP :=
  xcall (E := E) (T := mkTab [] [] [] [] [] [] []) (c := Try.f38.body.getD .skip) (rs := [.tmp 4]) ⟨⟩ mixed Try.func38 (by kernel_rfl) (by kernel_rfl) [.int .i64 v, .int .i64 n] (by kernel_rfl) (by kernel_rfl) (.inr (by kernel_rfl)) (Eq.mp (by kernel_rfl) h)

def W.codec_number (p0_ : Sl) (v : Int) (w : World) (K : Value → World → Prop) (KP : List PanicEntry → World → Prop) : Prop :=
   (0 : Int) ≤ 1 ∧ (0 : Int) ≤ 63 ∧ ∃ (I1 : Sl → Int → World → Prop) (M2 : Sl → Int → World → Nat),
    (∃ u3 : Sl, (.slice p0_.a p0_.len p0_.cap : Value) = .slice u3.a u3.len u3.cap ∧ ∃ u4 : Int, (.int .u64 (xorI .u64 (shlI .u64 (IntKind.u64.wrap v) 1) (IntKind.u64.wrap (shrI .i64 v 63))) : Value) = .int .u64 u4 ∧ I1 u3 u4 w) ∧
    ∀ e0 : Env, ∀ v5 : Sl, ∀ v6 : Int, ∀ w7 : World, I1 v5 v6 w7 →
    (cond (decide ((v6 : Int) ≥ 128))
    (∀ (b8 : Nat) (w9 : World), Alloc w7 b8 5 [.int .u8 (orI .u8 (IntKind.u8.wrap v6) 128)] w9 →
    ∃ (q10 : Option Addr) (n11 c12 : Nat) (w13 : World), (Builtin.append_ #[22, 22] 22 #[.slice v5.a v5.len v5.cap, .slice (some ⟨b8, 0, none⟩) 1 1]).run Try.prog w9 = .ok (.slice q10 n11 c12) w13 ∧
    (0 : Int) ≤ 7 ∧ ∃ u14 : Sl, (.slice q10 n11 c12 : Value) = .slice u14.a u14.len u14.cap ∧ ∃ u15 : Int, (.int .u64 (shrI .u64 v6 7) : Value) = .int .u64 u15 ∧ (I1 u14 u15 w13 ∧ M2 u14 u15 w13 < M2 v5 v6 w7))
    (∀ (b16 : Nat) (w17 : World), Alloc w7 b16 5 [.int .u8 (IntKind.u8.wrap v6)] w17 →
    ∃ (q18 : Option Addr) (n19 c20 : Nat) (w21 : World), (Builtin.append_ #[22, 22] 22 #[.slice v5.a v5.len v5.cap, .slice (some ⟨b16, 0, none⟩) 1 1]).run Try.prog w17 = .ok (.slice q18 n19 c20) w21 ∧
    K (.slice q18 n19 c20) w21))
theorem codec_number_of {p0_ : Sl} {v : Int} {w : World} {K : Value → World → Prop} {KP : List PanicEntry → World → Prop} (h : W.codec_number p0_ v w K KP) : C.codec_number p0_ v w K KP :=
  xcall (E := E) (T := mkTab [(2, [(0, 22), (5, 43)])] [(2, [0, 5, 13, 14, 15, 16, 17, 18, 19, 20, 21, 22])] [] [] [] [] []) (c := Try.f39.body.getD .skip) (rs := [.tmp 4]) ⟨⟩ mixed Try.func39 (by kernel_rfl) (by kernel_rfl) [.slice p0_.a p0_.len p0_.cap, .int .i64 v] (by kernel_rfl) (by kernel_rfl) (.inr (by kernel_rfl)) (Eq.mp (by kernel_rfl) h)

def W.codec_read_api_Op (p0_ : Sl) (thing : Value) (w : World) (K : Value → World → Prop) (KP : List PanicEntry → World → Prop) : Prop :=
   ∀ (b1 : Nat) (w2 : World), Alloc w b1 35 [.int .i64 0, .int .i64 0, .int .i64 0] w2 →
    ∀ (b3 : Nat) (w4 : World), Alloc w2 b3 37 [.int .i64 0] w4 →
    ∀ (b5 : Nat) (w6 : World), Alloc w4 b5 153 [.slice p0_.a p0_.len p0_.cap, .int .i64 0] w6 →
    callV Try.prog thing [.pointer (some ⟨b5, 0, none⟩)] w6 (Ret (fun r9 w7 => ∃ p8 : S.api_Op, r9 = S.api_Op.v p8 ∧
    (okVal true 3 (S.api_Op.v p8) = true ∧ canPut w7 ⟨b1, 0, none⟩ (S.api_Op.v p8)) ∧ ∀ w10 : World, w10 = putAt w7 ⟨b1, 0, none⟩ (S.api_Op.v p8) →
    ∃ y11 : Int, (okVal false 1 (.int .i64 y11) = true ∧ w10.cell? ⟨b5, 1, none⟩ = some (.int .i64 y11)) ∧
    (cond ((y11 : Int) != (p0_.len : Int))
    ((fun ch12 w13 => xleave Try.prog [{ target := .fn (.func 103) #[.pointer (some ⟨b1, 0, none⟩), .pointer (some ⟨b3, 0, none⟩)], args := #[] }] (.panicking ch12) w13 (xendF (fun w14 => ∃ y15 : S.api_Op, (okVal true 3 (S.api_Op.v y15) = true ∧ rd w14 ⟨b1, 0, none⟩ (S.api_Op.v y15)) ∧ ∃ y16 : Int, (okVal false 1 (.int .i64 y16) = true ∧ w14.cell? ⟨b3, 0, none⟩ = some (.int .i64 y16)) ∧ K (.tuple #[S.api_Op.v y15, .int .i64 y16]) w14) KP)) [{ v := .iface 151 (.agg #[]), recovered := false }] w10)
    (∃ y17 : S.api_Op, (okVal true 3 (S.api_Op.v y17) = true ∧ rd w10 ⟨b1, 0, none⟩ (S.api_Op.v y17)) ∧
    (okVal true 3 (S.api_Op.v y17) = true ∧ canPut w10 ⟨b1, 0, none⟩ (S.api_Op.v y17)) ∧ ∀ w18 : World, w18 = putAt w10 ⟨b1, 0, none⟩ (S.api_Op.v y17) →
    (okVal false 1 (.int .i64 0) = true ∧ canPut w18 ⟨b3, 0, none⟩ (.int .i64 0)) ∧ ∀ w19 : World, w19 = putAt w18 ⟨b3, 0, none⟩ (.int .i64 0) →
    xleave Try.prog [{ target := .fn (.func 103) #[.pointer (some ⟨b1, 0, none⟩), .pointer (some ⟨b3, 0, none⟩)], args := #[] }] .returning w19 (xendF (fun w20 => ∃ y21 : S.api_Op, (okVal true 3 (S.api_Op.v y21) = true ∧ rd w20 ⟨b1, 0, none⟩ (S.api_Op.v y21)) ∧ ∃ y22 : Int, (okVal false 1 (.int .i64 y22) = true ∧ w20.cell? ⟨b3, 0, none⟩ = some (.int .i64 y22)) ∧ K (.tuple #[S.api_Op.v y21, .int .i64 y22]) w20) KP)))) (fun ch23 w24 => xleave Try.prog [{ target := .fn (.func 103) #[.pointer (some ⟨b1, 0, none⟩), .pointer (some ⟨b3, 0, none⟩)], args := #[] }] (.panicking ch23) w24 (xendF (fun w25 => ∃ y26 : S.api_Op, (okVal true 3 (S.api_Op.v y26) = true ∧ rd w25 ⟨b1, 0, none⟩ (S.api_Op.v y26)) ∧ ∃ y27 : Int, (okVal false 1 (.int .i64 y27) = true ∧ w25.cell? ⟨b3, 0, none⟩ = some (.int .i64 y27)) ∧ K (.tuple #[S.api_Op.v y26, .int .i64 y27]) w25) KP)))
theorem codec_read_api_Op_of {p0_ : Sl} {thing : Value} {w : World} {K : Value → World → Prop} {KP : List PanicEntry → World → Prop} (h : W.codec_read_api_Op p0_ thing w K KP) : C.codec_read_api_Op p0_ thing w K KP :=
  xcall (E := E) (T := mkTab [] [] [] [] [] [] [4, 5]) (c := Try.f40.body.getD .skip) (rs := [.cell 4 35, .cell 5 37]) ⟨⟩ mixed Try.func40 (by kernel_rfl) (by kernel_rfl) [.slice p0_.a p0_.len p0_.cap, thing] (by kernel_rfl) (by kernel_rfl) (.inl (by kernel_rfl)) (Eq.mp (by kernel_rfl) h)

def W.codec_GetOp_1 (r : (Option Addr)) (w : World) (K : Value → World → Prop) (KP : List PanicEntry → World → Prop) : Prop :=
   ∀ (b1 : Nat) (w2 : World), Alloc w b1 35 [.int .i64 0, .int .i64 0, .int .i64 0] w2 →
    ∀ (b3 : Nat) (w4 : World), Alloc w2 b3 35 [.int .i64 0, .int .i64 0, .int .i64 0] w4 →
    C.codec_reader_number r w4 (fun r7 w5 => ∃ p6 : Int, r7 = .int .i64 p6 ∧
    C.codec_reader_number r w5 (fun r10 w8 => ∃ p9 : Int, r10 = .int .i64 p9 ∧
    C.codec_reader_number r w8 (fun r13 w11 => ∃ p12 : Int, r13 = .int .i64 p12 ∧
    (okVal false 1 (.int .i64 p6) = true ∧ canPut w11 ⟨b3, 0, none⟩ (.int .i64 p6)) ∧ ∀ w14 : World, w14 = putAt w11 ⟨b3, 0, none⟩ (.int .i64 p6) →
    (okVal false 1 (.int .i64 p9) = true ∧ canPut w14 ⟨b3, 1, none⟩ (.int .i64 p9)) ∧ ∀ w15 : World, w15 = putAt w14 ⟨b3, 1, none⟩ (.int .i64 p9) →
    (okVal false 1 (.int .i64 p12) = true ∧ canPut w15 ⟨b3, 2, none⟩ (.int .i64 p12)) ∧ ∀ w16 : World, w16 = putAt w15 ⟨b3, 2, none⟩ (.int .i64 p12) →
    ∃ y17 : S.api_Op, (okVal true 3 (S.api_Op.v y17) = true ∧ rd w16 ⟨b3, 0, none⟩ (S.api_Op.v y17)) ∧
    (okVal true 3 (S.api_Op.v y17) = true ∧ canPut w16 ⟨b1, 0, none⟩ (S.api_Op.v y17)) ∧ ∀ w18 : World, w18 = putAt w16 ⟨b1, 0, none⟩ (S.api_Op.v y17) →
    ∃ y19 : S.api_Op, (okVal true 3 (S.api_Op.v y19) = true ∧ rd w18 ⟨b1, 0, none⟩ (S.api_Op.v y19)) ∧ K (S.api_Op.v y19) w18) KP) KP) KP
theorem codec_GetOp_1_of {r : (Option Addr)} {w : World} {K : Value → World → Prop} {KP : List PanicEntry → World → Prop} (h : W.codec_GetOp_1 r w K KP) : C.codec_GetOp_1 r w K KP :=
  xcall (E := E) (T := mkTab [] [] [] [] [] [] []) (c := Try.f41.body.getD .skip) (rs := [.cell 2 35]) ⟨⟩ mixed Try.func41 (by kernel_rfl) (by kernel_rfl) [.pointer r] (by kernel_rfl) (by kernel_rfl) (.inr (by kernel_rfl)) (Eq.mp (by kernel_rfl) h)

def W.codec_reader_number (r : (Option Addr)) (w : World) (K : Value → World → Prop) (KP : List PanicEntry → World → Prop) : Prop :=
   ∀ w1, Drew w w1 →
    withSome r fun a2 =>
    ∃ y3 : Sl, (okVal false 1 (.slice y3.a y3.len y3.cap) = true ∧ w1.cell? a2 = some (.slice y3.a y3.len y3.cap)) ∧
    withSome r fun a4 =>
    ∃ y5 : Int, (okVal false 1 (.int .i64 y5) = true ∧ w1.cell? (Addr.add a4 1) = some (.int .i64 y5)) ∧
    C.codec_GetNumber y3 y5 w1 (fun r8 w6 => ∃ p7 : (Int × Int × Bool), r8 = .tuple #[.int .i64 p7.1, .int .i64 p7.2.1, .bool p7.2.2] ∧
    (cond (!p7.2.2)
    (KP [{ v := .iface 151 (.agg #[]), recovered := false }] w6)
    (withSome r fun a9 =>
    (okVal false 1 (.int .i64 p7.2.1) = true ∧ canPut w6 (Addr.add a9 1) (.int .i64 p7.2.1)) ∧ ∀ w10 : World, w10 = putAt w6 (Addr.add a9 1) (.int .i64 p7.2.1) →
    K (.int .i64 p7.1) w10))) KP
theorem codec_reader_number_of {r : (Option Addr)} {w : World} {K : Value → World → Prop} {KP : List PanicEntry → World → Prop} (h : W.codec_reader_number r w K KP) : C.codec_reader_number r w K KP :=
  xcall (E := E) (T := mkTab [] [] [] [] [(1, [0, 1, 2, 3, 4, 5, 6, 7, 8, 9, 10, 11, 12, 13, 14, 15])] [(1, [0, 1, 3, 7, 0, 16, 48, 112, 255, 511, 1023, 1023, 1023, 2047, 12287, 32767])] []) (c := Try.f42.body.getD .skip) (rs := [.tmp 2]) ⟨⟩ mixed Try.func42 (by kernel_rfl) (by kernel_rfl) [.pointer r] (by kernel_rfl) (by kernel_rfl) (.inr (by kernel_rfl)) (Eq.mp (by kernel_rfl) h)

def W.skepref05_R_whole (r : (Option Addr)) (w : World) (K : Value → World → Prop) (KP : List PanicEntry → World → Prop) : Prop :=
   ∀ w1, Drew w w1 →
    withSome r fun a2 =>
    ∃ y3 : Bool, (okVal false 1 (.bool y3) = true ∧ w1.cell? (Addr.add a2 2) = some (.bool y3)) ∧
    (cond (!y3)
    (withSome r fun a4 =>
    ∃ y5 : Int, (okVal false 1 (.int .i64 y5) = true ∧ w1.cell? (Addr.add a4 1) = some (.int .i64 y5)) ∧
    withSome r fun a6 =>
    ∃ y7 : Sl, (okVal false 1 (.slice y7.a y7.len y7.cap) = true ∧ w1.cell? a6 = some (.slice y7.a y7.len y7.cap)) ∧
    K (.bool ((y5 : Int) == (y7.len : Int))) w1)
    (K (.bool false) w1))
theorem skepref05_R_whole_of {r : (Option Addr)} {w : World} {K : Value → World → Prop} {KP : List PanicEntry → World → Prop} (h : W.skepref05_R_whole r w K KP) : C.skepref05_R_whole r w K KP :=
  xcall (E := E) (T := mkTab [] [] [] [] [(1, [0, 1, 2, 3, 4, 5, 6, 7, 8, 9, 10, 11, 12, 13, 14, 15, 16, 17])] [(1, [0, 1, 3, 7, 15, 31, 63, 127, 255, 511, 63, 1087, 3135, 7231, 15423, 32767, 65535, 131071])] []) (c := Try.f43.body.getD .skip) (rs := [.tmp 2]) ⟨⟩ mixed Try.func43 (by kernel_rfl) (by kernel_rfl) [.pointer r] (by kernel_rfl) (by kernel_rfl) (.inr (by kernel_rfl)) (Eq.mp (by kernel_rfl) h)

def W.skepref05_num (p0_ : Sl) (v : Int) (w : World) (K : Value → World → Prop) (KP : List PanicEntry → World → Prop) : Prop :=
   C.skepref05_Number v w (fun r3 w1 => ∃ p2 : Sl, r3 = .slice p2.a p2.len p2.cap ∧
    ∃ (q4 : Option Addr) (n5 c6 : Nat) (w7 : World), (Builtin.append_ #[22, 22] 22 #[.slice p0_.a p0_.len p0_.cap, .slice p2.a p2.len p2.cap]).run Try.prog w1 = .ok (.slice q4 n5 c6) w7 ∧
    K (.slice q4 n5 c6) w7) KP
theorem skepref05_num_of {p0_ : Sl} {v : Int} {w : World} {K : Value → World → Prop} {KP : List PanicEntry → World → Prop} (h : W.skepref05_num p0_ v w K KP) : C.skepref05_num p0_ v w K KP :=
  xcall (E := E) (T := mkTab [] [] [] [] [] [] []) (c := Try.f44.body.getD .skip) (rs := [.tmp 4]) ⟨⟩ mixed Try.func44 (by kernel_rfl) (by kernel_rfl) [.slice p0_.a p0_.len p0_.cap, .int .i64 v] (by kernel_rfl) (by kernel_rfl) (.inr (by kernel_rfl)) (Eq.mp (by kernel_rfl) h)

def W.codec_pose (p0_ : Sl) (p : S.api_Pose) (w : World) (K : Value → World → Prop) (KP : List PanicEntry → World → Prop) : Prop :=
   ∀ (b1 : Nat) (w2 : World), Alloc w b1 49 (S.api_Pose.v p : Value).cells.toList w2 →
    ∀ w3, Drew w2 w3 →
    ∃ y4 : S.api_Cell, (okVal true 2 (S.api_Cell.v y4) = true ∧ rd w3 ⟨b1, 0, none⟩ (S.api_Cell.v y4)) ∧
    ∃ y5 : Bool, (okVal false 1 (.bool y5) = true ∧ w3.cell? ⟨b1, 2, none⟩ = some (.bool y5)) ∧
    C.codec_cell p0_ y4 w3 (fun r8 w6 => ∃ p7 : Sl, r8 = .slice p7.a p7.len p7.cap ∧
    (w6.cell? ⟨b1, 2, none⟩ = some (.bool y5)) ∧ C.codec_flag p7 y5 w6 (fun r11 w9 => ∃ p10 : Sl, r11 = .slice p10.a p10.len p10.cap ∧
    K (.slice p10.a p10.len p10.cap) w9) KP) KP
theorem codec_pose_of {p0_ : Sl} {p : S.api_Pose} {w : World} {K : Value → World → Prop} {KP : List PanicEntry → World → Prop} (h : W.codec_pose p0_ p w K KP) : C.codec_pose p0_ p w K KP :=
  xcall (E := E) (T := mkTab [] [] [] [] [(1, [0, 1, 2, 4, 5, 3, 6, 7])] [(1, [0, 0, 2, 7, 0, 16, 63, 127])] []) (c := Try.f45.body.getD .skip) (rs := [.tmp 4]) ⟨⟩ mixed Try.func45 (by kernel_rfl) (by kernel_rfl) [.slice p0_.a p0_.len p0_.cap, S.api_Pose.v p] (by kernel_rfl) (by kernel_rfl) (.inr (by kernel_rfl)) (Eq.mp (by kernel_rfl) h)

def W.codec_move (p0_ : Sl) (m : S.api_Move) (w : World) (K : Value → World → Prop) (KP : List PanicEntry → World → Prop) : Prop :=
   ∀ (b1 : Nat) (w2 : World), Alloc w b1 51 (S.api_Move.v m : Value).cells.toList w2 →
    ∀ w3, Drew w2 w3 →
    ∃ y4 : Int, (okVal false 1 (.int .i64 y4) = true ∧ w3.cell? ⟨b1, 0, none⟩ = some (.int .i64 y4)) ∧
    ∃ y5 : Int, (okVal false 1 (.int .i64 y5) = true ∧ w3.cell? ⟨b1, 1, none⟩ = some (.int .i64 y5)) ∧
    ∃ y6 : Int, (okVal false 1 (.int .i64 y6) = true ∧ w3.cell? ⟨b1, 2, none⟩ = some (.int .i64 y6)) ∧
    C.codec_number p0_ y4 w3 (fun r9 w7 => ∃ p8 : Sl, r9 = .slice p8.a p8.len p8.cap ∧
    (w7.cell? ⟨b1, 2, none⟩ = some (.int .i64 y6)) ∧ (w7.cell? ⟨b1, 1, none⟩ = some (.int .i64 y5)) ∧ C.codec_number p8 y5 w7 (fun r12 w10 => ∃ p11 : Sl, r12 = .slice p11.a p11.len p11.cap ∧
    (w10.cell? ⟨b1, 2, none⟩ = some (.int .i64 y6)) ∧ C.codec_number p11 y6 w10 (fun r15 w13 => ∃ p14 : Sl, r15 = .slice p14.a p14.len p14.cap ∧
    ∀ w16, Drew w13 w16 →
    ∃ y17 : S.api_Pose, (okVal true 3 (S.api_Pose.v y17) = true ∧ rd w16 ⟨b1, 3, none⟩ (S.api_Pose.v y17)) ∧
    ∃ y18 : S.api_Pose, (okVal true 3 (S.api_Pose.v y18) = true ∧ rd w16 ⟨b1, 6, none⟩ (S.api_Pose.v y18)) ∧
    C.codec_pose p14 y17 w16 (fun r21 w19 => ∃ p20 : Sl, r21 = .slice p20.a p20.len p20.cap ∧
    (rd w19 ⟨b1, 6, none⟩ (S.api_Pose.v y18)) ∧ C.codec_pose p20 y18 w19 (fun r24 w22 => ∃ p23 : Sl, r24 = .slice p23.a p23.len p23.cap ∧
    ∀ w25, Drew w22 w25 →
    ∃ y26 : Int, (okVal false 1 (.int .i64 y26) = true ∧ w25.cell? ⟨b1, 9, none⟩ = some (.int .i64 y26)) ∧
    ∃ y27 : Int, (okVal false 1 (.int .i64 y27) = true ∧ w25.cell? ⟨b1, 10, none⟩ = some (.int .i64 y27)) ∧
    C.codec_number p23 y26 w25 (fun r30 w28 => ∃ p29 : Sl, r30 = .slice p29.a p29.len p29.cap ∧
    (w28.cell? ⟨b1, 10, none⟩ = some (.int .i64 y27)) ∧ C.codec_number p29 y27 w28 (fun r33 w31 => ∃ p32 : Sl, r33 = .slice p32.a p32.len p32.cap ∧
    K (.slice p32.a p32.len p32.cap) w31) KP) KP) KP) KP) KP) KP) KP
theorem codec_move_of {p0_ : Sl} {m : S.api_Move} {w : World} {K : Value → World → Prop} {KP : List PanicEntry → World → Prop} (h : W.codec_move p0_ m w K KP) : C.codec_move p0_ m w K KP :=
  xcall (E := E) (T := mkTab [] [] [] [] [(1, [0, 1, 2, 4, 5, 7, 8, 3, 6, 9, 10]), (2, [0, 1, 2, 4, 5, 3, 6, 7]), (3, [0, 1, 2, 4, 5, 3, 6, 7])] [(1, [0, 0, 2, 7, 0, 16, 63, 0, 128, 511, 1023]), (2, [0, 0, 2, 7, 0, 16, 63, 127]), (3, [0, 0, 2, 7, 0, 16, 63, 127])] []) (c := Try.f46.body.getD .skip) (rs := [.tmp 4]) ⟨⟩ mixed Try.func46 (by kernel_rfl) (by kernel_rfl) [.slice p0_.a p0_.len p0_.cap, S.api_Move.v m] (by kernel_rfl) (by kernel_rfl) (.inr (by kernel_rfl)) (Eq.mp (by kernel_rfl) h)

def W.codec_read_api_Tele (p0_ : Sl) (thing : Value) (w : World) (K : Value → World → Prop) (KP : List PanicEntry → World → Prop) : Prop :=
   ∀ (b1 : Nat) (w2 : World), Alloc w b1 53 [.int .i64 0, .int .i64 0, .int .i64 0, .int .i64 0, .int .i64 0, .int .i64 0, .int .i64 0, .int .i64 0, .int .i64 0, .bool false, .int .i64 0, .int .i64 0, .bool false, .int .i64 0, .int .i64 0, .int .i64 0, .int .i64 0, .bool false, .int .i64 0] w2 →
    ∀ (b3 : Nat) (w4 : World), Alloc w2 b3 37 [.int .i64 0] w4 →
    ∀ (b5 : Nat) (w6 : World), Alloc w4 b5 153 [.slice p0_.a p0_.len p0_.cap, .int .i64 0] w6 →
    callV Try.prog thing [.pointer (some ⟨b5, 0, none⟩)] w6 (Ret (fun r9 w7 => ∃ p8 : S.api_Tele, r9 = S.api_Tele.v p8 ∧
    (okVal true 19 (S.api_Tele.v p8) = true ∧ canPut w7 ⟨b1, 0, none⟩ (S.api_Tele.v p8)) ∧ ∀ w10 : World, w10 = putAt w7 ⟨b1, 0, none⟩ (S.api_Tele.v p8) →
    ∃ y11 : Int, (okVal false 1 (.int .i64 y11) = true ∧ w10.cell? ⟨b5, 1, none⟩ = some (.int .i64 y11)) ∧
    (cond ((y11 : Int) != (p0_.len : Int))
    ((fun ch12 w13 => xleave Try.prog [{ target := .fn (.func 104) #[.pointer (some ⟨b1, 0, none⟩), .pointer (some ⟨b3, 0, none⟩)], args := #[] }] (.panicking ch12) w13 (xendF (fun w14 => ∃ y15 : S.api_Tele, (okVal true 19 (S.api_Tele.v y15) = true ∧ rd w14 ⟨b1, 0, none⟩ (S.api_Tele.v y15)) ∧ ∃ y16 : Int, (okVal false 1 (.int .i64 y16) = true ∧ w14.cell? ⟨b3, 0, none⟩ = some (.int .i64 y16)) ∧ K (.tuple #[S.api_Tele.v y15, .int .i64 y16]) w14) KP)) [{ v := .iface 151 (.agg #[]), recovered := false }] w10)
    (∃ y17 : S.api_Tele, (okVal true 19 (S.api_Tele.v y17) = true ∧ rd w10 ⟨b1, 0, none⟩ (S.api_Tele.v y17)) ∧
    (okVal true 19 (S.api_Tele.v y17) = true ∧ canPut w10 ⟨b1, 0, none⟩ (S.api_Tele.v y17)) ∧ ∀ w18 : World, w18 = putAt w10 ⟨b1, 0, none⟩ (S.api_Tele.v y17) →
    (okVal false 1 (.int .i64 0) = true ∧ canPut w18 ⟨b3, 0, none⟩ (.int .i64 0)) ∧ ∀ w19 : World, w19 = putAt w18 ⟨b3, 0, none⟩ (.int .i64 0) →
    xleave Try.prog [{ target := .fn (.func 104) #[.pointer (some ⟨b1, 0, none⟩), .pointer (some ⟨b3, 0, none⟩)], args := #[] }] .returning w19 (xendF (fun w20 => ∃ y21 : S.api_Tele, (okVal true 19 (S.api_Tele.v y21) = true ∧ rd w20 ⟨b1, 0, none⟩ (S.api_Tele.v y21)) ∧ ∃ y22 : Int, (okVal false 1 (.int .i64 y22) = true ∧ w20.cell? ⟨b3, 0, none⟩ = some (.int .i64 y22)) ∧ K (.tuple #[S.api_Tele.v y21, .int .i64 y22]) w20) KP)))) (fun ch23 w24 => xleave Try.prog [{ target := .fn (.func 104) #[.pointer (some ⟨b1, 0, none⟩), .pointer (some ⟨b3, 0, none⟩)], args := #[] }] (.panicking ch23) w24 (xendF (fun w25 => ∃ y26 : S.api_Tele, (okVal true 19 (S.api_Tele.v y26) = true ∧ rd w25 ⟨b1, 0, none⟩ (S.api_Tele.v y26)) ∧ ∃ y27 : Int, (okVal false 1 (.int .i64 y27) = true ∧ w25.cell? ⟨b3, 0, none⟩ = some (.int .i64 y27)) ∧ K (.tuple #[S.api_Tele.v y26, .int .i64 y27]) w25) KP)))
theorem codec_read_api_Tele_of {p0_ : Sl} {thing : Value} {w : World} {K : Value → World → Prop} {KP : List PanicEntry → World → Prop} (h : W.codec_read_api_Tele p0_ thing w K KP) : C.codec_read_api_Tele p0_ thing w K KP :=
  xcall (E := E) (T := mkTab [] [] [] [] [] [] [4, 5]) (c := Try.f47.body.getD .skip) (rs := [.cell 4 53, .cell 5 37]) ⟨⟩ mixed Try.func47 (by kernel_rfl) (by kernel_rfl) [.slice p0_.a p0_.len p0_.cap, thing] (by kernel_rfl) (by kernel_rfl) (.inl (by kernel_rfl)) (Eq.mp (by kernel_rfl) h)

def W.codec_GetTele_1 (r : (Option Addr)) (w : World) (K : Value → World → Prop) (KP : List PanicEntry → World → Prop) : Prop :=
   ∀ (b1 : Nat) (w2 : World), Alloc w b1 53 [.int .i64 0, .int .i64 0, .int .i64 0, .int .i64 0, .int .i64 0, .int .i64 0, .int .i64 0, .int .i64 0, .int .i64 0, .bool false, .int .i64 0, .int .i64 0, .bool false, .int .i64 0, .int .i64 0, .int .i64 0, .int .i64 0, .bool false, .int .i64 0] w2 →
    ∀ (b3 : Nat) (w4 : World), Alloc w2 b3 53 [.int .i64 0, .int .i64 0, .int .i64 0, .int .i64 0, .int .i64 0, .int .i64 0, .int .i64 0, .int .i64 0, .int .i64 0, .bool false, .int .i64 0, .int .i64 0, .bool false, .int .i64 0, .int .i64 0, .int .i64 0, .int .i64 0, .bool false, .int .i64 0] w4 →
    C.codec_reader_number r w4 (fun r7 w5 => ∃ p6 : Int, r7 = .int .i64 p6 ∧
    C.codec_reader_number r w5 (fun r10 w8 => ∃ p9 : Int, r10 = .int .i64 p9 ∧
    C.codec_reader_number r w8 (fun r13 w11 => ∃ p12 : Int, r13 = .int .i64 p12 ∧
    C.codec_reader_number r w11 (fun r16 w14 => ∃ p15 : Int, r16 = .int .i64 p15 ∧
    (okVal false 1 (.int .i64 p6) = true ∧ canPut w14 ⟨b3, 0, none⟩ (.int .i64 p6)) ∧ ∀ w17 : World, w17 = putAt w14 ⟨b3, 0, none⟩ (.int .i64 p6) →
    (okVal false 1 (.int .i64 p9) = true ∧ canPut w17 ⟨b3, 1, none⟩ (.int .i64 p9)) ∧ ∀ w18 : World, w18 = putAt w17 ⟨b3, 1, none⟩ (.int .i64 p9) →
    (okVal false 1 (.int .i64 p12) = true ∧ canPut w18 ⟨b3, 2, none⟩ (.int .i64 p12)) ∧ ∀ w19 : World, w19 = putAt w18 ⟨b3, 2, none⟩ (.int .i64 p12) →
    (okVal false 1 (.int .i64 p15) = true ∧ canPut w19 ⟨b3, 3, none⟩ (.int .i64 p15)) ∧ ∀ w20 : World, w20 = putAt w19 ⟨b3, 3, none⟩ (.int .i64 p15) →
    C.codec_reader_move r w20 (fun r23 w21 => ∃ p22 : S.api_Move, r23 = S.api_Move.v p22 ∧
    (okVal true 11 (S.api_Move.v p22) = true ∧ canPut w21 ⟨b3, 4, none⟩ (S.api_Move.v p22)) ∧ ∀ w24 : World, w24 = putAt w21 ⟨b3, 4, none⟩ (S.api_Move.v p22) →
    C.codec_reader_pose r w24 (fun r27 w25 => ∃ p26 : S.api_Pose, r27 = S.api_Pose.v p26 ∧
    (okVal true 3 (S.api_Pose.v p26) = true ∧ canPut w25 ⟨b3, 15, none⟩ (S.api_Pose.v p26)) ∧ ∀ w28 : World, w28 = putAt w25 ⟨b3, 15, none⟩ (S.api_Pose.v p26) →
    C.codec_reader_number r w28 (fun r31 w29 => ∃ p30 : Int, r31 = .int .i64 p30 ∧
    (okVal false 1 (.int .i64 p30) = true ∧ canPut w29 ⟨b3, 18, none⟩ (.int .i64 p30)) ∧ ∀ w32 : World, w32 = putAt w29 ⟨b3, 18, none⟩ (.int .i64 p30) →
    ∃ y33 : S.api_Tele, (okVal true 19 (S.api_Tele.v y33) = true ∧ rd w32 ⟨b3, 0, none⟩ (S.api_Tele.v y33)) ∧
    (okVal true 19 (S.api_Tele.v y33) = true ∧ canPut w32 ⟨b1, 0, none⟩ (S.api_Tele.v y33)) ∧ ∀ w34 : World, w34 = putAt w32 ⟨b1, 0, none⟩ (S.api_Tele.v y33) →
    ∃ y35 : S.api_Tele, (okVal true 19 (S.api_Tele.v y35) = true ∧ rd w34 ⟨b1, 0, none⟩ (S.api_Tele.v y35)) ∧ K (S.api_Tele.v y35) w34) KP) KP) KP) KP) KP) KP) KP
theorem codec_GetTele_1_of {r : (Option Addr)} {w : World} {K : Value → World → Prop} {KP : List PanicEntry → World → Prop} (h : W.codec_GetTele_1 r w K KP) : C.codec_GetTele_1 r w K KP :=
  xcall (E := E) (T := mkTab [] [] [] [] [] [] []) (c := Try.f48.body.getD .skip) (rs := [.cell 2 53]) ⟨⟩ mixed Try.func48 (by kernel_rfl) (by kernel_rfl) [.pointer r] (by kernel_rfl) (by kernel_rfl) (.inr (by kernel_rfl)) (Eq.mp (by kernel_rfl) h)

def W.codec_reader_move (r : (Option Addr)) (w : World) (K : Value → World → Prop) (KP : List PanicEntry → World → Prop) : Prop :=
   ∀ (b1 : Nat) (w2 : World), Alloc w b1 51 [.int .i64 0, .int .i64 0, .int .i64 0, .int .i64 0, .int .i64 0, .bool false, .int .i64 0, .int .i64 0, .bool false, .int .i64 0, .int .i64 0] w2 →
    ∀ (b3 : Nat) (w4 : World), Alloc w2 b3 51 [.int .i64 0, .int .i64 0, .int .i64 0, .int .i64 0, .int .i64 0, .bool false, .int .i64 0, .int .i64 0, .bool false, .int .i64 0, .int .i64 0] w4 →
    C.codec_reader_number r w4 (fun r7 w5 => ∃ p6 : Int, r7 = .int .i64 p6 ∧
    C.codec_reader_number r w5 (fun r10 w8 => ∃ p9 : Int, r10 = .int .i64 p9 ∧
    C.codec_reader_number r w8 (fun r13 w11 => ∃ p12 : Int, r13 = .int .i64 p12 ∧
    (okVal false 1 (.int .i64 p6) = true ∧ canPut w11 ⟨b3, 0, none⟩ (.int .i64 p6)) ∧ ∀ w14 : World, w14 = putAt w11 ⟨b3, 0, none⟩ (.int .i64 p6) →
    (okVal false 1 (.int .i64 p9) = true ∧ canPut w14 ⟨b3, 1, none⟩ (.int .i64 p9)) ∧ ∀ w15 : World, w15 = putAt w14 ⟨b3, 1, none⟩ (.int .i64 p9) →
    (okVal false 1 (.int .i64 p12) = true ∧ canPut w15 ⟨b3, 2, none⟩ (.int .i64 p12)) ∧ ∀ w16 : World, w16 = putAt w15 ⟨b3, 2, none⟩ (.int .i64 p12) →
    C.codec_reader_pose r w16 (fun r19 w17 => ∃ p18 : S.api_Pose, r19 = S.api_Pose.v p18 ∧
    C.codec_reader_pose r w17 (fun r22 w20 => ∃ p21 : S.api_Pose, r22 = S.api_Pose.v p21 ∧
    (okVal true 3 (S.api_Pose.v p18) = true ∧ canPut w20 ⟨b3, 3, none⟩ (S.api_Pose.v p18)) ∧ ∀ w23 : World, w23 = putAt w20 ⟨b3, 3, none⟩ (S.api_Pose.v p18) →
    (okVal true 3 (S.api_Pose.v p21) = true ∧ canPut w23 ⟨b3, 6, none⟩ (S.api_Pose.v p21)) ∧ ∀ w24 : World, w24 = putAt w23 ⟨b3, 6, none⟩ (S.api_Pose.v p21) →
    C.codec_reader_number r w24 (fun r27 w25 => ∃ p26 : Int, r27 = .int .i64 p26 ∧
    C.codec_reader_number r w25 (fun r30 w28 => ∃ p29 : Int, r30 = .int .i64 p29 ∧
    (okVal false 1 (.int .i64 p26) = true ∧ canPut w28 ⟨b3, 9, none⟩ (.int .i64 p26)) ∧ ∀ w31 : World, w31 = putAt w28 ⟨b3, 9, none⟩ (.int .i64 p26) →
    (okVal false 1 (.int .i64 p29) = true ∧ canPut w31 ⟨b3, 10, none⟩ (.int .i64 p29)) ∧ ∀ w32 : World, w32 = putAt w31 ⟨b3, 10, none⟩ (.int .i64 p29) →
    ∃ y33 : S.api_Move, (okVal true 11 (S.api_Move.v y33) = true ∧ rd w32 ⟨b3, 0, none⟩ (S.api_Move.v y33)) ∧
    (okVal true 11 (S.api_Move.v y33) = true ∧ canPut w32 ⟨b1, 0, none⟩ (S.api_Move.v y33)) ∧ ∀ w34 : World, w34 = putAt w32 ⟨b1, 0, none⟩ (S.api_Move.v y33) →
    ∃ y35 : S.api_Move, (okVal true 11 (S.api_Move.v y35) = true ∧ rd w34 ⟨b1, 0, none⟩ (S.api_Move.v y35)) ∧ K (S.api_Move.v y35) w34) KP) KP) KP) KP) KP) KP) KP
theorem codec_reader_move_of {r : (Option Addr)} {w : World} {K : Value → World → Prop} {KP : List PanicEntry → World → Prop} (h : W.codec_reader_move r w K KP) : C.codec_reader_move r w K KP :=
  xcall (E := E) (T := mkTab [] [] [] [] [] [] []) (c := Try.f49.body.getD .skip) (rs := [.cell 2 51]) ⟨⟩ mixed Try.func49 (by kernel_rfl) (by kernel_rfl) [.pointer r] (by kernel_rfl) (by kernel_rfl) (.inr (by kernel_rfl)) (Eq.mp (by kernel_rfl) h)

def W.codec_reader_pose (r : (Option Addr)) (w : World) (K : Value → World → Prop) (KP : List PanicEntry → World → Prop) : Prop :=
   ∀ (b1 : Nat) (w2 : World), Alloc w b1 49 [.int .i64 0, .int .i64 0, .bool false] w2 →
    C.codec_reader_cell r w2 (fun r5 w3 => ∃ p4 : S.api_Cell, r5 = S.api_Cell.v p4 ∧
    ∀ (b6 : Nat) (w7 : World), Alloc w3 b6 47 [.int .i64 0, .int .i64 0] w7 →
    (okVal true 2 (S.api_Cell.v p4) = true ∧ canPut w7 ⟨b6, 0, none⟩ (S.api_Cell.v p4)) ∧ ∀ w8 : World, w8 = putAt w7 ⟨b6, 0, none⟩ (S.api_Cell.v p4) →
    ∀ w9, Drew w8 w9 →
    ∃ y10 : S.api_Cell, (okVal true 2 (S.api_Cell.v y10) = true ∧ rd w9 ⟨b6, 0, none⟩ (S.api_Cell.v y10)) ∧
    C.codec_reader_bool r w9 (fun r13 w11 => ∃ p12 : Bool, r13 = .bool p12 ∧
    (rd w11 ⟨b6, 0, none⟩ (S.api_Cell.v y10)) ∧ (okVal true 3 (.agg #[.int .i64 y10.X, .int .i64 y10.Y, .bool p12]) = true ∧ canPut w11 ⟨b1, 0, none⟩ (.agg #[.int .i64 y10.X, .int .i64 y10.Y, .bool p12])) ∧ ∀ w14 : World, w14 = putAt w11 ⟨b1, 0, none⟩ (.agg #[.int .i64 y10.X, .int .i64 y10.Y, .bool p12]) →
    ∃ y15 : S.api_Pose, (okVal true 3 (S.api_Pose.v y15) = true ∧ rd w14 ⟨b1, 0, none⟩ (S.api_Pose.v y15)) ∧ K (S.api_Pose.v y15) w14) KP) KP
theorem codec_reader_pose_of {r : (Option Addr)} {w : World} {K : Value → World → Prop} {KP : List PanicEntry → World → Prop} (h : W.codec_reader_pose r w K KP) : C.codec_reader_pose r w K KP :=
  xcall (E := E) (T := mkTab [] [] [] [] [(2, [0, 1, 2, 3, 4])] [(2, [0, 0, 2, 7, 15])] []) (c := Try.f50.body.getD .skip) (rs := [.cell 2 49]) ⟨⟩ mixed Try.func50 (by kernel_rfl) (by kernel_rfl) [.pointer r] (by kernel_rfl) (by kernel_rfl) (.inr (by kernel_rfl)) (Eq.mp (by kernel_rfl) h)

def W.skepref05_R_move (r : (Option Addr)) (w : World) (K : Value → World → Prop) (KP : List PanicEntry → World → Prop) : Prop :=
   ∀ (b1 : Nat) (w2 : World), Alloc w b1 51 [.int .i64 0, .int .i64 0, .int .i64 0, .int .i64 0, .int .i64 0, .bool false, .int .i64 0, .int .i64 0, .bool false, .int .i64 0, .int .i64 0] w2 →
    ∀ (b3 : Nat) (w4 : World), Alloc w2 b3 51 [.int .i64 0, .int .i64 0, .int .i64 0, .int .i64 0, .int .i64 0, .bool false, .int .i64 0, .int .i64 0, .bool false, .int .i64 0, .int .i64 0] w4 →
    (okVal true 11 (.agg #[.int .i64 0, .int .i64 0, .int .i64 0, .int .i64 0, .int .i64 0, .bool false, .int .i64 0, .int .i64 0, .bool false, .int .i64 0, .int .i64 0]) = true ∧ canPut w4 ⟨b3, 0, none⟩ (.agg #[.int .i64 0, .int .i64 0, .int .i64 0, .int .i64 0, .int .i64 0, .bool false, .int .i64 0, .int .i64 0, .bool false, .int .i64 0, .int .i64 0])) ∧ ∀ w5 : World, w5 = putAt w4 ⟨b3, 0, none⟩ (.agg #[.int .i64 0, .int .i64 0, .int .i64 0, .int .i64 0, .int .i64 0, .bool false, .int .i64 0, .int .i64 0, .bool false, .int .i64 0, .int .i64 0]) →
    C.skepref05_R_Number r w5 (fun r8 w6 => ∃ p7 : Int, r8 = .int .i64 p7 ∧
    (okVal false 1 (.int .i64 p7) = true ∧ canPut w6 ⟨b3, 0, none⟩ (.int .i64 p7)) ∧ ∀ w9 : World, w9 = putAt w6 ⟨b3, 0, none⟩ (.int .i64 p7) →
    C.skepref05_R_Number r w9 (fun r12 w10 => ∃ p11 : Int, r12 = .int .i64 p11 ∧
    (okVal false 1 (.int .i64 p11) = true ∧ canPut w10 ⟨b3, 1, none⟩ (.int .i64 p11)) ∧ ∀ w13 : World, w13 = putAt w10 ⟨b3, 1, none⟩ (.int .i64 p11) →
    C.skepref05_R_Number r w13 (fun r16 w14 => ∃ p15 : Int, r16 = .int .i64 p15 ∧
    (okVal false 1 (.int .i64 p15) = true ∧ canPut w14 ⟨b3, 2, none⟩ (.int .i64 p15)) ∧ ∀ w17 : World, w17 = putAt w14 ⟨b3, 2, none⟩ (.int .i64 p15) →
    C.skepref05_R_pose r w17 (fun r20 w18 => ∃ p19 : S.api_Pose, r20 = S.api_Pose.v p19 ∧
    (okVal true 3 (S.api_Pose.v p19) = true ∧ canPut w18 ⟨b3, 3, none⟩ (S.api_Pose.v p19)) ∧ ∀ w21 : World, w21 = putAt w18 ⟨b3, 3, none⟩ (S.api_Pose.v p19) →
    C.skepref05_R_pose r w21 (fun r24 w22 => ∃ p23 : S.api_Pose, r24 = S.api_Pose.v p23 ∧
    (okVal true 3 (S.api_Pose.v p23) = true ∧ canPut w22 ⟨b3, 6, none⟩ (S.api_Pose.v p23)) ∧ ∀ w25 : World, w25 = putAt w22 ⟨b3, 6, none⟩ (S.api_Pose.v p23) →
    C.skepref05_R_Number r w25 (fun r28 w26 => ∃ p27 : Int, r28 = .int .i64 p27 ∧
    (okVal false 1 (.int .i64 p27) = true ∧ canPut w26 ⟨b3, 9, none⟩ (.int .i64 p27)) ∧ ∀ w29 : World, w29 = putAt w26 ⟨b3, 9, none⟩ (.int .i64 p27) →
    C.skepref05_R_Number r w29 (fun r32 w30 => ∃ p31 : Int, r32 = .int .i64 p31 ∧
    (okVal false 1 (.int .i64 p31) = true ∧ canPut w30 ⟨b3, 10, none⟩ (.int .i64 p31)) ∧ ∀ w33 : World, w33 = putAt w30 ⟨b3, 10, none⟩ (.int .i64 p31) →
    ∃ y34 : S.api_Move, (okVal true 11 (S.api_Move.v y34) = true ∧ rd w33 ⟨b3, 0, none⟩ (S.api_Move.v y34)) ∧
    (okVal true 11 (S.api_Move.v y34) = true ∧ canPut w33 ⟨b1, 0, none⟩ (S.api_Move.v y34)) ∧ ∀ w35 : World, w35 = putAt w33 ⟨b1, 0, none⟩ (S.api_Move.v y34) →
    ∃ y36 : S.api_Move, (okVal true 11 (S.api_Move.v y36) = true ∧ rd w35 ⟨b1, 0, none⟩ (S.api_Move.v y36)) ∧ K (S.api_Move.v y36) w35) KP) KP) KP) KP) KP) KP) KP
theorem skepref05_R_move_of {r : (Option Addr)} {w : World} {K : Value → World → Prop} {KP : List PanicEntry → World → Prop} (h : W.skepref05_R_move r w K KP) : C.skepref05_R_move r w K KP :=
  xcall (E := E) (T := mkTab [] [] [] [] [] [] []) (c := Try.f51.body.getD .skip) (rs := [.cell 2 51]) ⟨⟩ mixed Try.func51 (by kernel_rfl) (by kernel_rfl) [.pointer r] (by kernel_rfl) (by kernel_rfl) (.inr (by kernel_rfl)) (Eq.mp (by kernel_rfl) h)

def W.skepref05_R_pose (r : (Option Addr)) (w : World) (K : Value → World → Prop) (KP : List PanicEntry → World → Prop) : Prop :=
   ∀ (b1 : Nat) (w2 : World), Alloc w b1 49 [.int .i64 0, .int .i64 0, .bool false] w2 →
    C.skepref05_R_cell r w2 (fun r5 w3 => ∃ p4 : S.api_Cell, r5 = S.api_Cell.v p4 ∧
    ∀ (b6 : Nat) (w7 : World), Alloc w3 b6 47 [.int .i64 0, .int .i64 0] w7 →
    (okVal true 2 (S.api_Cell.v p4) = true ∧ canPut w7 ⟨b6, 0, none⟩ (S.api_Cell.v p4)) ∧ ∀ w8 : World, w8 = putAt w7 ⟨b6, 0, none⟩ (S.api_Cell.v p4) →
    C.skepref05_R_Flag r w8 (fun r11 w9 => ∃ p10 : Bool, r11 = .bool p10 ∧
    ∃ y12 : S.api_Cell, (okVal true 2 (S.api_Cell.v y12) = true ∧ rd w9 ⟨b6, 0, none⟩ (S.api_Cell.v y12)) ∧
    (okVal true 3 (.agg #[.int .i64 y12.X, .int .i64 y12.Y, .bool p10]) = true ∧ canPut w9 ⟨b1, 0, none⟩ (.agg #[.int .i64 y12.X, .int .i64 y12.Y, .bool p10])) ∧ ∀ w13 : World, w13 = putAt w9 ⟨b1, 0, none⟩ (.agg #[.int .i64 y12.X, .int .i64 y12.Y, .bool p10]) →
    ∃ y14 : S.api_Pose, (okVal true 3 (S.api_Pose.v y14) = true ∧ rd w13 ⟨b1, 0, none⟩ (S.api_Pose.v y14)) ∧ K (S.api_Pose.v y14) w13) KP) KP
theorem skepref05_R_pose_of {r : (Option Addr)} {w : World} {K : Value → World → Prop} {KP : List PanicEntry → World → Prop} (h : W.skepref05_R_pose r w K KP) : C.skepref05_R_pose r w K KP :=
  xcall (E := E) (T := mkTab [] [] [] [] [] [] []) (c := Try.f52.body.getD .skip) (rs := [.cell 2 49]) ⟨⟩ mixed Try.func52 (by kernel_rfl) (by kernel_rfl) [.pointer r] (by kernel_rfl) (by kernel_rfl) (.inr (by kernel_rfl)) (Eq.mp (by kernel_rfl) h)

def W.skepref05_pose (p0_ : Sl) (p : S.api_Pose) (w : World) (K : Value → World → Prop) (KP : List PanicEntry → World → Prop) : Prop :=
   ∀ (b1 : Nat) (w2 : World), Alloc w b1 49 (S.api_Pose.v p : Value).cells.toList w2 →
    ∀ w3, Drew w2 w3 →
    ∃ y4 : S.api_Cell, (okVal true 2 (S.api_Cell.v y4) = true ∧ rd w3 ⟨b1, 0, none⟩ (S.api_Cell.v y4)) ∧
    ∃ y5 : Bool, (okVal false 1 (.bool y5) = true ∧ w3.cell? ⟨b1, 2, none⟩ = some (.bool y5)) ∧
    C.skepref05_cell p0_ y4 w3 (fun r8 w6 => ∃ p7 : Sl, r8 = .slice p7.a p7.len p7.cap ∧
    (w6.cell? ⟨b1, 2, none⟩ = some (.bool y5)) ∧ C.skepref05_flag p7 y5 w6 (fun r11 w9 => ∃ p10 : Sl, r11 = .slice p10.a p10.len p10.cap ∧
    K (.slice p10.a p10.len p10.cap) w9) KP) KP
theorem skepref05_pose_of {p0_ : Sl} {p : S.api_Pose} {w : World} {K : Value → World → Prop} {KP : List PanicEntry → World → Prop} (h : W.skepref05_pose p0_ p w K KP) : C.skepref05_pose p0_ p w K KP :=
  xcall (E := E) (T := mkTab [] [] [] [] [(1, [0, 1, 2, 4, 5, 3, 6, 7])] [(1, [0, 0, 2, 7, 0, 16, 63, 127])] []) (c := Try.f53.body.getD .skip) (rs := [.tmp 4]) ⟨⟩ mixed Try.func53 (by kernel_rfl) (by kernel_rfl) [.slice p0_.a p0_.len p0_.cap, S.api_Pose.v p] (by kernel_rfl) (by kernel_rfl) (.inr (by kernel_rfl)) (Eq.mp (by kernel_rfl) h)

def W.skepref05_move (p0_ : Sl) (m : S.api_Move) (w : World) (K : Value → World → Prop) (KP : List PanicEntry → World → Prop) : Prop :=
   ∀ (b1 : Nat) (w2 : World), Alloc w b1 51 (S.api_Move.v m : Value).cells.toList w2 →
    ∀ w3, Drew w2 w3 →
    ∃ y4 : Int, (okVal false 1 (.int .i64 y4) = true ∧ w3.cell? ⟨b1, 0, none⟩ = some (.int .i64 y4)) ∧
    ∃ y5 : Int, (okVal false 1 (.int .i64 y5) = true ∧ w3.cell? ⟨b1, 1, none⟩ = some (.int .i64 y5)) ∧
    ∃ y6 : Int, (okVal false 1 (.int .i64 y6) = true ∧ w3.cell? ⟨b1, 2, none⟩ = some (.int .i64 y6)) ∧
    C.skepref05_num p0_ y4 w3 (fun r9 w7 => ∃ p8 : Sl, r9 = .slice p8.a p8.len p8.cap ∧
    (w7.cell? ⟨b1, 2, none⟩ = some (.int .i64 y6)) ∧ (w7.cell? ⟨b1, 1, none⟩ = some (.int .i64 y5)) ∧ C.skepref05_num p8 y5 w7 (fun r12 w10 => ∃ p11 : Sl, r12 = .slice p11.a p11.len p11.cap ∧
    (w10.cell? ⟨b1, 2, none⟩ = some (.int .i64 y6)) ∧ C.skepref05_num p11 y6 w10 (fun r15 w13 => ∃ p14 : Sl, r15 = .slice p14.a p14.len p14.cap ∧
    ∀ w16, Drew w13 w16 →
    ∃ y17 : S.api_Pose, (okVal true 3 (S.api_Pose.v y17) = true ∧ rd w16 ⟨b1, 3, none⟩ (S.api_Pose.v y17)) ∧
    ∃ y18 : S.api_Pose, (okVal true 3 (S.api_Pose.v y18) = true ∧ rd w16 ⟨b1, 6, none⟩ (S.api_Pose.v y18)) ∧
    C.skepref05_pose p14 y17 w16 (fun r21 w19 => ∃ p20 : Sl, r21 = .slice p20.a p20.len p20.cap ∧
    (rd w19 ⟨b1, 6, none⟩ (S.api_Pose.v y18)) ∧ C.skepref05_pose p20 y18 w19 (fun r24 w22 => ∃ p23 : Sl, r24 = .slice p23.a p23.len p23.cap ∧
    ∀ w25, Drew w22 w25 →
    ∃ y26 : Int, (okVal false 1 (.int .i64 y26) = true ∧ w25.cell? ⟨b1, 9, none⟩ = some (.int .i64 y26)) ∧
    ∃ y27 : Int, (okVal false 1 (.int .i64 y27) = true ∧ w25.cell? ⟨b1, 10, none⟩ = some (.int .i64 y27)) ∧
    C.skepref05_num p23 y26 w25 (fun r30 w28 => ∃ p29 : Sl, r30 = .slice p29.a p29.len p29.cap ∧
    (w28.cell? ⟨b1, 10, none⟩ = some (.int .i64 y27)) ∧ C.skepref05_num p29 y27 w28 (fun r33 w31 => ∃ p32 : Sl, r33 = .slice p32.a p32.len p32.cap ∧
    K (.slice p32.a p32.len p32.cap) w31) KP) KP) KP) KP) KP) KP) KP
theorem skepref05_move_of {p0_ : Sl} {m : S.api_Move} {w : World} {K : Value → World → Prop} {KP : List PanicEntry → World → Prop} (h : W.skepref05_move p0_ m w K KP) : C.skepref05_move p0_ m w K KP :=
  xcall (E := E) (T := mkTab [] [] [] [] [(1, [0, 1, 2, 4, 5, 7, 8, 3, 6, 9, 10]), (2, [0, 1, 2, 4, 5, 3, 6, 7]), (3, [0, 1, 2, 4, 5, 3, 6, 7])] [(1, [0, 0, 2, 7, 0, 16, 63, 0, 128, 511, 1023]), (2, [0, 0, 2, 7, 0, 16, 63, 127]), (3, [0, 0, 2, 7, 0, 16, 63, 127])] []) (c := Try.f54.body.getD .skip) (rs := [.tmp 4]) ⟨⟩ mixed Try.func54 (by kernel_rfl) (by kernel_rfl) [.slice p0_.a p0_.len p0_.cap, S.api_Move.v m] (by kernel_rfl) (by kernel_rfl) (.inr (by kernel_rfl)) (Eq.mp (by kernel_rfl) h)

def W.codec_puts_api_Move (p0_ : Sl) (l : Sl) (item : Value) (w : World) (K : Value → World → Prop) (KP : List PanicEntry → World → Prop) : Prop :=
   C.codec_number p0_ (l.len : Int) w (fun r3 w1 => ∃ p2 : Sl, r3 = .slice p2.a p2.len p2.cap ∧
    ∃ (I4 : Sl → Int → World → Prop) (M5 : Sl → Int → World → Nat),
    (∃ u6 : Sl, (.slice p2.a p2.len p2.cap : Value) = .slice u6.a u6.len u6.cap ∧ ∃ u7 : Int, (.int .i64 0 : Value) = .int .i64 u7 ∧ I4 u6 u7 w1) ∧
    ∀ e0 : Env, ∀ v8 : Sl, ∀ v9 : Int, ∀ w10 : World, I4 v8 v9 w10 →
    (cond (decide ((v9 : Int) < (l.len : Int)))
    (((0 : Int) ≤ v9 ∧ (v9 : Int) < (l.len : Int)) ∧ withSome l.a fun a11 =>
    ∃ y12 : S.api_Move, (okVal true 11 (S.api_Move.v y12) = true ∧ rd w10 (Addr.add a11 (v9.toNat * 11)) (S.api_Move.v y12)) ∧
    ∀ (b13 : Nat) (w14 : World), Alloc w10 b13 51 [.int .i64 0, .int .i64 0, .int .i64 0, .int .i64 0, .int .i64 0, .bool false, .int .i64 0, .int .i64 0, .bool false, .int .i64 0, .int .i64 0] w14 →
    (okVal true 11 (S.api_Move.v y12) = true ∧ canPut w14 ⟨b13, 0, none⟩ (S.api_Move.v y12)) ∧ ∀ w15 : World, w15 = putAt w14 ⟨b13, 0, none⟩ (S.api_Move.v y12) →
    ∃ y16 : S.api_Move, (okVal true 11 (S.api_Move.v y16) = true ∧ rd w15 ⟨b13, 0, none⟩ (S.api_Move.v y16)) ∧
    callV Try.prog item [.slice v8.a v8.len v8.cap, S.api_Move.v y16] w15 (Ret (fun r19 w17 => ∃ p18 : Sl, r19 = .slice p18.a p18.len p18.cap ∧
    ∃ u20 : Sl, (.slice p18.a p18.len p18.cap : Value) = .slice u20.a u20.len u20.cap ∧ ∃ u21 : Int, (.int .i64 (IntKind.i64.wrap (v9 + 1)) : Value) = .int .i64 u21 ∧ (I4 u20 u21 w17 ∧ M5 u20 u21 w17 < M5 v8 v9 w10)) KP))
    (K (.slice v8.a v8.len v8.cap) w10))) KP
theorem codec_puts_api_Move_of {p0_ : Sl} {l : Sl} {item : Value} {w : World} {K : Value → World → Prop} {KP : List PanicEntry → World → Prop} (h : W.codec_puts_api_Move p0_ l item w K KP) : C.codec_puts_api_Move p0_ l item w K KP :=
  xcall (E := E) (T := mkTab [(3, [(0, 22), (15, 3)])] [(3, [0, 8, 15, 16, 17, 18, 19, 20, 21, 22, 23])] [] [] [] [] []) (c := Try.f55.body.getD .skip) (rs := [.tmp 6]) ⟨⟩ mixed Try.func55 (by kernel_rfl) (by kernel_rfl) [.slice p0_.a p0_.len p0_.cap, .slice l.a l.len l.cap, item] (by kernel_rfl) (by kernel_rfl) (.inr (by kernel_rfl)) (Eq.mp (by kernel_rfl) h)

def W.codec_read_api_Event (p0_ : Sl) (thing : Value) (w : World) (K : Value → World → Prop) (KP : List PanicEntry → World → Prop) : Prop :=
   ∀ (b1 : Nat) (w2 : World), Alloc w b1 63 [.int .i64 0, .int .i64 0, .int .i64 0, .int .i64 0, .int .i64 0, .bool false, .slice none 0 0] w2 →
    ∀ (b3 : Nat) (w4 : World), Alloc w2 b3 37 [.int .i64 0] w4 →
    ∀ (b5 : Nat) (w6 : World), Alloc w4 b5 153 [.slice p0_.a p0_.len p0_.cap, .int .i64 0] w6 →
    callV Try.prog thing [.pointer (some ⟨b5, 0, none⟩)] w6 (Ret (fun r9 w7 => ∃ p8 : S.api_Event, r9 = S.api_Event.v p8 ∧
    (okVal true 7 (S.api_Event.v p8) = true ∧ canPut w7 ⟨b1, 0, none⟩ (S.api_Event.v p8)) ∧ ∀ w10 : World, w10 = putAt w7 ⟨b1, 0, none⟩ (S.api_Event.v p8) →
    ∃ y11 : Int, (okVal false 1 (.int .i64 y11) = true ∧ w10.cell? ⟨b5, 1, none⟩ = some (.int .i64 y11)) ∧
    (cond ((y11 : Int) != (p0_.len : Int))
    ((fun ch12 w13 => xleave Try.prog [{ target := .fn (.func 105) #[.pointer (some ⟨b1, 0, none⟩), .pointer (some ⟨b3, 0, none⟩)], args := #[] }] (.panicking ch12) w13 (xendF (fun w14 => ∃ y15 : S.api_Event, (okVal true 7 (S.api_Event.v y15) = true ∧ rd w14 ⟨b1, 0, none⟩ (S.api_Event.v y15)) ∧ ∃ y16 : Int, (okVal false 1 (.int .i64 y16) = true ∧ w14.cell? ⟨b3, 0, none⟩ = some (.int .i64 y16)) ∧ K (.tuple #[S.api_Event.v y15, .int .i64 y16]) w14) KP)) [{ v := .iface 151 (.agg #[]), recovered := false }] w10)
    (∃ y17 : S.api_Event, (okVal true 7 (S.api_Event.v y17) = true ∧ rd w10 ⟨b1, 0, none⟩ (S.api_Event.v y17)) ∧
    (okVal true 7 (S.api_Event.v y17) = true ∧ canPut w10 ⟨b1, 0, none⟩ (S.api_Event.v y17)) ∧ ∀ w18 : World, w18 = putAt w10 ⟨b1, 0, none⟩ (S.api_Event.v y17) →
    (okVal false 1 (.int .i64 0) = true ∧ canPut w18 ⟨b3, 0, none⟩ (.int .i64 0)) ∧ ∀ w19 : World, w19 = putAt w18 ⟨b3, 0, none⟩ (.int .i64 0) →
    xleave Try.prog [{ target := .fn (.func 105) #[.pointer (some ⟨b1, 0, none⟩), .pointer (some ⟨b3, 0, none⟩)], args := #[] }] .returning w19 (xendF (fun w20 => ∃ y21 : S.api_Event, (okVal true 7 (S.api_Event.v y21) = true ∧ rd w20 ⟨b1, 0, none⟩ (S.api_Event.v y21)) ∧ ∃ y22 : Int, (okVal false 1 (.int .i64 y22) = true ∧ w20.cell? ⟨b3, 0, none⟩ = some (.int .i64 y22)) ∧ K (.tuple #[S.api_Event.v y21, .int .i64 y22]) w20) KP)))) (fun ch23 w24 => xleave Try.prog [{ target := .fn (.func 105) #[.pointer (some ⟨b1, 0, none⟩), .pointer (some ⟨b3, 0, none⟩)], args := #[] }] (.panicking ch23) w24 (xendF (fun w25 => ∃ y26 : S.api_Event, (okVal true 7 (S.api_Event.v y26) = true ∧ rd w25 ⟨b1, 0, none⟩ (S.api_Event.v y26)) ∧ ∃ y27 : Int, (okVal false 1 (.int .i64 y27) = true ∧ w25.cell? ⟨b3, 0, none⟩ = some (.int .i64 y27)) ∧ K (.tuple #[S.api_Event.v y26, .int .i64 y27]) w25) KP)))
theorem codec_read_api_Event_of {p0_ : Sl} {thing : Value} {w : World} {K : Value → World → Prop} {KP : List PanicEntry → World → Prop} (h : W.codec_read_api_Event p0_ thing w K KP) : C.codec_read_api_Event p0_ thing w K KP :=
  xcall (E := E) (T := mkTab [] [] [] [] [] [] [4, 5]) (c := Try.f56.body.getD .skip) (rs := [.cell 4 63, .cell 5 37]) ⟨⟩ mixed Try.func56 (by kernel_rfl) (by kernel_rfl) [.slice p0_.a p0_.len p0_.cap, thing] (by kernel_rfl) (by kernel_rfl) (.inl (by kernel_rfl)) (Eq.mp (by kernel_rfl) h)

def W.codec_GetEvent_1 (r : (Option Addr)) (w : World) (K : Value → World → Prop) (KP : List PanicEntry → World → Prop) : Prop :=
   ∀ (b1 : Nat) (w2 : World), Alloc w b1 63 [.int .i64 0, .int .i64 0, .int .i64 0, .int .i64 0, .int .i64 0, .bool false, .slice none 0 0] w2 →
    ∀ (b3 : Nat) (w4 : World), Alloc w2 b3 63 [.int .i64 0, .int .i64 0, .int .i64 0, .int .i64 0, .int .i64 0, .bool false, .slice none 0 0] w4 →
    C.codec_reader_number r w4 (fun r7 w5 => ∃ p6 : Int, r7 = .int .i64 p6 ∧
    C.codec_reader_number r w5 (fun r10 w8 => ∃ p9 : Int, r10 = .int .i64 p9 ∧
    C.codec_reader_number r w8 (fun r13 w11 => ∃ p12 : Int, r13 = .int .i64 p12 ∧
    (okVal false 1 (.int .i64 p6) = true ∧ canPut w11 ⟨b3, 0, none⟩ (.int .i64 p6)) ∧ ∀ w14 : World, w14 = putAt w11 ⟨b3, 0, none⟩ (.int .i64 p6) →
    (okVal false 1 (.int .i64 p9) = true ∧ canPut w14 ⟨b3, 1, none⟩ (.int .i64 p9)) ∧ ∀ w15 : World, w15 = putAt w14 ⟨b3, 1, none⟩ (.int .i64 p9) →
    (okVal false 1 (.int .i64 p12) = true ∧ canPut w15 ⟨b3, 2, none⟩ (.int .i64 p12)) ∧ ∀ w16 : World, w16 = putAt w15 ⟨b3, 2, none⟩ (.int .i64 p12) →
    C.codec_reader_pose r w16 (fun r19 w17 => ∃ p18 : S.api_Pose, r19 = S.api_Pose.v p18 ∧
    (okVal true 3 (S.api_Pose.v p18) = true ∧ canPut w17 ⟨b3, 3, none⟩ (S.api_Pose.v p18)) ∧ ∀ w20 : World, w20 = putAt w17 ⟨b3, 3, none⟩ (S.api_Pose.v p18) →
    C.codec_list_api_Move r (.func (.func 49) #[.pointer r] #[]) w20 (fun r23 w21 => ∃ p22 : Sl, r23 = .slice p22.a p22.len p22.cap ∧
    (okVal false 1 (.slice p22.a p22.len p22.cap) = true ∧ canPut w21 ⟨b3, 6, none⟩ (.slice p22.a p22.len p22.cap)) ∧ ∀ w24 : World, w24 = putAt w21 ⟨b3, 6, none⟩ (.slice p22.a p22.len p22.cap) →
    ∃ y25 : S.api_Event, (okVal true 7 (S.api_Event.v y25) = true ∧ rd w24 ⟨b3, 0, none⟩ (S.api_Event.v y25)) ∧
    (okVal true 7 (S.api_Event.v y25) = true ∧ canPut w24 ⟨b1, 0, none⟩ (S.api_Event.v y25)) ∧ ∀ w26 : World, w26 = putAt w24 ⟨b1, 0, none⟩ (S.api_Event.v y25) →
    ∃ y27 : S.api_Event, (okVal true 7 (S.api_Event.v y27) = true ∧ rd w26 ⟨b1, 0, none⟩ (S.api_Event.v y27)) ∧ K (S.api_Event.v y27) w26) KP) KP) KP) KP) KP
theorem codec_GetEvent_1_of {r : (Option Addr)} {w : World} {K : Value → World → Prop} {KP : List PanicEntry → World → Prop} (h : W.codec_GetEvent_1 r w K KP) : C.codec_GetEvent_1 r w K KP :=
  xcall (E := E) (T := mkTab [] [] [] [] [] [] []) (c := Try.f57.body.getD .skip) (rs := [.cell 2 63]) ⟨⟩ mixed Try.func57 (by kernel_rfl) (by kernel_rfl) [.pointer r] (by kernel_rfl) (by kernel_rfl) (.inr (by kernel_rfl)) (Eq.mp (by kernel_rfl) h)

def W.codec_list_api_Move (r : (Option Addr)) (item : Value) (w : World) (K : Value → World → Prop) (KP : List PanicEntry → World → Prop) : Prop :=
   C.codec_reader_number r w (fun r3 w1 => ∃ p2 : Int, r3 = .int .i64 p2 ∧
    ∃ J4 : World → Prop,
    (∀ w5, Drew w1 w5 →
    (cond (decide ((p2 : Int) < 0))
    (KP [{ v := .iface 151 (.agg #[]), recovered := false }] w5)
    (withSome r fun a6 =>
    ∃ y7 : Sl, (okVal false 1 (.slice y7.a y7.len y7.cap) = true ∧ w5.cell? a6 = some (.slice y7.a y7.len y7.cap)) ∧
    withSome r fun a8 =>
    ∃ y9 : Int, (okVal false 1 (.int .i64 y9) = true ∧ w5.cell? (Addr.add a8 1) = some (.int .i64 y9)) ∧
    (cond (decide ((p2 : Int) > (IntKind.i64.wrap ((y7.len : Int) - y9))))
    (KP [{ v := .iface 151 (.agg #[]), recovered := false }] w5)
    (J4 w5))))) ∧
    ∀ e0 : Env, ∀ w10 : World, J4 w10 →
    ∃ (I11 : Sl → Int → World → Prop) (M12 : Sl → Int → World → Nat),
    (∃ u13 : Sl, (.slice none 0 0 : Value) = .slice u13.a u13.len u13.cap ∧ ∃ u14 : Int, (.int .i64 0 : Value) = .int .i64 u14 ∧ I11 u13 u14 w10) ∧
    ∀ e0 : Env, ∀ v15 : Sl, ∀ v16 : Int, ∀ w17 : World, I11 v15 v16 w17 →
    (cond (decide ((v16 : Int) < p2))
    (callV Try.prog item [] w17 (Ret (fun r20 w18 => ∃ p19 : S.api_Move, r20 = S.api_Move.v p19 ∧
    ∀ (b21 : Nat) (w22 : World), Alloc w18 b21 51 [.int .i64 p19.Kind, .int .i64 p19.Dir, .int .i64 p19.N, .int .i64 p19.From.At.X, .int .i64 p19.From.At.Y, .bool p19.From.Down, .int .i64 p19.To.At.X, .int .i64 p19.To.At.Y, .bool p19.To.Down, .int .i64 p19.At, .int .i64 p19.End] w22 →
    ∃ (q23 : Option Addr) (n24 c25 : Nat) (w26 : World), (Builtin.append_ #[61, 61] 61 #[.slice v15.a v15.len v15.cap, .slice (some ⟨b21, 0, none⟩) 1 1]).run Try.prog w22 = .ok (.slice q23 n24 c25) w26 ∧
    ∃ u27 : Sl, (.slice q23 n24 c25 : Value) = .slice u27.a u27.len u27.cap ∧ ∃ u28 : Int, (.int .i64 (IntKind.i64.wrap (v16 + 1)) : Value) = .int .i64 u28 ∧ (I11 u27 u28 w26 ∧ M12 u27 u28 w26 < M12 v15 v16 w17)) KP))
    (K (.slice v15.a v15.len v15.cap) w17))) KP
theorem codec_list_api_Move_of {r : (Option Addr)} {item : Value} {w : World} {K : Value → World → Prop} {KP : List PanicEntry → World → Prop} (h : W.codec_list_api_Move r item w K KP) : C.codec_list_api_Move r item w K KP :=
  xcall (E := E) (T := mkTab [(6, [(6, 61), (28, 3)])] [(6, [6, 28, 29, 30, 31, 32, 33, 34, 35])] [(4, [])] [(4, [9, 10, 11, 12, 13, 14, 15, 16, 17, 18, 19, 20, 21, 22, 23, 24, 25, 26])] [(2, [0, 1, 2, 3, 4, 5, 6, 7, 8, 9, 10, 11, 12, 13, 14, 15])] [(2, [0, 1, 3, 7, 7, 23, 55, 119, 247, 7, 519, 1543, 3591, 8183, 16383, 32767])] []) (c := Try.f58.body.getD .skip) (rs := [.tmp 4]) ⟨⟩ mixed Try.func58 (by kernel_rfl) (by kernel_rfl) [.pointer r, item] (by kernel_rfl) (by kernel_rfl) (.inr (by kernel_rfl)) (Eq.mp (by kernel_rfl) h)

def W.skepref05_R_moves (r : (Option Addr)) (w : World) (K : Value → World → Prop) (KP : List PanicEntry → World → Prop) : Prop :=
   C.skepref05_R_Count r w (fun r3 w1 => ∃ p2 : Int, r3 = .int .i64 p2 ∧
    ∃ (I4 : Sl → Int → World → Prop) (M5 : Sl → Int → World → Nat),
    (∃ u6 : Sl, (.slice none 0 0 : Value) = .slice u6.a u6.len u6.cap ∧ ∃ u7 : Int, (.int .i64 0 : Value) = .int .i64 u7 ∧ I4 u6 u7 w1) ∧
    ∀ e0 : Env, ∀ v8 : Sl, ∀ v9 : Int, ∀ w10 : World, I4 v8 v9 w10 →
    (cond (decide ((v9 : Int) < p2))
    (withSome r fun a11 =>
    ∃ y12 : Bool, (okVal false 1 (.bool y12) = true ∧ w10.cell? (Addr.add a11 2) = some (.bool y12)) ∧
    (cond (!y12)
    (C.skepref05_R_move r w10 (fun r15 w13 => ∃ p14 : S.api_Move, r15 = S.api_Move.v p14 ∧
    ∀ (b16 : Nat) (w17 : World), Alloc w13 b16 51 [.int .i64 0, .int .i64 0, .int .i64 0, .int .i64 0, .int .i64 0, .bool false, .int .i64 0, .int .i64 0, .bool false, .int .i64 0, .int .i64 0] w17 →
    (okVal true 11 (S.api_Move.v p14) = true ∧ canPut w17 ⟨b16, 0, none⟩ (S.api_Move.v p14)) ∧ ∀ w18 : World, w18 = putAt w17 ⟨b16, 0, none⟩ (S.api_Move.v p14) →
    ∃ y19 : S.api_Move, (okVal true 11 (S.api_Move.v y19) = true ∧ rd w18 ⟨b16, 0, none⟩ (S.api_Move.v y19)) ∧
    ∀ (b20 : Nat) (w21 : World), Alloc w18 b20 51 [.int .i64 y19.Kind, .int .i64 y19.Dir, .int .i64 y19.N, .int .i64 y19.From.At.X, .int .i64 y19.From.At.Y, .bool y19.From.Down, .int .i64 y19.To.At.X, .int .i64 y19.To.At.Y, .bool y19.To.Down, .int .i64 y19.At, .int .i64 y19.End] w21 →
    ∃ (q22 : Option Addr) (n23 c24 : Nat) (w25 : World), (Builtin.append_ #[61, 61] 61 #[.slice v8.a v8.len v8.cap, .slice (some ⟨b20, 0, none⟩) 1 1]).run Try.prog w21 = .ok (.slice q22 n23 c24) w25 ∧
    ∃ u26 : Sl, (.slice q22 n23 c24 : Value) = .slice u26.a u26.len u26.cap ∧ ∃ u27 : Int, (.int .i64 (IntKind.i64.wrap (v9 + 1)) : Value) = .int .i64 u27 ∧ (I4 u26 u27 w25 ∧ M5 u26 u27 w25 < M5 v8 v9 w10)) KP)
    (K (.slice v8.a v8.len v8.cap) w10)))
    (K (.slice v8.a v8.len v8.cap) w10))) KP
theorem skepref05_R_moves_of {r : (Option Addr)} {w : World} {K : Value → World → Prop} {KP : List PanicEntry → World → Prop} (h : W.skepref05_R_moves r w K KP) : C.skepref05_R_moves r w K KP :=
  xcall (E := E) (T := mkTab [(4, [(3, 61), (5, 3)])] [(4, [3, 5, 6, 9, 10, 11, 12, 13, 14, 15, 16, 17, 18, 19, 20, 21, 22, 23, 24, 25, 26])] [] [] [] [] []) (c := Try.f59.body.getD .skip) (rs := [.tmp 2]) ⟨⟩ mixed Try.func59 (by kernel_rfl) (by kernel_rfl) [.pointer r] (by kernel_rfl) (by kernel_rfl) (.inr (by kernel_rfl)) (Eq.mp (by kernel_rfl) h)
end Go.Proofs.Ytocbjadhcfjfiaa
