/- Printed by vc.py: what functions of this seat come to, as predicates of typed values, each with its proof. No conditions. -/
import Derived.Test.YtongkhanbpboaaaTab
namespace Go.Proofs.Ytongkhanbpboaaa
open Go.Eng
set_option linter.unusedVariables false
set_option maxRecDepth 100000
def W.skeplaw09_KinemNews (u : Int) (a : Int) (v : Int) (s : Int) (w : World) (K : Value → World → Prop) (KP : List PanicEntry → World → Prop) : Prop :=
   C.skeplaw09_made u a v w (fun r3 w1 => ∃ p2 : ((Option Addr) × S.skepref09_K × Bool), r3 = .tuple #[.pointer p2.1, S.skepref09_K.v p2.2.1, .bool p2.2.2] ∧
    ∀ (b4 : Nat) (w5 : World), Alloc w1 b4 24 [.int .i64 0, .int .i64 0, .int .i64 0] w5 →
    (okVal true 3 (S.skepref09_K.v p2.2.1) = true ∧ canPut w5 ⟨b4, 0, none⟩ (S.skepref09_K.v p2.2.1)) ∧ ∀ w6 : World, w6 = putAt w5 ⟨b4, 0, none⟩ (S.skepref09_K.v p2.2.1) →
    (cond p2.1.isNone
    ((cond p2.2.2
    (C.skeplaw09_awake  w6 (fun r9 w7 => ∃ p8 : Bool, r9 = .bool p8 ∧
    K (.bool p8) w7) KP)
    (K (.bool false) w6)))
    ((cond (!p2.2.2)
    ((cond p2.2.2
    (C.skeplaw09_awake  w6 (fun r12 w10 => ∃ p11 : Bool, r12 = .bool p11 ∧
    K (.bool p11) w10) KP)
    (K (.bool false) w6)))
    (∀ w13, Drew w6 w13 →
    ∃ y14 : S.skepref09_K, (okVal true 3 (S.skepref09_K.v y14) = true ∧ rd w13 ⟨b4, 0, none⟩ (S.skepref09_K.v y14)) ∧
    C.kinem_Kin_Brake p2.1 s w13 (fun r17 w15 => ∃ p16 : Int, r17 = .int .i64 p16 ∧
    (rd w15 ⟨b4, 0, none⟩ (S.skepref09_K.v y14)) ∧ C.skepref09_K_Brake y14 s w15 (fun r20 w18 => ∃ p19 : Int, r20 = .int .i64 p19 ∧
    (cond ((p16 : Int) == p19)
    (C.skeplaw09_awake  w18 (fun r23 w21 => ∃ p22 : Bool, r23 = .bool p22 ∧
    K (.bool p22) w21) KP)
    (K (.bool false) w18))) KP) KP))))) KP
theorem skeplaw09_KinemNews_of {u : Int} {a : Int} {v : Int} {s : Int} {w : World} {K : Value → World → Prop} {KP : List PanicEntry → World → Prop} (h : W.skeplaw09_KinemNews u a v s w K KP) : C.skeplaw09_KinemNews u a v s w K KP :=
  xcall (E := E) (T := mkTab [] [] [] [] [(4, [0, 1, 3, 4, 2, 5, 6, 7, 8, 9, 10])] [(4, [0, 0, 3, 0, 0, 31, 63, 127, 255, 511, 1023])] []) (c := Try.f3.body.getD .skip) (rs := [.tmp 8]) ⟨⟩ mixed Try.func3 (by kernel_rfl) (by kernel_rfl) [.int .i64 u, .int .i64 a, .int .i64 v, .int .i64 s] (by kernel_rfl) (by kernel_rfl) (.inr (by kernel_rfl)) (Eq.mp (by kernel_rfl) h)

def W.skeplaw09_KinemProfiles (u : Int) (a : Int) (v : Int) (n : Int) (t : Int) (w : World) (K : Value → World → Prop) (KP : List PanicEntry → World → Prop) : Prop :=
   C.skeplaw09_few u a v w (fun r3 w1 => ∃ p2 : (Int × Int × Int), r3 = .tuple #[.int .i64 p2.1, .int .i64 p2.2.1, .int .i64 p2.2.2] ∧
    C.skeplaw09_made p2.1 p2.2.1 p2.2.2 w1 (fun r6 w4 => ∃ p5 : ((Option Addr) × S.skepref09_K × Bool), r6 = .tuple #[.pointer p5.1, S.skepref09_K.v p5.2.1, .bool p5.2.2] ∧
    ∀ (b7 : Nat) (w8 : World), Alloc w4 b7 24 [.int .i64 0, .int .i64 0, .int .i64 0] w8 →
    (okVal true 3 (S.skepref09_K.v p5.2.1) = true ∧ canPut w8 ⟨b7, 0, none⟩ (S.skepref09_K.v p5.2.1)) ∧ ∀ w9 : World, w9 = putAt w8 ⟨b7, 0, none⟩ (S.skepref09_K.v p5.2.1) →
    (cond p5.1.isNone
    (K (.bool false) w9)
    ((cond (!p5.2.2)
    (K (.bool false) w9)
    (∀ w10, Drew w9 w10 →
    ∃ y11 : S.skepref09_K, (okVal true 3 (S.skepref09_K.v y11) = true ∧ rd w10 ⟨b7, 0, none⟩ (S.skepref09_K.v y11)) ∧
    C.kinem_Kin_Profile p5.1 n w10 (fun r14 w12 => ∃ p13 : Sl, r14 = .slice p13.a p13.len p13.cap ∧
    (rd w12 ⟨b7, 0, none⟩ (S.skepref09_K.v y11)) ∧ C.skepref09_K_Profile y11 n w12 (fun r17 w15 => ∃ p16 : Sl, r17 = .slice p16.a p16.len p16.cap ∧
    C.skeplaw00_SameInts p13 p16 w15 (fun r20 w18 => ∃ p19 : Bool, r20 = .bool p19 ∧
    (cond p19
    (∃ y21 : S.skepref09_K, (okVal true 3 (S.skepref09_K.v y21) = true ∧ rd w18 ⟨b7, 0, none⟩ (S.skepref09_K.v y21)) ∧
    C.kinem_Kin_Time p5.1 n w18 (fun r24 w22 => ∃ p23 : Int, r24 = .int .i64 p23 ∧
    (rd w22 ⟨b7, 0, none⟩ (S.skepref09_K.v y21)) ∧ C.skepref09_K_Time y21 n w22 (fun r27 w25 => ∃ p26 : Int, r27 = .int .i64 p26 ∧
    (cond ((p23 : Int) == p26)
    (∃ y28 : S.skepref09_K, (okVal true 3 (S.skepref09_K.v y28) = true ∧ rd w25 ⟨b7, 0, none⟩ (S.skepref09_K.v y28)) ∧
    C.kinem_Kin_At p5.1 n t w25 (fun r31 w29 => ∃ p30 : Int, r31 = .int .i64 p30 ∧
    (rd w29 ⟨b7, 0, none⟩ (S.skepref09_K.v y28)) ∧ C.skepref09_K_At y28 n t w29 (fun r34 w32 => ∃ p33 : Int, r34 = .int .i64 p33 ∧
    (cond ((p30 : Int) == p33)
    (∃ y35 : S.skepref09_K, (okVal true 3 (S.skepref09_K.v y35) = true ∧ rd w32 ⟨b7, 0, none⟩ (S.skepref09_K.v y35)) ∧
    C.kinem_Kin_Speed p5.1 n t w32 (fun r38 w36 => ∃ p37 : Int, r38 = .int .i64 p37 ∧
    (rd w36 ⟨b7, 0, none⟩ (S.skepref09_K.v y35)) ∧ C.skepref09_K_Speed1 y35 n t w36 (fun r41 w39 => ∃ p40 : Int, r41 = .int .i64 p40 ∧
    (cond ((p37 : Int) == p40)
    (C.skeplaw09_awake  w39 (fun r44 w42 => ∃ p43 : Bool, r44 = .bool p43 ∧
    K (.bool p43) w42) KP)
    (K (.bool false) w39))) KP) KP)
    (K (.bool false) w32))) KP) KP)
    (K (.bool false) w25))) KP) KP)
    (K (.bool false) w18))) KP) KP) KP))))) KP) KP
theorem skeplaw09_KinemProfiles_of {u : Int} {a : Int} {v : Int} {n : Int} {t : Int} {w : World} {K : Value → World → Prop} {KP : List PanicEntry → World → Prop} (h : W.skeplaw09_KinemProfiles u a v n t w K KP) : C.skeplaw09_KinemProfiles u a v n t w K KP :=
  xcall (E := E) (T := mkTab [] [] [] [] [(5, [0, 1, 3, 4, 2, 5, 6, 7, 8, 9, 11, 12, 10, 13, 14, 15, 16, 17, 18, 19, 21, 22, 23, 20, 24, 25, 26, 27, 28, 29, 30, 32, 33, 34, 31, 35, 36, 37, 38, 39, 40, 41])] [(5, [0, 0, 3, 0, 0, 31, 63, 127, 255, 255, 1023, 255, 255, 8191, 16383, 32767, 65535, 131071, 131071, 131071, 1048575, 131071, 131071, 131071, 16777215, 33554431, 67108863, 134217727, 268435455, 268435455, 268435455, 2147483647, 268435455, 268435455, 268435455, 34359738367, 68719476735, 137438953471, 274877906943, 549755813887, 1099511627775, 2199023255551])] []) (c := Try.f4.body.getD .skip) (rs := [.tmp 10]) ⟨⟩ mixed Try.func4 (by kernel_rfl) (by kernel_rfl) [.int .i64 u, .int .i64 a, .int .i64 v, .int .i64 n, .int .i64 t] (by kernel_rfl) (by kernel_rfl) (.inr (by kernel_rfl)) (Eq.mp (by kernel_rfl) h)

def W.skeplaw09_KinemStops (u : Int) (a : Int) (v : Int) (n : Int) (t : Int) (w : World) (K : Value → World → Prop) (KP : List PanicEntry → World → Prop) : Prop :=
   C.skeplaw09_few u a v w (fun r3 w1 => ∃ p2 : (Int × Int × Int), r3 = .tuple #[.int .i64 p2.1, .int .i64 p2.2.1, .int .i64 p2.2.2] ∧
    C.skeplaw09_made p2.1 p2.2.1 p2.2.2 w1 (fun r6 w4 => ∃ p5 : ((Option Addr) × S.skepref09_K × Bool), r6 = .tuple #[.pointer p5.1, S.skepref09_K.v p5.2.1, .bool p5.2.2] ∧
    ∀ (b7 : Nat) (w8 : World), Alloc w4 b7 24 [.int .i64 0, .int .i64 0, .int .i64 0] w8 →
    (okVal true 3 (S.skepref09_K.v p5.2.1) = true ∧ canPut w8 ⟨b7, 0, none⟩ (S.skepref09_K.v p5.2.1)) ∧ ∀ w9 : World, w9 = putAt w8 ⟨b7, 0, none⟩ (S.skepref09_K.v p5.2.1) →
    (cond p5.1.isNone
    (K (.bool false) w9)
    ((cond (!p5.2.2)
    (K (.bool false) w9)
    (∃ (I10 : Int → World → Prop) (M11 : Int → World → Nat),
    (∃ u12 : Int, (.int .i64 0 : Value) = .int .i64 u12 ∧ I10 u12 w9) ∧
    ∀ e0 : Env, ∀ v13 : Int, ∀ w14 : World, I10 v13 w14 →
    (cond (decide ((v13 : Int) < 3))
    (∃ J15 : Int → World → Prop,
    ((cond (decide ((v13 : Int) > 0))
    (C.kinem_Kin_Time p5.1 n w14 (fun r18 w16 => ∃ p17 : Int, r18 = .int .i64 p17 ∧
    C.skeplaw00_Place t (IntKind.i64.wrap (p17 + 2)) w16 (fun r21 w19 => ∃ p20 : Int, r21 = .int .i64 p20 ∧
    ∃ u22 : Int, (.int .i64 (IntKind.i64.wrap ((IntKind.i64.wrap (p20 + v13)) - 1)) : Value) = .int .i64 u22 ∧ J15 u22 w19) KP) KP)
    (∃ u23 : Int, (.int .i64 t : Value) = .int .i64 u23 ∧ J15 u23 w14))) ∧
    ∀ e0 : Env, ∀ v24 : Int, ∀ w25 : World, J15 v24 w25 →
    C.kinem_Kin_Stop p5.1 n v24 w25 (fun r28 w26 => ∃ p27 : (Int × Int), r28 = .tuple #[.int .i64 p27.1, .int .i64 p27.2] ∧
    ∃ y29 : S.skepref09_K, (okVal true 3 (S.skepref09_K.v y29) = true ∧ rd w26 ⟨b7, 0, none⟩ (S.skepref09_K.v y29)) ∧
    C.skepref09_K_Stop y29 n v24 w26 (fun r32 w30 => ∃ p31 : (Int × Int), r32 = .tuple #[.int .i64 p31.1, .int .i64 p31.2] ∧
    (cond ((p27.1 : Int) != p31.1)
    (K (.bool false) w30)
    ((cond ((p27.2 : Int) != p31.2)
    (K (.bool false) w30)
    (∃ u33 : Int, (.int .i64 (IntKind.i64.wrap (v13 + 1)) : Value) = .int .i64 u33 ∧ (I10 u33 w30 ∧ M11 u33 w30 < M11 v13 w14)))))) KP) KP)
    (C.skeplaw09_awake  w14 (fun r36 w34 => ∃ p35 : Bool, r36 = .bool p35 ∧
    K (.bool p35) w34) KP))))))) KP) KP
theorem skeplaw09_KinemStops_of {u : Int} {a : Int} {v : Int} {n : Int} {t : Int} {w : World} {K : Value → World → Prop} {KP : List PanicEntry → World → Prop} (h : W.skeplaw09_KinemStops u a v n t w K KP) : C.skeplaw09_KinemStops u a v n t w K KP :=
  xcall (E := E) (T := mkTab [(6, [(14, 3)])] [(6, [10, 14, 15, 16, 17, 18, 19, 42, 43, 44, 45, 46, 47, 48, 49, 50, 51, 52, 53, 54, 55, 56, 57, 58, 59, 60, 61, 62, 63, 64, 65, 66, 67, 68, 69, 70, 71, 72, 73, 74, 75, 76, 77, 78, 79])] [(11, [(15, 3)])] [(11, [15, 47, 48, 49, 50, 51, 52, 53, 54, 55, 56, 57])] [] [] []) (c := Try.f5.body.getD .skip) (rs := [.tmp 10]) ⟨⟩ mixed Try.func5 (by kernel_rfl) (by kernel_rfl) [.int .i64 u, .int .i64 a, .int .i64 v, .int .i64 n, .int .i64 t] (by kernel_rfl) (by kernel_rfl) (.inr (by kernel_rfl)) (Eq.mp (by kernel_rfl) h)

def W.skeplaw09_KinemLaws (u : Int) (a : Int) (v : Int) (n : Int) (w : World) (K : Value → World → Prop) (KP : List PanicEntry → World → Prop) : Prop :=
   C.skeplaw09_few u a v w (fun r3 w1 => ∃ p2 : (Int × Int × Int), r3 = .tuple #[.int .i64 p2.1, .int .i64 p2.2.1, .int .i64 p2.2.2] ∧
    C.skeplaw00_Place n 16 w1 (fun r6 w4 => ∃ p5 : Int, r6 = .int .i64 p5 ∧
    C.skeplaw09_made p2.1 p2.2.1 p2.2.2 w4 (fun r9 w7 => ∃ p8 : ((Option Addr) × S.skepref09_K × Bool), r9 = .tuple #[.pointer p8.1, S.skepref09_K.v p8.2.1, .bool p8.2.2] ∧
    ∀ (b10 : Nat) (w11 : World), Alloc w7 b10 24 [.int .i64 0, .int .i64 0, .int .i64 0] w11 →
    (okVal true 3 (S.skepref09_K.v p8.2.1) = true ∧ canPut w11 ⟨b10, 0, none⟩ (S.skepref09_K.v p8.2.1)) ∧ ∀ w12 : World, w12 = putAt w11 ⟨b10, 0, none⟩ (S.skepref09_K.v p8.2.1) →
    (cond p8.1.isNone
    (K (.bool false) w12)
    ((cond (!p8.2.2)
    (K (.bool false) w12)
    (C.kinem_Kin_Profile p8.1 (IntKind.i64.wrap (1 + p5)) w12 (fun r15 w13 => ∃ p14 : Sl, r15 = .slice p14.a p14.len p14.cap ∧
    ∃ (I16 : Int → Int → Int → World → Prop) (M17 : Int → Int → Int → World → Nat),
    (∃ u18 : Int, (.int .i64 0 : Value) = .int .i64 u18 ∧ ∃ u19 : Int, (.int .i64 0 : Value) = .int .i64 u19 ∧ ∃ u20 : Int, (.int .i64 0 : Value) = .int .i64 u20 ∧ I16 u18 u19 u20 w13) ∧
    ∀ e0 : Env, ∀ v21 : Int, ∀ v22 : Int, ∀ v23 : Int, ∀ w24 : World, I16 v21 v22 v23 w24 →
    (cond (decide ((v23 : Int) < (p14.len : Int)))
    (((0 : Int) ≤ v23 ∧ (v23 : Int) < (p14.len : Int)) ∧ withSome p14.a fun a25 =>
    ∃ y26 : Int, (okVal false 1 (.int .i64 y26) = true ∧ w24.cell? (Addr.add a25 (v23.toNat * 1)) = some (.int .i64 y26)) ∧
    ∀ w27, Drew w24 w27 →
    (cond (decide (((IntKind.i64.wrap (y26 - v21)) : Int) < 1))
    (K (.bool false) w27)
    ((cond (decide (((IntKind.i64.wrap (y26 - v21)) : Int) > (IntKind.i64.wrap (v22 + p2.2.1))))
    (K (.bool false) w27)
    ((cond (decide (((IntKind.i64.wrap (y26 - v21)) : Int) > p2.2.2))
    (K (.bool false) w27)
    (((0 : Int) ≤ v23 ∧ (v23 : Int) < (p14.len : Int)) ∧ withSome p14.a fun a28 =>
    ∃ y29 : Int, (okVal false 1 (.int .i64 y29) = true ∧ w27.cell? (Addr.add a28 (v23.toNat * 1)) = some (.int .i64 y29)) ∧
    C.kinem_Kin_Brake p8.1 (IntKind.i64.wrap (y26 - v21)) w27 (fun r32 w30 => ∃ p31 : Int, r32 = .int .i64 p31 ∧
    (w30.cell? (Addr.add a28 (v23.toNat * 1)) = some (.int .i64 y29)) ∧ (cond (decide (((IntKind.i64.wrap (y29 + p31)) : Int) > (IntKind.i64.wrap ((IntKind.i64.wrap (1 + p5)) * p2.1))))
    (K (.bool false) w30)
    (((0 : Int) ≤ v23 ∧ (v23 : Int) < (p14.len : Int)) ∧ withSome p14.a fun a33 =>
    ∃ y34 : Int, (okVal false 1 (.int .i64 y34) = true ∧ w30.cell? (Addr.add a33 (v23.toNat * 1)) = some (.int .i64 y34)) ∧
    C.kinem_Kin_At p8.1 (IntKind.i64.wrap (1 + p5)) (IntKind.i64.wrap (v23 + 1)) w30 (fun r37 w35 => ∃ p36 : Int, r37 = .int .i64 p36 ∧
    (w35.cell? (Addr.add a33 (v23.toNat * 1)) = some (.int .i64 y34)) ∧ (cond ((p36 : Int) != y34)
    (K (.bool false) w35)
    (C.kinem_Kin_Speed p8.1 (IntKind.i64.wrap (1 + p5)) (IntKind.i64.wrap (v23 + 1)) w35 (fun r40 w38 => ∃ p39 : Int, r40 = .int .i64 p39 ∧
    (cond ((p39 : Int) != (IntKind.i64.wrap (y26 - v21)))
    (K (.bool false) w38)
    (((0 : Int) ≤ v23 ∧ (v23 : Int) < (p14.len : Int)) ∧ withSome p14.a fun a41 =>
    ∃ y42 : Int, (okVal false 1 (.int .i64 y42) = true ∧ w38.cell? (Addr.add a41 (v23.toNat * 1)) = some (.int .i64 y42)) ∧
    ∃ u43 : Int, (.int .i64 y42 : Value) = .int .i64 u43 ∧ ∃ u44 : Int, (.int .i64 (IntKind.i64.wrap (y26 - v21)) : Value) = .int .i64 u44 ∧ ∃ u45 : Int, (.int .i64 (IntKind.i64.wrap (v23 + 1)) : Value) = .int .i64 u45 ∧ (I16 u43 u44 u45 w38 ∧ M17 u43 u44 u45 w38 < M17 v21 v22 v23 w24)))) KP))) KP))) KP)))))))
    ((cond ((v21 : Int) == (IntKind.i64.wrap ((IntKind.i64.wrap (1 + p5)) * p2.1)))
    (C.kinem_Kin_Time p8.1 (IntKind.i64.wrap (1 + p5)) w24 (fun r48 w46 => ∃ p47 : Int, r48 = .int .i64 p47 ∧
    (cond ((p47 : Int) == (p14.len : Int))
    (C.skeplaw09_awake  w46 (fun r51 w49 => ∃ p50 : Bool, r51 = .bool p50 ∧
    K (.bool p50) w49) KP)
    (K (.bool false) w46))) KP)
    (K (.bool false) w24))))) KP))))) KP) KP) KP
theorem skeplaw09_KinemLaws_of {u : Int} {a : Int} {v : Int} {n : Int} {w : World} {K : Value → World → Prop} {KP : List PanicEntry → World → Prop} (h : W.skeplaw09_KinemLaws u a v n w K KP) : C.skeplaw09_KinemLaws u a v n w K KP :=
  xcall (E := E) (T := mkTab [(9, [(13, 3), (14, 3), (15, 3)])] [(9, [8, 13, 14, 15, 16, 45, 46, 47, 48, 49, 50, 51, 52, 53, 54, 55, 56, 57, 58, 59, 60, 61, 62, 63, 64, 65, 66, 67, 68, 69, 70, 71, 72, 73, 74, 75, 76, 77, 78, 79, 80, 81, 82, 83, 84, 85, 86, 87, 88, 89, 90, 91, 92, 93, 94, 95, 96, 97, 98, 99, 100, 101, 102, 103, 104, 105, 106, 107, 108, 109, 110])] [] [] [(12, [0, 1, 2, 3, 4, 5, 6, 7, 8, 9, 10, 11, 12, 13, 14, 15, 16, 17, 18, 19, 20, 23, 24, 25, 21, 22, 26, 27, 28, 29, 30, 31, 32, 34, 35, 36, 37, 33, 38, 39, 40, 41, 42, 43, 44, 46, 45, 47, 48])] [(12, [0, 1, 3, 7, 7, 7, 55, 127, 255, 511, 1023, 1023, 4095, 8191, 16383, 32767, 32767, 131071, 262143, 32767, 32767, 1605631, 4194303, 32767, 32767, 25198591, 67108863, 134217727, 268435455, 536870911, 536870911, 536870911, 2684354559, 8589934591, 536870911, 536870911, 52076478463, 120795955199, 274877906943, 549755813887, 1099511627775, 2199023255551, 2199023255551, 2199023255551, 10995116277759, 35184372088831, 2199023255551, 140737488355327, 281474976710655])] []) (c := Try.f6.body.getD .skip) (rs := [.tmp 8]) ⟨⟩ mixed Try.func6 (by kernel_rfl) (by kernel_rfl) [.int .i64 u, .int .i64 a, .int .i64 v, .int .i64 n] (by kernel_rfl) (by kernel_rfl) (.inr (by kernel_rfl)) (Eq.mp (by kernel_rfl) h)

def W.skeplaw09_KinemFast (u : Int) (a : Int) (v : Int) (n : Int) (w : World) (K : Value → World → Prop) (KP : List PanicEntry → World → Prop) : Prop :=
   C.skeplaw09_few u a v w (fun r3 w1 => ∃ p2 : (Int × Int × Int), r3 = .tuple #[.int .i64 p2.1, .int .i64 p2.2.1, .int .i64 p2.2.2] ∧
    C.skeplaw00_Place n 16 w1 (fun r6 w4 => ∃ p5 : Int, r6 = .int .i64 p5 ∧
    C.skeplaw09_made p2.1 p2.2.1 p2.2.2 w4 (fun r9 w7 => ∃ p8 : ((Option Addr) × S.skepref09_K × Bool), r9 = .tuple #[.pointer p8.1, S.skepref09_K.v p8.2.1, .bool p8.2.2] ∧
    ∀ (b10 : Nat) (w11 : World), Alloc w7 b10 24 [.int .i64 0, .int .i64 0, .int .i64 0] w11 →
    (okVal true 3 (S.skepref09_K.v p8.2.1) = true ∧ canPut w11 ⟨b10, 0, none⟩ (S.skepref09_K.v p8.2.1)) ∧ ∀ w12 : World, w12 = putAt w11 ⟨b10, 0, none⟩ (S.skepref09_K.v p8.2.1) →
    (cond p8.1.isNone
    (K (.bool false) w12)
    ((cond (!p8.2.2)
    (K (.bool false) w12)
    (C.kinem_Kin_Profile p8.1 (IntKind.i64.wrap (1 + p5)) w12 (fun r15 w13 => ∃ p14 : Sl, r15 = .slice p14.a p14.len p14.cap ∧
    ∃ (I16 : Int → Int → Int → World → Prop) (M17 : Int → Int → Int → World → Nat),
    (∃ u18 : Int, (.int .i64 0 : Value) = .int .i64 u18 ∧ ∃ u19 : Int, (.int .i64 0 : Value) = .int .i64 u19 ∧ ∃ u20 : Int, (.int .i64 0 : Value) = .int .i64 u20 ∧ I16 u18 u19 u20 w13) ∧
    ∀ e0 : Env, ∀ v21 : Int, ∀ v22 : Int, ∀ v23 : Int, ∀ w24 : World, I16 v21 v22 v23 w24 →
    (cond (decide ((v23 : Int) < (p14.len : Int)))
    (((0 : Int) ≤ v23 ∧ (v23 : Int) < (p14.len : Int)) ∧ withSome p14.a fun a25 =>
    ∃ y26 : Int, (okVal false 1 (.int .i64 y26) = true ∧ w24.cell? (Addr.add a25 (v23.toNat * 1)) = some (.int .i64 y26)) ∧
    ∃ (I27 : Int → World → Prop) (M28 : Int → World → Nat),
    (∃ u29 : Int, (.int .i64 (IntKind.i64.wrap ((IntKind.i64.wrap (y26 - v21)) + 1)) : Value) = .int .i64 u29 ∧ I27 u29 w24) ∧
    ∀ e0 : Env, ∀ v30 : Int, ∀ w31 : World, I27 v30 w31 →
    (cond (decide ((v30 : Int) ≤ (if ((IntKind.i64.wrap ((IntKind.i64.wrap ((IntKind.i64.wrap (1 + p5)) * p2.1)) - v21)) : Int) < (if (p2.2.2 : Int) < (IntKind.i64.wrap (v22 + p2.2.1)) then p2.2.2 else (IntKind.i64.wrap (v22 + p2.2.1))) then (IntKind.i64.wrap ((IntKind.i64.wrap ((IntKind.i64.wrap (1 + p5)) * p2.1)) - v21)) else (if (p2.2.2 : Int) < (IntKind.i64.wrap (v22 + p2.2.1)) then p2.2.2 else (IntKind.i64.wrap (v22 + p2.2.1))))))
    (C.kinem_Kin_Brake p8.1 v30 w31 (fun r34 w32 => ∃ p33 : Int, r34 = .int .i64 p33 ∧
    (cond (decide (((IntKind.i64.wrap ((IntKind.i64.wrap (v21 + v30)) + p33)) : Int) ≤ (IntKind.i64.wrap ((IntKind.i64.wrap (1 + p5)) * p2.1))))
    (K (.bool false) w32)
    (∃ u35 : Int, (.int .i64 (IntKind.i64.wrap (v30 + 1)) : Value) = .int .i64 u35 ∧ (I27 u35 w32 ∧ M28 u35 w32 < M28 v30 w31)))) KP)
    (((0 : Int) ≤ v23 ∧ (v23 : Int) < (p14.len : Int)) ∧ withSome p14.a fun a36 =>
    ∃ y37 : Int, (okVal false 1 (.int .i64 y37) = true ∧ w31.cell? (Addr.add a36 (v23.toNat * 1)) = some (.int .i64 y37)) ∧
    ∃ u38 : Int, (.int .i64 y37 : Value) = .int .i64 u38 ∧ ∃ u39 : Int, (.int .i64 (IntKind.i64.wrap (y26 - v21)) : Value) = .int .i64 u39 ∧ ∃ u40 : Int, (.int .i64 (IntKind.i64.wrap (v23 + 1)) : Value) = .int .i64 u40 ∧ (I16 u38 u39 u40 w31 ∧ M17 u38 u39 u40 w31 < M17 v21 v22 v23 w24))))
    (C.skeplaw09_awake  w24 (fun r43 w41 => ∃ p42 : Bool, r43 = .bool p42 ∧
    K (.bool p42) w41) KP))) KP))))) KP) KP) KP
theorem skeplaw09_KinemFast_of {u : Int} {a : Int} {v : Int} {n : Int} {w : World} {K : Value → World → Prop} {KP : List PanicEntry → World → Prop} (h : W.skeplaw09_KinemFast u a v n w K KP) : C.skeplaw09_KinemFast u a v n w K KP :=
  xcall (E := E) (T := mkTab [(9, [(13, 3), (14, 3), (15, 3)]), (13, [(17, 3)])] [(9, [8, 13, 14, 15, 16, 17, 46, 47, 48, 49, 50, 51, 52, 53, 54, 55, 56, 57, 58, 59, 60, 61, 62, 63, 64, 65, 66, 67, 68, 69, 70, 71, 72, 73, 74, 75, 76, 77, 78, 79, 80, 81, 82, 83, 84, 85, 86, 87, 88, 89]), (13, [8, 17, 60, 61, 62, 63, 64, 65, 66, 67, 68, 69, 70, 71, 72, 73, 74, 75, 76, 77, 78, 79, 80, 81, 82, 83, 84])] [] [] [] [] []) (c := Try.f7.body.getD .skip) (rs := [.tmp 8]) ⟨⟩ mixed Try.func7 (by kernel_rfl) (by kernel_rfl) [.int .i64 u, .int .i64 a, .int .i64 v, .int .i64 n] (by kernel_rfl) (by kernel_rfl) (.inr (by kernel_rfl)) (Eq.mp (by kernel_rfl) h)

def W.skeplaw09_KinemStands (u : Int) (a : Int) (v : Int) (n : Int) (t : Int) (w : World) (K : Value → World → Prop) (KP : List PanicEntry → World → Prop) : Prop :=
   C.skeplaw09_few u a v w (fun r3 w1 => ∃ p2 : (Int × Int × Int), r3 = .tuple #[.int .i64 p2.1, .int .i64 p2.2.1, .int .i64 p2.2.2] ∧
    C.skeplaw00_Place n 16 w1 (fun r6 w4 => ∃ p5 : Int, r6 = .int .i64 p5 ∧
    C.skeplaw09_made p2.1 p2.2.1 p2.2.2 w4 (fun r9 w7 => ∃ p8 : ((Option Addr) × S.skepref09_K × Bool), r9 = .tuple #[.pointer p8.1, S.skepref09_K.v p8.2.1, .bool p8.2.2] ∧
    ∀ (b10 : Nat) (w11 : World), Alloc w7 b10 24 [.int .i64 0, .int .i64 0, .int .i64 0] w11 →
    (okVal true 3 (S.skepref09_K.v p8.2.1) = true ∧ canPut w11 ⟨b10, 0, none⟩ (S.skepref09_K.v p8.2.1)) ∧ ∀ w12 : World, w12 = putAt w11 ⟨b10, 0, none⟩ (S.skepref09_K.v p8.2.1) →
    (cond p8.1.isNone
    (K (.bool false) w12)
    ((cond (!p8.2.2)
    (K (.bool false) w12)
    (C.kinem_Kin_Time p8.1 (IntKind.i64.wrap (1 + p5)) w12 (fun r15 w13 => ∃ p14 : Int, r15 = .int .i64 p14 ∧
    (cond (decide ((p14 : Int) < 1))
    (K (.bool false) w13)
    (C.kinem_Kin_Time p8.1 (IntKind.i64.wrap (1 + p5)) w13 (fun r18 w16 => ∃ p17 : Int, r18 = .int .i64 p17 ∧
    C.skeplaw00_Place t p17 w16 (fun r21 w19 => ∃ p20 : Int, r21 = .int .i64 p20 ∧
    C.kinem_Kin_Stop p8.1 (IntKind.i64.wrap (1 + p5)) (IntKind.i64.wrap (1 + p20)) w19 (fun r24 w22 => ∃ p23 : (Int × Int), r24 = .tuple #[.int .i64 p23.1, .int .i64 p23.2] ∧
    C.kinem_Kin_At p8.1 (IntKind.i64.wrap (1 + p5)) (IntKind.i64.wrap (1 + p20)) w22 (fun r27 w25 => ∃ p26 : Int, r27 = .int .i64 p26 ∧
    C.kinem_Kin_Speed p8.1 (IntKind.i64.wrap (1 + p5)) (IntKind.i64.wrap (1 + p20)) w25 (fun r30 w28 => ∃ p29 : Int, r30 = .int .i64 p29 ∧
    C.kinem_Kin_Brake p8.1 p29 w28 (fun r33 w31 => ∃ p32 : Int, r33 = .int .i64 p32 ∧
    (cond (decide ((p23.1 : Int) < 1))
    (K (.bool false) w31)
    ((cond (decide ((p23.1 : Int) > (IntKind.i64.wrap (1 + p5))))
    (K (.bool false) w31)
    ((cond (decide ((p23.2 : Int) < 0))
    (K (.bool false) w31)
    ((cond (decide (((IntKind.i64.wrap (p23.1 * p2.1)) : Int) < p26))
    (K (.bool false) w31)
    (C.kinem_Kin_Time p8.1 (IntKind.i64.wrap (1 + p5)) w31 (fun r36 w34 => ∃ p35 : Int, r36 = .int .i64 p35 ∧
    (cond (((IntKind.i64.wrap (1 + p20)) : Int) == p35)
    ((cond ((p23.1 : Int) == (IntKind.i64.wrap (1 + p5)))
    ((cond ((p23.2 : Int) == 0)
    (C.skeplaw09_awake  w34 (fun r39 w37 => ∃ p38 : Bool, r39 = .bool p38 ∧
    K (.bool p38) w37) KP)
    (K (.bool false) w34)))
    (K (.bool false) w34)))
    ((cond (decide (((IntKind.i64.wrap (p23.1 * p2.1)) : Int) ≥ (IntKind.i64.wrap (p26 + p32))))
    ((cond (decide (((IntKind.i64.wrap (p23.1 * p2.1)) : Int) < (IntKind.i64.wrap ((IntKind.i64.wrap (p26 + p32)) + p2.1))))
    ((cond (decide (((IntKind.i64.wrap (p23.2 * p29)) : Int) ≥ (IntKind.i64.wrap ((IntKind.i64.wrap (p23.1 * p2.1)) - p26))))
    ((cond (((p23.2 : Int) == 0) == (((IntKind.i64.wrap (p23.1 * p2.1)) : Int) == p26))
    (C.skeplaw09_awake  w34 (fun r42 w40 => ∃ p41 : Bool, r42 = .bool p41 ∧
    K (.bool p41) w40) KP)
    (K (.bool false) w34)))
    (K (.bool false) w34)))
    (K (.bool false) w34)))
    (K (.bool false) w34))))) KP))))))))) KP) KP) KP) KP) KP) KP))) KP))))) KP) KP) KP
theorem skeplaw09_KinemStands_of {u : Int} {a : Int} {v : Int} {n : Int} {t : Int} {w : World} {K : Value → World → Prop} {KP : List PanicEntry → World → Prop} (h : W.skeplaw09_KinemStands u a v n t w K KP) : C.skeplaw09_KinemStands u a v n t w K KP :=
  xcall (E := E) (T := mkTab [] [] [] [] [] [] []) (c := Try.f8.body.getD .skip) (rs := [.tmp 10]) ⟨⟩ mixed Try.func8 (by kernel_rfl) (by kernel_rfl) [.int .i64 u, .int .i64 a, .int .i64 v, .int .i64 n, .int .i64 t] (by kernel_rfl) (by kernel_rfl) (.inr (by kernel_rfl)) (Eq.mp (by kernel_rfl) h)

def W.skeplaw09_KinemLater (u : Int) (a : Int) (v : Int) (n : Int) (t : Int) (w : World) (K : Value → World → Prop) (KP : List PanicEntry → World → Prop) : Prop :=
   C.skeplaw09_few u a v w (fun r3 w1 => ∃ p2 : (Int × Int × Int), r3 = .tuple #[.int .i64 p2.1, .int .i64 p2.2.1, .int .i64 p2.2.2] ∧
    C.skeplaw00_Place n 16 w1 (fun r6 w4 => ∃ p5 : Int, r6 = .int .i64 p5 ∧
    C.skeplaw09_made p2.1 p2.2.1 p2.2.2 w4 (fun r9 w7 => ∃ p8 : ((Option Addr) × S.skepref09_K × Bool), r9 = .tuple #[.pointer p8.1, S.skepref09_K.v p8.2.1, .bool p8.2.2] ∧
    ∀ (b10 : Nat) (w11 : World), Alloc w7 b10 24 [.int .i64 0, .int .i64 0, .int .i64 0] w11 →
    (okVal true 3 (S.skepref09_K.v p8.2.1) = true ∧ canPut w11 ⟨b10, 0, none⟩ (S.skepref09_K.v p8.2.1)) ∧ ∀ w12 : World, w12 = putAt w11 ⟨b10, 0, none⟩ (S.skepref09_K.v p8.2.1) →
    (cond p8.1.isNone
    (K (.bool false) w12)
    ((cond (!p8.2.2)
    (K (.bool false) w12)
    (C.kinem_Kin_Time p8.1 (IntKind.i64.wrap (1 + p5)) w12 (fun r15 w13 => ∃ p14 : Int, r15 = .int .i64 p14 ∧
    (cond (decide ((p14 : Int) < 1))
    (K (.bool false) w13)
    (C.kinem_Kin_Time p8.1 (IntKind.i64.wrap (1 + p5)) w13 (fun r18 w16 => ∃ p17 : Int, r18 = .int .i64 p17 ∧
    C.skeplaw00_Place t p17 w16 (fun r21 w19 => ∃ p20 : Int, r21 = .int .i64 p20 ∧
    C.kinem_Kin_Stop p8.1 (IntKind.i64.wrap (1 + p5)) (IntKind.i64.wrap (1 + p20)) w19 (fun r24 w22 => ∃ p23 : (Int × Int), r24 = .tuple #[.int .i64 p23.1, .int .i64 p23.2] ∧
    C.kinem_Kin_Stop p8.1 (IntKind.i64.wrap (1 + p5)) (IntKind.i64.wrap ((IntKind.i64.wrap (1 + p20)) + 1)) w22 (fun r27 w25 => ∃ p26 : (Int × Int), r27 = .tuple #[.int .i64 p26.1, .int .i64 p26.2] ∧
    (cond (decide ((p26.1 : Int) < p23.1))
    (K (.bool false) w25)
    ((cond (decide ((p26.1 : Int) > (IntKind.i64.wrap (1 + p5))))
    (K (.bool false) w25)
    (C.kinem_Kin_At p8.1 (IntKind.i64.wrap (1 + p5)) (IntKind.i64.wrap (1 + p20)) w25 (fun r30 w28 => ∃ p29 : Int, r30 = .int .i64 p29 ∧
    C.kinem_Kin_Speed p8.1 (IntKind.i64.wrap (1 + p5)) (IntKind.i64.wrap (1 + p20)) w28 (fun r33 w31 => ∃ p32 : Int, r33 = .int .i64 p32 ∧
    C.kinem_Kin_Brake p8.1 p32 w31 (fun r36 w34 => ∃ p35 : Int, r36 = .int .i64 p35 ∧
    C.kinem_Kin_At p8.1 (IntKind.i64.wrap (1 + p5)) (IntKind.i64.wrap ((IntKind.i64.wrap (1 + p20)) + 1)) w34 (fun r39 w37 => ∃ p38 : Int, r39 = .int .i64 p38 ∧
    C.kinem_Kin_Speed p8.1 (IntKind.i64.wrap (1 + p5)) (IntKind.i64.wrap ((IntKind.i64.wrap (1 + p20)) + 1)) w37 (fun r42 w40 => ∃ p41 : Int, r42 = .int .i64 p41 ∧
    C.kinem_Kin_Brake p8.1 p41 w40 (fun r45 w43 => ∃ p44 : Int, r45 = .int .i64 p44 ∧
    (cond (decide (((IntKind.i64.wrap (p29 + p35)) : Int) ≤ (IntKind.i64.wrap (p38 + p44))))
    (C.skeplaw09_awake  w43 (fun r48 w46 => ∃ p47 : Bool, r48 = .bool p47 ∧
    K (.bool p47) w46) KP)
    (K (.bool false) w43))) KP) KP) KP) KP) KP) KP))))) KP) KP) KP) KP))) KP))))) KP) KP) KP
theorem skeplaw09_KinemLater_of {u : Int} {a : Int} {v : Int} {n : Int} {t : Int} {w : World} {K : Value → World → Prop} {KP : List PanicEntry → World → Prop} (h : W.skeplaw09_KinemLater u a v n t w K KP) : C.skeplaw09_KinemLater u a v n t w K KP :=
  xcall (E := E) (T := mkTab [] [] [] [] [] [] []) (c := Try.f9.body.getD .skip) (rs := [.tmp 10]) ⟨⟩ mixed Try.func9 (by kernel_rfl) (by kernel_rfl) [.int .i64 u, .int .i64 a, .int .i64 v, .int .i64 n, .int .i64 t] (by kernel_rfl) (by kernel_rfl) (.inr (by kernel_rfl)) (Eq.mp (by kernel_rfl) h)

def W.skeplaw09_KinemWindows (u : Int) (a : Int) (v : Int) (n : Int) (length : Int) (w : World) (K : Value → World → Prop) (KP : List PanicEntry → World → Prop) : Prop :=
   C.skeplaw09_few u a v w (fun r3 w1 => ∃ p2 : (Int × Int × Int), r3 = .tuple #[.int .i64 p2.1, .int .i64 p2.2.1, .int .i64 p2.2.2] ∧
    C.skeplaw09_made p2.1 p2.2.1 p2.2.2 w1 (fun r6 w4 => ∃ p5 : ((Option Addr) × S.skepref09_K × Bool), r6 = .tuple #[.pointer p5.1, S.skepref09_K.v p5.2.1, .bool p5.2.2] ∧
    ∀ (b7 : Nat) (w8 : World), Alloc w4 b7 24 [.int .i64 0, .int .i64 0, .int .i64 0] w8 →
    (okVal true 3 (S.skepref09_K.v p5.2.1) = true ∧ canPut w8 ⟨b7, 0, none⟩ (S.skepref09_K.v p5.2.1)) ∧ ∀ w9 : World, w9 = putAt w8 ⟨b7, 0, none⟩ (S.skepref09_K.v p5.2.1) →
    (cond p5.1.isNone
    (K (.bool false) w9)
    ((cond (!p5.2.2)
    (K (.bool false) w9)
    (C.kinem_Kin_Windows p5.1 n length w9 (fun r12 w10 => ∃ p11 : Sl, r12 = .slice p11.a p11.len p11.cap ∧
    ∃ y13 : S.skepref09_K, (okVal true 3 (S.skepref09_K.v y13) = true ∧ rd w10 ⟨b7, 0, none⟩ (S.skepref09_K.v y13)) ∧
    C.skepref09_K_Windows y13 n length w10 (fun r16 w14 => ∃ p15 : Sl, r16 = .slice p15.a p15.len p15.cap ∧
    (cond (((p11.len : Int) : Int) != (p15.len : Int))
    (K (.bool false) w14)
    (∃ (I17 : Int → World → Prop) (M18 : Int → World → Nat),
    (∃ u19 : Int, (.int .i64 0 : Value) = .int .i64 u19 ∧ I17 u19 w14) ∧
    ∀ e0 : Env, ∀ v20 : Int, ∀ w21 : World, I17 v20 w21 →
    (cond (decide ((v20 : Int) < (p11.len : Int)))
    (∀ w22, Drew w21 w22 →
    ((0 : Int) ≤ v20 ∧ (v20 : Int) < (p11.len : Int)) ∧ withSome p11.a fun a23 =>
    ∃ y24 : S.Ar41, (okVal true 2 (S.Ar41.v y24) = true ∧ rd w22 (Addr.add a23 (v20.toNat * 2)) (S.Ar41.v y24)) ∧
    ((0 : Int) ≤ v20 ∧ (v20 : Int) < (p15.len : Int)) ∧ withSome p15.a fun a25 =>
    ∃ y26 : S.Ar41, (okVal true 2 (S.Ar41.v y26) = true ∧ rd w22 (Addr.add a25 (v20.toNat * 2)) (S.Ar41.v y26)) ∧
    (cond (!((((y24.i0 : Int) == y26.i0) && (((y24.i1 : Int) == y26.i1) && true))))
    (K (.bool false) w22)
    (∃ u27 : Int, (.int .i64 (IntKind.i64.wrap (v20 + 1)) : Value) = .int .i64 u27 ∧ (I17 u27 w22 ∧ M18 u27 w22 < M18 v20 w21))))
    (C.skeplaw09_awake  w21 (fun r30 w28 => ∃ p29 : Bool, r30 = .bool p29 ∧
    K (.bool p29) w28) KP))))) KP) KP))))) KP) KP
theorem skeplaw09_KinemWindows_of {u : Int} {a : Int} {v : Int} {n : Int} {length : Int} {w : World} {K : Value → World → Prop} {KP : List PanicEntry → World → Prop} (h : W.skeplaw09_KinemWindows u a v n length w K KP) : C.skeplaw09_KinemWindows u a v n length w K KP :=
  xcall (E := E) (T := mkTab [(10, [(16, 3)])] [(10, [10, 16, 52, 53, 54, 55, 56, 57, 58, 59, 60, 61, 62, 63, 64, 65, 66])] [] [] [(12, [0, 1, 2, 3, 4, 5, 6, 7, 8])] [(12, [0, 0, 3, 7, 0, 0, 48, 112, 255])] []) (c := Try.f10.body.getD .skip) (rs := [.tmp 10]) ⟨⟩ mixed Try.func10 (by kernel_rfl) (by kernel_rfl) [.int .i64 u, .int .i64 a, .int .i64 v, .int .i64 n, .int .i64 length] (by kernel_rfl) (by kernel_rfl) (.inr (by kernel_rfl)) (Eq.mp (by kernel_rfl) h)

def W.skeplaw09_KinemTakes (u : Int) (a : Int) (v : Int) (n : Int) (t : Int) (w : World) (K : Value → World → Prop) (KP : List PanicEntry → World → Prop) : Prop :=
   C.skeplaw09_few u a v w (fun r3 w1 => ∃ p2 : (Int × Int × Int), r3 = .tuple #[.int .i64 p2.1, .int .i64 p2.2.1, .int .i64 p2.2.2] ∧
    C.skeplaw09_made p2.1 p2.2.1 p2.2.2 w1 (fun r6 w4 => ∃ p5 : ((Option Addr) × S.skepref09_K × Bool), r6 = .tuple #[.pointer p5.1, S.skepref09_K.v p5.2.1, .bool p5.2.2] ∧
    ∀ (b7 : Nat) (w8 : World), Alloc w4 b7 24 [.int .i64 0, .int .i64 0, .int .i64 0] w8 →
    (okVal true 3 (S.skepref09_K.v p5.2.1) = true ∧ canPut w8 ⟨b7, 0, none⟩ (S.skepref09_K.v p5.2.1)) ∧ ∀ w9 : World, w9 = putAt w8 ⟨b7, 0, none⟩ (S.skepref09_K.v p5.2.1) →
    (cond p5.1.isNone
    (K (.bool false) w9)
    ((cond (!p5.2.2)
    (K (.bool false) w9)
    ((cond (decide ((n : Int) < 1))
    (C.kinem_Kin_Stop p5.1 n t w9 (fun r12 w10 => ∃ p11 : (Int × Int), r12 = .tuple #[.int .i64 p11.1, .int .i64 p11.2] ∧
    C.kinem_Kin_Profile p5.1 n w10 (fun r15 w13 => ∃ p14 : Sl, r15 = .slice p14.a p14.len p14.cap ∧
    (cond (((p14.len : Int) : Int) == 0)
    (C.kinem_Kin_Time p5.1 n w13 (fun r18 w16 => ∃ p17 : Int, r18 = .int .i64 p17 ∧
    (cond ((p17 : Int) == 0)
    (C.kinem_Kin_At p5.1 n t w16 (fun r21 w19 => ∃ p20 : Int, r21 = .int .i64 p20 ∧
    (cond ((p20 : Int) == 0)
    (C.kinem_Kin_Speed p5.1 n t w19 (fun r24 w22 => ∃ p23 : Int, r24 = .int .i64 p23 ∧
    (cond ((p23 : Int) == 0)
    ((cond ((p11.1 : Int) == 0)
    ((cond ((p11.2 : Int) == 0)
    (C.kinem_Kin_Windows p5.1 n 1 w22 (fun r27 w25 => ∃ p26 : Sl, r27 = .slice p26.a p26.len p26.cap ∧
    (cond (((p26.len : Int) : Int) == 0)
    (C.skeplaw09_awake  w25 (fun r30 w28 => ∃ p29 : Bool, r30 = .bool p29 ∧
    K (.bool p29) w28) KP)
    (K (.bool false) w25))) KP)
    (K (.bool false) w22)))
    (K (.bool false) w22)))
    (K (.bool false) w22))) KP)
    (K (.bool false) w19))) KP)
    (K (.bool false) w16))) KP)
    (K (.bool false) w13))) KP) KP)
    ((cond (decide ((n : Int) > 16))
    (C.kinem_Kin_Stop p5.1 n t w9 (fun r33 w31 => ∃ p32 : (Int × Int), r33 = .tuple #[.int .i64 p32.1, .int .i64 p32.2] ∧
    C.kinem_Kin_Profile p5.1 n w31 (fun r36 w34 => ∃ p35 : Sl, r36 = .slice p35.a p35.len p35.cap ∧
    (cond (((p35.len : Int) : Int) == 0)
    (C.kinem_Kin_Time p5.1 n w34 (fun r39 w37 => ∃ p38 : Int, r39 = .int .i64 p38 ∧
    (cond ((p38 : Int) == 0)
    (C.kinem_Kin_At p5.1 n t w37 (fun r42 w40 => ∃ p41 : Int, r42 = .int .i64 p41 ∧
    (cond ((p41 : Int) == 0)
    (C.kinem_Kin_Speed p5.1 n t w40 (fun r45 w43 => ∃ p44 : Int, r45 = .int .i64 p44 ∧
    (cond ((p44 : Int) == 0)
    ((cond ((p32.1 : Int) == 0)
    ((cond ((p32.2 : Int) == 0)
    (C.kinem_Kin_Windows p5.1 n 1 w43 (fun r48 w46 => ∃ p47 : Sl, r48 = .slice p47.a p47.len p47.cap ∧
    (cond (((p47.len : Int) : Int) == 0)
    (C.skeplaw09_awake  w46 (fun r51 w49 => ∃ p50 : Bool, r51 = .bool p50 ∧
    K (.bool p50) w49) KP)
    (K (.bool false) w46))) KP)
    (K (.bool false) w43)))
    (K (.bool false) w43)))
    (K (.bool false) w43))) KP)
    (K (.bool false) w40))) KP)
    (K (.bool false) w37))) KP)
    (K (.bool false) w34))) KP) KP)
    (C.kinem_Kin_Time p5.1 n w9 (fun r54 w52 => ∃ p53 : Int, r54 = .int .i64 p53 ∧
    C.skeplaw00_Place t (IntKind.i64.wrap (p53 + 9)) w52 (fun r57 w55 => ∃ p56 : Int, r57 = .int .i64 p56 ∧
    C.kinem_Kin_Time p5.1 n w55 (fun r60 w58 => ∃ p59 : Int, r60 = .int .i64 p59 ∧
    (cond (decide (((IntKind.i64.wrap (p59 * p2.2.2)) : Int) ≥ (IntKind.i64.wrap (n * p2.1))))
    (C.kinem_Kin_Time p5.1 n w58 (fun r63 w61 => ∃ p62 : Int, r63 = .int .i64 p62 ∧
    (cond (decide ((p62 : Int) ≤ (IntKind.i64.wrap (n * p2.1))))
    (C.kinem_Kin_At p5.1 n (IntKind.i64.wrap (p56 - 4)) w61 (fun r66 w64 => ∃ p65 : Int, r66 = .int .i64 p65 ∧
    (cond (decide ((p65 : Int) ≥ 0))
    (C.kinem_Kin_At p5.1 n (IntKind.i64.wrap (p56 - 4)) w64 (fun r69 w67 => ∃ p68 : Int, r69 = .int .i64 p68 ∧
    (cond (decide ((p68 : Int) ≤ (IntKind.i64.wrap (n * p2.1))))
    (C.kinem_Kin_At p5.1 n (IntKind.i64.wrap (p56 - 4)) w67 (fun r72 w70 => ∃ p71 : Int, r72 = .int .i64 p71 ∧
    C.kinem_Kin_At p5.1 n (IntKind.i64.wrap ((IntKind.i64.wrap (p56 - 4)) + 1)) w70 (fun r75 w73 => ∃ p74 : Int, r75 = .int .i64 p74 ∧
    (cond (decide ((p71 : Int) ≤ p74))
    (C.kinem_Kin_At p5.1 n t w73 (fun r78 w76 => ∃ p77 : Int, r78 = .int .i64 p77 ∧
    (cond (decide ((p77 : Int) ≤ (IntKind.i64.wrap (n * p2.1))))
    (C.kinem_Kin_At p5.1 n t w76 (fun r81 w79 => ∃ p80 : Int, r81 = .int .i64 p80 ∧
    (cond (decide ((p80 : Int) ≥ 0))
    (C.skeplaw09_awake  w79 (fun r84 w82 => ∃ p83 : Bool, r84 = .bool p83 ∧
    K (.bool p83) w82) KP)
    (K (.bool false) w79))) KP)
    (K (.bool false) w76))) KP)
    (K (.bool false) w73))) KP) KP)
    (K (.bool false) w67))) KP)
    (K (.bool false) w64))) KP)
    (K (.bool false) w61))) KP)
    (K (.bool false) w58))) KP) KP) KP))))))))) KP) KP
theorem skeplaw09_KinemTakes_of {u : Int} {a : Int} {v : Int} {n : Int} {t : Int} {w : World} {K : Value → World → Prop} {KP : List PanicEntry → World → Prop} (h : W.skeplaw09_KinemTakes u a v n t w K KP) : C.skeplaw09_KinemTakes u a v n t w K KP :=
  xcall (E := E) (T := mkTab [] [] [] [] [] [] []) (c := Try.f11.body.getD .skip) (rs := [.tmp 10]) ⟨⟩ mixed Try.func11 (by kernel_rfl) (by kernel_rfl) [.int .i64 u, .int .i64 a, .int .i64 v, .int .i64 n, .int .i64 t] (by kernel_rfl) (by kernel_rfl) (.inr (by kernel_rfl)) (Eq.mp (by kernel_rfl) h)

def W.skeplaw09_KinemCovers (u : Int) (a : Int) (v : Int) (n : Int) (length : Int) (w : World) (K : Value → World → Prop) (KP : List PanicEntry → World → Prop) : Prop :=
   C.skeplaw09_few u a v w (fun r3 w1 => ∃ p2 : (Int × Int × Int), r3 = .tuple #[.int .i64 p2.1, .int .i64 p2.2.1, .int .i64 p2.2.2] ∧
    C.skeplaw00_Place n 16 w1 (fun r6 w4 => ∃ p5 : Int, r6 = .int .i64 p5 ∧
    C.skeplaw00_Place length 2 w4 (fun r9 w7 => ∃ p8 : Int, r9 = .int .i64 p8 ∧
    C.skeplaw09_made p2.1 p2.2.1 p2.2.2 w7 (fun r12 w10 => ∃ p11 : ((Option Addr) × S.skepref09_K × Bool), r12 = .tuple #[.pointer p11.1, S.skepref09_K.v p11.2.1, .bool p11.2.2] ∧
    ∀ (b13 : Nat) (w14 : World), Alloc w10 b13 24 [.int .i64 0, .int .i64 0, .int .i64 0] w14 →
    (okVal true 3 (S.skepref09_K.v p11.2.1) = true ∧ canPut w14 ⟨b13, 0, none⟩ (S.skepref09_K.v p11.2.1)) ∧ ∀ w15 : World, w15 = putAt w14 ⟨b13, 0, none⟩ (S.skepref09_K.v p11.2.1) →
    (cond p11.1.isNone
    (K (.bool false) w15)
    ((cond (!p11.2.2)
    (K (.bool false) w15)
    (C.kinem_Kin_Windows p11.1 (IntKind.i64.wrap (1 + p5)) (IntKind.i64.wrap (1 + p8)) w15 (fun r18 w16 => ∃ p17 : Sl, r18 = .slice p17.a p17.len p17.cap ∧
    ∀ w19, Drew w16 w19 →
    (cond (((p17.len : Int) : Int) != (IntKind.i64.wrap ((IntKind.i64.wrap (1 + p5)) + (IntKind.i64.wrap (1 + p8)))))
    (K (.bool false) w19)
    (((0 : Int) ≤ 0 ∧ (0 : Int) < (p17.len : Int)) ∧ withSome p17.a fun a20 =>
    ((0 : Int) ≤ 0 ∧ (0 : Int) < (2 : Int)) ∧ ∃ y21 : Int, (okVal false 1 (.int .i64 y21) = true ∧ w19.cell? a20 = some (.int .i64 y21)) ∧
    (cond ((y21 : Int) != 0)
    (K (.bool false) w19)
    (((0 : Int) ≤ (IntKind.i64.wrap ((p17.len : Int) - 1)) ∧ ((IntKind.i64.wrap ((p17.len : Int) - 1)) : Int) < (p17.len : Int)) ∧ withSome p17.a fun a22 =>
    ((0 : Int) ≤ 1 ∧ (1 : Int) < (2 : Int)) ∧ ∃ y23 : Int, (okVal false 1 (.int .i64 y23) = true ∧ w19.cell? (Addr.add (Addr.add a22 ((IntKind.i64.wrap ((p17.len : Int) - 1)).toNat * 2)) 1) = some (.int .i64 y23)) ∧
    C.kinem_Kin_Time p11.1 (IntKind.i64.wrap (1 + p5)) w19 (fun r26 w24 => ∃ p25 : Int, r26 = .int .i64 p25 ∧
    (w24.cell? (Addr.add (Addr.add a22 ((IntKind.i64.wrap ((p17.len : Int) - 1)).toNat * 2)) 1) = some (.int .i64 y23)) ∧ (cond ((y23 : Int) != p25)
    (K (.bool false) w24)
    (∃ (I27 : Int → World → Prop) (M28 : Int → World → Nat),
    (∃ u29 : Int, (.int .i64 0 : Value) = .int .i64 u29 ∧ I27 u29 w24) ∧
    ∀ e0 : Env, ∀ v30 : Int, ∀ w31 : World, I27 v30 w31 →
    (cond (decide ((v30 : Int) < (p17.len : Int)))
    (∀ w32, Drew w31 w32 →
    ((0 : Int) ≤ v30 ∧ (v30 : Int) < (p17.len : Int)) ∧ withSome p17.a fun a33 =>
    ((0 : Int) ≤ 0 ∧ (0 : Int) < (2 : Int)) ∧ ∃ y34 : Int, (okVal false 1 (.int .i64 y34) = true ∧ w32.cell? (Addr.add a33 (v30.toNat * 2)) = some (.int .i64 y34)) ∧
    ((0 : Int) ≤ v30 ∧ (v30 : Int) < (p17.len : Int)) ∧ withSome p17.a fun a35 =>
    ((0 : Int) ≤ 1 ∧ (1 : Int) < (2 : Int)) ∧ ∃ y36 : Int, (okVal false 1 (.int .i64 y36) = true ∧ w32.cell? (Addr.add (Addr.add a35 (v30.toNat * 2)) 1) = some (.int .i64 y36)) ∧
    (cond (decide ((y34 : Int) ≥ y36))
    (K (.bool false) w32)
    ((cond (decide ((v30 : Int) > 0))
    (((0 : Int) ≤ v30 ∧ (v30 : Int) < (p17.len : Int)) ∧ withSome p17.a fun a37 =>
    ((0 : Int) ≤ 0 ∧ (0 : Int) < (2 : Int)) ∧ ∃ y38 : Int, (okVal false 1 (.int .i64 y38) = true ∧ w32.cell? (Addr.add a37 (v30.toNat * 2)) = some (.int .i64 y38)) ∧
    ((0 : Int) ≤ (IntKind.i64.wrap (v30 - 1)) ∧ ((IntKind.i64.wrap (v30 - 1)) : Int) < (p17.len : Int)) ∧ withSome p17.a fun a39 =>
    ((0 : Int) ≤ 0 ∧ (0 : Int) < (2 : Int)) ∧ ∃ y40 : Int, (okVal false 1 (.int .i64 y40) = true ∧ w32.cell? (Addr.add a39 ((IntKind.i64.wrap (v30 - 1)).toNat * 2)) = some (.int .i64 y40)) ∧
    (cond (decide ((y38 : Int) < y40))
    (K (.bool false) w32)
    (((0 : Int) ≤ v30 ∧ (v30 : Int) < (p17.len : Int)) ∧ withSome p17.a fun a41 =>
    ((0 : Int) ≤ 1 ∧ (1 : Int) < (2 : Int)) ∧ ∃ y42 : Int, (okVal false 1 (.int .i64 y42) = true ∧ w32.cell? (Addr.add (Addr.add a41 (v30.toNat * 2)) 1) = some (.int .i64 y42)) ∧
    ((0 : Int) ≤ (IntKind.i64.wrap (v30 - 1)) ∧ ((IntKind.i64.wrap (v30 - 1)) : Int) < (p17.len : Int)) ∧ withSome p17.a fun a43 =>
    ((0 : Int) ≤ 1 ∧ (1 : Int) < (2 : Int)) ∧ ∃ y44 : Int, (okVal false 1 (.int .i64 y44) = true ∧ w32.cell? (Addr.add (Addr.add a43 ((IntKind.i64.wrap (v30 - 1)).toNat * 2)) 1) = some (.int .i64 y44)) ∧
    (cond (decide ((y42 : Int) < y44))
    (K (.bool false) w32)
    (((0 : Int) ≤ v30 ∧ (v30 : Int) < (p17.len : Int)) ∧ withSome p17.a fun a45 =>
    ((0 : Int) ≤ 0 ∧ (0 : Int) < (2 : Int)) ∧ ∃ y46 : Int, (okVal false 1 (.int .i64 y46) = true ∧ w32.cell? (Addr.add a45 (v30.toNat * 2)) = some (.int .i64 y46)) ∧
    ((0 : Int) ≤ (IntKind.i64.wrap (v30 - 1)) ∧ ((IntKind.i64.wrap (v30 - 1)) : Int) < (p17.len : Int)) ∧ withSome p17.a fun a47 =>
    ((0 : Int) ≤ 1 ∧ (1 : Int) < (2 : Int)) ∧ ∃ y48 : Int, (okVal false 1 (.int .i64 y48) = true ∧ w32.cell? (Addr.add (Addr.add a47 ((IntKind.i64.wrap (v30 - 1)).toNat * 2)) 1) = some (.int .i64 y48)) ∧
    (cond (decide ((y46 : Int) > y48))
    (K (.bool false) w32)
    (∃ u49 : Int, (.int .i64 (IntKind.i64.wrap (v30 + 1)) : Value) = .int .i64 u49 ∧ (I27 u49 w32 ∧ M28 u49 w32 < M28 v30 w31))))))))
    (∃ u50 : Int, (.int .i64 (IntKind.i64.wrap (v30 + 1)) : Value) = .int .i64 u50 ∧ (I27 u50 w32 ∧ M28 u50 w32 < M28 v30 w31))))))
    (∃ (I51 : Int → World → Prop) (M52 : Int → World → Nat),
    (∃ u53 : Int, (.int .i64 0 : Value) = .int .i64 u53 ∧ I51 u53 w31) ∧
    ∀ e0 : Env, ∀ v54 : Int, ∀ w55 : World, I51 v54 w55 →
    C.kinem_Kin_Time p11.1 (IntKind.i64.wrap (1 + p5)) w55 (fun r58 w56 => ∃ p57 : Int, r58 = .int .i64 p57 ∧
    (cond (decide ((v54 : Int) < p57))
    (∃ (I59 : Int → World → Prop) (M60 : Int → World → Nat),
    (∃ u61 : Int, (.int .i64 0 : Value) = .int .i64 u61 ∧ I59 u61 w56) ∧
    ∀ e0 : Env, ∀ v62 : Int, ∀ w63 : World, I59 v62 w63 →
    (cond (decide ((v62 : Int) < (p17.len : Int)))
    (∃ J64 : Bool → World → Prop,
    (C.kinem_Kin_At p11.1 (IntKind.i64.wrap (1 + p5)) v54 w63 (fun r67 w65 => ∃ p66 : Int, r67 = .int .i64 p66 ∧
    (cond (decide ((p66 : Int) < (IntKind.i64.wrap ((IntKind.i64.wrap (v62 + 1)) * p2.1))))
    (C.kinem_Kin_At p11.1 (IntKind.i64.wrap (1 + p5)) (IntKind.i64.wrap (v54 + 1)) w65 (fun r70 w68 => ∃ p69 : Int, r70 = .int .i64 p69 ∧
    ∃ u71 : Bool, (.bool (decide (((IntKind.i64.wrap (p69 + (IntKind.i64.wrap ((IntKind.i64.wrap (1 + p8)) * p2.1)))) : Int) > (IntKind.i64.wrap (v62 * p2.1)))) : Value) = .bool u71 ∧ J64 u71 w68) KP)
    (∃ u72 : Bool, (.bool false : Value) = .bool u72 ∧ J64 u72 w65))) KP) ∧
    ∀ e0 : Env, ∀ v73 : Bool, ∀ w74 : World, J64 v73 w74 →
    ((0 : Int) ≤ v62 ∧ (v62 : Int) < (p17.len : Int)) ∧ withSome p17.a fun a75 =>
    ((0 : Int) ≤ 0 ∧ (0 : Int) < (2 : Int)) ∧ ∃ y76 : Int, (okVal false 1 (.int .i64 y76) = true ∧ w74.cell? (Addr.add a75 (v62.toNat * 2)) = some (.int .i64 y76)) ∧
    (cond (decide ((v54 : Int) ≥ y76))
    (((0 : Int) ≤ v62 ∧ (v62 : Int) < (p17.len : Int)) ∧ withSome p17.a fun a77 =>
    ((0 : Int) ≤ 1 ∧ (1 : Int) < (2 : Int)) ∧ ∃ y78 : Int, (okVal false 1 (.int .i64 y78) = true ∧ w74.cell? (Addr.add (Addr.add a77 (v62.toNat * 2)) 1) = some (.int .i64 y78)) ∧
    (cond (!(v73 == (decide ((v54 : Int) < y78))))
    (K (.bool false) w74)
    (∃ u79 : Int, (.int .i64 (IntKind.i64.wrap (v62 + 1)) : Value) = .int .i64 u79 ∧ (I59 u79 w74 ∧ M60 u79 w74 < M60 v62 w63))))
    ((cond (!(v73 == false))
    (K (.bool false) w74)
    (∃ u80 : Int, (.int .i64 (IntKind.i64.wrap (v62 + 1)) : Value) = .int .i64 u80 ∧ (I59 u80 w74 ∧ M60 u80 w74 < M60 v62 w63))))))
    (∃ u81 : Int, (.int .i64 (IntKind.i64.wrap (v54 + 1)) : Value) = .int .i64 u81 ∧ (I51 u81 w63 ∧ M52 u81 w63 < M52 v54 w55))))
    (C.skeplaw09_awake  w56 (fun r84 w82 => ∃ p83 : Bool, r84 = .bool p83 ∧
    K (.bool p83) w82) KP))) KP))))) KP))))) KP))))) KP) KP) KP) KP
theorem skeplaw09_KinemCovers_of {u : Int} {a : Int} {v : Int} {n : Int} {length : Int} {w : World} {K : Value → World → Prop} {KP : List PanicEntry → World → Prop} (h : W.skeplaw09_KinemCovers u a v n length w K KP) : C.skeplaw09_KinemCovers u a v n length w K KP :=
  xcall (E := E) (T := mkTab [(11, [(15, 3)]), (16, [(16, 3)]), (19, [(17, 3)])] [(11, [10, 15, 77, 78, 79, 80, 81, 82, 83, 84, 85, 86, 87, 88, 89, 90, 91, 92, 93, 94, 95, 96, 97, 98, 99, 100, 101, 102, 103, 104, 105, 106, 107, 108, 109, 110, 111, 112, 113, 114, 115, 116, 117, 118, 119, 120, 121, 122, 123, 124, 125, 126, 127, 128, 129, 130, 131, 132, 133, 134, 135, 136, 137, 138, 139]), (16, [10, 16, 17, 18, 140, 141, 142, 143, 144, 145, 146, 147, 148, 149, 150, 151, 152, 153, 154, 155, 156, 157, 158, 159, 160, 161, 162, 163, 164, 165, 166, 167, 168, 169, 170, 171, 172, 173, 174, 175, 176, 177, 178, 179, 180, 181, 182, 183, 184, 185, 186, 187, 188, 189, 190, 191, 192, 193, 194]), (19, [10, 17, 18, 147, 148, 149, 150, 151, 152, 153, 154, 155, 156, 157, 158, 159, 160, 161, 162, 163, 164, 165, 166, 167, 168, 169, 170, 171, 172, 173, 174, 175, 176, 177, 178, 179, 180, 181, 182, 183, 184, 185, 186, 187, 188, 189, 190, 191, 192, 193, 194])] [(22, [(18, 4)])] [(22, [18, 153, 154, 155, 156, 157, 158, 159, 160, 161, 162, 163, 164, 165, 166, 167, 168, 169, 170, 171, 172, 173, 174, 175, 176])] [(8, [0, 1, 2, 3, 4, 5, 6, 7, 8, 9, 10, 11, 12, 13, 14, 15, 16, 17, 18, 19, 20, 21, 22, 23, 24, 25]), (13, [0, 1, 2, 3, 4, 5, 6, 7, 8, 9, 10, 11, 12, 13, 14, 15, 16, 17, 18, 19, 20, 21, 22, 23, 24, 25, 26, 27, 28, 29, 30, 31, 32, 33, 34, 35, 36, 37, 38, 39, 40, 41, 42, 43, 44, 45, 46, 47, 48, 49, 50, 51, 52, 53, 54, 55, 56])] [(8, [0, 1, 0, 0, 12, 31, 63, 127, 255, 511, 1023, 2047, 4095, 8191, 16383, 16383, 49151, 114687, 262143, 524287, 1048575, 16383, 16383, 6307839, 16777215, 33554431]), (13, [0, 0, 3, 7, 15, 0, 0, 96, 224, 480, 1023, 2047, 4095, 8191, 16383, 32767, 32767, 131071, 262143, 524287, 32767, 32767, 2129919, 7372799, 15761407, 32538623, 67108863, 134217727, 268435455, 268435455, 1073741823, 2147483647, 4294967295, 268435455, 268435455, 17448304639, 60397977599, 129117454335, 266556407807, 549755813887, 1099511627775, 2199023255551, 4398046511103, 4398046511103, 17592186044415, 35184372088831, 70368744177663, 4398046511103, 4398046511103, 285873023221759, 989560464998399, 2115460371841023, 4367260185526271, 9007199254740991, 18014398509481983, 36028797018963967, 72057594037927935])] []) (c := Try.f12.body.getD .skip) (rs := [.tmp 10]) ⟨⟩ mixed Try.func12 (by kernel_rfl) (by kernel_rfl) [.int .i64 u, .int .i64 a, .int .i64 v, .int .i64 n, .int .i64 length] (by kernel_rfl) (by kernel_rfl) (.inr (by kernel_rfl)) (Eq.mp (by kernel_rfl) h)

def W.skeplaw09_made (u : Int) (a : Int) (v : Int) (w : World) (K : Value → World → Prop) (KP : List PanicEntry → World → Prop) : Prop :=
   ∀ (b1 : Nat) (w2 : World), Alloc w b1 24 [.int .i64 0, .int .i64 0, .int .i64 0] w2 →
    C.kinem_New u a v w2 (fun r5 w3 => ∃ p4 : ((Option Addr) × Int), r5 = .tuple #[.pointer p4.1, .int .i64 p4.2] ∧
    ∀ (b6 : Nat) (w7 : World), Alloc w3 b6 24 [.int .i64 0, .int .i64 0, .int .i64 0] w7 →
    (okVal true 3 (.agg #[.int .i64 u, .int .i64 a, .int .i64 v]) = true ∧ canPut w7 ⟨b6, 0, none⟩ (.agg #[.int .i64 u, .int .i64 a, .int .i64 v])) ∧ ∀ w8 : World, w8 = putAt w7 ⟨b6, 0, none⟩ (.agg #[.int .i64 u, .int .i64 a, .int .i64 v]) →
    ∃ y9 : S.skepref09_K, (okVal true 3 (S.skepref09_K.v y9) = true ∧ rd w8 ⟨b6, 0, none⟩ (S.skepref09_K.v y9)) ∧
    C.skepref09_May y9 w8 (fun r12 w10 => ∃ p11 : Bool, r12 = .bool p11 ∧
    (cond (!p11)
    (∀ w13, Drew w10 w13 →
    ∃ y14 : S.skepref09_K, (okVal true 3 (S.skepref09_K.v y14) = true ∧ rd w13 ⟨b6, 0, none⟩ (S.skepref09_K.v y14)) ∧
    (cond p4.1.isNone
    ((okVal true 3 (S.skepref09_K.v y14) = true ∧ canPut w13 ⟨b1, 0, none⟩ (S.skepref09_K.v y14)) ∧ ∀ w15 : World, w15 = putAt w13 ⟨b1, 0, none⟩ (S.skepref09_K.v y14) →
    ∃ y16 : S.skepref09_K, (okVal true 3 (S.skepref09_K.v y16) = true ∧ rd w15 ⟨b1, 0, none⟩ (S.skepref09_K.v y16)) ∧ K (.tuple #[.pointer none, S.skepref09_K.v y16, .bool ((p4.2 : Int) == 1)]) w15)
    ((okVal true 3 (S.skepref09_K.v y14) = true ∧ canPut w13 ⟨b1, 0, none⟩ (S.skepref09_K.v y14)) ∧ ∀ w17 : World, w17 = putAt w13 ⟨b1, 0, none⟩ (S.skepref09_K.v y14) →
    ∃ y18 : S.skepref09_K, (okVal true 3 (S.skepref09_K.v y18) = true ∧ rd w17 ⟨b1, 0, none⟩ (S.skepref09_K.v y18)) ∧ K (.tuple #[.pointer none, S.skepref09_K.v y18, .bool false]) w17)))
    (∀ w19, Drew w10 w19 →
    ∃ y20 : S.skepref09_K, (okVal true 3 (S.skepref09_K.v y20) = true ∧ rd w19 ⟨b6, 0, none⟩ (S.skepref09_K.v y20)) ∧
    (cond (!p4.1.isNone)
    ((okVal true 3 (S.skepref09_K.v y20) = true ∧ canPut w19 ⟨b1, 0, none⟩ (S.skepref09_K.v y20)) ∧ ∀ w21 : World, w21 = putAt w19 ⟨b1, 0, none⟩ (S.skepref09_K.v y20) →
    ∃ y22 : S.skepref09_K, (okVal true 3 (S.skepref09_K.v y22) = true ∧ rd w21 ⟨b1, 0, none⟩ (S.skepref09_K.v y22)) ∧ K (.tuple #[.pointer p4.1, S.skepref09_K.v y22, .bool ((p4.2 : Int) == 0)]) w21)
    ((okVal true 3 (S.skepref09_K.v y20) = true ∧ canPut w19 ⟨b1, 0, none⟩ (S.skepref09_K.v y20)) ∧ ∀ w23 : World, w23 = putAt w19 ⟨b1, 0, none⟩ (S.skepref09_K.v y20) →
    ∃ y24 : S.skepref09_K, (okVal true 3 (S.skepref09_K.v y24) = true ∧ rd w23 ⟨b1, 0, none⟩ (S.skepref09_K.v y24)) ∧ K (.tuple #[.pointer p4.1, S.skepref09_K.v y24, .bool false]) w23))))) KP) KP
theorem skeplaw09_made_of {u : Int} {a : Int} {v : Int} {w : World} {K : Value → World → Prop} {KP : List PanicEntry → World → Prop} (h : W.skeplaw09_made u a v w K KP) : C.skeplaw09_made u a v w K KP :=
  xcall (E := E) (T := mkTab [] [] [] [] [(4, [0, 1, 2, 3, 4, 5, 6, 7, 8, 9]), (5, [0, 1, 2, 3, 4, 5, 6, 7, 8, 9, 10])] [(4, [0, 0, 2, 6, 14, 30, 62, 14, 143, 511]), (5, [0, 0, 0, 4, 12, 28, 60, 124, 29, 287, 1023])] []) (c := Try.f13.body.getD .skip) (rs := [.tmp 6, .cell 7 24, .tmp 8]) ⟨⟩ mixed Try.func13 (by kernel_rfl) (by kernel_rfl) [.int .i64 u, .int .i64 a, .int .i64 v] (by kernel_rfl) (by kernel_rfl) (.inr (by kernel_rfl)) (Eq.mp (by kernel_rfl) h)

def W.skeplaw09_awake (w : World) (K : Value → World → Prop) (KP : List PanicEntry → World → Prop) : Prop :=
   C.kinem_New 10 2 4 w (fun r3 w1 => ∃ p2 : ((Option Addr) × Int), r3 = .tuple #[.pointer p2.1, .int .i64 p2.2] ∧
    (cond ((p2.2 : Int) != 0)
    (K (.bool false) w1)
    ((cond p2.1.isNone
    (K (.bool false) w1)
    (C.kinem_Kin_Stop p2.1 1 1 w1 (fun r6 w4 => ∃ p5 : (Int × Int), r6 = .tuple #[.int .i64 p5.1, .int .i64 p5.2] ∧
    C.kinem_Kin_Profile p2.1 1 w4 (fun r9 w7 => ∃ p8 : Sl, r9 = .slice p8.a p8.len p8.cap ∧
    ∀ (b10 : Nat) (w11 : World), Alloc w7 b10 3 [.int .i64 2, .int .i64 6, .int .i64 9, .int .i64 10] w11 →
    C.skeplaw00_SameInts p8 (⟨(some ⟨b10, 0, none⟩), 4, 4⟩) w11 (fun r14 w12 => ∃ p13 : Bool, r14 = .bool p13 ∧
    (cond p13
    ((cond ((p5.1 : Int) == 1)
    ((cond ((p5.2 : Int) == 4)
    (C.kinem_Kin_Time p2.1 1 w12 (fun r17 w15 => ∃ p16 : Int, r17 = .int .i64 p16 ∧
    (cond ((p16 : Int) == 4)
    (C.kinem_Kin_At p2.1 1 2 w15 (fun r20 w18 => ∃ p19 : Int, r20 = .int .i64 p19 ∧
    (cond ((p19 : Int) == 6)
    (C.kinem_Kin_Speed p2.1 1 2 w18 (fun r23 w21 => ∃ p22 : Int, r23 = .int .i64 p22 ∧
    K (.bool ((p22 : Int) == 4)) w21) KP)
    (K (.bool false) w18))) KP)
    (K (.bool false) w15))) KP)
    (K (.bool false) w12)))
    (K (.bool false) w12)))
    (K (.bool false) w12))) KP) KP) KP))))) KP
theorem skeplaw09_awake_of {w : World} {K : Value → World → Prop} {KP : List PanicEntry → World → Prop} (h : W.skeplaw09_awake  w K KP) : C.skeplaw09_awake  w K KP :=
  xcall (E := E) (T := mkTab [] [] [] [] [] [] []) (c := Try.f14.body.getD .skip) (rs := [.tmp 0]) ⟨⟩ mixed Try.func14 (by kernel_rfl) (by kernel_rfl) [] (by kernel_rfl) (by kernel_rfl) (.inr (by kernel_rfl)) (Eq.mp (by kernel_rfl) h)

def W.kinem_Kin_Brake (k : (Option Addr)) (s : Int) (w : World) (K : Value → World → Prop) (KP : List PanicEntry → World → Prop) : Prop :=
   (cond k.isNone
    (K (.int .i64 0) w)
    (withSome k fun a1 =>
    ∃ y2 : Int, (okVal false 1 (.int .i64 y2) = true ∧ w.cell? (Addr.add a1 1) = some (.int .i64 y2)) ∧
    (cond (decide ((y2 : Int) < 1))
    (K (.int .i64 0) w)
    (∀ w3, Drew w w3 →
    withSome k fun a4 =>
    ∃ y5 : Int, (okVal false 1 (.int .i64 y5) = true ∧ w3.cell? (Addr.add a4 2) = some (.int .i64 y5)) ∧
    withSome k fun a6 =>
    ∃ y7 : Int, (okVal false 1 (.int .i64 y7) = true ∧ w3.cell? (Addr.add a6 1) = some (.int .i64 y7)) ∧
    ∃ (I8 : Int → Int → World → Prop) (M9 : Int → Int → World → Nat),
    (∃ u10 : Int, (.int .i64 0 : Value) = .int .i64 u10 ∧ ∃ u11 : Int, (.int .i64 (IntKind.i64.wrap ((if ((if (y5 : Int) < s then y5 else s) : Int) > 0 then (if (y5 : Int) < s then y5 else s) else 0) - y7)) : Value) = .int .i64 u11 ∧ I8 u10 u11 w3) ∧
    ∀ e0 : Env, ∀ v12 : Int, ∀ v13 : Int, ∀ w14 : World, I8 v12 v13 w14 →
    (cond (decide ((v13 : Int) > 0))
    (withSome k fun a15 =>
    ∃ y16 : Int, (okVal false 1 (.int .i64 y16) = true ∧ w14.cell? (Addr.add a15 1) = some (.int .i64 y16)) ∧
    ∃ u17 : Int, (.int .i64 (IntKind.i64.wrap (v12 + v13)) : Value) = .int .i64 u17 ∧ ∃ u18 : Int, (.int .i64 (IntKind.i64.wrap (v13 - y16)) : Value) = .int .i64 u18 ∧ (I8 u17 u18 w14 ∧ M9 u17 u18 w14 < M9 v12 v13 w14))
    (K (.int .i64 v12) w14))))))
theorem kinem_Kin_Brake_of {k : (Option Addr)} {s : Int} {w : World} {K : Value → World → Prop} {KP : List PanicEntry → World → Prop} (h : W.kinem_Kin_Brake k s w K KP) : C.kinem_Kin_Brake k s w K KP :=
  xcall (E := E) (T := mkTab [(5, [(5, 3), (6, 3)])] [(5, [5, 6, 28, 29, 30, 31, 32, 33, 34, 35, 36, 37, 38])] [] [] [(4, [0, 1, 2, 3, 4, 5, 6, 7, 8, 9, 10, 11, 12])] [(4, [0, 0, 2, 6, 14, 31, 63, 0, 128, 384, 896, 2047, 4095])] []) (c := Try.f15.body.getD .skip) (rs := [.tmp 4]) ⟨⟩ mixed Try.func15 (by kernel_rfl) (by kernel_rfl) [.pointer k, .int .i64 s] (by kernel_rfl) (by kernel_rfl) (.inr (by kernel_rfl)) (Eq.mp (by kernel_rfl) h)

def W.skepref09_K_Brake (k : S.skepref09_K) (s : Int) (w : World) (K : Value → World → Prop) (KP : List PanicEntry → World → Prop) : Prop :=
   ∀ (b1 : Nat) (w2 : World), Alloc w b1 24 (S.skepref09_K.v k : Value).cells.toList w2 →
    (cond (decide ((s : Int) < 0))
    (∃ y3 : Int, (okVal false 1 (.int .i64 y3) = true ∧ w2.cell? ⟨b1, 2, none⟩ = some (.int .i64 y3)) ∧
    (cond (decide ((0 : Int) > y3))
    (∃ y4 : Int, (okVal false 1 (.int .i64 y4) = true ∧ w2.cell? ⟨b1, 2, none⟩ = some (.int .i64 y4)) ∧
    ∃ y5 : S.skepref09_K, (okVal true 3 (S.skepref09_K.v y5) = true ∧ rd w2 ⟨b1, 0, none⟩ (S.skepref09_K.v y5)) ∧
    C.skepref09_K_brake y5 y4 w2 (fun r8 w6 => ∃ p7 : Int, r8 = .int .i64 p7 ∧
    K (.int .i64 p7) w6) KP)
    (∃ y9 : S.skepref09_K, (okVal true 3 (S.skepref09_K.v y9) = true ∧ rd w2 ⟨b1, 0, none⟩ (S.skepref09_K.v y9)) ∧
    C.skepref09_K_brake y9 0 w2 (fun r12 w10 => ∃ p11 : Int, r12 = .int .i64 p11 ∧
    K (.int .i64 p11) w10) KP)))
    (∃ y13 : Int, (okVal false 1 (.int .i64 y13) = true ∧ w2.cell? ⟨b1, 2, none⟩ = some (.int .i64 y13)) ∧
    (cond (decide ((s : Int) > y13))
    (∃ y14 : Int, (okVal false 1 (.int .i64 y14) = true ∧ w2.cell? ⟨b1, 2, none⟩ = some (.int .i64 y14)) ∧
    ∃ y15 : S.skepref09_K, (okVal true 3 (S.skepref09_K.v y15) = true ∧ rd w2 ⟨b1, 0, none⟩ (S.skepref09_K.v y15)) ∧
    C.skepref09_K_brake y15 y14 w2 (fun r18 w16 => ∃ p17 : Int, r18 = .int .i64 p17 ∧
    K (.int .i64 p17) w16) KP)
    (∃ y19 : S.skepref09_K, (okVal true 3 (S.skepref09_K.v y19) = true ∧ rd w2 ⟨b1, 0, none⟩ (S.skepref09_K.v y19)) ∧
    C.skepref09_K_brake y19 s w2 (fun r22 w20 => ∃ p21 : Int, r22 = .int .i64 p21 ∧
    K (.int .i64 p21) w20) KP))))
theorem skepref09_K_Brake_of {k : S.skepref09_K} {s : Int} {w : World} {K : Value → World → Prop} {KP : List PanicEntry → World → Prop} (h : W.skepref09_K_Brake k s w K KP) : C.skepref09_K_Brake k s w K KP :=
  xcall (E := E) (T := mkTab [] [] [] [] [] [] []) (c := Try.f16.body.getD .skip) (rs := [.tmp 4]) ⟨⟩ mixed Try.func16 (by kernel_rfl) (by kernel_rfl) [S.skepref09_K.v k, .int .i64 s] (by kernel_rfl) (by kernel_rfl) (.inr (by kernel_rfl)) (Eq.mp (by kernel_rfl) h)

def W.skeplaw09_few (u : Int) (a : Int) (v : Int) (w : World) (K : Value → World → Prop) (KP : List PanicEntry → World → Prop) : Prop :=
   C.skeplaw00_Place u 60 w (fun r3 w1 => ∃ p2 : Int, r3 = .int .i64 p2 ∧
    C.skeplaw00_Place a 20 w1 (fun r6 w4 => ∃ p5 : Int, r6 = .int .i64 p5 ∧
    C.skeplaw00_Place v 40 w4 (fun r9 w7 => ∃ p8 : Int, r9 = .int .i64 p8 ∧
    K (.tuple #[.int .i64 (IntKind.i64.wrap (1 + p2)), .int .i64 (IntKind.i64.wrap (1 + p5)), .int .i64 (IntKind.i64.wrap (1 + p8))]) w7) KP) KP) KP
theorem skeplaw09_few_of {u : Int} {a : Int} {v : Int} {w : World} {K : Value → World → Prop} {KP : List PanicEntry → World → Prop} (h : W.skeplaw09_few u a v w K KP) : C.skeplaw09_few u a v w K KP :=
  xcall (E := E) (T := mkTab [] [] [] [] [] [] []) (c := Try.f17.body.getD .skip) (rs := [.tmp 6, .tmp 7, .tmp 8]) ⟨⟩ mixed Try.func17 (by kernel_rfl) (by kernel_rfl) [.int .i64 u, .int .i64 a, .int .i64 v] (by kernel_rfl) (by kernel_rfl) (.inr (by kernel_rfl)) (Eq.mp (by kernel_rfl) h)

def W.skeplaw00_SameInts (a : Sl) (p1_ : Sl) (w : World) (K : Value → World → Prop) (KP : List PanicEntry → World → Prop) : Prop :=
   (cond (((a.len : Int) : Int) != (p1_.len : Int))
    (K (.bool false) w)
    (∃ (I1 : Int → World → Prop) (M2 : Int → World → Nat),
    (∃ u3 : Int, (.int .i64 0 : Value) = .int .i64 u3 ∧ I1 u3 w) ∧
    ∀ e0 : Env, ∀ v4 : Int, ∀ w5 : World, I1 v4 w5 →
    (cond (decide ((v4 : Int) < (a.len : Int)))
    (∀ w6, Drew w5 w6 →
    ((0 : Int) ≤ v4 ∧ (v4 : Int) < (a.len : Int)) ∧ withSome a.a fun a7 =>
    ∃ y8 : Int, (okVal false 1 (.int .i64 y8) = true ∧ w6.cell? (Addr.add a7 (v4.toNat * 1)) = some (.int .i64 y8)) ∧
    ((0 : Int) ≤ v4 ∧ (v4 : Int) < (p1_.len : Int)) ∧ withSome p1_.a fun a9 =>
    ∃ y10 : Int, (okVal false 1 (.int .i64 y10) = true ∧ w6.cell? (Addr.add a9 (v4.toNat * 1)) = some (.int .i64 y10)) ∧
    (cond ((y8 : Int) != y10)
    (K (.bool false) w6)
    (∃ u11 : Int, (.int .i64 (IntKind.i64.wrap (v4 + 1)) : Value) = .int .i64 u11 ∧ (I1 u11 w6 ∧ M2 u11 w6 < M2 v4 w5))))
    (K (.bool true) w5))))
theorem skeplaw00_SameInts_of {a : Sl} {p1_ : Sl} {w : World} {K : Value → World → Prop} {KP : List PanicEntry → World → Prop} (h : W.skeplaw00_SameInts a p1_ w K KP) : C.skeplaw00_SameInts a p1_ w K KP :=
  xcall (E := E) (T := mkTab [(4, [(5, 3)])] [(4, [4, 5, 11, 12, 13, 14, 15, 16, 17, 18, 19, 20, 21, 22, 23, 24, 25])] [] [] [(6, [0, 1, 2, 3, 4, 5, 6, 7, 8])] [(6, [0, 0, 3, 7, 0, 0, 48, 112, 255])] []) (c := Try.f18.body.getD .skip) (rs := [.tmp 4]) ⟨⟩ mixed Try.func18 (by kernel_rfl) (by kernel_rfl) [.slice a.a a.len a.cap, .slice p1_.a p1_.len p1_.cap] (by kernel_rfl) (by kernel_rfl) (.inr (by kernel_rfl)) (Eq.mp (by kernel_rfl) h)

def W.kinem_Kin_Profile (k : (Option Addr)) (n : Int) (w : World) (K : Value → World → Prop) (KP : List PanicEntry → World → Prop) : Prop :=
   C.kinem_Kin_places k n w (fun r3 w1 => ∃ p2 : Sl, r3 = .slice p2.a p2.len p2.cap ∧
    ∃ (q4 : Option Addr) (n5 c6 : Nat) (w7 : World), (Builtin.append_ #[33, 33] 33 #[.slice none 0 0, .slice p2.a p2.len p2.cap]).run Try.prog w1 = .ok (.slice q4 n5 c6) w7 ∧
    K (.slice q4 n5 c6) w7) KP
theorem kinem_Kin_Profile_of {k : (Option Addr)} {n : Int} {w : World} {K : Value → World → Prop} {KP : List PanicEntry → World → Prop} (h : W.kinem_Kin_Profile k n w K KP) : C.kinem_Kin_Profile k n w K KP :=
  xcall (E := E) (T := mkTab [] [] [] [] [] [] []) (c := Try.f19.body.getD .skip) (rs := [.tmp 4]) ⟨⟩ mixed Try.func19 (by kernel_rfl) (by kernel_rfl) [.pointer k, .int .i64 n] (by kernel_rfl) (by kernel_rfl) (.inr (by kernel_rfl)) (Eq.mp (by kernel_rfl) h)

def W.skepref09_K_Profile (k : S.skepref09_K) (n : Int) (w : World) (K : Value → World → Prop) (KP : List PanicEntry → World → Prop) : Prop :=
   ∀ (b1 : Nat) (w2 : World), Alloc w b1 24 (S.skepref09_K.v k : Value).cells.toList w2 →
    (cond (decide ((n : Int) < 1))
    (K (.slice none 0 0) w2)
    ((cond (decide ((n : Int) > 16))
    (K (.slice none 0 0) w2)
    (∃ y3 : S.skepref09_K, (okVal true 3 (S.skepref09_K.v y3) = true ∧ rd w2 ⟨b1, 0, none⟩ (S.skepref09_K.v y3)) ∧
    C.skepref09_May y3 w2 (fun r6 w4 => ∃ p5 : Bool, r6 = .bool p5 ∧
    (cond (!p5)
    (K (.slice none 0 0) w4)
    (∃ (I7 : Sl → Int → Int → World → Prop) (M8 : Sl → Int → Int → World → Nat),
    (∃ u9 : Sl, (.slice none 0 0 : Value) = .slice u9.a u9.len u9.cap ∧ ∃ u10 : Int, (.int .i64 0 : Value) = .int .i64 u10 ∧ ∃ u11 : Int, (.int .i64 0 : Value) = .int .i64 u11 ∧ I7 u9 u10 u11 w4) ∧
    ∀ e0 : Env, ∀ v12 : Sl, ∀ v13 : Int, ∀ v14 : Int, ∀ w15 : World, I7 v12 v13 v14 w15 →
    ∃ y16 : Int, (okVal false 1 (.int .i64 y16) = true ∧ w15.cell? ⟨b1, 0, none⟩ = some (.int .i64 y16)) ∧
    (cond (decide ((v13 : Int) < (IntKind.i64.wrap (n * y16))))
    (∃ y17 : S.skepref09_K, (okVal true 3 (S.skepref09_K.v y17) = true ∧ rd w15 ⟨b1, 0, none⟩ (S.skepref09_K.v y17)) ∧
    ∃ y18 : Int, (okVal false 1 (.int .i64 y18) = true ∧ w15.cell? ⟨b1, 0, none⟩ = some (.int .i64 y18)) ∧
    ∃ y19 : Int, (okVal false 1 (.int .i64 y19) = true ∧ w15.cell? ⟨b1, 2, none⟩ = some (.int .i64 y19)) ∧
    C.skepref09_K_next y17 (IntKind.i64.wrap ((IntKind.i64.wrap (n * y18)) - v13)) v14 y19 w15 (fun r22 w20 => ∃ p21 : Int, r22 = .int .i64 p21 ∧
    ∀ (b23 : Nat) (w24 : World), Alloc w20 b23 3 [.int .i64 (IntKind.i64.wrap (v13 + p21))] w24 →
    ∃ (q25 : Option Addr) (n26 c27 : Nat) (w28 : World), (Builtin.append_ #[33, 33] 33 #[.slice v12.a v12.len v12.cap, .slice (some ⟨b23, 0, none⟩) 1 1]).run Try.prog w24 = .ok (.slice q25 n26 c27) w28 ∧
    ∃ u29 : Sl, (.slice q25 n26 c27 : Value) = .slice u29.a u29.len u29.cap ∧ ∃ u30 : Int, (.int .i64 (IntKind.i64.wrap (v13 + p21)) : Value) = .int .i64 u30 ∧ ∃ u31 : Int, (.int .i64 p21 : Value) = .int .i64 u31 ∧ (I7 u29 u30 u31 w28 ∧ M8 u29 u30 u31 w28 < M8 v12 v13 v14 w15)) KP)
    (K (.slice v12.a v12.len v12.cap) w15))))) KP))))
theorem skepref09_K_Profile_of {k : S.skepref09_K} {n : Int} {w : World} {K : Value → World → Prop} {KP : List PanicEntry → World → Prop} (h : W.skepref09_K_Profile k n w K KP) : C.skepref09_K_Profile k n w K KP :=
  xcall (E := E) (T := mkTab [(6, [(5, 33), (6, 3), (7, 3)])] [(6, [5, 6, 7, 19, 20, 21, 22, 23, 24, 25, 26, 27, 28, 29, 30, 31, 32, 33, 34, 35, 36, 37, 38, 39, 40, 41, 42])] [] [] [] [] []) (c := Try.f20.body.getD .skip) (rs := [.tmp 4]) ⟨⟩ mixed Try.func20 (by kernel_rfl) (by kernel_rfl) [S.skepref09_K.v k, .int .i64 n] (by kernel_rfl) (by kernel_rfl) (.inr (by kernel_rfl)) (Eq.mp (by kernel_rfl) h)

def W.kinem_Kin_Time (k : (Option Addr)) (n : Int) (w : World) (K : Value → World → Prop) (KP : List PanicEntry → World → Prop) : Prop :=
   C.kinem_Kin_places k n w (fun r3 w1 => ∃ p2 : Sl, r3 = .slice p2.a p2.len p2.cap ∧
    K (.int .i64 (p2.len : Int)) w1) KP
theorem kinem_Kin_Time_of {k : (Option Addr)} {n : Int} {w : World} {K : Value → World → Prop} {KP : List PanicEntry → World → Prop} (h : W.kinem_Kin_Time k n w K KP) : C.kinem_Kin_Time k n w K KP :=
  xcall (E := E) (T := mkTab [] [] [] [] [] [] []) (c := Try.f21.body.getD .skip) (rs := [.tmp 4]) ⟨⟩ mixed Try.func21 (by kernel_rfl) (by kernel_rfl) [.pointer k, .int .i64 n] (by kernel_rfl) (by kernel_rfl) (.inr (by kernel_rfl)) (Eq.mp (by kernel_rfl) h)

def W.skepref09_K_Time (k : S.skepref09_K) (n : Int) (w : World) (K : Value → World → Prop) (KP : List PanicEntry → World → Prop) : Prop :=
   ∀ (b1 : Nat) (w2 : World), Alloc w b1 24 (S.skepref09_K.v k : Value).cells.toList w2 →
    ∃ y3 : S.skepref09_K, (okVal true 3 (S.skepref09_K.v y3) = true ∧ rd w2 ⟨b1, 0, none⟩ (S.skepref09_K.v y3)) ∧
    C.skepref09_K_Profile y3 n w2 (fun r6 w4 => ∃ p5 : Sl, r6 = .slice p5.a p5.len p5.cap ∧
    K (.int .i64 (p5.len : Int)) w4) KP
theorem skepref09_K_Time_of {k : S.skepref09_K} {n : Int} {w : World} {K : Value → World → Prop} {KP : List PanicEntry → World → Prop} (h : W.skepref09_K_Time k n w K KP) : C.skepref09_K_Time k n w K KP :=
  xcall (E := E) (T := mkTab [] [] [] [] [] [] []) (c := Try.f22.body.getD .skip) (rs := [.tmp 4]) ⟨⟩ mixed Try.func22 (by kernel_rfl) (by kernel_rfl) [S.skepref09_K.v k, .int .i64 n] (by kernel_rfl) (by kernel_rfl) (.inr (by kernel_rfl)) (Eq.mp (by kernel_rfl) h)

def W.kinem_Kin_At (k : (Option Addr)) (n : Int) (t : Int) (w : World) (K : Value → World → Prop) (KP : List PanicEntry → World → Prop) : Prop :=
   C.kinem_Kin_places k n w (fun r3 w1 => ∃ p2 : Sl, r3 = .slice p2.a p2.len p2.cap ∧
    (cond (decide ((t : Int) < 1))
    (K (.int .i64 0) w1)
    ((cond (((p2.len : Int) : Int) == 0)
    (K (.int .i64 0) w1)
    (((0 : Int) ≤ (IntKind.i64.wrap ((if ((p2.len : Int) : Int) < t then (p2.len : Int) else t) - 1)) ∧ ((IntKind.i64.wrap ((if ((p2.len : Int) : Int) < t then (p2.len : Int) else t) - 1)) : Int) < (p2.len : Int)) ∧ withSome p2.a fun a4 =>
    ∃ y5 : Int, (okVal false 1 (.int .i64 y5) = true ∧ w1.cell? (Addr.add a4 ((IntKind.i64.wrap ((if ((p2.len : Int) : Int) < t then (p2.len : Int) else t) - 1)).toNat * 1)) = some (.int .i64 y5)) ∧
    K (.int .i64 y5) w1))))) KP
theorem kinem_Kin_At_of {k : (Option Addr)} {n : Int} {t : Int} {w : World} {K : Value → World → Prop} {KP : List PanicEntry → World → Prop} (h : W.kinem_Kin_At k n t w K KP) : C.kinem_Kin_At k n t w K KP :=
  xcall (E := E) (T := mkTab [] [] [] [] [] [] []) (c := Try.f23.body.getD .skip) (rs := [.tmp 6]) ⟨⟩ mixed Try.func23 (by kernel_rfl) (by kernel_rfl) [.pointer k, .int .i64 n, .int .i64 t] (by kernel_rfl) (by kernel_rfl) (.inr (by kernel_rfl)) (Eq.mp (by kernel_rfl) h)

def W.skepref09_K_At (k : S.skepref09_K) (n : Int) (t : Int) (w : World) (K : Value → World → Prop) (KP : List PanicEntry → World → Prop) : Prop :=
   ∀ (b1 : Nat) (w2 : World), Alloc w b1 24 (S.skepref09_K.v k : Value).cells.toList w2 →
    ∃ y3 : S.skepref09_K, (okVal true 3 (S.skepref09_K.v y3) = true ∧ rd w2 ⟨b1, 0, none⟩ (S.skepref09_K.v y3)) ∧
    C.skepref09_K_Profile y3 n w2 (fun r6 w4 => ∃ p5 : Sl, r6 = .slice p5.a p5.len p5.cap ∧
    (cond (decide ((t : Int) < 1))
    (K (.int .i64 0) w4)
    ((cond (((p5.len : Int) : Int) == 0)
    (K (.int .i64 0) w4)
    ((cond (decide ((t : Int) ≥ (p5.len : Int)))
    (∃ y7 : Int, (okVal false 1 (.int .i64 y7) = true ∧ w4.cell? ⟨b1, 0, none⟩ = some (.int .i64 y7)) ∧
    K (.int .i64 (IntKind.i64.wrap (n * y7))) w4)
    (((0 : Int) ≤ (IntKind.i64.wrap (t - 1)) ∧ ((IntKind.i64.wrap (t - 1)) : Int) < (p5.len : Int)) ∧ withSome p5.a fun a8 =>
    ∃ y9 : Int, (okVal false 1 (.int .i64 y9) = true ∧ w4.cell? (Addr.add a8 ((IntKind.i64.wrap (t - 1)).toNat * 1)) = some (.int .i64 y9)) ∧
    K (.int .i64 y9) w4))))))) KP
theorem skepref09_K_At_of {k : S.skepref09_K} {n : Int} {t : Int} {w : World} {K : Value → World → Prop} {KP : List PanicEntry → World → Prop} (h : W.skepref09_K_At k n t w K KP) : C.skepref09_K_At k n t w K KP :=
  xcall (E := E) (T := mkTab [] [] [] [] [] [] []) (c := Try.f24.body.getD .skip) (rs := [.tmp 6]) ⟨⟩ mixed Try.func24 (by kernel_rfl) (by kernel_rfl) [S.skepref09_K.v k, .int .i64 n, .int .i64 t] (by kernel_rfl) (by kernel_rfl) (.inr (by kernel_rfl)) (Eq.mp (by kernel_rfl) h)

def W.kinem_Kin_Speed (k : (Option Addr)) (n : Int) (t : Int) (w : World) (K : Value → World → Prop) (KP : List PanicEntry → World → Prop) : Prop :=
   (cond (decide ((t : Int) < 1))
    (K (.int .i64 0) w)
    (C.kinem_Kin_At k n t w (fun r3 w1 => ∃ p2 : Int, r3 = .int .i64 p2 ∧
    C.kinem_Kin_At k n (IntKind.i64.wrap (t - 1)) w1 (fun r6 w4 => ∃ p5 : Int, r6 = .int .i64 p5 ∧
    K (.int .i64 (IntKind.i64.wrap (p2 - p5))) w4) KP) KP))
theorem kinem_Kin_Speed_of {k : (Option Addr)} {n : Int} {t : Int} {w : World} {K : Value → World → Prop} {KP : List PanicEntry → World → Prop} (h : W.kinem_Kin_Speed k n t w K KP) : C.kinem_Kin_Speed k n t w K KP :=
  xcall (E := E) (T := mkTab [] [] [] [] [] [] []) (c := Try.f25.body.getD .skip) (rs := [.tmp 6]) ⟨⟩ mixed Try.func25 (by kernel_rfl) (by kernel_rfl) [.pointer k, .int .i64 n, .int .i64 t] (by kernel_rfl) (by kernel_rfl) (.inr (by kernel_rfl)) (Eq.mp (by kernel_rfl) h)

def W.skepref09_K_Speed1 (k : S.skepref09_K) (n : Int) (t : Int) (w : World) (K : Value → World → Prop) (KP : List PanicEntry → World → Prop) : Prop :=
   ∀ (b1 : Nat) (w2 : World), Alloc w b1 24 (S.skepref09_K.v k : Value).cells.toList w2 →
    (cond (decide ((t : Int) < 1))
    (K (.int .i64 0) w2)
    (∀ w3, Drew w2 w3 →
    ∃ y4 : S.skepref09_K, (okVal true 3 (S.skepref09_K.v y4) = true ∧ rd w3 ⟨b1, 0, none⟩ (S.skepref09_K.v y4)) ∧
    ∃ y5 : S.skepref09_K, (okVal true 3 (S.skepref09_K.v y5) = true ∧ rd w3 ⟨b1, 0, none⟩ (S.skepref09_K.v y5)) ∧
    C.skepref09_K_At y4 n t w3 (fun r8 w6 => ∃ p7 : Int, r8 = .int .i64 p7 ∧
    (rd w6 ⟨b1, 0, none⟩ (S.skepref09_K.v y5)) ∧ C.skepref09_K_At y5 n (IntKind.i64.wrap (t - 1)) w6 (fun r11 w9 => ∃ p10 : Int, r11 = .int .i64 p10 ∧
    K (.int .i64 (IntKind.i64.wrap (p7 - p10))) w9) KP) KP))
theorem skepref09_K_Speed1_of {k : S.skepref09_K} {n : Int} {t : Int} {w : World} {K : Value → World → Prop} {KP : List PanicEntry → World → Prop} (h : W.skepref09_K_Speed1 k n t w K KP) : C.skepref09_K_Speed1 k n t w K KP :=
  xcall (E := E) (T := mkTab [] [] [] [] [(3, [0, 1, 2, 4, 5, 6, 7, 3, 8, 9, 10])] [(3, [0, 0, 0, 7, 0, 0, 0, 64, 255, 511, 1023])] []) (c := Try.f26.body.getD .skip) (rs := [.tmp 6]) ⟨⟩ mixed Try.func26 (by kernel_rfl) (by kernel_rfl) [S.skepref09_K.v k, .int .i64 n, .int .i64 t] (by kernel_rfl) (by kernel_rfl) (.inr (by kernel_rfl)) (Eq.mp (by kernel_rfl) h)

def W.skeplaw00_Place (v : Int) (n : Int) (w : World) (K : Value → World → Prop) (KP : List PanicEntry → World → Prop) : Prop :=
   (n : Int) ≠ 0 ∧ (cond (decide (((Int.tmod v n) : Int) < 0))
    (K (.int .i64 (IntKind.i64.wrap ((Int.tmod v n) + n))) w)
    (K (.int .i64 (Int.tmod v n)) w))
theorem skeplaw00_Place_of {v : Int} {n : Int} {w : World} {K : Value → World → Prop} {KP : List PanicEntry → World → Prop} (h : W.skeplaw00_Place v n w K KP) : C.skeplaw00_Place v n w K KP :=
  xcall (E := E) (T := mkTab [] [] [] [] [] [] []) (c := Try.f27.body.getD .skip) (rs := [.tmp 4]) ⟨⟩ mixed Try.func27 (by kernel_rfl) (by kernel_rfl) [.int .i64 v, .int .i64 n] (by kernel_rfl) (by kernel_rfl) (.inr (by kernel_rfl)) (Eq.mp (by kernel_rfl) h)

def W.kinem_Kin_Stop (k : (Option Addr)) (n : Int) (t : Int) (w : World) (K : Value → World → Prop) (KP : List PanicEntry → World → Prop) : Prop :=
   C.kinem_Kin_Time k n w (fun r3 w1 => ∃ p2 : Int, r3 = .int .i64 p2 ∧
    (cond (decide ((t : Int) < 1))
    (K (.tuple #[.int .i64 0, .int .i64 0]) w1)
    ((cond ((p2 : Int) == 0)
    (K (.tuple #[.int .i64 0, .int .i64 0]) w1)
    ((cond (decide ((t : Int) ≥ p2))
    (K (.tuple #[.int .i64 n, .int .i64 0]) w1)
    (C.kinem_Kin_At k n t w1 (fun r6 w4 => ∃ p5 : Int, r6 = .int .i64 p5 ∧
    C.kinem_Kin_Speed k n t w4 (fun r9 w7 => ∃ p8 : Int, r9 = .int .i64 p8 ∧
    ∀ w10, Drew w7 w10 →
    withSome k fun a11 =>
    ∃ y12 : Int, (okVal false 1 (.int .i64 y12) = true ∧ w10.cell? a11 = some (.int .i64 y12)) ∧
    withSome k fun a13 =>
    ∃ y14 : Int, (okVal false 1 (.int .i64 y14) = true ∧ w10.cell? a13 = some (.int .i64 y14)) ∧
    C.kinem_Kin_Brake k p8 w10 (fun r17 w15 => ∃ p16 : Int, r17 = .int .i64 p16 ∧
    (w15.cell? a13 = some (.int .i64 y14)) ∧ (w15.cell? a11 = some (.int .i64 y12)) ∧ (y14 : Int) ≠ 0 ∧ ∀ (b18 : Nat) (w19 : World), Alloc w15 b18 3 [.int .i64 0] w19 →
    (okVal false 1 (.int .i64 0) = true ∧ canPut w19 ⟨b18, 0, none⟩ (.int .i64 0)) ∧ ∀ w20 : World, w20 = putAt w19 ⟨b18, 0, none⟩ (.int .i64 0) →
    withSome k fun a21 =>
    ∃ y22 : Int, (okVal false 1 (.int .i64 y22) = true ∧ w20.cell? a21 = some (.int .i64 y22)) ∧
    C.kinem_Kin_steps k p5 p8 (IntKind.i64.wrap ((IntKind.i64.wrap (Int.tdiv (IntKind.i64.wrap ((IntKind.i64.wrap ((IntKind.i64.wrap (p5 + p16)) + y12)) - 1)) y14)) * y22)) true w20 (fun r25 w23 => ∃ p24 : Value, r25 = p24 ∧
    ∀ (D26 L27 : Nat) (lr28 : LoopState → Option Code → Obj) (w29 : World), RFstart w23 D26 L27 lr28 w29 →
    ∀ y30 : Value, (∀ x33 : Int, ∀ (W31 : World) (RR32 : Value → World → Prop), W31.heap[L27]? = some (lr28 .ready none) →
    (W31.heap[L27]? = some (lr28 .ready none) ∧ ∀ w34 : World, w34 = W31.putObj L27 (lr28 .busy none) →
    ∃ y35 : Int, (okVal false 1 (.int .i64 y35) = true ∧ w34.cell? ⟨b18, 0, none⟩ = some (.int .i64 y35)) ∧
    (okVal false 1 (.int .i64 (IntKind.i64.wrap (y35 + 1))) = true ∧ canPut w34 ⟨b18, 0, none⟩ (.int .i64 (IntKind.i64.wrap (y35 + 1)))) ∧ ∀ w36 : World, w36 = putAt w34 ⟨b18, 0, none⟩ (.int .i64 (IntKind.i64.wrap (y35 + 1))) →
    w36.heap[L27]? = some (lr28 .busy none) ∧ ∀ w37 : World, w37 = w36.putObj L27 (lr28 .ready none) → RR32 (.bool true) w37) →
    callV Try.prog y30 [.int .i64 x33] W31 (Ret RR32 fun _ _ => False)) →
    callF Try.prog p24 [y30] w29 (Ret (fun r38 w39 => ∃ (st41 : LoopState) (jump42 : Option Code), w39.heap[L27]? = some (lr28 st41 jump42) ∧ st41 ≠ .busy ∧ ∀ w40 : World, w40 = w39.putObj L27 (lr28 .exhausted jump42) →
    (match jump42 with
    | none => ∀ w43, Drew w40 w43 →
    ∃ y44 : Int, (okVal false 1 (.int .i64 y44) = true ∧ w43.cell? ⟨b18, 0, none⟩ = some (.int .i64 y44)) ∧
    xleave Try.prog [markD D26] .returning w43 (xendF (fun w45 => K (.tuple #[.int .i64 (IntKind.i64.wrap (Int.tdiv (IntKind.i64.wrap ((IntKind.i64.wrap ((IntKind.i64.wrap (p5 + p16)) + y12)) - 1)) y14)), .int .i64 y44]) w45) KP)
    | some (.exit i46) => (cond (Nat.beq i46 1)
    (∀ w47, Drew w40 w47 →
    ∃ y48 : Int, (okVal false 1 (.int .i64 y48) = true ∧ w47.cell? ⟨b18, 0, none⟩ = some (.int .i64 y48)) ∧
    xleave Try.prog [markD D26] .returning w47 (xendF (fun w49 => K (.tuple #[.int .i64 (IntKind.i64.wrap (Int.tdiv (IntKind.i64.wrap ((IntKind.i64.wrap ((IntKind.i64.wrap (p5 + p16)) + y12)) - 1)) y14)), .int .i64 y48]) w49) KP))
    (False))
    | some .ret => xleave Try.prog [markD D26] .returning w40 (xendF (fun w50 => K (.tuple #[.int .i64 0, .int .i64 0]) w50) KP)
    | _ => False)) (fun ch51 w52 => xleave Try.prog [markD D26] (.panicking ch51) w52 (xendF (fun w53 => K (.tuple #[.int .i64 0, .int .i64 0]) w53) KP)))) KP) KP) KP) KP))))))) KP
theorem kinem_Kin_Stop_of {k : (Option Addr)} {n : Int} {t : Int} {w : World} {K : Value → World → Prop} {KP : List PanicEntry → World → Prop} (h : W.kinem_Kin_Stop k n t w K KP) : C.kinem_Kin_Stop k n t w K KP :=
  xcall (E := E) (T := mkTab [(1000010, [(62, 3)])] [(1000010, [])] [] [] [(7, [0, 1, 2, 5, 6, 7, 8, 11, 12, 13, 14, 3, 4, 9, 10, 15, 16]), (11, [0, 1, 2, 3])] [(7, [0, 0, 0, 6, 15, 0, 32, 96, 224, 511, 1023, 0, 2048, 6144, 14336, 32767, 65535]), (11, [0, 0, 1, 7])] []) (c := Try.f28.body.getD .skip) (rs := [.tmp 6, .tmp 7]) ⟨⟩ mixed Try.func28 (by kernel_rfl) (by kernel_rfl) [.pointer k, .int .i64 n, .int .i64 t] (by kernel_rfl) (by kernel_rfl) (.inr (by kernel_rfl)) (Eq.mp (by kernel_rfl) h)

def W.skepref09_K_Stop (k : S.skepref09_K) (n : Int) (t : Int) (w : World) (K : Value → World → Prop) (KP : List PanicEntry → World → Prop) : Prop :=
   ∀ (b1 : Nat) (w2 : World), Alloc w b1 24 (S.skepref09_K.v k : Value).cells.toList w2 →
    ∃ y3 : S.skepref09_K, (okVal true 3 (S.skepref09_K.v y3) = true ∧ rd w2 ⟨b1, 0, none⟩ (S.skepref09_K.v y3)) ∧
    C.skepref09_K_Profile y3 n w2 (fun r6 w4 => ∃ p5 : Sl, r6 = .slice p5.a p5.len p5.cap ∧
    (cond (decide ((t : Int) < 1))
    (K (.tuple #[.int .i64 0, .int .i64 0]) w4)
    ((cond (((p5.len : Int) : Int) == 0)
    (K (.tuple #[.int .i64 0, .int .i64 0]) w4)
    ((cond (decide ((t : Int) ≥ (p5.len : Int)))
    (K (.tuple #[.int .i64 n, .int .i64 0]) w4)
    (∃ y7 : S.skepref09_K, (okVal true 3 (S.skepref09_K.v y7) = true ∧ rd w4 ⟨b1, 0, none⟩ (S.skepref09_K.v y7)) ∧
    C.skepref09_K_At y7 n t w4 (fun r10 w8 => ∃ p9 : Int, r10 = .int .i64 p9 ∧
    ∃ y11 : S.skepref09_K, (okVal true 3 (S.skepref09_K.v y11) = true ∧ rd w8 ⟨b1, 0, none⟩ (S.skepref09_K.v y11)) ∧
    C.skepref09_K_Speed1 y11 n t w8 (fun r14 w12 => ∃ p13 : Int, r14 = .int .i64 p13 ∧
    ∀ w15, Drew w12 w15 →
    ∃ y16 : S.skepref09_K, (okVal true 3 (S.skepref09_K.v y16) = true ∧ rd w15 ⟨b1, 0, none⟩ (S.skepref09_K.v y16)) ∧
    ∃ y17 : Int, (okVal false 1 (.int .i64 y17) = true ∧ w15.cell? ⟨b1, 0, none⟩ = some (.int .i64 y17)) ∧
    ∃ y18 : Int, (okVal false 1 (.int .i64 y18) = true ∧ w15.cell? ⟨b1, 0, none⟩ = some (.int .i64 y18)) ∧
    C.skepref09_K_brake y16 p13 w15 (fun r21 w19 => ∃ p20 : Int, r21 = .int .i64 p20 ∧
    (w19.cell? ⟨b1, 0, none⟩ = some (.int .i64 y18)) ∧ (w19.cell? ⟨b1, 0, none⟩ = some (.int .i64 y17)) ∧ (y18 : Int) ≠ 0 ∧ ∃ (I22 : Int → Int → Int → World → Prop) (M23 : Int → Int → Int → World → Nat),
    (∃ u24 : Int, (.int .i64 p9 : Value) = .int .i64 u24 ∧ ∃ u25 : Int, (.int .i64 p13 : Value) = .int .i64 u25 ∧ ∃ u26 : Int, (.int .i64 0 : Value) = .int .i64 u26 ∧ I22 u24 u25 u26 w19) ∧
    ∀ e0 : Env, ∀ v27 : Int, ∀ v28 : Int, ∀ v29 : Int, ∀ w30 : World, I22 v27 v28 v29 w30 →
    ∃ y31 : Int, (okVal false 1 (.int .i64 y31) = true ∧ w30.cell? ⟨b1, 0, none⟩ = some (.int .i64 y31)) ∧
    (cond (decide ((v27 : Int) < (IntKind.i64.wrap ((IntKind.i64.wrap (Int.tdiv (IntKind.i64.wrap ((IntKind.i64.wrap ((IntKind.i64.wrap (p9 + p20)) + y17)) - 1)) y18)) * y31))))
    (∃ y32 : S.skepref09_K, (okVal true 3 (S.skepref09_K.v y32) = true ∧ rd w30 ⟨b1, 0, none⟩ (S.skepref09_K.v y32)) ∧
    ∃ y33 : Int, (okVal false 1 (.int .i64 y33) = true ∧ w30.cell? ⟨b1, 0, none⟩ = some (.int .i64 y33)) ∧
    C.skepref09_K_next y32 (IntKind.i64.wrap ((IntKind.i64.wrap ((IntKind.i64.wrap (Int.tdiv (IntKind.i64.wrap ((IntKind.i64.wrap ((IntKind.i64.wrap (p9 + p20)) + y17)) - 1)) y18)) * y33)) - v27)) v28 v28 w30 (fun r36 w34 => ∃ p35 : Int, r36 = .int .i64 p35 ∧
    ∃ u37 : Int, (.int .i64 (IntKind.i64.wrap (v27 + p35)) : Value) = .int .i64 u37 ∧ ∃ u38 : Int, (.int .i64 p35 : Value) = .int .i64 u38 ∧ ∃ u39 : Int, (.int .i64 (IntKind.i64.wrap (v29 + 1)) : Value) = .int .i64 u39 ∧ (I22 u37 u38 u39 w34 ∧ M23 u37 u38 u39 w34 < M23 v27 v28 v29 w30)) KP)
    (K (.tuple #[.int .i64 (IntKind.i64.wrap (Int.tdiv (IntKind.i64.wrap ((IntKind.i64.wrap ((IntKind.i64.wrap (p9 + p20)) + y17)) - 1)) y18)), .int .i64 v29]) w30))) KP) KP) KP))))))) KP
theorem skepref09_K_Stop_of {k : S.skepref09_K} {n : Int} {t : Int} {w : World} {K : Value → World → Prop} {KP : List PanicEntry → World → Prop} (h : W.skepref09_K_Stop k n t w K KP) : C.skepref09_K_Stop k n t w K KP :=
  xcall (E := E) (T := mkTab [(10, [(9, 3), (10, 3), (12, 3)])] [(10, [9, 10, 12, 48, 49, 50, 51, 52, 53, 54, 55, 56, 57, 58, 59, 60, 61, 62, 63, 64, 65, 66, 67, 68])] [] [] [(8, [0, 1, 2, 5, 6, 9, 10, 3, 4, 7, 8, 11, 12])] [(8, [0, 0, 0, 6, 15, 0, 32, 127, 255, 0, 512, 2047, 4095])] []) (c := Try.f29.body.getD .skip) (rs := [.tmp 6, .tmp 7]) ⟨⟩ mixed Try.func29 (by kernel_rfl) (by kernel_rfl) [S.skepref09_K.v k, .int .i64 n, .int .i64 t] (by kernel_rfl) (by kernel_rfl) (.inr (by kernel_rfl)) (Eq.mp (by kernel_rfl) h)

def W.kinem_Kin_Windows (k : (Option Addr)) (n : Int) (length : Int) (w : World) (K : Value → World → Prop) (KP : List PanicEntry → World → Prop) : Prop :=
   C.kinem_Kin_Time k n w (fun r3 w1 => ∃ p2 : Int, r3 = .int .i64 p2 ∧
    (cond ((p2 : Int) == 0)
    (K (.slice none 0 0) w1)
    ((cond (decide ((length : Int) < 1))
    (K (.slice none 0 0) w1)
    ((cond (decide ((length : Int) > 2))
    (K (.slice none 0 0) w1)
    (((0 : Int) ≤ (IntKind.i64.wrap (n + length)) ∧ ((IntKind.i64.wrap (n + length)) : Int) ≤ (IntKind.i64.wrap (n + length)) ∧ (16 : Int) * (IntKind.i64.wrap (n + length)) ≤ 281474976710656 ∧ ((IntKind.i64.wrap (n + length)) : Int) ≤ 9223372036854775807) ∧ ∀ (b4 : Nat) (w5 : World), Alloc w1 b4 41 (madeCells #[.int .i64 0, .int .i64 0] ((IntKind.i64.wrap (n + length)).toNat * 2)).toList w5 →
    ∃ (I6 : Int → World → Prop) (M7 : Int → World → Nat),
    (∃ u8 : Int, (.int .i64 0 : Value) = .int .i64 u8 ∧ I6 u8 w5) ∧
    ∀ e0 : Env, ∀ v9 : Int, ∀ w10 : World, I6 v9 w10 →
    (cond (decide ((v9 : Int) < ((IntKind.i64.wrap (n + length)).toNat : Int)))
    (∃ (I11 : Bool → Int → World → Prop) (M12 : Bool → Int → World → Nat),
    (∃ u13 : Bool, (.bool false : Value) = .bool u13 ∧ ∃ u14 : Int, (.int .i64 0 : Value) = .int .i64 u14 ∧ I11 u13 u14 w10) ∧
    ∀ e0 : Env, ∀ v15 : Bool, ∀ v16 : Int, ∀ w17 : World, I11 v15 v16 w17 →
    (cond (decide ((v16 : Int) < p2))
    (∀ w18, Drew w17 w18 →
    withSome k fun a19 =>
    ∃ y20 : Int, (okVal false 1 (.int .i64 y20) = true ∧ w18.cell? a19 = some (.int .i64 y20)) ∧
    C.kinem_Kin_At k n v16 w18 (fun r23 w21 => ∃ p22 : Int, r23 = .int .i64 p22 ∧
    (w21.cell? a19 = some (.int .i64 y20)) ∧ C.kinem_Kin_At k n (IntKind.i64.wrap (v16 + 1)) w21 (fun r26 w24 => ∃ p25 : Int, r26 = .int .i64 p25 ∧
    (w24.cell? a19 = some (.int .i64 y20)) ∧ withSome k fun a27 =>
    ∃ y28 : Int, (okVal false 1 (.int .i64 y28) = true ∧ w24.cell? a27 = some (.int .i64 y28)) ∧
    (cond (decide ((p22 : Int) ≥ (IntKind.i64.wrap ((IntKind.i64.wrap (v9 + 1)) * y28))))
    (∃ u29 : Bool, (.bool v15 : Value) = .bool u29 ∧ ∃ u30 : Int, (.int .i64 (IntKind.i64.wrap (v16 + 1)) : Value) = .int .i64 u30 ∧ (I11 u29 u30 w24 ∧ M12 u29 u30 w24 < M12 v15 v16 w17))
    (withSome k fun a31 =>
    ∃ y32 : Int, (okVal false 1 (.int .i64 y32) = true ∧ w24.cell? a31 = some (.int .i64 y32)) ∧
    (cond (decide (((IntKind.i64.wrap (p25 + (IntKind.i64.wrap (length * y20)))) : Int) ≤ (IntKind.i64.wrap (v9 * y32))))
    (∃ u33 : Bool, (.bool v15 : Value) = .bool u33 ∧ ∃ u34 : Int, (.int .i64 (IntKind.i64.wrap (v16 + 1)) : Value) = .int .i64 u34 ∧ (I11 u33 u34 w24 ∧ M12 u33 u34 w24 < M12 v15 v16 w17))
    ((cond (!v15)
    (((0 : Int) ≤ v9 ∧ (v9 : Int) < ((IntKind.i64.wrap (n + length)).toNat : Int)) ∧ ((0 : Int) ≤ 0 ∧ (0 : Int) < (2 : Int)) ∧ (okVal false 1 (.int .i64 v16) = true ∧ canPut w24 (Addr.add ⟨b4, 0, none⟩ (v9.toNat * 2)) (.int .i64 v16)) ∧ ∀ w35 : World, w35 = putAt w24 (Addr.add ⟨b4, 0, none⟩ (v9.toNat * 2)) (.int .i64 v16) →
    ((0 : Int) ≤ v9 ∧ (v9 : Int) < ((IntKind.i64.wrap (n + length)).toNat : Int)) ∧ ((0 : Int) ≤ 1 ∧ (1 : Int) < (2 : Int)) ∧ (okVal false 1 (.int .i64 (IntKind.i64.wrap (v16 + 1))) = true ∧ canPut w35 (Addr.add (Addr.add ⟨b4, 0, none⟩ (v9.toNat * 2)) 1) (.int .i64 (IntKind.i64.wrap (v16 + 1)))) ∧ ∀ w36 : World, w36 = putAt w35 (Addr.add (Addr.add ⟨b4, 0, none⟩ (v9.toNat * 2)) 1) (.int .i64 (IntKind.i64.wrap (v16 + 1))) →
    ∃ u37 : Bool, (.bool true : Value) = .bool u37 ∧ ∃ u38 : Int, (.int .i64 (IntKind.i64.wrap (v16 + 1)) : Value) = .int .i64 u38 ∧ (I11 u37 u38 w36 ∧ M12 u37 u38 w36 < M12 v15 v16 w17))
    (((0 : Int) ≤ v9 ∧ (v9 : Int) < ((IntKind.i64.wrap (n + length)).toNat : Int)) ∧ ((0 : Int) ≤ 1 ∧ (1 : Int) < (2 : Int)) ∧ (okVal false 1 (.int .i64 (IntKind.i64.wrap (v16 + 1))) = true ∧ canPut w24 (Addr.add (Addr.add ⟨b4, 0, none⟩ (v9.toNat * 2)) 1) (.int .i64 (IntKind.i64.wrap (v16 + 1)))) ∧ ∀ w39 : World, w39 = putAt w24 (Addr.add (Addr.add ⟨b4, 0, none⟩ (v9.toNat * 2)) 1) (.int .i64 (IntKind.i64.wrap (v16 + 1))) →
    ∃ u40 : Bool, (.bool v15 : Value) = .bool u40 ∧ ∃ u41 : Int, (.int .i64 (IntKind.i64.wrap (v16 + 1)) : Value) = .int .i64 u41 ∧ (I11 u40 u41 w39 ∧ M12 u40 u41 w39 < M12 v15 v16 w17)))))))) KP) KP)
    (∃ u42 : Int, (.int .i64 (IntKind.i64.wrap (v9 + 1)) : Value) = .int .i64 u42 ∧ (I6 u42 w17 ∧ M7 u42 w17 < M7 v9 w10))))
    (K (.slice (some ⟨b4, 0, none⟩) ((IntKind.i64.wrap (n + length)).toNat) ((IntKind.i64.wrap (n + length)).toNat)) w10))))))))) KP
theorem kinem_Kin_Windows_of {k : (Option Addr)} {n : Int} {length : Int} {w : World} {K : Value → World → Prop} {KP : List PanicEntry → World → Prop} (h : W.kinem_Kin_Windows k n length w K KP) : C.kinem_Kin_Windows k n length w K KP :=
  xcall (E := E) (T := mkTab [(6, [(33, 3)]), (10, [(10, 4), (37, 3)])] [(6, [9, 10, 11, 12, 13, 33, 34, 35, 36, 37, 38, 39, 40, 41, 42, 43, 44, 45, 46, 47, 48, 49, 50, 51, 52, 53, 54, 55, 56, 57, 58, 59, 60, 61, 62, 63, 64, 65, 66, 67, 68, 69, 70, 71, 72, 73, 74, 75, 76, 77, 78, 79, 80, 81, 82, 83, 84, 85, 86, 87, 88, 89]), (10, [10, 11, 12, 13, 37, 38, 39, 40, 41, 42, 43, 44, 45, 46, 47, 48, 49, 50, 51, 52, 53, 54, 55, 56, 57, 58, 59, 60, 61, 62, 63, 64, 65, 66, 67, 68, 69, 70, 71, 72, 73, 74, 75, 76, 77, 78, 79, 80, 81, 82, 83, 84, 85, 86, 87, 88])] [] [] [(12, [0, 1, 2, 4, 5, 6, 7, 9, 10, 11, 12, 13, 14, 3, 8, 15, 16, 17])] [(12, [0, 0, 0, 7, 0, 0, 0, 64, 255, 0, 0, 1024, 3072, 7168, 15872, 32767, 511, 131071])] []) (c := Try.f30.body.getD .skip) (rs := [.tmp 6]) ⟨⟩ mixed Try.func30 (by kernel_rfl) (by kernel_rfl) [.pointer k, .int .i64 n, .int .i64 length] (by kernel_rfl) (by kernel_rfl) (.inr (by kernel_rfl)) (Eq.mp (by kernel_rfl) h)

def W.skepref09_K_Windows (k : S.skepref09_K) (n : Int) (length : Int) (w : World) (K : Value → World → Prop) (KP : List PanicEntry → World → Prop) : Prop :=
   ∀ (b1 : Nat) (w2 : World), Alloc w b1 24 (S.skepref09_K.v k : Value).cells.toList w2 →
    ∃ y3 : S.skepref09_K, (okVal true 3 (S.skepref09_K.v y3) = true ∧ rd w2 ⟨b1, 0, none⟩ (S.skepref09_K.v y3)) ∧
    C.skepref09_K_Profile y3 n w2 (fun r6 w4 => ∃ p5 : Sl, r6 = .slice p5.a p5.len p5.cap ∧
    (cond (((p5.len : Int) : Int) == 0)
    (K (.slice none 0 0) w4)
    ((cond (decide ((length : Int) < 1))
    (K (.slice none 0 0) w4)
    ((cond (decide ((length : Int) > 2))
    (K (.slice none 0 0) w4)
    (∃ (I7 : Sl → Int → World → Prop) (M8 : Sl → Int → World → Nat),
    (∃ u9 : Sl, (.slice none 0 0 : Value) = .slice u9.a u9.len u9.cap ∧ ∃ u10 : Int, (.int .i64 0 : Value) = .int .i64 u10 ∧ I7 u9 u10 w4) ∧
    ∀ e0 : Env, ∀ v11 : Sl, ∀ v12 : Int, ∀ w13 : World, I7 v11 v12 w13 →
    (cond (decide ((v12 : Int) < (IntKind.i64.wrap (n + length))))
    (∀ (b14 : Nat) (w15 : World), Alloc w13 b14 41 [.int .i64 0, .int .i64 0] w15 →
    (okVal true 2 (.agg #[.int .i64 (-1), .int .i64 (-1)]) = true ∧ canPut w15 ⟨b14, 0, none⟩ (.agg #[.int .i64 (-1), .int .i64 (-1)])) ∧ ∀ w16 : World, w16 = putAt w15 ⟨b14, 0, none⟩ (.agg #[.int .i64 (-1), .int .i64 (-1)]) →
    ∃ (I17 : Int → World → Prop) (M18 : Int → World → Nat),
    (∃ u19 : Int, (.int .i64 0 : Value) = .int .i64 u19 ∧ I17 u19 w16) ∧
    ∀ e0 : Env, ∀ v20 : Int, ∀ w21 : World, I17 v20 w21 →
    (cond (decide ((v20 : Int) < (p5.len : Int)))
    (∃ J22 : Int → World → Prop,
    ((cond (decide ((v20 : Int) > 0))
    (((0 : Int) ≤ (IntKind.i64.wrap (v20 - 1)) ∧ ((IntKind.i64.wrap (v20 - 1)) : Int) < (p5.len : Int)) ∧ withSome p5.a fun a23 =>
    ∃ y24 : Int, (okVal false 1 (.int .i64 y24) = true ∧ w21.cell? (Addr.add a23 ((IntKind.i64.wrap (v20 - 1)).toNat * 1)) = some (.int .i64 y24)) ∧
    ∃ u25 : Int, (.int .i64 y24 : Value) = .int .i64 u25 ∧ J22 u25 w21)
    (∃ u26 : Int, (.int .i64 0 : Value) = .int .i64 u26 ∧ J22 u26 w21))) ∧
    ∀ e0 : Env, ∀ v27 : Int, ∀ w28 : World, J22 v27 w28 →
    ∀ w29, Drew w28 w29 →
    ((0 : Int) ≤ v20 ∧ (v20 : Int) < (p5.len : Int)) ∧ withSome p5.a fun a30 =>
    ∃ y31 : Int, (okVal false 1 (.int .i64 y31) = true ∧ w29.cell? (Addr.add a30 (v20.toNat * 1)) = some (.int .i64 y31)) ∧
    ∃ y32 : Int, (okVal false 1 (.int .i64 y32) = true ∧ w29.cell? ⟨b1, 0, none⟩ = some (.int .i64 y32)) ∧
    ∃ y33 : Int, (okVal false 1 (.int .i64 y33) = true ∧ w29.cell? ⟨b1, 0, none⟩ = some (.int .i64 y33)) ∧
    (cond (decide ((v27 : Int) < (IntKind.i64.wrap ((IntKind.i64.wrap (v12 + 1)) * y33))))
    (∃ y34 : Int, (okVal false 1 (.int .i64 y34) = true ∧ w29.cell? ⟨b1, 0, none⟩ = some (.int .i64 y34)) ∧
    (cond (decide (((IntKind.i64.wrap (v12 * y34)) : Int) < (IntKind.i64.wrap (y31 + (IntKind.i64.wrap (length * y32))))))
    (((0 : Int) ≤ 0 ∧ (0 : Int) < (2 : Int)) ∧ ∃ y35 : Int, (okVal false 1 (.int .i64 y35) = true ∧ w29.cell? ⟨b14, 0, none⟩ = some (.int .i64 y35)) ∧
    (cond (decide ((y35 : Int) < 0))
    (((0 : Int) ≤ 0 ∧ (0 : Int) < (2 : Int)) ∧ (okVal false 1 (.int .i64 v20) = true ∧ canPut w29 ⟨b14, 0, none⟩ (.int .i64 v20)) ∧ ∀ w36 : World, w36 = putAt w29 ⟨b14, 0, none⟩ (.int .i64 v20) →
    ((0 : Int) ≤ 1 ∧ (1 : Int) < (2 : Int)) ∧ (okVal false 1 (.int .i64 (IntKind.i64.wrap (v20 + 1))) = true ∧ canPut w36 ⟨b14, 1, none⟩ (.int .i64 (IntKind.i64.wrap (v20 + 1)))) ∧ ∀ w37 : World, w37 = putAt w36 ⟨b14, 1, none⟩ (.int .i64 (IntKind.i64.wrap (v20 + 1))) →
    ∃ u38 : Int, (.int .i64 (IntKind.i64.wrap (v20 + 1)) : Value) = .int .i64 u38 ∧ (I17 u38 w37 ∧ M18 u38 w37 < M18 v20 w21))
    (((0 : Int) ≤ 1 ∧ (1 : Int) < (2 : Int)) ∧ (okVal false 1 (.int .i64 (IntKind.i64.wrap (v20 + 1))) = true ∧ canPut w29 ⟨b14, 1, none⟩ (.int .i64 (IntKind.i64.wrap (v20 + 1)))) ∧ ∀ w39 : World, w39 = putAt w29 ⟨b14, 1, none⟩ (.int .i64 (IntKind.i64.wrap (v20 + 1))) →
    ∃ u40 : Int, (.int .i64 (IntKind.i64.wrap (v20 + 1)) : Value) = .int .i64 u40 ∧ (I17 u40 w39 ∧ M18 u40 w39 < M18 v20 w21))))
    (∃ u41 : Int, (.int .i64 (IntKind.i64.wrap (v20 + 1)) : Value) = .int .i64 u41 ∧ (I17 u41 w29 ∧ M18 u41 w29 < M18 v20 w21))))
    (∃ u42 : Int, (.int .i64 (IntKind.i64.wrap (v20 + 1)) : Value) = .int .i64 u42 ∧ (I17 u42 w29 ∧ M18 u42 w29 < M18 v20 w21))))
    (∃ y43 : S.Ar41, (okVal true 2 (S.Ar41.v y43) = true ∧ rd w21 ⟨b14, 0, none⟩ (S.Ar41.v y43)) ∧
    ∀ (b44 : Nat) (w45 : World), Alloc w21 b44 41 [.int .i64 y43.i0, .int .i64 y43.i1] w45 →
    ∃ (q46 : Option Addr) (n47 c48 : Nat) (w49 : World), (Builtin.append_ #[39, 39] 39 #[.slice v11.a v11.len v11.cap, .slice (some ⟨b44, 0, none⟩) 1 1]).run Try.prog w45 = .ok (.slice q46 n47 c48) w49 ∧
    ∃ u50 : Sl, (.slice q46 n47 c48 : Value) = .slice u50.a u50.len u50.cap ∧ ∃ u51 : Int, (.int .i64 (IntKind.i64.wrap (v12 + 1)) : Value) = .int .i64 u51 ∧ (I7 u50 u51 w49 ∧ M8 u50 u51 w49 < M8 v11 v12 w13))))
    (K (.slice v11.a v11.len v11.cap) w13))))))))) KP
theorem skepref09_K_Windows_of {k : S.skepref09_K} {n : Int} {length : Int} {w : World} {K : Value → World → Prop} {KP : List PanicEntry → World → Prop} (h : W.skepref09_K_Windows k n length w K KP) : C.skepref09_K_Windows k n length w K KP :=
  xcall (E := E) (T := mkTab [(6, [(8, 39), (9, 3)]), (10, [(11, 3)])] [(6, [8, 9, 10, 11, 12, 13, 28, 29, 30, 31, 32, 33, 34, 35, 36, 37, 38, 39, 40, 41, 42, 43, 44, 45, 46, 47, 48, 49, 50, 51, 52, 53, 54, 55, 56, 57, 58, 59, 60, 61, 62, 63, 64, 65, 66, 67, 68, 69, 70, 71, 72, 73, 74, 75, 76, 77, 78, 79, 80, 81, 82, 83, 84]), (10, [11, 12, 13, 36, 37, 38, 39, 40, 41, 42, 43, 44, 45, 46, 47, 48, 49, 50, 51, 52, 53, 54, 55, 56, 57, 58, 59, 60, 61, 62, 63, 64, 65, 66, 67, 68, 69, 70, 71, 72, 73, 74, 75, 76, 77, 78, 79, 80])] [(15, [(12, 3)])] [(15, [12, 42, 43, 44, 45, 46, 47, 48])] [(15, [0, 1, 2, 3, 4, 5, 6, 7, 8, 9])] [(15, [0, 0, 3, 7, 0, 0, 32, 112, 255, 511])] []) (c := Try.f31.body.getD .skip) (rs := [.tmp 6]) ⟨⟩ mixed Try.func31 (by kernel_rfl) (by kernel_rfl) [S.skepref09_K.v k, .int .i64 n, .int .i64 length] (by kernel_rfl) (by kernel_rfl) (.inr (by kernel_rfl)) (Eq.mp (by kernel_rfl) h)

def W.kinem_New (unit : Int) (accel : Int) (speed : Int) (w : World) (K : Value → World → Prop) (KP : List PanicEntry → World → Prop) : Prop :=
   ∃ (I1 : Int → World → Prop) (M2 : Int → World → Nat),
    (∃ u3 : Int, (.int .i64 0 : Value) = .int .i64 u3 ∧ I1 u3 w) ∧
    ∀ e0 : Env, ∀ v4 : Int, ∀ w5 : World, I1 v4 w5 →
    (cond (decide ((v4 : Int) < 3))
    (((0 : Int) ≤ v4 ∧ (v4 : Int) < (3 : Int)) ∧ ∃ y6 : Int, partV Try.prog 3 #[.int .i64 unit, .int .i64 accel, .int .i64 speed] (v4.toNat * 1) = some (.int .i64 y6) ∧
    (cond (decide ((y6 : Int) < 1))
    (K (.tuple #[.pointer none, .int .i64 1]) w5)
    ((cond (decide ((y6 : Int) > 1000))
    (K (.tuple #[.pointer none, .int .i64 1]) w5)
    (∃ u7 : Int, (.int .i64 (IntKind.i64.wrap (v4 + 1)) : Value) = .int .i64 u7 ∧ (I1 u7 w5 ∧ M2 u7 w5 < M2 v4 w5))))))
    (∀ (b8 : Nat) (w9 : World), Alloc w5 b8 62 [.int .i64 unit, .int .i64 accel, .int .i64 speed, .int .u32 0, .int .i32 0, .int .u32 0, .slice none 0 0, .int .u32 0, .int .i32 0, .int .u32 0, .slice none 0 0, .int .u32 0, .int .i32 0, .int .u32 0, .slice none 0 0, .int .u32 0, .int .i32 0, .int .u32 0, .slice none 0 0, .int .u32 0, .int .i32 0, .int .u32 0, .slice none 0 0, .int .u32 0, .int .i32 0, .int .u32 0, .slice none 0 0, .int .u32 0, .int .i32 0, .int .u32 0, .slice none 0 0, .int .u32 0, .int .i32 0, .int .u32 0, .slice none 0 0, .int .u32 0, .int .i32 0, .int .u32 0, .slice none 0 0, .int .u32 0, .int .i32 0, .int .u32 0, .slice none 0 0, .int .u32 0, .int .i32 0, .int .u32 0, .slice none 0 0, .int .u32 0, .int .i32 0, .int .u32 0, .slice none 0 0, .int .u32 0, .int .i32 0, .int .u32 0, .slice none 0 0, .int .u32 0, .int .i32 0, .int .u32 0, .slice none 0 0, .int .u32 0, .int .i32 0, .int .u32 0, .slice none 0 0, .int .u32 0, .int .i32 0, .int .u32 0, .slice none 0 0, .int .u32 0, .int .i32 0, .int .u32 0, .slice none 0 0] w9 →
    K (.tuple #[.pointer (some ⟨b8, 0, none⟩), .int .i64 0]) w9))
theorem kinem_New_of {unit : Int} {accel : Int} {speed : Int} {w : World} {K : Value → World → Prop} {KP : List PanicEntry → World → Prop} (h : W.kinem_New unit accel speed w K KP) : C.kinem_New unit accel speed w K KP :=
  xcall (E := E) (T := mkTab [(2, [(14, 3)])] [(2, [6, 7, 9, 14, 15, 16, 17, 18, 19, 20, 21, 22, 23])] [] [] [] [] []) (c := Try.f32.body.getD .skip) (rs := [.tmp 6, .tmp 7]) ⟨⟩ mixed Try.func32 (by kernel_rfl) (by kernel_rfl) [.int .i64 unit, .int .i64 accel, .int .i64 speed] (by kernel_rfl) (by kernel_rfl) (.inr (by kernel_rfl)) (Eq.mp (by kernel_rfl) h)

def W.skepref09_May (k : S.skepref09_K) (w : World) (K : Value → World → Prop) (KP : List PanicEntry → World → Prop) : Prop :=
   ∀ (b1 : Nat) (w2 : World), Alloc w b1 24 (S.skepref09_K.v k : Value).cells.toList w2 →
    ∃ y3 : Int, (okVal false 1 (.int .i64 y3) = true ∧ w2.cell? ⟨b1, 0, none⟩ = some (.int .i64 y3)) ∧
    (cond (decide ((y3 : Int) ≥ 1))
    (∃ y4 : Int, (okVal false 1 (.int .i64 y4) = true ∧ w2.cell? ⟨b1, 0, none⟩ = some (.int .i64 y4)) ∧
    (cond (decide ((y4 : Int) ≤ 1000))
    (∃ y5 : Int, (okVal false 1 (.int .i64 y5) = true ∧ w2.cell? ⟨b1, 1, none⟩ = some (.int .i64 y5)) ∧
    (cond (decide ((y5 : Int) ≥ 1))
    (∃ y6 : Int, (okVal false 1 (.int .i64 y6) = true ∧ w2.cell? ⟨b1, 1, none⟩ = some (.int .i64 y6)) ∧
    (cond (decide ((y6 : Int) ≤ 1000))
    (∃ y7 : Int, (okVal false 1 (.int .i64 y7) = true ∧ w2.cell? ⟨b1, 2, none⟩ = some (.int .i64 y7)) ∧
    (cond (decide ((y7 : Int) ≥ 1))
    (∃ y8 : Int, (okVal false 1 (.int .i64 y8) = true ∧ w2.cell? ⟨b1, 2, none⟩ = some (.int .i64 y8)) ∧
    K (.bool (decide ((y8 : Int) ≤ 1000))) w2)
    (K (.bool false) w2)))
    (K (.bool false) w2)))
    (K (.bool false) w2)))
    (K (.bool false) w2)))
    (K (.bool false) w2))
theorem skepref09_May_of {k : S.skepref09_K} {w : World} {K : Value → World → Prop} {KP : List PanicEntry → World → Prop} (h : W.skepref09_May k w K KP) : C.skepref09_May k w K KP :=
  xcall (E := E) (T := mkTab [] [] [] [] [] [] []) (c := Try.f33.body.getD .skip) (rs := [.tmp 2]) ⟨⟩ mixed Try.func33 (by kernel_rfl) (by kernel_rfl) [S.skepref09_K.v k] (by kernel_rfl) (by kernel_rfl) (.inr (by kernel_rfl)) (Eq.mp (by kernel_rfl) h)

def W.skepref09_K_brake (k : S.skepref09_K) (s : Int) (w : World) (K : Value → World → Prop) (KP : List PanicEntry → World → Prop) : Prop :=
   ∀ (b1 : Nat) (w2 : World), Alloc w b1 24 (S.skepref09_K.v k : Value).cells.toList w2 →
    ∃ y3 : Int, (okVal false 1 (.int .i64 y3) = true ∧ w2.cell? ⟨b1, 1, none⟩ = some (.int .i64 y3)) ∧
    ∃ (I4 : Int → Int → World → Prop) (M5 : Int → Int → World → Nat),
    (∃ u6 : Int, (.int .i64 (IntKind.i64.wrap (s - y3)) : Value) = .int .i64 u6 ∧ ∃ u7 : Int, (.int .i64 0 : Value) = .int .i64 u7 ∧ I4 u6 u7 w2) ∧
    ∀ e0 : Env, ∀ v8 : Int, ∀ v9 : Int, ∀ w10 : World, I4 v8 v9 w10 →
    (cond (decide ((v8 : Int) > 0))
    (∃ y11 : Int, (okVal false 1 (.int .i64 y11) = true ∧ w10.cell? ⟨b1, 1, none⟩ = some (.int .i64 y11)) ∧
    ∃ u12 : Int, (.int .i64 (IntKind.i64.wrap (v8 - y11)) : Value) = .int .i64 u12 ∧ ∃ u13 : Int, (.int .i64 (IntKind.i64.wrap (v9 + v8)) : Value) = .int .i64 u13 ∧ (I4 u12 u13 w10 ∧ M5 u12 u13 w10 < M5 v8 v9 w10))
    (K (.int .i64 v9) w10))
theorem skepref09_K_brake_of {k : S.skepref09_K} {s : Int} {w : World} {K : Value → World → Prop} {KP : List PanicEntry → World → Prop} (h : W.skepref09_K_brake k s w K KP) : C.skepref09_K_brake k s w K KP :=
  xcall (E := E) (T := mkTab [(3, [(1, 3), (5, 3)])] [(3, [1, 5, 10, 11, 12, 13, 14, 15, 16, 17, 18])] [] [] [] [] []) (c := Try.f34.body.getD .skip) (rs := [.tmp 4]) ⟨⟩ mixed Try.func34 (by kernel_rfl) (by kernel_rfl) [S.skepref09_K.v k, .int .i64 s] (by kernel_rfl) (by kernel_rfl) (.inr (by kernel_rfl)) (Eq.mp (by kernel_rfl) h)

def W.kinem_Kin_places (k : (Option Addr)) (n : Int) (w : World) (K : Value → World → Prop) (KP : List PanicEntry → World → Prop) : Prop :=
   ∀ (b1 : Nat) (w2 : World), Alloc w b1 22 [.pointer k] w2 →
    ∀ (b3 : Nat) (w4 : World), Alloc w2 b3 3 [.int .i64 n] w4 →
    ∃ y5 : (Option Addr), (okVal false 1 (.pointer y5) = true ∧ w4.cell? ⟨b1, 0, none⟩ = some (.pointer y5)) ∧
    (cond y5.isNone
    (K (.slice none 0 0) w4)
    (∃ y6 : (Option Addr), (okVal false 1 (.pointer y6) = true ∧ w4.cell? ⟨b1, 0, none⟩ = some (.pointer y6)) ∧
    withSome y6 fun a7 =>
    ∃ y8 : Int, (okVal false 1 (.int .i64 y8) = true ∧ w4.cell? a7 = some (.int .i64 y8)) ∧
    (cond (decide ((y8 : Int) < 1))
    (K (.slice none 0 0) w4)
    (∃ y9 : Int, (okVal false 1 (.int .i64 y9) = true ∧ w4.cell? ⟨b3, 0, none⟩ = some (.int .i64 y9)) ∧
    (cond (decide ((y9 : Int) < 1))
    (K (.slice none 0 0) w4)
    (∃ y10 : Int, (okVal false 1 (.int .i64 y10) = true ∧ w4.cell? ⟨b3, 0, none⟩ = some (.int .i64 y10)) ∧
    (cond (decide ((y10 : Int) > 16))
    (K (.slice none 0 0) w4)
    (∀ w11, Drew w4 w11 →
    ∃ y12 : (Option Addr), (okVal false 1 (.pointer y12) = true ∧ w11.cell? ⟨b1, 0, none⟩ = some (.pointer y12)) ∧
    ∃ y13 : Int, (okVal false 1 (.int .i64 y13) = true ∧ w11.cell? ⟨b3, 0, none⟩ = some (.int .i64 y13)) ∧
    withSome y12 fun a14 =>
    ((0 : Int) ≤ y13 ∧ (y13 : Int) < (17 : Int)) ∧ ∀ (b15 : Nat) (w16 : World), Alloc w11 b15 68 [.pointer none] w16 →
    (w16.cell? ⟨b3, 0, none⟩ = some (.int .i64 y13)) ∧ (w16.cell? ⟨b1, 0, none⟩ = some (.pointer y12)) ∧ (okVal false 1 (.pointer (some (Addr.add (Addr.add a14 3) (y13.toNat * 4)))) = true ∧ canPut w16 ⟨b15, 0, none⟩ (.pointer (some (Addr.add (Addr.add a14 3) (y13.toNat * 4))))) ∧ ∀ w17 : World, w17 = putAt w16 ⟨b15, 0, none⟩ (.pointer (some (Addr.add (Addr.add a14 3) (y13.toNat * 4)))) →
    ∃ y18 : (Option Addr), (okVal false 1 (.pointer y18) = true ∧ w17.cell? ⟨b15, 0, none⟩ = some (.pointer y18)) ∧
    withSome y18 fun a19 =>
    C.sync_Once_Do (some a19) (.func (.func 39) #[] #[.pointer (some ⟨b1, 0, none⟩), .pointer (some ⟨b3, 0, none⟩), .pointer (some ⟨b15, 0, none⟩)]) w17 (fun r22 w20 => ∃ _p21 : Unit, r22 = .tuple #[] ∧
    ∃ y23 : (Option Addr), (okVal false 1 (.pointer y23) = true ∧ w20.cell? ⟨b15, 0, none⟩ = some (.pointer y23)) ∧
    withSome y23 fun a24 =>
    ∃ y25 : Sl, (okVal false 1 (.slice y25.a y25.len y25.cap) = true ∧ w20.cell? (Addr.add a24 3) = some (.slice y25.a y25.len y25.cap)) ∧
    K (.slice y25.a y25.len y25.cap) w20) KP))))))))
theorem kinem_Kin_places_of {k : (Option Addr)} {n : Int} {w : World} {K : Value → World → Prop} {KP : List PanicEntry → World → Prop} (h : W.kinem_Kin_places k n w K KP) : C.kinem_Kin_places k n w K KP :=
  xcall (E := E) (T := mkTab [] [] [] [] [(3, [0, 1, 2, 3, 4, 5, 6])] [(3, [0, 0, 1, 5, 15, 0, 63])] []) (c := Try.f35.body.getD .skip) (rs := [.tmp 4]) ⟨⟩ mixed Try.func35 (by kernel_rfl) (by kernel_rfl) [.pointer k, .int .i64 n] (by kernel_rfl) (by kernel_rfl) (.inr (by kernel_rfl)) (Eq.mp (by kernel_rfl) h)

def W.skepref09_K_next (k : S.skepref09_K) (r : Int) (s : Int) (v : Int) (w : World) (K : Value → World → Prop) (KP : List PanicEntry → World → Prop) : Prop :=
   ∀ (b1 : Nat) (w2 : World), Alloc w b1 24 (S.skepref09_K.v k : Value).cells.toList w2 →
    ∃ y3 : Int, (okVal false 1 (.int .i64 y3) = true ∧ w2.cell? ⟨b1, 1, none⟩ = some (.int .i64 y3)) ∧
    ∃ J4 : Int → World → Prop,
    ((cond (decide (((IntKind.i64.wrap (s + y3)) : Int) > v))
    (∃ u5 : Int, (.int .i64 v : Value) = .int .i64 u5 ∧ J4 u5 w2)
    (∃ u6 : Int, (.int .i64 (IntKind.i64.wrap (s + y3)) : Value) = .int .i64 u6 ∧ J4 u6 w2))) ∧
    ∀ e0 : Env, ∀ v7 : Int, ∀ w8 : World, J4 v7 w8 →
    ∃ J9 : Int → World → Prop,
    ((cond (decide ((v7 : Int) > r))
    (∃ u10 : Int, (.int .i64 r : Value) = .int .i64 u10 ∧ J9 u10 w8)
    (∃ u11 : Int, (.int .i64 v7 : Value) = .int .i64 u11 ∧ J9 u11 w8))) ∧
    ∀ e0 : Env, ∀ v12 : Int, ∀ w13 : World, J9 v12 w13 →
    ∃ (I14 : Int → World → Prop) (M15 : Int → World → Nat),
    (∃ u16 : Int, (.int .i64 v12 : Value) = .int .i64 u16 ∧ I14 u16 w13) ∧
    ∀ e0 : Env, ∀ v17 : Int, ∀ w18 : World, I14 v17 w18 →
    (cond (decide ((v17 : Int) > 1))
    (∃ y19 : S.skepref09_K, (okVal true 3 (S.skepref09_K.v y19) = true ∧ rd w18 ⟨b1, 0, none⟩ (S.skepref09_K.v y19)) ∧
    C.skepref09_K_brake y19 v17 w18 (fun r22 w20 => ∃ p21 : Int, r22 = .int .i64 p21 ∧
    (cond (decide ((p21 : Int) > (IntKind.i64.wrap (r - v17))))
    (∃ u23 : Int, (.int .i64 (IntKind.i64.wrap (v17 - 1)) : Value) = .int .i64 u23 ∧ (I14 u23 w20 ∧ M15 u23 w20 < M15 v17 w18))
    (K (.int .i64 v17) w20))) KP)
    (K (.int .i64 v17) w18))
theorem skepref09_K_next_of {k : S.skepref09_K} {r : Int} {s : Int} {v : Int} {w : World} {K : Value → World → Prop} {KP : List PanicEntry → World → Prop} (h : W.skepref09_K_next k r s v w K KP) : C.skepref09_K_next k r s v w K KP :=
  xcall (E := E) (T := mkTab [(6, [(9, 3)])] [(6, [9, 22, 23, 24, 25, 26, 27, 28, 29, 30, 31, 32, 33, 34])] [(6, [(9, 3)]), (4, [(9, 3)])] [(6, [9, 18, 19, 20, 21]), (4, [9, 14, 15, 16, 17])] [] [] []) (c := Try.f36.body.getD .skip) (rs := [.tmp 8]) ⟨⟩ mixed Try.func36 (by kernel_rfl) (by kernel_rfl) [S.skepref09_K.v k, .int .i64 r, .int .i64 s, .int .i64 v] (by kernel_rfl) (by kernel_rfl) (.inr (by kernel_rfl)) (Eq.mp (by kernel_rfl) h)

def W.kinem_Kin_steps (k : (Option Addr)) (place : Int) (speed : Int) (p3_ : Int) (falls : Bool) (w : World) (K : Value → World → Prop) (KP : List PanicEntry → World → Prop) : Prop :=
   ∀ (b1 : Nat) (w2 : World), Alloc w b1 22 [.pointer k] w2 →
    ∀ (b3 : Nat) (w4 : World), Alloc w2 b3 3 [.int .i64 place] w4 →
    ∀ (b5 : Nat) (w6 : World), Alloc w4 b5 3 [.int .i64 speed] w6 →
    ∀ (b7 : Nat) (w8 : World), Alloc w6 b7 3 [.int .i64 p3_] w8 →
    ∀ (b9 : Nat) (w10 : World), Alloc w8 b9 4 [.bool falls] w10 →
    K (.func (.func 40) #[] #[.pointer (some ⟨b1, 0, none⟩), .pointer (some ⟨b9, 0, none⟩), .pointer (some ⟨b5, 0, none⟩), .pointer (some ⟨b3, 0, none⟩), .pointer (some ⟨b7, 0, none⟩)]) w10
theorem kinem_Kin_steps_of {k : (Option Addr)} {place : Int} {speed : Int} {p3_ : Int} {falls : Bool} {w : World} {K : Value → World → Prop} {KP : List PanicEntry → World → Prop} (h : W.kinem_Kin_steps k place speed p3_ falls w K KP) : C.kinem_Kin_steps k place speed p3_ falls w K KP :=
  xcall (E := E) (T := mkTab [] [] [] [] [] [] []) (c := Try.f37.body.getD .skip) (rs := [.tmp 10]) ⟨⟩ mixed Try.func37 (by kernel_rfl) (by kernel_rfl) [.pointer k, .int .i64 place, .int .i64 speed, .int .i64 p3_, .bool falls] (by kernel_rfl) (by kernel_rfl) (.inr (by kernel_rfl)) (Eq.mp (by kernel_rfl) h)

def W.sync_Once_Do (o : (Option Addr)) (f : Value) (w : World) (K : Value → World → Prop) (KP : List PanicEntry → World → Prop) : Prop :=
   withSome o fun a1 =>
    C.sync_atomic_Bool_Load (some a1) w (fun r4 w2 => ∃ p3 : Bool, r4 = .bool p3 ∧
    (cond (!p3)
    (C.sync_Once_doSlow o f w2 (fun r7 w5 => ∃ _p6 : Unit, r7 = .tuple #[] ∧
    K (.tuple #[]) w5) KP)
    (K (.tuple #[]) w2))) KP
theorem sync_Once_Do_of {o : (Option Addr)} {f : Value} {w : World} {K : Value → World → Prop} {KP : List PanicEntry → World → Prop} (h : W.sync_Once_Do o f w K KP) : C.sync_Once_Do o f w K KP :=
  xcall (E := E) (T := mkTab [] [] [] [] [] [] []) (c := Try.f38.body.getD .skip) (rs := []) ⟨⟩ mixed Try.func38 (by kernel_rfl) (by kernel_rfl) [.pointer o, f] (by kernel_rfl) (by kernel_rfl) (.inr (by kernel_rfl)) (Eq.mp (by kernel_rfl) h)

def W.kinem_Kin_places_1 (p0_ : (Option Addr)) (p1_ : (Option Addr)) (p2_ : (Option Addr)) (w : World) (K : Value → World → Prop) (KP : List PanicEntry → World → Prop) : Prop :=
   ∀ w1, Drew w w1 →
    withSome p0_ fun a3 =>
    ∃ y2 : (Option Addr), (okVal false 1 (.pointer y2) = true ∧ w1.cell? a3 = some (.pointer y2)) ∧
    withSome p1_ fun a5 =>
    ∃ y4 : Int, (okVal false 1 (.int .i64 y4) = true ∧ w1.cell? a5 = some (.int .i64 y4)) ∧
    withSome p0_ fun a7 =>
    ∃ y6 : (Option Addr), (okVal false 1 (.pointer y6) = true ∧ w1.cell? a7 = some (.pointer y6)) ∧
    withSome y6 fun a8 =>
    ∃ y9 : Int, (okVal false 1 (.int .i64 y9) = true ∧ w1.cell? a8 = some (.int .i64 y9)) ∧
    C.kinem_Kin_steps y2 0 0 (IntKind.i64.wrap (y4 * y9)) false w1 (fun r12 w10 => ∃ p11 : Value, r12 = p11 ∧
    ∀ (D13 L14 : Nat) (lr15 : LoopState → Option Code → Obj) (w16 : World), RFstart w10 D13 L14 lr15 w16 →
    ∀ y17 : Value, (∀ x20 : Int, ∀ (W18 : World) (RR19 : Value → World → Prop), W18.heap[L14]? = some (lr15 .ready none) →
    (W18.heap[L14]? = some (lr15 .ready none) ∧ ∀ w21 : World, w21 = W18.putObj L14 (lr15 .busy none) →
    ∀ w22, Drew w21 w22 →
    withSome p2_ fun a24 =>
    ∃ y23 : (Option Addr), (okVal false 1 (.pointer y23) = true ∧ w22.cell? a24 = some (.pointer y23)) ∧
    withSome p2_ fun a26 =>
    ∃ y25 : (Option Addr), (okVal false 1 (.pointer y25) = true ∧ w22.cell? a26 = some (.pointer y25)) ∧
    withSome y25 fun a27 =>
    ∃ y28 : Sl, (okVal false 1 (.slice y28.a y28.len y28.cap) = true ∧ w22.cell? (Addr.add a27 3) = some (.slice y28.a y28.len y28.cap)) ∧
    ∀ (b29 : Nat) (w30 : World), Alloc w22 b29 3 [.int .i64 x20] w30 →
    (w30.cell? (Addr.add a27 3) = some (.slice y28.a y28.len y28.cap)) ∧ (w30.cell? a26 = some (.pointer y25)) ∧ (w30.cell? a24 = some (.pointer y23)) ∧ ∃ (q31 : Option Addr) (n32 c33 : Nat) (w34 : World), (Builtin.append_ #[33, 33] 33 #[.slice y28.a y28.len y28.cap, .slice (some ⟨b29, 0, none⟩) 1 1]).run Try.prog w30 = .ok (.slice q31 n32 c33) w34 ∧
    (w34.cell? a24 = some (.pointer y23)) ∧ withSome y23 fun a35 =>
    (okVal false 1 (.slice q31 n32 c33) = true ∧ canPut w34 (Addr.add a35 3) (.slice q31 n32 c33)) ∧ ∀ w36 : World, w36 = putAt w34 (Addr.add a35 3) (.slice q31 n32 c33) →
    w36.heap[L14]? = some (lr15 .busy none) ∧ ∀ w37 : World, w37 = w36.putObj L14 (lr15 .ready none) → RR19 (.bool true) w37) →
    callV Try.prog y17 [.int .i64 x20] W18 (Ret RR19 fun _ _ => False)) →
    callF Try.prog p11 [y17] w16 (Ret (fun r38 w39 => ∃ (st41 : LoopState) (jump42 : Option Code), w39.heap[L14]? = some (lr15 st41 jump42) ∧ st41 ≠ .busy ∧ ∀ w40 : World, w40 = w39.putObj L14 (lr15 .exhausted jump42) →
    (match jump42 with
    | none => xleave Try.prog [markD D13] .returning w40 (xendF (fun w43 => K (.tuple #[]) w43) KP)
    | some (.exit i44) => (cond (Nat.beq i44 0)
    (xleave Try.prog [markD D13] .returning w40 (xendF (fun w45 => K (.tuple #[]) w45) KP))
    (False))
    | some .ret => xleave Try.prog [markD D13] .returning w40 (xendF (fun w46 => K (.tuple #[]) w46) KP)
    | _ => False)) (fun ch47 w48 => xleave Try.prog [markD D13] (.panicking ch47) w48 (xendF (fun w49 => K (.tuple #[]) w49) KP)))) KP
theorem kinem_Kin_places_1_of {p0_ : (Option Addr)} {p1_ : (Option Addr)} {p2_ : (Option Addr)} {w : World} {K : Value → World → Prop} {KP : List PanicEntry → World → Prop} (h : W.kinem_Kin_places_1 p0_ p1_ p2_ w K KP) : C.kinem_Kin_places_1 p0_ p1_ p2_ w K KP :=
  xcall (E := E) (T := mkTab [(1000002, [(12, 3)])] [(1000002, [])] [] [] [(0, [0, 1, 2, 3, 4, 5, 6, 7]), (2, [0, 1, 2, 3, 4, 5, 6, 7, 8, 9, 10])] [(0, [0, 0, 0, 4, 12, 28, 62, 127]), (2, [0, 0, 2, 6, 14, 0, 32, 126, 255, 511, 1023])] []) (c := Try.f39.body.getD .skip) (rs := []) ⟨⟩ mixed Try.func39 (by kernel_rfl) (by kernel_rfl) [.pointer p0_, .pointer p1_, .pointer p2_] (by kernel_rfl) (by kernel_rfl) (.inr (by kernel_rfl)) (Eq.mp (by kernel_rfl) h)

def W.kinem_Kin_steps_1 (yield : Value) (p1_ : (Option Addr)) (p2_ : (Option Addr)) (p3_ : (Option Addr)) (p4_ : (Option Addr)) (p5_ : (Option Addr)) (w : World) (K : Value → World → Prop) (KP : List PanicEntry → World → Prop) : Prop :=
   withSome p1_ fun a2 =>
    ∃ y1 : (Option Addr), (okVal false 1 (.pointer y1) = true ∧ w.cell? a2 = some (.pointer y1)) ∧
    withSome y1 fun a3 =>
    ∃ y4 : Int, (okVal false 1 (.int .i64 y4) = true ∧ w.cell? (Addr.add a3 2) = some (.int .i64 y4)) ∧
    ∃ J5 : Int → World → Prop,
    (withSome p2_ fun a7 =>
    ∃ y6 : Bool, (okVal false 1 (.bool y6) = true ∧ w.cell? a7 = some (.bool y6)) ∧
    (cond y6
    (withSome p3_ fun a9 =>
    ∃ y8 : Int, (okVal false 1 (.int .i64 y8) = true ∧ w.cell? a9 = some (.int .i64 y8)) ∧
    ∃ u10 : Int, (.int .i64 y8 : Value) = .int .i64 u10 ∧ J5 u10 w)
    (∃ u11 : Int, (.int .i64 y4 : Value) = .int .i64 u11 ∧ J5 u11 w))) ∧
    ∀ e0 : Env, ∀ v12 : Int, ∀ w13 : World, J5 v12 w13 →
    ∃ (I14 : Int → World → Prop) (M15 : Int → World → Nat),
    (∃ u16 : Int, (.int .i64 v12 : Value) = .int .i64 u16 ∧ I14 u16 w13) ∧
    ∀ e0 : Env, ∀ v17 : Int, ∀ w18 : World, I14 v17 w18 →
    withSome p4_ fun a20 =>
    ∃ y19 : Int, (okVal false 1 (.int .i64 y19) = true ∧ w18.cell? a20 = some (.int .i64 y19)) ∧
    withSome p5_ fun a22 =>
    ∃ y21 : Int, (okVal false 1 (.int .i64 y21) = true ∧ w18.cell? a22 = some (.int .i64 y21)) ∧
    (cond (decide ((y19 : Int) < y21))
    (withSome p1_ fun a24 =>
    ∃ y23 : (Option Addr), (okVal false 1 (.pointer y23) = true ∧ w18.cell? a24 = some (.pointer y23)) ∧
    withSome p5_ fun a26 =>
    ∃ y25 : Int, (okVal false 1 (.int .i64 y25) = true ∧ w18.cell? a26 = some (.int .i64 y25)) ∧
    withSome p4_ fun a28 =>
    ∃ y27 : Int, (okVal false 1 (.int .i64 y27) = true ∧ w18.cell? a28 = some (.int .i64 y27)) ∧
    withSome p3_ fun a30 =>
    ∃ y29 : Int, (okVal false 1 (.int .i64 y29) = true ∧ w18.cell? a30 = some (.int .i64 y29)) ∧
    C.kinem_Kin_next y23 (IntKind.i64.wrap (y25 - y27)) y29 v17 w18 (fun r33 w31 => ∃ p32 : Int, r33 = .int .i64 p32 ∧
    withSome p3_ fun a35 =>
    (okVal false 1 (.int .i64 p32) = true ∧ canPut w31 a35 (.int .i64 p32)) ∧ ∀ w34 : World, w34 = putAt w31 a35 (.int .i64 p32) →
    withSome p2_ fun a37 =>
    ∃ y36 : Bool, (okVal false 1 (.bool y36) = true ∧ w34.cell? a37 = some (.bool y36)) ∧
    (cond y36
    (withSome p3_ fun a39 =>
    ∃ y38 : Int, (okVal false 1 (.int .i64 y38) = true ∧ w34.cell? a39 = some (.int .i64 y38)) ∧
    withSome p4_ fun a41 =>
    ∃ y40 : Int, (okVal false 1 (.int .i64 y40) = true ∧ w34.cell? a41 = some (.int .i64 y40)) ∧
    withSome p3_ fun a43 =>
    ∃ y42 : Int, (okVal false 1 (.int .i64 y42) = true ∧ w34.cell? a43 = some (.int .i64 y42)) ∧
    withSome p4_ fun a45 =>
    (okVal false 1 (.int .i64 (IntKind.i64.wrap (y40 + y42))) = true ∧ canPut w34 a45 (.int .i64 (IntKind.i64.wrap (y40 + y42)))) ∧ ∀ w44 : World, w44 = putAt w34 a45 (.int .i64 (IntKind.i64.wrap (y40 + y42))) →
    withSome p4_ fun a47 =>
    ∃ y46 : Int, (okVal false 1 (.int .i64 y46) = true ∧ w44.cell? a47 = some (.int .i64 y46)) ∧
    callV Try.prog yield [.int .i64 y46] w44 (Ret (fun r50 w48 => ∃ p49 : Bool, r50 = .bool p49 ∧
    (cond (!p49)
    (K (.tuple #[]) w48)
    (∃ u51 : Int, (.int .i64 y38 : Value) = .int .i64 u51 ∧ (I14 u51 w48 ∧ M15 u51 w48 < M15 v17 w18)))) KP))
    (withSome p4_ fun a53 =>
    ∃ y52 : Int, (okVal false 1 (.int .i64 y52) = true ∧ w34.cell? a53 = some (.int .i64 y52)) ∧
    withSome p3_ fun a55 =>
    ∃ y54 : Int, (okVal false 1 (.int .i64 y54) = true ∧ w34.cell? a55 = some (.int .i64 y54)) ∧
    withSome p4_ fun a57 =>
    (okVal false 1 (.int .i64 (IntKind.i64.wrap (y52 + y54))) = true ∧ canPut w34 a57 (.int .i64 (IntKind.i64.wrap (y52 + y54)))) ∧ ∀ w56 : World, w56 = putAt w34 a57 (.int .i64 (IntKind.i64.wrap (y52 + y54))) →
    withSome p4_ fun a59 =>
    ∃ y58 : Int, (okVal false 1 (.int .i64 y58) = true ∧ w56.cell? a59 = some (.int .i64 y58)) ∧
    callV Try.prog yield [.int .i64 y58] w56 (Ret (fun r62 w60 => ∃ p61 : Bool, r62 = .bool p61 ∧
    (cond (!p61)
    (K (.tuple #[]) w60)
    (∃ u63 : Int, (.int .i64 v17 : Value) = .int .i64 u63 ∧ (I14 u63 w60 ∧ M15 u63 w60 < M15 v17 w18)))) KP)))) KP)
    (K (.tuple #[]) w18))
theorem kinem_Kin_steps_1_of {yield : Value} {p1_ : (Option Addr)} {p2_ : (Option Addr)} {p3_ : (Option Addr)} {p4_ : (Option Addr)} {p5_ : (Option Addr)} {w : World} {K : Value → World → Prop} {KP : List PanicEntry → World → Prop} (h : W.kinem_Kin_steps_1 yield p1_ p2_ p3_ p4_ p5_ w K KP) : C.kinem_Kin_steps_1 yield p1_ p2_ p3_ p4_ p5_ w K KP :=
  xcall (E := E) (T := mkTab [(3, [(7, 3)])] [(3, [7, 14, 15, 16, 17, 18, 19, 20, 21, 22, 23, 24, 25, 26, 27, 28, 29, 30, 31, 32])] [(3, [(7, 3)])] [(3, [7, 12, 13])] [] [] []) (c := Try.f40.body.getD .skip) (rs := []) ⟨⟩ mixed Try.func40 (by kernel_rfl) (by kernel_rfl) [yield, .pointer p1_, .pointer p2_, .pointer p3_, .pointer p4_, .pointer p5_] (by kernel_rfl) (by kernel_rfl) (.inr (by kernel_rfl)) (Eq.mp (by kernel_rfl) h)

def W.kinem_Kin_next (k : (Option Addr)) (r : Int) (s : Int) (v : Int) (w : World) (K : Value → World → Prop) (KP : List PanicEntry → World → Prop) : Prop :=
   withSome k fun a1 =>
    ∃ y2 : Int, (okVal false 1 (.int .i64 y2) = true ∧ w.cell? (Addr.add a1 1) = some (.int .i64 y2)) ∧
    ∃ (I3 : Int → World → Prop) (M4 : Int → World → Nat),
    (∃ u5 : Int, (.int .i64 (if (r : Int) < (if (v : Int) < (IntKind.i64.wrap (s + y2)) then v else (IntKind.i64.wrap (s + y2))) then r else (if (v : Int) < (IntKind.i64.wrap (s + y2)) then v else (IntKind.i64.wrap (s + y2)))) : Value) = .int .i64 u5 ∧ I3 u5 w) ∧
    ∀ e0 : Env, ∀ v6 : Int, ∀ w7 : World, I3 v6 w7 →
    (cond (decide ((v6 : Int) > 1))
    (C.kinem_Kin_Brake k v6 w7 (fun r10 w8 => ∃ p9 : Int, r10 = .int .i64 p9 ∧
    (cond (decide ((p9 : Int) > (IntKind.i64.wrap (r - v6))))
    (∃ u11 : Int, (.int .i64 (IntKind.i64.wrap (v6 - 1)) : Value) = .int .i64 u11 ∧ (I3 u11 w8 ∧ M4 u11 w8 < M4 v6 w7))
    (K (.int .i64 v6) w8))) KP)
    (K (.int .i64 v6) w7))
theorem kinem_Kin_next_of {k : (Option Addr)} {r : Int} {s : Int} {v : Int} {w : World} {K : Value → World → Prop} {KP : List PanicEntry → World → Prop} (h : W.kinem_Kin_next k r s v w K KP) : C.kinem_Kin_next k r s v w K KP :=
  xcall (E := E) (T := mkTab [(2, [(9, 3)])] [(2, [9, 19, 20, 21, 22, 23, 24, 25, 26, 27, 28, 29, 30, 31])] [] [] [] [] []) (c := Try.f41.body.getD .skip) (rs := [.tmp 8]) ⟨⟩ mixed Try.func41 (by kernel_rfl) (by kernel_rfl) [.pointer k, .int .i64 r, .int .i64 s, .int .i64 v] (by kernel_rfl) (by kernel_rfl) (.inr (by kernel_rfl)) (Eq.mp (by kernel_rfl) h)

def W.sync_atomic_Bool_Load (p0_ : (Option Addr)) (w : World) (K : Value → World → Prop) (KP : List PanicEntry → World → Prop) : Prop :=
   withSome p0_ fun a1 =>
    ∃ p3 : Int, ∃ w2 : World, (callFunc 44 #[.pointer (some a1)]).run Try.prog w = .ok (.value (.int .u32 p3)) w2 ∧
    K (.bool ((p3 : Int) != 0)) w2
theorem sync_atomic_Bool_Load_of {p0_ : (Option Addr)} {w : World} {K : Value → World → Prop} {KP : List PanicEntry → World → Prop} (h : W.sync_atomic_Bool_Load p0_ w K KP) : C.sync_atomic_Bool_Load p0_ w K KP :=
  xcall (E := E) (T := mkTab [] [] [] [] [] [] []) (c := Try.f42.body.getD .skip) (rs := [.tmp 2]) ⟨⟩ mixed Try.func42 (by kernel_rfl) (by kernel_rfl) [.pointer p0_] (by kernel_rfl) (by kernel_rfl) (.inr (by kernel_rfl)) (Eq.mp (by kernel_rfl) h)

def W.sync_Once_doSlow (o : (Option Addr)) (f : Value) (w : World) (K : Value → World → Prop) (KP : List PanicEntry → World → Prop) : Prop :=
   withSome o fun a1 =>
    C.sync_Mutex_Lock (some (Addr.add a1 1)) w (fun r4 w2 => ∃ _p3 : Unit, r4 = .tuple #[] ∧
    withSome o fun a5 =>
    withSome o fun a6 =>
    C.sync_atomic_Bool_Load (some a6) w2 (fun r9 w7 => ∃ p8 : Bool, r9 = .bool p8 ∧
    (cond (!p8)
    (withSome o fun a10 =>
    callV Try.prog f [] w7 (Ret (fun r13 w11 => ∃ _p12 : Unit, r13 = .tuple #[] ∧
    xleave Try.prog [{ target := .fn (.func 47) #[], args := #[.pointer (some a10), .bool true] }, { target := .fn (.func 46) #[], args := #[.pointer (some (Addr.add a5 1))] }] .returning w11 (xendF (fun w14 => K (.tuple #[]) w14) KP)) (fun ch15 w16 => xleave Try.prog [{ target := .fn (.func 47) #[], args := #[.pointer (some a10), .bool true] }, { target := .fn (.func 46) #[], args := #[.pointer (some (Addr.add a5 1))] }] (.panicking ch15) w16 (xendF (fun w17 => K (.tuple #[]) w17) KP))))
    (xleave Try.prog [{ target := .fn (.func 46) #[], args := #[.pointer (some (Addr.add a5 1))] }] .returning w7 (xendF (fun w18 => K (.tuple #[]) w18) KP)))) (fun ch19 w20 => xleave Try.prog [{ target := .fn (.func 46) #[], args := #[.pointer (some (Addr.add a5 1))] }] (.panicking ch19) w20 (xendF (fun w21 => K (.tuple #[]) w21) KP))) KP
theorem sync_Once_doSlow_of {o : (Option Addr)} {f : Value} {w : World} {K : Value → World → Prop} {KP : List PanicEntry → World → Prop} (h : W.sync_Once_doSlow o f w K KP) : C.sync_Once_doSlow o f w K KP :=
  xcall (E := E) (T := mkTab [] [] [] [] [] [] []) (c := Try.f43.body.getD .skip) (rs := []) ⟨⟩ mixed Try.func43 (by kernel_rfl) (by kernel_rfl) [.pointer o, f] (by kernel_rfl) (by kernel_rfl) (.inl (by kernel_rfl)) (Eq.mp (by kernel_rfl) h)

def W.sync_Mutex_Lock (m : (Option Addr)) (w : World) (K : Value → World → Prop) (KP : List PanicEntry → World → Prop) : Prop :=
   withSome m fun a1 =>
    C.internal_sync_Mutex_Lock (some a1) w (fun r4 w2 => ∃ _p3 : Unit, r4 = .tuple #[] ∧
    K (.tuple #[]) w2) KP
theorem sync_Mutex_Lock_of {m : (Option Addr)} {w : World} {K : Value → World → Prop} {KP : List PanicEntry → World → Prop} (h : W.sync_Mutex_Lock m w K KP) : C.sync_Mutex_Lock m w K KP :=
  xcall (E := E) (T := mkTab [] [] [] [] [] [] []) (c := Try.f45.body.getD .skip) (rs := []) ⟨⟩ mixed Try.func45 (by kernel_rfl) (by kernel_rfl) [.pointer m] (by kernel_rfl) (by kernel_rfl) (.inr (by kernel_rfl)) (Eq.mp (by kernel_rfl) h)

def W.sync_Mutex_Unlock (m : (Option Addr)) (w : World) (K : Value → World → Prop) (KP : List PanicEntry → World → Prop) : Prop :=
   withSome m fun a1 =>
    C.internal_sync_Mutex_Unlock (some a1) w (fun r4 w2 => ∃ _p3 : Unit, r4 = .tuple #[] ∧
    K (.tuple #[]) w2) KP
theorem sync_Mutex_Unlock_of {m : (Option Addr)} {w : World} {K : Value → World → Prop} {KP : List PanicEntry → World → Prop} (h : W.sync_Mutex_Unlock m w K KP) : C.sync_Mutex_Unlock m w K KP :=
  xcall (E := E) (T := mkTab [] [] [] [] [] [] []) (c := Try.f46.body.getD .skip) (rs := []) ⟨⟩ mixed Try.func46 (by kernel_rfl) (by kernel_rfl) [.pointer m] (by kernel_rfl) (by kernel_rfl) (.inr (by kernel_rfl)) (Eq.mp (by kernel_rfl) h)
theorem sync_Mutex_Unlock_ofd {m : (Option Addr)} {u : FrameMode} {w : World} {K : Value → World → Prop} {KP : List PanicEntry → World → Prop} (h : W.sync_Mutex_Unlock m w K KP) : CallsDIn Fence.wide 0 Try.prog 46 #[.pointer m] u w fun e u' w' => u' = u ∧ Ret K KP e w' :=
  xcallD (E := E) (T := mkTab [] [] [] [] [] [] []) (c := Try.f46.body.getD .skip) (rs := []) ⟨⟩ mixed Try.func46 (by kernel_rfl) (by kernel_rfl) [.pointer m] (by kernel_rfl) (by kernel_rfl) (by kernel_rfl) (Eq.mp (by kernel_rfl) h)

def W.sync_atomic_Bool_Store (p0_ : (Option Addr)) (val : Bool) (w : World) (K : Value → World → Prop) (KP : List PanicEntry → World → Prop) : Prop :=
   ∀ w1, Drew w w1 →
    withSome p0_ fun a2 =>
    C.sync_atomic_b32 val w1 (fun r5 w3 => ∃ p4 : Int, r5 = .int .u32 p4 ∧
    ∃ _p7 : Unit, ∃ w6 : World, (callFunc 50 #[.pointer (some a2), .int .u32 p4]).run Try.prog w3 = .ok (.value (.tuple #[])) w6 ∧
    K (.tuple #[]) w6) KP
theorem sync_atomic_Bool_Store_of {p0_ : (Option Addr)} {val : Bool} {w : World} {K : Value → World → Prop} {KP : List PanicEntry → World → Prop} (h : W.sync_atomic_Bool_Store p0_ val w K KP) : C.sync_atomic_Bool_Store p0_ val w K KP :=
  xcall (E := E) (T := mkTab [] [] [] [] [(0, [0, 1, 2, 3, 4, 5])] [(0, [0, 1, 3, 0, 8, 31])] []) (c := Try.f47.body.getD .skip) (rs := []) ⟨⟩ mixed Try.func47 (by kernel_rfl) (by kernel_rfl) [.pointer p0_, .bool val] (by kernel_rfl) (by kernel_rfl) (.inr (by kernel_rfl)) (Eq.mp (by kernel_rfl) h)
theorem sync_atomic_Bool_Store_ofd {p0_ : (Option Addr)} {val : Bool} {u : FrameMode} {w : World} {K : Value → World → Prop} {KP : List PanicEntry → World → Prop} (h : W.sync_atomic_Bool_Store p0_ val w K KP) : CallsDIn Fence.wide 0 Try.prog 47 #[.pointer p0_, .bool val] u w fun e u' w' => u' = u ∧ Ret K KP e w' :=
  xcallD (E := E) (T := mkTab [] [] [] [] [(0, [0, 1, 2, 3, 4, 5])] [(0, [0, 1, 3, 0, 8, 31])] []) (c := Try.f47.body.getD .skip) (rs := []) ⟨⟩ mixed Try.func47 (by kernel_rfl) (by kernel_rfl) [.pointer p0_, .bool val] (by kernel_rfl) (by kernel_rfl) (by kernel_rfl) (Eq.mp (by kernel_rfl) h)

def W.sync_atomic_b32 (p0_ : Bool) (w : World) (K : Value → World → Prop) (KP : List PanicEntry → World → Prop) : Prop :=
   (cond p0_
    (K (.int .u32 1) w)
    (K (.int .u32 0) w))
theorem sync_atomic_b32_of {p0_ : Bool} {w : World} {K : Value → World → Prop} {KP : List PanicEntry → World → Prop} (h : W.sync_atomic_b32 p0_ w K KP) : C.sync_atomic_b32 p0_ w K KP :=
  xcall (E := E) (T := mkTab [] [] [] [] [] [] []) (c := Try.f51.body.getD .skip) (rs := [.tmp 2]) ⟨⟩ mixed Try.func51 (by kernel_rfl) (by kernel_rfl) [.bool p0_] (by kernel_rfl) (by kernel_rfl) (.inr (by kernel_rfl)) (Eq.mp (by kernel_rfl) h)

def W.internal_sync_Mutex_unlockSlow (m : (Option Addr)) (new : Int) (w : World) (K : Value → World → Prop) (KP : List PanicEntry → World → Prop) : Prop :=
   ∃ J1 : World → Prop,
    ((cond (((andI .i32 (IntKind.i32.wrap (new + 1)) 1) : Int) == 0)
    (∃ _p3 : Unit, ∃ w2 : World, (callFunc 65 #[.string (⟨#[115, 121, 110, 99, 58, 32, 117, 110, 108, 111, 99, 107, 32, 111, 102, 32, 117, 110, 108, 111, 99, 107, 101, 100, 32, 109, 117, 116, 101, 120]⟩)]).run Try.prog w = .ok (.value (.tuple #[])) w2 ∧
    J1 w2)
    (J1 w))) ∧
    ∀ e0 : Env, ∀ w5 : World, J1 w5 →
    (cond (((andI .i32 new 4) : Int) == 0)
    (∃ (I6 : Int → World → Prop) (M7 : Int → World → Nat),
    (∃ u8 : Int, (.int .i32 new : Value) = .int .i32 u8 ∧ I6 u8 w5) ∧
    ∀ e0 : Env, ∀ v9 : Int, ∀ w10 : World, I6 v9 w10 →
    (0 : Int) ≤ 3 ∧ (cond (((shrI .i32 v9 3) : Int) == 0)
    (K (.tuple #[]) w10)
    ((cond (((andI .i32 v9 7) : Int) != 0)
    (K (.tuple #[]) w10)
    (withSome m fun a11 =>
    ∃ p13 : Bool, ∃ w12 : World, (callFunc 53 #[.pointer (some a11), .int .i32 v9, .int .i32 (orI .i32 (IntKind.i32.wrap (v9 - 8)) 2)]).run Try.prog w10 = .ok (.value (.bool p13)) w12 ∧
    (cond p13
    (withSome m fun a22 =>
    ∃ _p24 : Unit, ∃ w23 : World, (callFunc 66 #[.pointer (some (Addr.add a22 1)), .bool false, .int .i64 2]).run Try.prog w12 = .ok (.value (.tuple #[])) w23 ∧
    K (.tuple #[]) w23)
    (withSome m fun a26 =>
    ∃ y27 : Int, (okVal false 1 (.int .i32 y27) = true ∧ w12.cell? a26 = some (.int .i32 y27)) ∧
    ∃ u28 : Int, (.int .i32 y27 : Value) = .int .i32 u28 ∧ (I6 u28 w12 ∧ M7 u28 w12 < M7 v9 w10))))))))
    (withSome m fun a29 =>
    ∃ _p31 : Unit, ∃ w30 : World, (callFunc 66 #[.pointer (some (Addr.add a29 1)), .bool true, .int .i64 2]).run Try.prog w5 = .ok (.value (.tuple #[])) w30 ∧
    K (.tuple #[]) w30))
theorem internal_sync_Mutex_unlockSlow_of {m : (Option Addr)} {new : Int} {w : World} {K : Value → World → Prop} {KP : List PanicEntry → World → Prop} (h : W.internal_sync_Mutex_unlockSlow m new w K KP) : C.internal_sync_Mutex_unlockSlow m new w K KP :=
  xcall (E := E) (T := mkTab [(4, [(4, 21)])] [(4, [1, 4, 14, 15, 16, 17, 18, 19, 20, 21, 22, 23, 24, 25, 26, 27, 28, 29, 30, 31, 32, 33, 34, 35, 36, 37, 38])] [(2, [])] [(2, [5, 6, 7, 8, 9])] [] [] []) (c := Try.f59.body.getD .skip) (rs := []) ⟨⟩ mixed Try.func59 (by kernel_rfl) (by kernel_rfl) [.pointer m, .int .i32 new] (by kernel_rfl) (by kernel_rfl) (.inr (by kernel_rfl)) (Eq.mp (by kernel_rfl) h)
end Go.Proofs.Ytongkhanbpboaaa
