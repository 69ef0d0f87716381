/- Printed by vc.py: what functions of this seat come to, as predicates of typed values, each with its proof. No conditions. -/
import Derived.Test.YtkafemfpfbcoaaaTab
namespace Go.Proofs.Ytkafemfpfbcoaaa
open Go.Eng
set_option linter.unusedVariables false
set_option maxRecDepth 100000
def W.skeplaw17_LinkOrder (l : Sl) (now : Int) (w : World) (K : Value → World → Prop) (KP : List PanicEntry → World → Prop) : Prop :=
   C.skeplaw00_Place now 1000 w (fun r3 w1 => ∃ p2 : Int, r3 = .int .i64 p2 ∧
    C.link_New 8 5 w1 (fun r6 w4 => ∃ p5 : ((Option Addr) × Int), r6 = .tuple #[.pointer p5.1, .int .i64 p5.2] ∧
    (cond ((p5.2 : Int) != 0)
    (K (.bool false) w4)
    ((cond p5.1.isNone
    (K (.bool false) w4)
    (∀ (b7 : Nat) (w8 : World), Alloc w4 b7 36 [.int .i64 0, .int .i64 0, .int .i64 0, .int .i64 0, .int .i64 0, .int .i64 0, .int .i64 0, .int .i64 0, .int .i64 0, .bool false, .int .i64 0, .int .i64 0, .bool false, .int .i64 0, .int .i64 0, .int .i64 0, .int .i64 0, .bool false, .int .i64 0, .int .i64 0, .int .i64 0, .int .i64 0, .int .i64 0, .int .i64 0, .int .i64 0, .int .i64 0, .int .i64 0, .int .i64 0, .bool false, .int .i64 0, .int .i64 0, .bool false, .int .i64 0, .int .i64 0, .int .i64 0, .int .i64 0, .bool false, .int .i64 0, .int .i64 0, .int .i64 0, .int .i64 0, .int .i64 0, .int .i64 0, .int .i64 0, .int .i64 0, .int .i64 0, .int .i64 0, .bool false, .int .i64 0, .int .i64 0, .bool false, .int .i64 0, .int .i64 0, .int .i64 0, .int .i64 0, .bool false, .int .i64 0, .int .i64 0, .int .i64 0, .int .i64 0, .int .i64 0, .int .i64 0, .int .i64 0, .int .i64 0, .int .i64 0, .int .i64 0, .bool false, .int .i64 0, .int .i64 0, .bool false, .int .i64 0, .int .i64 0, .int .i64 0, .int .i64 0, .bool false, .int .i64 0, .int .i64 0, .int .i64 0, .int .i64 0, .int .i64 0, .int .i64 0, .int .i64 0, .int .i64 0, .int .i64 0, .int .i64 0, .bool false, .int .i64 0, .int .i64 0, .bool false, .int .i64 0, .int .i64 0, .int .i64 0, .int .i64 0, .bool false, .int .i64 0, .int .i64 0, .int .i64 0, .int .i64 0, .int .i64 0, .int .i64 0, .int .i64 0, .int .i64 0, .int .i64 0, .int .i64 0, .bool false, .int .i64 0, .int .i64 0, .bool false, .int .i64 0, .int .i64 0, .int .i64 0, .int .i64 0, .bool false, .int .i64 0, .int .i64 0, .int .i64 0, .int .i64 0, .int .i64 0, .int .i64 0, .int .i64 0, .int .i64 0, .int .i64 0, .int .i64 0, .bool false, .int .i64 0, .int .i64 0, .bool false, .int .i64 0, .int .i64 0, .int .i64 0, .int .i64 0, .bool false, .int .i64 0, .int .i64 0, .int .i64 0, .int .i64 0, .int .i64 0, .int .i64 0, .int .i64 0, .int .i64 0, .int .i64 0, .int .i64 0, .bool false, .int .i64 0, .int .i64 0, .bool false, .int .i64 0, .int .i64 0, .int .i64 0, .int .i64 0, .bool false, .int .i64 0] w8 →
    ∃ J9 : World → Prop,
    (∃ (I10 : Int → World → Prop) (M11 : Int → World → Nat),
    (∃ u12 : Int, (.int .i64 0 : Value) = .int .i64 u12 ∧ I10 u12 w8) ∧
    ∀ e0 : Env, ∀ v13 : Int, ∀ w14 : World, I10 v13 w14 →
    (cond (decide ((v13 : Int) < (l.len : Int)))
    ((cond (decide ((v13 : Int) < 40))
    (((0 : Int) ≤ v13 ∧ (v13 : Int) < (l.len : Int)) ∧ withSome l.a fun a15 =>
    ∃ y16 : S.api_Tele, (okVal true 19 (S.api_Tele.v y16) = true ∧ rd w14 (Addr.add a15 (v13.toNat * 19)) (S.api_Tele.v y16)) ∧
    ∀ (b17 : Nat) (w18 : World), Alloc w14 b17 35 [.int .i64 0, .int .i64 0, .int .i64 0, .int .i64 0, .int .i64 0, .int .i64 0, .int .i64 0, .int .i64 0, .int .i64 0, .bool false, .int .i64 0, .int .i64 0, .bool false, .int .i64 0, .int .i64 0, .int .i64 0, .int .i64 0, .bool false, .int .i64 0] w18 →
    (okVal true 19 (S.api_Tele.v y16) = true ∧ canPut w18 ⟨b17, 0, none⟩ (S.api_Tele.v y16)) ∧ ∀ w19 : World, w19 = putAt w18 ⟨b17, 0, none⟩ (S.api_Tele.v y16) →
    ∃ y20 : Int, (okVal false 1 (.int .i64 y20) = true ∧ w19.cell? ⟨b17, 1, none⟩ = some (.int .i64 y20)) ∧
    C.skeplaw00_Place y20 8 w19 (fun r23 w21 => ∃ p22 : Int, r23 = .int .i64 p22 ∧
    (okVal false 1 (.int .i64 p22) = true ∧ canPut w21 ⟨b17, 1, none⟩ (.int .i64 p22)) ∧ ∀ w24 : World, w24 = putAt w21 ⟨b17, 1, none⟩ (.int .i64 p22) →
    ∃ y25 : Int, (okVal false 1 (.int .i64 y25) = true ∧ w24.cell? ⟨b17, 0, none⟩ = some (.int .i64 y25)) ∧
    C.skeplaw00_Place y25 2 w24 (fun r28 w26 => ∃ p27 : Int, r28 = .int .i64 p27 ∧
    (okVal false 1 (.int .i64 (IntKind.i64.wrap (1 + p27))) = true ∧ canPut w26 ⟨b17, 0, none⟩ (.int .i64 (IntKind.i64.wrap (1 + p27)))) ∧ ∀ w29 : World, w29 = putAt w26 ⟨b17, 0, none⟩ (.int .i64 (IntKind.i64.wrap (1 + p27))) →
    ∃ y30 : S.api_Tele, (okVal true 19 (S.api_Tele.v y30) = true ∧ rd w29 ⟨b17, 0, none⟩ (S.api_Tele.v y30)) ∧
    C.link_Link_Send p5.1 y30 p2 w29 (fun r33 w31 => ∃ p32 : (S.api_Tele × Int), r33 = .tuple #[S.api_Tele.v p32.1, .int .i64 p32.2] ∧
    ∀ (b34 : Nat) (w35 : World), Alloc w31 b34 35 [.int .i64 0, .int .i64 0, .int .i64 0, .int .i64 0, .int .i64 0, .int .i64 0, .int .i64 0, .int .i64 0, .int .i64 0, .bool false, .int .i64 0, .int .i64 0, .bool false, .int .i64 0, .int .i64 0, .int .i64 0, .int .i64 0, .bool false, .int .i64 0] w35 →
    (okVal true 19 (S.api_Tele.v p32.1) = true ∧ canPut w35 ⟨b34, 0, none⟩ (S.api_Tele.v p32.1)) ∧ ∀ w36 : World, w36 = putAt w35 ⟨b34, 0, none⟩ (S.api_Tele.v p32.1) →
    (cond ((p32.2 : Int) != 0)
    (K (.bool false) w36)
    (∃ y37 : Int, (okVal false 1 (.int .i64 y37) = true ∧ w36.cell? ⟨b17, 1, none⟩ = some (.int .i64 y37)) ∧
    ∃ y38 : S.api_Tele, (okVal true 19 (S.api_Tele.v y38) = true ∧ rd w36 ⟨b17, 0, none⟩ (S.api_Tele.v y38)) ∧
    ((0 : Int) ≤ y37 ∧ (y37 : Int) < (8 : Int)) ∧ (okVal true 19 (S.api_Tele.v y38) = true ∧ canPut w36 (Addr.add ⟨b7, 0, none⟩ (y37.toNat * 19)) (S.api_Tele.v y38)) ∧ ∀ w39 : World, w39 = putAt w36 (Addr.add ⟨b7, 0, none⟩ (y37.toNat * 19)) (S.api_Tele.v y38) →
    ∃ u40 : Int, (.int .i64 (IntKind.i64.wrap (v13 + 1)) : Value) = .int .i64 u40 ∧ (I10 u40 w39 ∧ M11 u40 w39 < M11 v13 w14)))) KP) KP) KP)
    (J9 w14)))
    (J9 w14))) ∧
    ∀ e0 : Env, ∀ w41 : World, J9 w41 →
    C.link_Link_Due p5.1 (IntKind.i64.wrap (p2 + 5)) w41 (fun r44 w42 => ∃ p43 : Sl, r44 = .slice p43.a p43.len p43.cap ∧
    ∃ (I45 : Int → Int → World → Prop) (M46 : Int → Int → World → Nat),
    (∃ u47 : Int, (.int .i64 0 : Value) = .int .i64 u47 ∧ ∃ u48 : Int, (.int .i64 0 : Value) = .int .i64 u48 ∧ I45 u47 u48 w42) ∧
    ∀ e0 : Env, ∀ v49 : Int, ∀ v50 : Int, ∀ w51 : World, I45 v49 v50 w51 →
    (cond (decide ((v50 : Int) < 8))
    (((0 : Int) ≤ v50 ∧ (v50 : Int) < (8 : Int)) ∧ ∃ y52 : Int, (okVal false 1 (.int .i64 y52) = true ∧ w51.cell? (Addr.add ⟨b7, 0, none⟩ (v50.toNat * 19)) = some (.int .i64 y52)) ∧
    (cond ((y52 : Int) == 0)
    (∃ u53 : Int, (.int .i64 v49 : Value) = .int .i64 u53 ∧ ∃ u54 : Int, (.int .i64 (IntKind.i64.wrap (v50 + 1)) : Value) = .int .i64 u54 ∧ (I45 u53 u54 w51 ∧ M46 u53 u54 w51 < M46 v49 v50 w51))
    (∀ w55, Drew w51 w55 →
    (cond (decide ((v49 : Int) ≥ (p43.len : Int)))
    (K (.bool false) w55)
    (((0 : Int) ≤ v49 ∧ (v49 : Int) < (p43.len : Int)) ∧ withSome p43.a fun a56 =>
    ∃ y57 : S.api_Tele, (okVal true 19 (S.api_Tele.v y57) = true ∧ rd w55 (Addr.add a56 (v49.toNat * 19)) (S.api_Tele.v y57)) ∧
    ((0 : Int) ≤ v50 ∧ (v50 : Int) < (8 : Int)) ∧ ∃ y58 : S.api_Tele, (okVal true 19 (S.api_Tele.v y58) = true ∧ rd w55 (Addr.add ⟨b7, 0, none⟩ (v50.toNat * 19)) (S.api_Tele.v y58)) ∧
    (cond (!((((y57.Kind : Int) == y58.Kind) && (((y57.Robot : Int) == y58.Robot) && (((y57.Epoch : Int) == y58.Epoch) && (((y57.Num : Int) == y58.Num) && ((((y57.Move.Kind : Int) == y58.Move.Kind) && (((y57.Move.Dir : Int) == y58.Move.Dir) && (((y57.Move.N : Int) == y58.Move.N) && (((((y57.Move.From.At.X : Int) == y58.Move.From.At.X) && (((y57.Move.From.At.Y : Int) == y58.Move.From.At.Y) && true)) && ((y57.Move.From.Down == y58.Move.From.Down) && true)) && (((((y57.Move.To.At.X : Int) == y58.Move.To.At.X) && (((y57.Move.To.At.Y : Int) == y58.Move.To.At.Y) && true)) && ((y57.Move.To.Down == y58.Move.To.Down) && true)) && (((y57.Move.At : Int) == y58.Move.At) && (((y57.Move.End : Int) == y58.Move.End) && true))))))) && (((((y57.Pose.At.X : Int) == y58.Pose.At.X) && (((y57.Pose.At.Y : Int) == y58.Pose.At.Y) && true)) && ((y57.Pose.Down == y58.Pose.Down) && true)) && (((y57.Load : Int) == y58.Load) && true)))))))))
    (K (.bool false) w55)
    (∃ u59 : Int, (.int .i64 (IntKind.i64.wrap (v49 + 1)) : Value) = .int .i64 u59 ∧ ∃ u60 : Int, (.int .i64 (IntKind.i64.wrap (v50 + 1)) : Value) = .int .i64 u60 ∧ (I45 u59 u60 w55 ∧ M46 u59 u60 w55 < M46 v49 v50 w51))))))))
    ((cond ((v49 : Int) == (p43.len : Int))
    (C.skeplaw17_awake  w51 (fun r63 w61 => ∃ p62 : Bool, r63 = .bool p62 ∧
    K (.bool p62) w61) KP)
    (K (.bool false) w51))))) KP))))) KP) KP
theorem skeplaw17_LinkOrder_of {l : Sl} {now : Int} {w : World} {K : Value → World → Prop} {KP : List PanicEntry → World → Prop} (h : W.skeplaw17_LinkOrder l now w K KP) : C.skeplaw17_LinkOrder l now w K KP :=
  xcall (E := E) (T := mkTab [(7, [(8, 3)]), (19, [(13, 3), (14, 3)])] [(7, [4, 8, 9, 10, 11, 27, 28, 29, 30, 31, 32, 33, 34, 35, 36, 37, 38, 39, 40, 41, 42, 43, 44, 45, 46, 47, 48, 49, 50, 51, 52, 53, 54, 55, 56, 57, 58, 59, 60, 61, 62]), (19, [4, 13, 14, 67, 68, 69, 70, 71, 72, 73, 74, 75, 76, 77, 78, 79, 80, 81, 82, 83, 84, 85, 86, 87, 88, 89, 90, 91])] [(16, [])] [(16, [4, 8, 9, 10, 11, 27, 28, 29, 30, 31, 32, 33, 34, 35, 36, 37, 38, 39, 40, 41, 42, 43, 44, 45, 46, 47, 48, 49, 50, 51, 52, 53, 54, 55, 56, 57, 58, 59, 60, 61, 62])] [(22, [0, 1, 2, 3, 4, 5, 6, 7, 8, 9, 10, 11, 12, 13])] [(22, [0, 0, 2, 7, 15, 31, 31, 127, 255, 31, 543, 1567, 4095, 8191])] []) (c := Try.f3.body.getD .skip) (rs := [.tmp 4]) ⟨⟩ mixed Try.func3 (by kernel_rfl) (by kernel_rfl) [.slice l.a l.len l.cap, .int .i64 now] (by kernel_rfl) (by kernel_rfl) (.inr (by kernel_rfl)) (Eq.mp (by kernel_rfl) h)

def W.skeplaw17_LinkNews (robots : Int) (resend : Int) (w : World) (K : Value → World → Prop) (KP : List PanicEntry → World → Prop) : Prop :=
   C.link_New robots resend w (fun r3 w1 => ∃ p2 : ((Option Addr) × Int), r3 = .tuple #[.pointer p2.1, .int .i64 p2.2] ∧
    (cond (decide ((robots : Int) < 0))
    ((cond p2.1.isNone
    ((cond ((p2.2 : Int) == 1)
    (C.skeplaw17_awake  w1 (fun r6 w4 => ∃ p5 : Bool, r6 = .bool p5 ∧
    K (.bool p5) w4) KP)
    (K (.bool false) w1)))
    (K (.bool false) w1)))
    ((cond (decide ((robots : Int) > 8))
    ((cond p2.1.isNone
    ((cond ((p2.2 : Int) == 1)
    (C.skeplaw17_awake  w1 (fun r9 w7 => ∃ p8 : Bool, r9 = .bool p8 ∧
    K (.bool p8) w7) KP)
    (K (.bool false) w1)))
    (K (.bool false) w1)))
    ((cond (decide ((resend : Int) < 1))
    ((cond p2.1.isNone
    ((cond ((p2.2 : Int) == 1)
    (C.skeplaw17_awake  w1 (fun r12 w10 => ∃ p11 : Bool, r12 = .bool p11 ∧
    K (.bool p11) w10) KP)
    (K (.bool false) w1)))
    (K (.bool false) w1)))
    ((cond ((p2.2 : Int) != 0)
    (K (.bool false) w1)
    ((cond p2.1.isNone
    (K (.bool false) w1)
    (C.link_Link_Due p2.1 1099511627776 w1 (fun r15 w13 => ∃ p14 : Sl, r15 = .slice p14.a p14.len p14.cap ∧
    (cond (((p14.len : Int) : Int) != 0)
    (K (.bool false) w13)
    (∃ (I16 : Int → World → Prop) (M17 : Int → World → Nat),
    (∃ u18 : Int, (.int .i64 (-1) : Value) = .int .i64 u18 ∧ I16 u18 w13) ∧
    ∀ e0 : Env, ∀ v19 : Int, ∀ w20 : World, I16 v19 w20 →
    (cond (decide ((v19 : Int) ≤ robots))
    (C.link_Link_Waits p2.1 v19 w20 (fun r23 w21 => ∃ p22 : (S.api_Tele × Bool), r23 = .tuple #[S.api_Tele.v p22.1, .bool p22.2] ∧
    ∀ (b24 : Nat) (w25 : World), Alloc w21 b24 35 [.int .i64 0, .int .i64 0, .int .i64 0, .int .i64 0, .int .i64 0, .int .i64 0, .int .i64 0, .int .i64 0, .int .i64 0, .bool false, .int .i64 0, .int .i64 0, .bool false, .int .i64 0, .int .i64 0, .int .i64 0, .int .i64 0, .bool false, .int .i64 0] w25 →
    (okVal true 19 (S.api_Tele.v p22.1) = true ∧ canPut w25 ⟨b24, 0, none⟩ (S.api_Tele.v p22.1)) ∧ ∀ w26 : World, w26 = putAt w25 ⟨b24, 0, none⟩ (S.api_Tele.v p22.1) →
    C.link_Link_Send p2.1 (⟨2, v19, 0, 0, ⟨0, 0, 0, ⟨⟨0, 0⟩, false⟩, ⟨⟨0, 0⟩, false⟩, 0, 0⟩, ⟨⟨0, 0⟩, false⟩, 0⟩) 0 w26 (fun r29 w27 => ∃ p28 : (S.api_Tele × Int), r29 = .tuple #[S.api_Tele.v p28.1, .int .i64 p28.2] ∧
    ∀ (b30 : Nat) (w31 : World), Alloc w27 b30 35 [.int .i64 0, .int .i64 0, .int .i64 0, .int .i64 0, .int .i64 0, .int .i64 0, .int .i64 0, .int .i64 0, .int .i64 0, .bool false, .int .i64 0, .int .i64 0, .bool false, .int .i64 0, .int .i64 0, .int .i64 0, .int .i64 0, .bool false, .int .i64 0] w31 →
    (okVal true 19 (S.api_Tele.v p28.1) = true ∧ canPut w31 ⟨b30, 0, none⟩ (S.api_Tele.v p28.1)) ∧ ∀ w32 : World, w32 = putAt w31 ⟨b30, 0, none⟩ (S.api_Tele.v p28.1) →
    (cond p22.2
    (K (.bool false) w32)
    ((cond (decide ((v19 : Int) ≥ 0))
    ((cond (!(((p28.2 : Int) == 0) == (decide ((v19 : Int) < robots))))
    (K (.bool false) w32)
    (∃ u33 : Int, (.int .i64 (IntKind.i64.wrap (v19 + 1)) : Value) = .int .i64 u33 ∧ (I16 u33 w32 ∧ M17 u33 w32 < M17 v19 w20))))
    ((cond (!(((p28.2 : Int) == 0) == false))
    (K (.bool false) w32)
    (∃ u34 : Int, (.int .i64 (IntKind.i64.wrap (v19 + 1)) : Value) = .int .i64 u34 ∧ (I16 u34 w32 ∧ M17 u34 w32 < M17 v19 w20)))))))) KP) KP)
    (C.skeplaw17_awake  w20 (fun r37 w35 => ∃ p36 : Bool, r37 = .bool p36 ∧
    K (.bool p36) w35) KP))))) KP))))))))))) KP
theorem skeplaw17_LinkNews_of {robots : Int} {resend : Int} {w : World} {K : Value → World → Prop} {KP : List PanicEntry → World → Prop} (h : W.skeplaw17_LinkNews robots resend w K KP) : C.skeplaw17_LinkNews robots resend w K KP :=
  xcall (E := E) (T := mkTab [(7, [(7, 3)])] [(7, [4, 7, 8, 9, 10, 11, 49, 50, 51, 52, 53, 54, 55, 56, 57, 58, 59, 60, 61, 62, 63, 64, 65, 66, 67, 68, 69, 70, 71, 72, 73, 74, 75, 76, 77, 78, 79])] [] [] [] [] []) (c := Try.f4.body.getD .skip) (rs := [.tmp 4]) ⟨⟩ mixed Try.func4 (by kernel_rfl) (by kernel_rfl) [.int .i64 robots, .int .i64 resend] (by kernel_rfl) (by kernel_rfl) (.inr (by kernel_rfl)) (Eq.mp (by kernel_rfl) h)

def W.skeplaw17_LinkAgain (resend : Int) (gaps : Sl) (got : Int) (w : World) (K : Value → World → Prop) (KP : List PanicEntry → World → Prop) : Prop :=
   C.skeplaw00_Place resend 50 w (fun r3 w1 => ∃ p2 : Int, r3 = .int .i64 p2 ∧
    C.link_New 1 (IntKind.i64.wrap (1 + p2)) w1 (fun r6 w4 => ∃ p5 : ((Option Addr) × Int), r6 = .tuple #[.pointer p5.1, .int .i64 p5.2] ∧
    (cond ((p5.2 : Int) != 0)
    (K (.bool false) w4)
    ((cond p5.1.isNone
    (K (.bool false) w4)
    (C.link_Link_Send p5.1 (⟨1, 0, 4, 9, ⟨0, 0, 0, ⟨⟨0, 0⟩, false⟩, ⟨⟨0, 0⟩, false⟩, 0, 0⟩, ⟨⟨0, 0⟩, false⟩, 0⟩) 100 w4 (fun r9 w7 => ∃ p8 : (S.api_Tele × Int), r9 = .tuple #[S.api_Tele.v p8.1, .int .i64 p8.2] ∧
    ∀ (b10 : Nat) (w11 : World), Alloc w7 b10 35 [.int .i64 0, .int .i64 0, .int .i64 0, .int .i64 0, .int .i64 0, .int .i64 0, .int .i64 0, .int .i64 0, .int .i64 0, .bool false, .int .i64 0, .int .i64 0, .bool false, .int .i64 0, .int .i64 0, .int .i64 0, .int .i64 0, .bool false, .int .i64 0] w11 →
    (okVal true 19 (S.api_Tele.v p8.1) = true ∧ canPut w11 ⟨b10, 0, none⟩ (S.api_Tele.v p8.1)) ∧ ∀ w12 : World, w12 = putAt w11 ⟨b10, 0, none⟩ (S.api_Tele.v p8.1) →
    (cond ((p8.2 : Int) != 0)
    (K (.bool false) w12)
    (C.skeplaw00_Place got 60 w12 (fun r15 w13 => ∃ p14 : Int, r15 = .int .i64 p14 ∧
    ∃ (I16 : Int → Int → Int → World → Prop) (M17 : Int → Int → Int → World → Nat),
    (∃ u18 : Int, (.int .i64 100 : Value) = .int .i64 u18 ∧ ∃ u19 : Int, (.int .i64 100 : Value) = .int .i64 u19 ∧ ∃ u20 : Int, (.int .i64 0 : Value) = .int .i64 u20 ∧ I16 u18 u19 u20 w13) ∧
    ∀ e0 : Env, ∀ v21 : Int, ∀ v22 : Int, ∀ v23 : Int, ∀ w24 : World, I16 v21 v22 v23 w24 →
    (cond (decide ((v23 : Int) < (gaps.len : Int)))
    ((cond (decide ((v23 : Int) < 60))
    (∃ J25 : World → Prop,
    ((cond ((v23 : Int) == p14)
    (C.link_Link_Got p5.1 0 w24 (fun r28 w26 => ∃ p27 : Bool, r28 = .bool p27 ∧
    (cond (!p27)
    (K (.bool false) w26)
    (C.link_Link_Got p5.1 0 w26 (fun r31 w29 => ∃ p30 : Bool, r31 = .bool p30 ∧
    (cond p30
    (K (.bool false) w29)
    (J25 w29))) KP))) KP)
    (J25 w24))) ∧
    ∀ e0 : Env, ∀ w32 : World, J25 w32 →
    ((0 : Int) ≤ v23 ∧ (v23 : Int) < (gaps.len : Int)) ∧ withSome gaps.a fun a33 =>
    ∃ y34 : Int, (okVal false 1 (.int .i64 y34) = true ∧ w32.cell? (Addr.add a33 (v23.toNat * 1)) = some (.int .i64 y34)) ∧
    C.skeplaw00_Place y34 40 w32 (fun r37 w35 => ∃ p36 : Int, r37 = .int .i64 p36 ∧
    C.link_Link_Due p5.1 (IntKind.i64.wrap (v21 + p36)) w35 (fun r40 w38 => ∃ p39 : Sl, r40 = .slice p39.a p39.len p39.cap ∧
    (cond (decide ((v23 : Int) ≥ p14))
    ((cond (((p39.len : Int) : Int) != 0)
    (K (.bool false) w38)
    (∃ u41 : Int, (.int .i64 (IntKind.i64.wrap (v21 + p36)) : Value) = .int .i64 u41 ∧ ∃ u42 : Int, (.int .i64 v22 : Value) = .int .i64 u42 ∧ ∃ u43 : Int, (.int .i64 (IntKind.i64.wrap (v23 + 1)) : Value) = .int .i64 u43 ∧ (I16 u41 u42 u43 w38 ∧ M17 u41 u42 u43 w38 < M17 v21 v22 v23 w24))))
    ((cond (decide (((IntKind.i64.wrap ((IntKind.i64.wrap (v21 + p36)) - v22)) : Int) ≥ (IntKind.i64.wrap (1 + p2))))
    (∀ w44, Drew w38 w44 →
    (cond (((p39.len : Int) : Int) != 1)
    (K (.bool false) w44)
    (((0 : Int) ≤ 0 ∧ (0 : Int) < (p39.len : Int)) ∧ withSome p39.a fun a45 =>
    ∃ y46 : S.api_Tele, (okVal true 19 (S.api_Tele.v y46) = true ∧ rd w44 a45 (S.api_Tele.v y46)) ∧
    ∃ y47 : S.api_Tele, (okVal true 19 (S.api_Tele.v y47) = true ∧ rd w44 ⟨b10, 0, none⟩ (S.api_Tele.v y47)) ∧
    (cond (!((((y46.Kind : Int) == y47.Kind) && (((y46.Robot : Int) == y47.Robot) && (((y46.Epoch : Int) == y47.Epoch) && (((y46.Num : Int) == y47.Num) && ((((y46.Move.Kind : Int) == y47.Move.Kind) && (((y46.Move.Dir : Int) == y47.Move.Dir) && (((y46.Move.N : Int) == y47.Move.N) && (((((y46.Move.From.At.X : Int) == y47.Move.From.At.X) && (((y46.Move.From.At.Y : Int) == y47.Move.From.At.Y) && true)) && ((y46.Move.From.Down == y47.Move.From.Down) && true)) && (((((y46.Move.To.At.X : Int) == y47.Move.To.At.X) && (((y46.Move.To.At.Y : Int) == y47.Move.To.At.Y) && true)) && ((y46.Move.To.Down == y47.Move.To.Down) && true)) && (((y46.Move.At : Int) == y47.Move.At) && (((y46.Move.End : Int) == y47.Move.End) && true))))))) && (((((y46.Pose.At.X : Int) == y47.Pose.At.X) && (((y46.Pose.At.Y : Int) == y47.Pose.At.Y) && true)) && ((y46.Pose.Down == y47.Pose.Down) && true)) && (((y46.Load : Int) == y47.Load) && true)))))))))
    (K (.bool false) w44)
    (∃ u48 : Int, (.int .i64 (IntKind.i64.wrap (v21 + p36)) : Value) = .int .i64 u48 ∧ ∃ u49 : Int, (.int .i64 (IntKind.i64.wrap (v21 + p36)) : Value) = .int .i64 u49 ∧ ∃ u50 : Int, (.int .i64 (IntKind.i64.wrap (v23 + 1)) : Value) = .int .i64 u50 ∧ (I16 u48 u49 u50 w44 ∧ M17 u48 u49 u50 w44 < M17 v21 v22 v23 w24))))))
    ((cond (((p39.len : Int) : Int) != 0)
    (K (.bool false) w38)
    (∃ u51 : Int, (.int .i64 (IntKind.i64.wrap (v21 + p36)) : Value) = .int .i64 u51 ∧ ∃ u52 : Int, (.int .i64 v22 : Value) = .int .i64 u52 ∧ ∃ u53 : Int, (.int .i64 (IntKind.i64.wrap (v23 + 1)) : Value) = .int .i64 u53 ∧ (I16 u51 u52 u53 w38 ∧ M17 u51 u52 u53 w38 < M17 v21 v22 v23 w24)))))))) KP) KP)
    (C.skeplaw17_awake  w24 (fun r56 w54 => ∃ p55 : Bool, r56 = .bool p55 ∧
    K (.bool p55) w54) KP)))
    (C.skeplaw17_awake  w24 (fun r59 w57 => ∃ p58 : Bool, r59 = .bool p58 ∧
    K (.bool p58) w57) KP))) KP))) KP))))) KP) KP
theorem skeplaw17_LinkAgain_of {resend : Int} {gaps : Sl} {got : Int} {w : World} {K : Value → World → Prop} {KP : List PanicEntry → World → Prop} (h : W.skeplaw17_LinkAgain resend gaps got w K KP) : C.skeplaw17_LinkAgain resend gaps got w K KP :=
  xcall (E := E) (T := mkTab [(11, [(11, 3), (12, 3), (14, 3)])] [(11, [6, 11, 12, 14, 15, 40, 41, 42, 43, 44, 45, 46, 47, 48, 49, 50, 51, 52, 53, 54, 55, 56, 57, 58, 59, 60, 61, 62, 63, 64, 65, 66, 67, 68, 69, 70, 71, 72, 73, 74, 75, 76, 77, 78, 79, 80, 81, 82, 83, 84, 85, 86, 87, 88, 89, 90, 91, 92, 93, 94, 95, 96])] [(15, [])] [(15, [6, 50, 51, 52, 53, 54, 55, 56, 57, 58, 59, 60, 61])] [(21, [0, 1, 2, 3, 4, 5, 6, 7, 8, 9])] [(21, [0, 1, 3, 7, 15, 31, 63, 15, 255, 511])] []) (c := Try.f5.body.getD .skip) (rs := [.tmp 6]) ⟨⟩ mixed Try.func5 (by kernel_rfl) (by kernel_rfl) [.int .i64 resend, .slice gaps.a gaps.len gaps.cap, .int .i64 got] (by kernel_rfl) (by kernel_rfl) (.inr (by kernel_rfl)) (Eq.mp (by kernel_rfl) h)

def W.skeplaw17_LinkLast (l : Sl) (t : S.api_Tele) (now : Int) (w : World) (K : Value → World → Prop) (KP : List PanicEntry → World → Prop) : Prop :=
   ∀ (b1 : Nat) (w2 : World), Alloc w b1 35 (S.api_Tele.v t : Value).cells.toList w2 →
    C.skeplaw00_Place now 1000 w2 (fun r5 w3 => ∃ p4 : Int, r5 = .int .i64 p4 ∧
    C.link_New 8 7 w3 (fun r8 w6 => ∃ p7 : ((Option Addr) × Int), r8 = .tuple #[.pointer p7.1, .int .i64 p7.2] ∧
    (cond ((p7.2 : Int) != 0)
    (K (.bool false) w6)
    ((cond p7.1.isNone
    (K (.bool false) w6)
    (∃ J9 : World → Prop,
    (∃ (I10 : Int → World → Prop) (M11 : Int → World → Nat),
    (∃ u12 : Int, (.int .i64 0 : Value) = .int .i64 u12 ∧ I10 u12 w6) ∧
    ∀ e0 : Env, ∀ v13 : Int, ∀ w14 : World, I10 v13 w14 →
    (cond (decide ((v13 : Int) < (l.len : Int)))
    ((cond (decide ((v13 : Int) < 30))
    (((0 : Int) ≤ v13 ∧ (v13 : Int) < (l.len : Int)) ∧ withSome l.a fun a15 =>
    ∃ y16 : S.api_Tele, (okVal true 19 (S.api_Tele.v y16) = true ∧ rd w14 (Addr.add a15 (v13.toNat * 19)) (S.api_Tele.v y16)) ∧
    ∀ (b17 : Nat) (w18 : World), Alloc w14 b17 35 [.int .i64 0, .int .i64 0, .int .i64 0, .int .i64 0, .int .i64 0, .int .i64 0, .int .i64 0, .int .i64 0, .int .i64 0, .bool false, .int .i64 0, .int .i64 0, .bool false, .int .i64 0, .int .i64 0, .int .i64 0, .int .i64 0, .bool false, .int .i64 0] w18 →
    (okVal true 19 (S.api_Tele.v y16) = true ∧ canPut w18 ⟨b17, 0, none⟩ (S.api_Tele.v y16)) ∧ ∀ w19 : World, w19 = putAt w18 ⟨b17, 0, none⟩ (S.api_Tele.v y16) →
    ∃ y20 : Int, (okVal false 1 (.int .i64 y20) = true ∧ w19.cell? ⟨b17, 1, none⟩ = some (.int .i64 y20)) ∧
    C.skeplaw00_Place y20 8 w19 (fun r23 w21 => ∃ p22 : Int, r23 = .int .i64 p22 ∧
    (okVal false 1 (.int .i64 p22) = true ∧ canPut w21 ⟨b17, 1, none⟩ (.int .i64 p22)) ∧ ∀ w24 : World, w24 = putAt w21 ⟨b17, 1, none⟩ (.int .i64 p22) →
    (okVal false 1 (.int .i64 1) = true ∧ canPut w24 ⟨b17, 0, none⟩ (.int .i64 1)) ∧ ∀ w25 : World, w25 = putAt w24 ⟨b17, 0, none⟩ (.int .i64 1) →
    ∃ y26 : S.api_Tele, (okVal true 19 (S.api_Tele.v y26) = true ∧ rd w25 ⟨b17, 0, none⟩ (S.api_Tele.v y26)) ∧
    C.link_Link_Send p7.1 y26 p4 w25 (fun r29 w27 => ∃ p28 : (S.api_Tele × Int), r29 = .tuple #[S.api_Tele.v p28.1, .int .i64 p28.2] ∧
    ∃ u30 : Int, (.int .i64 (IntKind.i64.wrap (v13 + 1)) : Value) = .int .i64 u30 ∧ (I10 u30 w27 ∧ M11 u30 w27 < M11 v13 w14)) KP) KP)
    (J9 w14)))
    (J9 w14))) ∧
    ∀ e0 : Env, ∀ w31 : World, J9 w31 →
    ∀ (b32 : Nat) (w33 : World), Alloc w31 b32 36 [.int .i64 0, .int .i64 0, .int .i64 0, .int .i64 0, .int .i64 0, .int .i64 0, .int .i64 0, .int .i64 0, .int .i64 0, .bool false, .int .i64 0, .int .i64 0, .bool false, .int .i64 0, .int .i64 0, .int .i64 0, .int .i64 0, .bool false, .int .i64 0, .int .i64 0, .int .i64 0, .int .i64 0, .int .i64 0, .int .i64 0, .int .i64 0, .int .i64 0, .int .i64 0, .int .i64 0, .bool false, .int .i64 0, .int .i64 0, .bool false, .int .i64 0, .int .i64 0, .int .i64 0, .int .i64 0, .bool false, .int .i64 0, .int .i64 0, .int .i64 0, .int .i64 0, .int .i64 0, .int .i64 0, .int .i64 0, .int .i64 0, .int .i64 0, .int .i64 0, .bool false, .int .i64 0, .int .i64 0, .bool false, .int .i64 0, .int .i64 0, .int .i64 0, .int .i64 0, .bool false, .int .i64 0, .int .i64 0, .int .i64 0, .int .i64 0, .int .i64 0, .int .i64 0, .int .i64 0, .int .i64 0, .int .i64 0, .int .i64 0, .bool false, .int .i64 0, .int .i64 0, .bool false, .int .i64 0, .int .i64 0, .int .i64 0, .int .i64 0, .bool false, .int .i64 0, .int .i64 0, .int .i64 0, .int .i64 0, .int .i64 0, .int .i64 0, .int .i64 0, .int .i64 0, .int .i64 0, .int .i64 0, .bool false, .int .i64 0, .int .i64 0, .bool false, .int .i64 0, .int .i64 0, .int .i64 0, .int .i64 0, .bool false, .int .i64 0, .int .i64 0, .int .i64 0, .int .i64 0, .int .i64 0, .int .i64 0, .int .i64 0, .int .i64 0, .int .i64 0, .int .i64 0, .bool false, .int .i64 0, .int .i64 0, .bool false, .int .i64 0, .int .i64 0, .int .i64 0, .int .i64 0, .bool false, .int .i64 0, .int .i64 0, .int .i64 0, .int .i64 0, .int .i64 0, .int .i64 0, .int .i64 0, .int .i64 0, .int .i64 0, .int .i64 0, .bool false, .int .i64 0, .int .i64 0, .bool false, .int .i64 0, .int .i64 0, .int .i64 0, .int .i64 0, .bool false, .int .i64 0, .int .i64 0, .int .i64 0, .int .i64 0, .int .i64 0, .int .i64 0, .int .i64 0, .int .i64 0, .int .i64 0, .int .i64 0, .bool false, .int .i64 0, .int .i64 0, .bool false, .int .i64 0, .int .i64 0, .int .i64 0, .int .i64 0, .bool false, .int .i64 0] w33 →
    ∀ (b34 : Nat) (w35 : World), Alloc w33 b34 48 [.bool false, .bool false, .bool false, .bool false, .bool false, .bool false, .bool false, .bool false] w35 →
    ∃ (I36 : Int → World → Prop) (M37 : Int → World → Nat),
    (∃ u38 : Int, (.int .i64 0 : Value) = .int .i64 u38 ∧ I36 u38 w35) ∧
    ∀ e0 : Env, ∀ v39 : Int, ∀ w40 : World, I36 v39 w40 →
    (cond (decide ((v39 : Int) < 8))
    (C.link_Link_Waits p7.1 v39 w40 (fun r43 w41 => ∃ p42 : (S.api_Tele × Bool), r43 = .tuple #[S.api_Tele.v p42.1, .bool p42.2] ∧
    ((0 : Int) ≤ v39 ∧ (v39 : Int) < (8 : Int)) ∧ (okVal true 19 (S.api_Tele.v p42.1) = true ∧ canPut w41 (Addr.add ⟨b32, 0, none⟩ (v39.toNat * 19)) (S.api_Tele.v p42.1)) ∧ ∀ w44 : World, w44 = putAt w41 (Addr.add ⟨b32, 0, none⟩ (v39.toNat * 19)) (S.api_Tele.v p42.1) →
    ((0 : Int) ≤ v39 ∧ (v39 : Int) < (8 : Int)) ∧ (okVal false 1 (.bool p42.2) = true ∧ canPut w44 (Addr.add ⟨b34, 0, none⟩ (v39.toNat * 1)) (.bool p42.2)) ∧ ∀ w45 : World, w45 = putAt w44 (Addr.add ⟨b34, 0, none⟩ (v39.toNat * 1)) (.bool p42.2) →
    ∃ u46 : Int, (.int .i64 (IntKind.i64.wrap (v39 + 1)) : Value) = .int .i64 u46 ∧ (I36 u46 w45 ∧ M37 u46 w45 < M37 v39 w40)) KP)
    (∃ y47 : Int, (okVal false 1 (.int .i64 y47) = true ∧ w40.cell? ⟨b1, 1, none⟩ = some (.int .i64 y47)) ∧
    C.skeplaw00_Place y47 8 w40 (fun r50 w48 => ∃ p49 : Int, r50 = .int .i64 p49 ∧
    (okVal false 1 (.int .i64 p49) = true ∧ canPut w48 ⟨b1, 1, none⟩ (.int .i64 p49)) ∧ ∀ w51 : World, w51 = putAt w48 ⟨b1, 1, none⟩ (.int .i64 p49) →
    (okVal false 1 (.int .i64 2) = true ∧ canPut w51 ⟨b1, 0, none⟩ (.int .i64 2)) ∧ ∀ w52 : World, w52 = putAt w51 ⟨b1, 0, none⟩ (.int .i64 2) →
    ∃ y53 : S.api_Tele, (okVal true 19 (S.api_Tele.v y53) = true ∧ rd w52 ⟨b1, 0, none⟩ (S.api_Tele.v y53)) ∧
    C.link_Link_Send p7.1 y53 (IntKind.i64.wrap (p4 + 3)) w52 (fun r56 w54 => ∃ p55 : (S.api_Tele × Int), r56 = .tuple #[S.api_Tele.v p55.1, .int .i64 p55.2] ∧
    ∀ (b57 : Nat) (w58 : World), Alloc w54 b57 35 [.int .i64 0, .int .i64 0, .int .i64 0, .int .i64 0, .int .i64 0, .int .i64 0, .int .i64 0, .int .i64 0, .int .i64 0, .bool false, .int .i64 0, .int .i64 0, .bool false, .int .i64 0, .int .i64 0, .int .i64 0, .int .i64 0, .bool false, .int .i64 0] w58 →
    (okVal true 19 (S.api_Tele.v p55.1) = true ∧ canPut w58 ⟨b57, 0, none⟩ (S.api_Tele.v p55.1)) ∧ ∀ w59 : World, w59 = putAt w58 ⟨b57, 0, none⟩ (S.api_Tele.v p55.1) →
    (cond ((p55.2 : Int) != 0)
    (K (.bool false) w59)
    (∃ y60 : S.api_Tele, (okVal true 19 (S.api_Tele.v y60) = true ∧ rd w59 ⟨b57, 0, none⟩ (S.api_Tele.v y60)) ∧
    ∃ y61 : S.api_Tele, (okVal true 19 (S.api_Tele.v y61) = true ∧ rd w59 ⟨b1, 0, none⟩ (S.api_Tele.v y61)) ∧
    (cond (!((((y60.Kind : Int) == y61.Kind) && (((y60.Robot : Int) == y61.Robot) && (((y60.Epoch : Int) == y61.Epoch) && (((y60.Num : Int) == y61.Num) && ((((y60.Move.Kind : Int) == y61.Move.Kind) && (((y60.Move.Dir : Int) == y61.Move.Dir) && (((y60.Move.N : Int) == y61.Move.N) && (((((y60.Move.From.At.X : Int) == y61.Move.From.At.X) && (((y60.Move.From.At.Y : Int) == y61.Move.From.At.Y) && true)) && ((y60.Move.From.Down == y61.Move.From.Down) && true)) && (((((y60.Move.To.At.X : Int) == y61.Move.To.At.X) && (((y60.Move.To.At.Y : Int) == y61.Move.To.At.Y) && true)) && ((y60.Move.To.Down == y61.Move.To.Down) && true)) && (((y60.Move.At : Int) == y61.Move.At) && (((y60.Move.End : Int) == y61.Move.End) && true))))))) && (((((y60.Pose.At.X : Int) == y61.Pose.At.X) && (((y60.Pose.At.Y : Int) == y61.Pose.At.Y) && true)) && ((y60.Pose.Down == y61.Pose.Down) && true)) && (((y60.Load : Int) == y61.Load) && true)))))))))
    (K (.bool false) w59)
    (∃ (I62 : Int → World → Prop) (M63 : Int → World → Nat),
    (∃ u64 : Int, (.int .i64 0 : Value) = .int .i64 u64 ∧ I62 u64 w59) ∧
    ∀ e0 : Env, ∀ v65 : Int, ∀ w66 : World, I62 v65 w66 →
    (cond (decide ((v65 : Int) < 8))
    (C.link_Link_Waits p7.1 v65 w66 (fun r69 w67 => ∃ p68 : (S.api_Tele × Bool), r69 = .tuple #[S.api_Tele.v p68.1, .bool p68.2] ∧
    ∀ (b70 : Nat) (w71 : World), Alloc w67 b70 35 [.int .i64 0, .int .i64 0, .int .i64 0, .int .i64 0, .int .i64 0, .int .i64 0, .int .i64 0, .int .i64 0, .int .i64 0, .bool false, .int .i64 0, .int .i64 0, .bool false, .int .i64 0, .int .i64 0, .int .i64 0, .int .i64 0, .bool false, .int .i64 0] w71 →
    (okVal true 19 (S.api_Tele.v p68.1) = true ∧ canPut w71 ⟨b70, 0, none⟩ (S.api_Tele.v p68.1)) ∧ ∀ w72 : World, w72 = putAt w71 ⟨b70, 0, none⟩ (S.api_Tele.v p68.1) →
    ∀ w73, Drew w72 w73 →
    ∃ y74 : Int, (okVal false 1 (.int .i64 y74) = true ∧ w73.cell? ⟨b1, 1, none⟩ = some (.int .i64 y74)) ∧
    (cond ((v65 : Int) == y74)
    (∃ y75 : S.api_Tele, (okVal true 19 (S.api_Tele.v y75) = true ∧ rd w73 ⟨b70, 0, none⟩ (S.api_Tele.v y75)) ∧
    ∃ y76 : S.api_Tele, (okVal true 19 (S.api_Tele.v y76) = true ∧ rd w73 ⟨b1, 0, none⟩ (S.api_Tele.v y76)) ∧
    (cond (!((((y75.Kind : Int) == y76.Kind) && (((y75.Robot : Int) == y76.Robot) && (((y75.Epoch : Int) == y76.Epoch) && (((y75.Num : Int) == y76.Num) && ((((y75.Move.Kind : Int) == y76.Move.Kind) && (((y75.Move.Dir : Int) == y76.Move.Dir) && (((y75.Move.N : Int) == y76.Move.N) && (((((y75.Move.From.At.X : Int) == y76.Move.From.At.X) && (((y75.Move.From.At.Y : Int) == y76.Move.From.At.Y) && true)) && ((y75.Move.From.Down == y76.Move.From.Down) && true)) && (((((y75.Move.To.At.X : Int) == y76.Move.To.At.X) && (((y75.Move.To.At.Y : Int) == y76.Move.To.At.Y) && true)) && ((y75.Move.To.Down == y76.Move.To.Down) && true)) && (((y75.Move.At : Int) == y76.Move.At) && (((y75.Move.End : Int) == y76.Move.End) && true))))))) && (((((y75.Pose.At.X : Int) == y76.Pose.At.X) && (((y75.Pose.At.Y : Int) == y76.Pose.At.Y) && true)) && ((y75.Pose.Down == y76.Pose.Down) && true)) && (((y75.Load : Int) == y76.Load) && true)))))))))
    (K (.bool false) w73)
    ((cond (!p68.2)
    (K (.bool false) w73)
    (∃ y77 : Int, (okVal false 1 (.int .i64 y77) = true ∧ w73.cell? ⟨b1, 1, none⟩ = some (.int .i64 y77)) ∧
    (cond ((v65 : Int) != y77)
    (∃ y78 : S.api_Tele, (okVal true 19 (S.api_Tele.v y78) = true ∧ rd w73 ⟨b70, 0, none⟩ (S.api_Tele.v y78)) ∧
    ((0 : Int) ≤ v65 ∧ (v65 : Int) < (8 : Int)) ∧ ∃ y79 : S.api_Tele, (okVal true 19 (S.api_Tele.v y79) = true ∧ rd w73 (Addr.add ⟨b32, 0, none⟩ (v65.toNat * 19)) (S.api_Tele.v y79)) ∧
    (cond (!((((y78.Kind : Int) == y79.Kind) && (((y78.Robot : Int) == y79.Robot) && (((y78.Epoch : Int) == y79.Epoch) && (((y78.Num : Int) == y79.Num) && ((((y78.Move.Kind : Int) == y79.Move.Kind) && (((y78.Move.Dir : Int) == y79.Move.Dir) && (((y78.Move.N : Int) == y79.Move.N) && (((((y78.Move.From.At.X : Int) == y79.Move.From.At.X) && (((y78.Move.From.At.Y : Int) == y79.Move.From.At.Y) && true)) && ((y78.Move.From.Down == y79.Move.From.Down) && true)) && (((((y78.Move.To.At.X : Int) == y79.Move.To.At.X) && (((y78.Move.To.At.Y : Int) == y79.Move.To.At.Y) && true)) && ((y78.Move.To.Down == y79.Move.To.Down) && true)) && (((y78.Move.At : Int) == y79.Move.At) && (((y78.Move.End : Int) == y79.Move.End) && true))))))) && (((((y78.Pose.At.X : Int) == y79.Pose.At.X) && (((y78.Pose.At.Y : Int) == y79.Pose.At.Y) && true)) && ((y78.Pose.Down == y79.Pose.Down) && true)) && (((y78.Load : Int) == y79.Load) && true)))))))))
    (K (.bool false) w73)
    (((0 : Int) ≤ v65 ∧ (v65 : Int) < (8 : Int)) ∧ ∃ y80 : Bool, (okVal false 1 (.bool y80) = true ∧ w73.cell? (Addr.add ⟨b34, 0, none⟩ (v65.toNat * 1)) = some (.bool y80)) ∧
    (cond (!(p68.2 == y80))
    (K (.bool false) w73)
    (∃ u81 : Int, (.int .i64 (IntKind.i64.wrap (v65 + 1)) : Value) = .int .i64 u81 ∧ (I62 u81 w73 ∧ M63 u81 w73 < M63 v65 w66))))))
    (∃ u82 : Int, (.int .i64 (IntKind.i64.wrap (v65 + 1)) : Value) = .int .i64 u82 ∧ (I62 u82 w73 ∧ M63 u82 w73 < M63 v65 w66))))))))
    (∃ y83 : Int, (okVal false 1 (.int .i64 y83) = true ∧ w73.cell? ⟨b1, 1, none⟩ = some (.int .i64 y83)) ∧
    (cond ((v65 : Int) != y83)
    (∃ y84 : S.api_Tele, (okVal true 19 (S.api_Tele.v y84) = true ∧ rd w73 ⟨b70, 0, none⟩ (S.api_Tele.v y84)) ∧
    ((0 : Int) ≤ v65 ∧ (v65 : Int) < (8 : Int)) ∧ ∃ y85 : S.api_Tele, (okVal true 19 (S.api_Tele.v y85) = true ∧ rd w73 (Addr.add ⟨b32, 0, none⟩ (v65.toNat * 19)) (S.api_Tele.v y85)) ∧
    (cond (!((((y84.Kind : Int) == y85.Kind) && (((y84.Robot : Int) == y85.Robot) && (((y84.Epoch : Int) == y85.Epoch) && (((y84.Num : Int) == y85.Num) && ((((y84.Move.Kind : Int) == y85.Move.Kind) && (((y84.Move.Dir : Int) == y85.Move.Dir) && (((y84.Move.N : Int) == y85.Move.N) && (((((y84.Move.From.At.X : Int) == y85.Move.From.At.X) && (((y84.Move.From.At.Y : Int) == y85.Move.From.At.Y) && true)) && ((y84.Move.From.Down == y85.Move.From.Down) && true)) && (((((y84.Move.To.At.X : Int) == y85.Move.To.At.X) && (((y84.Move.To.At.Y : Int) == y85.Move.To.At.Y) && true)) && ((y84.Move.To.Down == y85.Move.To.Down) && true)) && (((y84.Move.At : Int) == y85.Move.At) && (((y84.Move.End : Int) == y85.Move.End) && true))))))) && (((((y84.Pose.At.X : Int) == y85.Pose.At.X) && (((y84.Pose.At.Y : Int) == y85.Pose.At.Y) && true)) && ((y84.Pose.Down == y85.Pose.Down) && true)) && (((y84.Load : Int) == y85.Load) && true)))))))))
    (K (.bool false) w73)
    (((0 : Int) ≤ v65 ∧ (v65 : Int) < (8 : Int)) ∧ ∃ y86 : Bool, (okVal false 1 (.bool y86) = true ∧ w73.cell? (Addr.add ⟨b34, 0, none⟩ (v65.toNat * 1)) = some (.bool y86)) ∧
    (cond (!(p68.2 == y86))
    (K (.bool false) w73)
    (∃ u87 : Int, (.int .i64 (IntKind.i64.wrap (v65 + 1)) : Value) = .int .i64 u87 ∧ (I62 u87 w73 ∧ M63 u87 w73 < M63 v65 w66))))))
    (∃ u88 : Int, (.int .i64 (IntKind.i64.wrap (v65 + 1)) : Value) = .int .i64 u88 ∧ (I62 u88 w73 ∧ M63 u88 w73 < M63 v65 w66)))))) KP)
    (∃ y89 : Int, (okVal false 1 (.int .i64 y89) = true ∧ w66.cell? ⟨b1, 1, none⟩ = some (.int .i64 y89)) ∧
    C.link_Link_Got p7.1 y89 w66 (fun r92 w90 => ∃ p91 : Bool, r92 = .bool p91 ∧
    (cond p91
    (∃ y93 : Int, (okVal false 1 (.int .i64 y93) = true ∧ w90.cell? ⟨b1, 1, none⟩ = some (.int .i64 y93)) ∧
    C.link_Link_Got p7.1 y93 w90 (fun r96 w94 => ∃ p95 : Bool, r96 = .bool p95 ∧
    (cond (!p95)
    (C.skeplaw17_awake  w94 (fun r99 w97 => ∃ p98 : Bool, r99 = .bool p98 ∧
    K (.bool p98) w97) KP)
    (K (.bool false) w94))) KP)
    (K (.bool false) w90))) KP))))))) KP) KP))))))) KP) KP
theorem skeplaw17_LinkLast_of {l : Sl} {t : S.api_Tele} {now : Int} {w : World} {K : Value → World → Prop} {KP : List PanicEntry → World → Prop} (h : W.skeplaw17_LinkLast l t now w K KP) : C.skeplaw17_LinkLast l t now w K KP :=
  xcall (E := E) (T := mkTab [(6, [(9, 3)]), (15, [(13, 3)]), (24, [(16, 3)])] [(6, [9, 10, 31, 32, 33, 34, 35, 36, 37, 38, 39, 40, 41, 42, 43, 44, 45, 46, 47, 48, 49, 50, 51, 52, 53]), (15, [13, 54, 55, 56, 57, 58, 59, 60, 61, 62, 63, 64, 65, 66, 67]), (24, [6, 16, 17, 18, 88, 89, 90, 91, 92, 93, 94, 95, 96, 97, 98, 99, 100, 101, 102, 103, 104, 105, 106, 107, 108, 109, 110, 111, 112, 113, 114, 115, 116, 117, 118, 119, 120, 121, 122, 123, 124, 125, 126, 127, 128, 129, 130])] [(12, [])] [(12, [9, 10, 31, 32, 33, 34, 35, 36, 37, 38, 39, 40, 41, 42, 43, 44, 45, 46, 47, 48, 49, 50, 51, 52, 53])] [(27, [0, 1, 2, 3, 4, 5, 6, 7, 8, 9, 10, 11, 12, 13, 14, 15, 16, 17, 18, 19, 20, 21, 22, 23, 24, 25, 26, 27, 28, 29, 30, 31, 32])] [(27, [0, 0, 2, 7, 15, 31, 31, 127, 255, 511, 1023, 2047, 4095, 8191, 16383, 16383, 49151, 131071, 262143, 524287, 524287, 1572863, 3670015, 8388607, 16777215, 33554431, 33554431, 100663295, 234881023, 536870911, 1073741823, 2147483647, 4294967295])] []) (c := Try.f6.body.getD .skip) (rs := [.tmp 6]) ⟨⟩ mixed Try.func6 (by kernel_rfl) (by kernel_rfl) [.slice l.a l.len l.cap, S.api_Tele.v t, .int .i64 now] (by kernel_rfl) (by kernel_rfl) (.inr (by kernel_rfl)) (Eq.mp (by kernel_rfl) h)

def W.skeplaw17_LinkPlays (robots : Int) (resend : Int) (script : Sl) (w : World) (K : Value → World → Prop) (KP : List PanicEntry → World → Prop) : Prop :=
   C.link_New robots resend w (fun r3 w1 => ∃ p2 : ((Option Addr) × Int), r3 = .tuple #[.pointer p2.1, .int .i64 p2.2] ∧
    C.skepref17_New robots resend w1 (fun r6 w4 => ∃ p5 : (Option Addr), r6 = .pointer p5 ∧
    (cond p5.isNone
    ((cond p2.1.isNone
    ((cond ((p2.2 : Int) == 1)
    (C.skeplaw17_awake  w4 (fun r9 w7 => ∃ p8 : Bool, r9 = .bool p8 ∧
    K (.bool p8) w7) KP)
    (K (.bool false) w4)))
    (K (.bool false) w4)))
    ((cond ((p2.2 : Int) != 0)
    (K (.bool false) w4)
    ((cond p2.1.isNone
    (K (.bool false) w4)
    (∃ (I10 : Int → World → Prop) (M11 : Int → World → Nat),
    (∃ u12 : Int, (.int .i64 0 : Value) = .int .i64 u12 ∧ I10 u12 w4) ∧
    ∀ e0 : Env, ∀ v13 : Int, ∀ w14 : World, I10 v13 w14 →
    (cond (decide ((v13 : Int) < (script.len : Int)))
    ((cond (decide ((v13 : Int) < 80))
    (((0 : Int) ≤ v13 ∧ (v13 : Int) < (script.len : Int)) ∧ withSome script.a fun a15 =>
    ∃ y16 : S.skeplaw17_Op, (okVal true 22 (S.skeplaw17_Op.v y16) = true ∧ rd w14 (Addr.add a15 (v13.toNat * 22)) (S.skeplaw17_Op.v y16)) ∧
    ∀ (b17 : Nat) (w18 : World), Alloc w14 b17 54 [.int .i64 0, .int .i64 0, .int .i64 0, .int .i64 0, .int .i64 0, .int .i64 0, .int .i64 0, .int .i64 0, .int .i64 0, .int .i64 0, .int .i64 0, .int .i64 0, .bool false, .int .i64 0, .int .i64 0, .bool false, .int .i64 0, .int .i64 0, .int .i64 0, .int .i64 0, .bool false, .int .i64 0] w18 →
    (okVal true 22 (S.skeplaw17_Op.v y16) = true ∧ canPut w18 ⟨b17, 0, none⟩ (S.skeplaw17_Op.v y16)) ∧ ∀ w19 : World, w19 = putAt w18 ⟨b17, 0, none⟩ (S.skeplaw17_Op.v y16) →
    ∃ J20 : World → Prop,
    (∃ y21 : Int, (okVal false 1 (.int .i64 y21) = true ∧ w19.cell? ⟨b17, 0, none⟩ = some (.int .i64 y21)) ∧
    C.skeplaw00_Place y21 5 w19 (fun r24 w22 => ∃ p23 : Int, r24 = .int .i64 p23 ∧
    (cond ((p23 : Int) == 0)
    ((cond ((p23 : Int) == 0)
    (∃ y25 : S.api_Tele, (okVal true 19 (S.api_Tele.v y25) = true ∧ rd w22 ⟨b17, 3, none⟩ (S.api_Tele.v y25)) ∧
    ∃ y26 : Int, (okVal false 1 (.int .i64 y26) = true ∧ w22.cell? ⟨b17, 2, none⟩ = some (.int .i64 y26)) ∧
    C.link_Link_Send p2.1 y25 y26 w22 (fun r29 w27 => ∃ p28 : (S.api_Tele × Int), r29 = .tuple #[S.api_Tele.v p28.1, .int .i64 p28.2] ∧
    ∀ (b30 : Nat) (w31 : World), Alloc w27 b30 35 [.int .i64 0, .int .i64 0, .int .i64 0, .int .i64 0, .int .i64 0, .int .i64 0, .int .i64 0, .int .i64 0, .int .i64 0, .bool false, .int .i64 0, .int .i64 0, .bool false, .int .i64 0, .int .i64 0, .int .i64 0, .int .i64 0, .bool false, .int .i64 0] w31 →
    (okVal true 19 (S.api_Tele.v p28.1) = true ∧ canPut w31 ⟨b30, 0, none⟩ (S.api_Tele.v p28.1)) ∧ ∀ w32 : World, w32 = putAt w31 ⟨b30, 0, none⟩ (S.api_Tele.v p28.1) →
    ∃ y33 : S.api_Tele, (okVal true 19 (S.api_Tele.v y33) = true ∧ rd w32 ⟨b17, 3, none⟩ (S.api_Tele.v y33)) ∧
    ∃ y34 : Int, (okVal false 1 (.int .i64 y34) = true ∧ w32.cell? ⟨b17, 2, none⟩ = some (.int .i64 y34)) ∧
    C.skepref17_Link_Send p5 y33 y34 w32 (fun r37 w35 => ∃ p36 : (S.api_Tele × Int), r37 = .tuple #[S.api_Tele.v p36.1, .int .i64 p36.2] ∧
    ∀ (b38 : Nat) (w39 : World), Alloc w35 b38 35 [.int .i64 0, .int .i64 0, .int .i64 0, .int .i64 0, .int .i64 0, .int .i64 0, .int .i64 0, .int .i64 0, .int .i64 0, .bool false, .int .i64 0, .int .i64 0, .bool false, .int .i64 0, .int .i64 0, .int .i64 0, .int .i64 0, .bool false, .int .i64 0] w39 →
    (okVal true 19 (S.api_Tele.v p36.1) = true ∧ canPut w39 ⟨b38, 0, none⟩ (S.api_Tele.v p36.1)) ∧ ∀ w40 : World, w40 = putAt w39 ⟨b38, 0, none⟩ (S.api_Tele.v p36.1) →
    ∃ y41 : S.api_Tele, (okVal true 19 (S.api_Tele.v y41) = true ∧ rd w40 ⟨b30, 0, none⟩ (S.api_Tele.v y41)) ∧
    ∃ y42 : S.api_Tele, (okVal true 19 (S.api_Tele.v y42) = true ∧ rd w40 ⟨b38, 0, none⟩ (S.api_Tele.v y42)) ∧
    (cond (!((((y41.Kind : Int) == y42.Kind) && (((y41.Robot : Int) == y42.Robot) && (((y41.Epoch : Int) == y42.Epoch) && (((y41.Num : Int) == y42.Num) && ((((y41.Move.Kind : Int) == y42.Move.Kind) && (((y41.Move.Dir : Int) == y42.Move.Dir) && (((y41.Move.N : Int) == y42.Move.N) && (((((y41.Move.From.At.X : Int) == y42.Move.From.At.X) && (((y41.Move.From.At.Y : Int) == y42.Move.From.At.Y) && true)) && ((y41.Move.From.Down == y42.Move.From.Down) && true)) && (((((y41.Move.To.At.X : Int) == y42.Move.To.At.X) && (((y41.Move.To.At.Y : Int) == y42.Move.To.At.Y) && true)) && ((y41.Move.To.Down == y42.Move.To.Down) && true)) && (((y41.Move.At : Int) == y42.Move.At) && (((y41.Move.End : Int) == y42.Move.End) && true))))))) && (((((y41.Pose.At.X : Int) == y42.Pose.At.X) && (((y41.Pose.At.Y : Int) == y42.Pose.At.Y) && true)) && ((y41.Pose.Down == y42.Pose.Down) && true)) && (((y41.Load : Int) == y42.Load) && true)))))))))
    (K (.bool false) w40)
    ((cond ((p28.2 : Int) != p36.2)
    (K (.bool false) w40)
    (J20 w40))))) KP) KP)
    ((cond ((p23 : Int) == 2)
    (∀ w43, Drew w22 w43 →
    ∃ y44 : Int, (okVal false 1 (.int .i64 y44) = true ∧ w43.cell? ⟨b17, 1, none⟩ = some (.int .i64 y44)) ∧
    ∃ y45 : Int, (okVal false 1 (.int .i64 y45) = true ∧ w43.cell? ⟨b17, 1, none⟩ = some (.int .i64 y45)) ∧
    C.link_Link_Got p2.1 y44 w43 (fun r48 w46 => ∃ p47 : Bool, r48 = .bool p47 ∧
    (w46.cell? ⟨b17, 1, none⟩ = some (.int .i64 y45)) ∧ C.skepref17_Link_Got p5 y45 w46 (fun r51 w49 => ∃ p50 : Bool, r51 = .bool p50 ∧
    (cond (!(p47 == p50))
    (K (.bool false) w49)
    (J20 w49))) KP) KP)
    ((cond ((p23 : Int) == 3)
    (∀ w52, Drew w22 w52 →
    ∃ y53 : Int, (okVal false 1 (.int .i64 y53) = true ∧ w52.cell? ⟨b17, 2, none⟩ = some (.int .i64 y53)) ∧
    ∃ y54 : Int, (okVal false 1 (.int .i64 y54) = true ∧ w52.cell? ⟨b17, 2, none⟩ = some (.int .i64 y54)) ∧
    C.link_Link_Due p2.1 y53 w52 (fun r57 w55 => ∃ p56 : Sl, r57 = .slice p56.a p56.len p56.cap ∧
    (w55.cell? ⟨b17, 2, none⟩ = some (.int .i64 y54)) ∧ C.skepref17_Link_Due p5 y54 w55 (fun r60 w58 => ∃ p59 : Sl, r60 = .slice p59.a p59.len p59.cap ∧
    C.skeplaw00_SameTeles p56 p59 w58 (fun r63 w61 => ∃ p62 : Bool, r63 = .bool p62 ∧
    (cond (!p62)
    (K (.bool false) w61)
    (J20 w61))) KP) KP) KP)
    ((cond ((p23 : Int) == 4)
    (C.link_Link_Clear p2.1 w22 (fun r66 w64 => ∃ _p65 : Unit, r66 = .tuple #[] ∧
    C.skepref17_Link_Clear p5 w64 (fun r69 w67 => ∃ _p68 : Unit, r69 = .tuple #[] ∧
    J20 w67) KP) KP)
    (J20 w22)))))))))
    ((cond ((p23 : Int) == 1)
    (∃ y70 : S.api_Tele, (okVal true 19 (S.api_Tele.v y70) = true ∧ rd w22 ⟨b17, 3, none⟩ (S.api_Tele.v y70)) ∧
    ∃ y71 : Int, (okVal false 1 (.int .i64 y71) = true ∧ w22.cell? ⟨b17, 2, none⟩ = some (.int .i64 y71)) ∧
    C.link_Link_Send p2.1 y70 y71 w22 (fun r74 w72 => ∃ p73 : (S.api_Tele × Int), r74 = .tuple #[S.api_Tele.v p73.1, .int .i64 p73.2] ∧
    ∀ (b75 : Nat) (w76 : World), Alloc w72 b75 35 [.int .i64 0, .int .i64 0, .int .i64 0, .int .i64 0, .int .i64 0, .int .i64 0, .int .i64 0, .int .i64 0, .int .i64 0, .bool false, .int .i64 0, .int .i64 0, .bool false, .int .i64 0, .int .i64 0, .int .i64 0, .int .i64 0, .bool false, .int .i64 0] w76 →
    (okVal true 19 (S.api_Tele.v p73.1) = true ∧ canPut w76 ⟨b75, 0, none⟩ (S.api_Tele.v p73.1)) ∧ ∀ w77 : World, w77 = putAt w76 ⟨b75, 0, none⟩ (S.api_Tele.v p73.1) →
    ∃ y78 : S.api_Tele, (okVal true 19 (S.api_Tele.v y78) = true ∧ rd w77 ⟨b17, 3, none⟩ (S.api_Tele.v y78)) ∧
    ∃ y79 : Int, (okVal false 1 (.int .i64 y79) = true ∧ w77.cell? ⟨b17, 2, none⟩ = some (.int .i64 y79)) ∧
    C.skepref17_Link_Send p5 y78 y79 w77 (fun r82 w80 => ∃ p81 : (S.api_Tele × Int), r82 = .tuple #[S.api_Tele.v p81.1, .int .i64 p81.2] ∧
    ∀ (b83 : Nat) (w84 : World), Alloc w80 b83 35 [.int .i64 0, .int .i64 0, .int .i64 0, .int .i64 0, .int .i64 0, .int .i64 0, .int .i64 0, .int .i64 0, .int .i64 0, .bool false, .int .i64 0, .int .i64 0, .bool false, .int .i64 0, .int .i64 0, .int .i64 0, .int .i64 0, .bool false, .int .i64 0] w84 →
    (okVal true 19 (S.api_Tele.v p81.1) = true ∧ canPut w84 ⟨b83, 0, none⟩ (S.api_Tele.v p81.1)) ∧ ∀ w85 : World, w85 = putAt w84 ⟨b83, 0, none⟩ (S.api_Tele.v p81.1) →
    ∃ y86 : S.api_Tele, (okVal true 19 (S.api_Tele.v y86) = true ∧ rd w85 ⟨b75, 0, none⟩ (S.api_Tele.v y86)) ∧
    ∃ y87 : S.api_Tele, (okVal true 19 (S.api_Tele.v y87) = true ∧ rd w85 ⟨b83, 0, none⟩ (S.api_Tele.v y87)) ∧
    (cond (!((((y86.Kind : Int) == y87.Kind) && (((y86.Robot : Int) == y87.Robot) && (((y86.Epoch : Int) == y87.Epoch) && (((y86.Num : Int) == y87.Num) && ((((y86.Move.Kind : Int) == y87.Move.Kind) && (((y86.Move.Dir : Int) == y87.Move.Dir) && (((y86.Move.N : Int) == y87.Move.N) && (((((y86.Move.From.At.X : Int) == y87.Move.From.At.X) && (((y86.Move.From.At.Y : Int) == y87.Move.From.At.Y) && true)) && ((y86.Move.From.Down == y87.Move.From.Down) && true)) && (((((y86.Move.To.At.X : Int) == y87.Move.To.At.X) && (((y86.Move.To.At.Y : Int) == y87.Move.To.At.Y) && true)) && ((y86.Move.To.Down == y87.Move.To.Down) && true)) && (((y86.Move.At : Int) == y87.Move.At) && (((y86.Move.End : Int) == y87.Move.End) && true))))))) && (((((y86.Pose.At.X : Int) == y87.Pose.At.X) && (((y86.Pose.At.Y : Int) == y87.Pose.At.Y) && true)) && ((y86.Pose.Down == y87.Pose.Down) && true)) && (((y86.Load : Int) == y87.Load) && true)))))))))
    (K (.bool false) w85)
    ((cond ((p73.2 : Int) != p81.2)
    (K (.bool false) w85)
    (J20 w85))))) KP) KP)
    ((cond ((p23 : Int) == 2)
    (∀ w88, Drew w22 w88 →
    ∃ y89 : Int, (okVal false 1 (.int .i64 y89) = true ∧ w88.cell? ⟨b17, 1, none⟩ = some (.int .i64 y89)) ∧
    ∃ y90 : Int, (okVal false 1 (.int .i64 y90) = true ∧ w88.cell? ⟨b17, 1, none⟩ = some (.int .i64 y90)) ∧
    C.link_Link_Got p2.1 y89 w88 (fun r93 w91 => ∃ p92 : Bool, r93 = .bool p92 ∧
    (w91.cell? ⟨b17, 1, none⟩ = some (.int .i64 y90)) ∧ C.skepref17_Link_Got p5 y90 w91 (fun r96 w94 => ∃ p95 : Bool, r96 = .bool p95 ∧
    (cond (!(p92 == p95))
    (K (.bool false) w94)
    (J20 w94))) KP) KP)
    ((cond ((p23 : Int) == 3)
    (∀ w97, Drew w22 w97 →
    ∃ y98 : Int, (okVal false 1 (.int .i64 y98) = true ∧ w97.cell? ⟨b17, 2, none⟩ = some (.int .i64 y98)) ∧
    ∃ y99 : Int, (okVal false 1 (.int .i64 y99) = true ∧ w97.cell? ⟨b17, 2, none⟩ = some (.int .i64 y99)) ∧
    C.link_Link_Due p2.1 y98 w97 (fun r102 w100 => ∃ p101 : Sl, r102 = .slice p101.a p101.len p101.cap ∧
    (w100.cell? ⟨b17, 2, none⟩ = some (.int .i64 y99)) ∧ C.skepref17_Link_Due p5 y99 w100 (fun r105 w103 => ∃ p104 : Sl, r105 = .slice p104.a p104.len p104.cap ∧
    C.skeplaw00_SameTeles p101 p104 w103 (fun r108 w106 => ∃ p107 : Bool, r108 = .bool p107 ∧
    (cond (!p107)
    (K (.bool false) w106)
    (J20 w106))) KP) KP) KP)
    ((cond ((p23 : Int) == 4)
    (C.link_Link_Clear p2.1 w22 (fun r111 w109 => ∃ _p110 : Unit, r111 = .tuple #[] ∧
    C.skepref17_Link_Clear p5 w109 (fun r114 w112 => ∃ _p113 : Unit, r114 = .tuple #[] ∧
    J20 w112) KP) KP)
    (J20 w22))))))))))) KP) ∧
    ∀ e0 : Env, ∀ w115 : World, J20 w115 →
    ∃ y116 : Int, (okVal false 1 (.int .i64 y116) = true ∧ w115.cell? ⟨b17, 1, none⟩ = some (.int .i64 y116)) ∧
    C.link_Link_Waits p2.1 y116 w115 (fun r119 w117 => ∃ p118 : (S.api_Tele × Bool), r119 = .tuple #[S.api_Tele.v p118.1, .bool p118.2] ∧
    ∀ (b120 : Nat) (w121 : World), Alloc w117 b120 35 [.int .i64 0, .int .i64 0, .int .i64 0, .int .i64 0, .int .i64 0, .int .i64 0, .int .i64 0, .int .i64 0, .int .i64 0, .bool false, .int .i64 0, .int .i64 0, .bool false, .int .i64 0, .int .i64 0, .int .i64 0, .int .i64 0, .bool false, .int .i64 0] w121 →
    (okVal true 19 (S.api_Tele.v p118.1) = true ∧ canPut w121 ⟨b120, 0, none⟩ (S.api_Tele.v p118.1)) ∧ ∀ w122 : World, w122 = putAt w121 ⟨b120, 0, none⟩ (S.api_Tele.v p118.1) →
    ∃ y123 : Int, (okVal false 1 (.int .i64 y123) = true ∧ w122.cell? ⟨b17, 1, none⟩ = some (.int .i64 y123)) ∧
    C.skepref17_Link_Waits p5 y123 w122 (fun r126 w124 => ∃ p125 : (S.api_Tele × Bool), r126 = .tuple #[S.api_Tele.v p125.1, .bool p125.2] ∧
    ∀ (b127 : Nat) (w128 : World), Alloc w124 b127 35 [.int .i64 0, .int .i64 0, .int .i64 0, .int .i64 0, .int .i64 0, .int .i64 0, .int .i64 0, .int .i64 0, .int .i64 0, .bool false, .int .i64 0, .int .i64 0, .bool false, .int .i64 0, .int .i64 0, .int .i64 0, .int .i64 0, .bool false, .int .i64 0] w128 →
    (okVal true 19 (S.api_Tele.v p125.1) = true ∧ canPut w128 ⟨b127, 0, none⟩ (S.api_Tele.v p125.1)) ∧ ∀ w129 : World, w129 = putAt w128 ⟨b127, 0, none⟩ (S.api_Tele.v p125.1) →
    ∃ y130 : S.api_Tele, (okVal true 19 (S.api_Tele.v y130) = true ∧ rd w129 ⟨b120, 0, none⟩ (S.api_Tele.v y130)) ∧
    ∃ y131 : S.api_Tele, (okVal true 19 (S.api_Tele.v y131) = true ∧ rd w129 ⟨b127, 0, none⟩ (S.api_Tele.v y131)) ∧
    (cond (!((((y130.Kind : Int) == y131.Kind) && (((y130.Robot : Int) == y131.Robot) && (((y130.Epoch : Int) == y131.Epoch) && (((y130.Num : Int) == y131.Num) && ((((y130.Move.Kind : Int) == y131.Move.Kind) && (((y130.Move.Dir : Int) == y131.Move.Dir) && (((y130.Move.N : Int) == y131.Move.N) && (((((y130.Move.From.At.X : Int) == y131.Move.From.At.X) && (((y130.Move.From.At.Y : Int) == y131.Move.From.At.Y) && true)) && ((y130.Move.From.Down == y131.Move.From.Down) && true)) && (((((y130.Move.To.At.X : Int) == y131.Move.To.At.X) && (((y130.Move.To.At.Y : Int) == y131.Move.To.At.Y) && true)) && ((y130.Move.To.Down == y131.Move.To.Down) && true)) && (((y130.Move.At : Int) == y131.Move.At) && (((y130.Move.End : Int) == y131.Move.End) && true))))))) && (((((y130.Pose.At.X : Int) == y131.Pose.At.X) && (((y130.Pose.At.Y : Int) == y131.Pose.At.Y) && true)) && ((y130.Pose.Down == y131.Pose.Down) && true)) && (((y130.Load : Int) == y131.Load) && true)))))))))
    (K (.bool false) w129)
    ((cond (!(p118.2 == p125.2))
    (K (.bool false) w129)
    (∃ u132 : Int, (.int .i64 (IntKind.i64.wrap (v13 + 1)) : Value) = .int .i64 u132 ∧ (I10 u132 w129 ∧ M11 u132 w129 < M11 v13 w14)))))) KP) KP)
    (C.skeplaw17_awake  w14 (fun r135 w133 => ∃ p134 : Bool, r135 = .bool p134 ∧
    K (.bool p134) w133) KP)))
    (C.skeplaw17_awake  w14 (fun r138 w136 => ∃ p137 : Bool, r138 = .bool p137 ∧
    K (.bool p137) w136) KP))))))))) KP) KP
theorem skeplaw17_LinkPlays_of {robots : Int} {resend : Int} {script : Sl} {w : World} {K : Value → World → Prop} {KP : List PanicEntry → World → Prop} (h : W.skeplaw17_LinkPlays robots resend script w K KP) : C.skeplaw17_LinkPlays robots resend script w K KP :=
  xcall (E := E) (T := mkTab [(8, [(10, 3)])] [(8, [6, 10, 11, 12, 13, 14, 15, 16, 17, 18, 19, 46, 47, 48, 49, 50, 51, 52, 53, 54, 55, 56, 57, 58, 59, 60, 61, 62, 63, 64, 65, 66, 67, 68, 69, 70, 71, 72, 73, 74, 75, 76, 77, 78, 79, 80, 81, 82, 83, 84, 85, 86, 87, 88, 89, 90, 91, 92, 93, 94, 95, 96, 97, 98, 99, 100, 101, 102, 103, 104, 105, 106, 107, 108, 109, 110, 111, 112, 113, 114, 115, 116, 117, 118, 119, 120, 121, 122, 123, 124, 125, 126, 127, 128, 129, 130, 131, 132, 133, 134, 135, 136, 137, 138, 139, 140, 141, 142])] [(27, [])] [(27, [6, 12, 13, 14, 15, 60, 61, 62, 63, 64, 65, 66, 67, 68, 69, 70, 71, 72, 73, 74, 75, 76, 77, 78, 79, 80, 81, 82, 83, 84, 85, 86, 87, 88, 89, 90, 91, 92, 93, 94, 95, 96, 97, 98, 99, 100, 101, 102, 103, 104, 105, 106, 107, 108, 109, 110, 111, 112, 113, 114, 115, 116, 117, 118, 119, 120])] [(19, [0, 1, 2, 4, 5, 6, 3, 7, 8]), (22, [0, 1, 2, 4, 5, 6, 3, 7, 8, 9])] [(19, [0, 0, 2, 7, 0, 0, 32, 127, 255]), (22, [0, 0, 2, 7, 0, 0, 32, 127, 255, 511])] []) (c := Try.f7.body.getD .skip) (rs := [.tmp 6]) ⟨⟩ mixed Try.func7 (by kernel_rfl) (by kernel_rfl) [.int .i64 robots, .int .i64 resend, .slice script.a script.len script.cap] (by kernel_rfl) (by kernel_rfl) (.inr (by kernel_rfl)) (Eq.mp (by kernel_rfl) h)

def W.skeplaw17_LinkClears (l : Sl) (now : Int) (w : World) (K : Value → World → Prop) (KP : List PanicEntry → World → Prop) : Prop :=
   C.link_New 8 1 w (fun r3 w1 => ∃ p2 : ((Option Addr) × Int), r3 = .tuple #[.pointer p2.1, .int .i64 p2.2] ∧
    (cond ((p2.2 : Int) != 0)
    (K (.bool false) w1)
    ((cond p2.1.isNone
    (K (.bool false) w1)
    (∃ J4 : World → Prop,
    (∃ (I5 : Int → World → Prop) (M6 : Int → World → Nat),
    (∃ u7 : Int, (.int .i64 0 : Value) = .int .i64 u7 ∧ I5 u7 w1) ∧
    ∀ e0 : Env, ∀ v8 : Int, ∀ w9 : World, I5 v8 w9 →
    (cond (decide ((v8 : Int) < (l.len : Int)))
    ((cond (decide ((v8 : Int) < 40))
    (((0 : Int) ≤ v8 ∧ (v8 : Int) < (l.len : Int)) ∧ withSome l.a fun a10 =>
    ∃ y11 : S.api_Tele, (okVal true 19 (S.api_Tele.v y11) = true ∧ rd w9 (Addr.add a10 (v8.toNat * 19)) (S.api_Tele.v y11)) ∧
    ∀ (b12 : Nat) (w13 : World), Alloc w9 b12 35 [.int .i64 0, .int .i64 0, .int .i64 0, .int .i64 0, .int .i64 0, .int .i64 0, .int .i64 0, .int .i64 0, .int .i64 0, .bool false, .int .i64 0, .int .i64 0, .bool false, .int .i64 0, .int .i64 0, .int .i64 0, .int .i64 0, .bool false, .int .i64 0] w13 →
    (okVal true 19 (S.api_Tele.v y11) = true ∧ canPut w13 ⟨b12, 0, none⟩ (S.api_Tele.v y11)) ∧ ∀ w14 : World, w14 = putAt w13 ⟨b12, 0, none⟩ (S.api_Tele.v y11) →
    ∃ y15 : Int, (okVal false 1 (.int .i64 y15) = true ∧ w14.cell? ⟨b12, 1, none⟩ = some (.int .i64 y15)) ∧
    C.skeplaw00_Place y15 8 w14 (fun r18 w16 => ∃ p17 : Int, r18 = .int .i64 p17 ∧
    (okVal false 1 (.int .i64 p17) = true ∧ canPut w16 ⟨b12, 1, none⟩ (.int .i64 p17)) ∧ ∀ w19 : World, w19 = putAt w16 ⟨b12, 1, none⟩ (.int .i64 p17) →
    (okVal false 1 (.int .i64 2) = true ∧ canPut w19 ⟨b12, 0, none⟩ (.int .i64 2)) ∧ ∀ w20 : World, w20 = putAt w19 ⟨b12, 0, none⟩ (.int .i64 2) →
    ∀ w21, Drew w20 w21 →
    ∃ y22 : S.api_Tele, (okVal true 19 (S.api_Tele.v y22) = true ∧ rd w21 ⟨b12, 0, none⟩ (S.api_Tele.v y22)) ∧
    C.skeplaw00_Place now 1000 w21 (fun r25 w23 => ∃ p24 : Int, r25 = .int .i64 p24 ∧
    (rd w23 ⟨b12, 0, none⟩ (S.api_Tele.v y22)) ∧ C.link_Link_Send p2.1 y22 p24 w23 (fun r28 w26 => ∃ p27 : (S.api_Tele × Int), r28 = .tuple #[S.api_Tele.v p27.1, .int .i64 p27.2] ∧
    ∃ u29 : Int, (.int .i64 (IntKind.i64.wrap (v8 + 1)) : Value) = .int .i64 u29 ∧ (I5 u29 w26 ∧ M6 u29 w26 < M6 v8 w9)) KP) KP) KP)
    (J4 w9)))
    (J4 w9))) ∧
    ∀ e0 : Env, ∀ w30 : World, J4 w30 →
    C.link_Link_Clear p2.1 w30 (fun r33 w31 => ∃ _p32 : Unit, r33 = .tuple #[] ∧
    ∃ (I34 : Int → World → Prop) (M35 : Int → World → Nat),
    (∃ u36 : Int, (.int .i64 0 : Value) = .int .i64 u36 ∧ I34 u36 w31) ∧
    ∀ e0 : Env, ∀ v37 : Int, ∀ w38 : World, I34 v37 w38 →
    (cond (decide ((v37 : Int) < 8))
    (C.link_Link_Waits p2.1 v37 w38 (fun r41 w39 => ∃ p40 : (S.api_Tele × Bool), r41 = .tuple #[S.api_Tele.v p40.1, .bool p40.2] ∧
    ∀ (b42 : Nat) (w43 : World), Alloc w39 b42 35 [.int .i64 0, .int .i64 0, .int .i64 0, .int .i64 0, .int .i64 0, .int .i64 0, .int .i64 0, .int .i64 0, .int .i64 0, .bool false, .int .i64 0, .int .i64 0, .bool false, .int .i64 0, .int .i64 0, .int .i64 0, .int .i64 0, .bool false, .int .i64 0] w43 →
    (okVal true 19 (S.api_Tele.v p40.1) = true ∧ canPut w43 ⟨b42, 0, none⟩ (S.api_Tele.v p40.1)) ∧ ∀ w44 : World, w44 = putAt w43 ⟨b42, 0, none⟩ (S.api_Tele.v p40.1) →
    (cond p40.2
    (K (.bool false) w44)
    (C.link_Link_Got p2.1 v37 w44 (fun r47 w45 => ∃ p46 : Bool, r47 = .bool p46 ∧
    (cond p46
    (K (.bool false) w45)
    (∃ u48 : Int, (.int .i64 (IntKind.i64.wrap (v37 + 1)) : Value) = .int .i64 u48 ∧ (I34 u48 w45 ∧ M35 u48 w45 < M35 v37 w38)))) KP))) KP)
    (C.link_Link_Due p2.1 1099511627776 w38 (fun r51 w49 => ∃ p50 : Sl, r51 = .slice p50.a p50.len p50.cap ∧
    (cond (((p50.len : Int) : Int) == 0)
    (C.skeplaw17_awake  w49 (fun r54 w52 => ∃ p53 : Bool, r54 = .bool p53 ∧
    K (.bool p53) w52) KP)
    (K (.bool false) w49))) KP))) KP))))) KP
theorem skeplaw17_LinkClears_of {l : Sl} {now : Int} {w : World} {K : Value → World → Prop} {KP : List PanicEntry → World → Prop} (h : W.skeplaw17_LinkClears l now w K KP) : C.skeplaw17_LinkClears l now w K KP :=
  xcall (E := E) (T := mkTab [(5, [(7, 3)]), (13, [(9, 3)])] [(5, [7, 8, 22, 23, 24, 25, 26, 27, 28, 29, 30, 31, 32, 33, 34, 35, 36, 37, 38, 39, 40, 41, 42, 43, 44, 45]), (13, [4, 9, 10, 11, 48, 49, 50, 51, 52, 53, 54, 55, 56, 57, 58, 59, 60, 61, 62, 63])] [(11, [])] [(11, [7, 8, 22, 23, 24, 25, 26, 27, 28, 29, 30, 31, 32, 33, 34, 35, 36, 37, 38, 39, 40, 41, 42, 43, 44, 45])] [(10, [0, 1, 2, 3, 4])] [(10, [0, 0, 0, 4, 15])] []) (c := Try.f8.body.getD .skip) (rs := [.tmp 4]) ⟨⟩ mixed Try.func8 (by kernel_rfl) (by kernel_rfl) [.slice l.a l.len l.cap, .int .i64 now] (by kernel_rfl) (by kernel_rfl) (.inr (by kernel_rfl)) (Eq.mp (by kernel_rfl) h)

def W.skeplaw00_Place (v : Int) (n : Int) (w : World) (K : Value → World → Prop) (KP : List PanicEntry → World → Prop) : Prop :=
   (n : Int) ≠ 0 ∧ (cond (decide (((Int.tmod v n) : Int) < 0))
    (K (.int .i64 (IntKind.i64.wrap ((Int.tmod v n) + n))) w)
    (K (.int .i64 (Int.tmod v n)) w))
theorem skeplaw00_Place_of {v : Int} {n : Int} {w : World} {K : Value → World → Prop} {KP : List PanicEntry → World → Prop} (h : W.skeplaw00_Place v n w K KP) : C.skeplaw00_Place v n w K KP :=
  xcall (E := E) (T := mkTab [] [] [] [] [] [] []) (c := Try.f9.body.getD .skip) (rs := [.tmp 4]) ⟨⟩ mixed Try.func9 (by kernel_rfl) (by kernel_rfl) [.int .i64 v, .int .i64 n] (by kernel_rfl) (by kernel_rfl) (.inr (by kernel_rfl)) (Eq.mp (by kernel_rfl) h)

def W.link_New (robots : Int) (resend : Int) (w : World) (K : Value → World → Prop) (KP : List PanicEntry → World → Prop) : Prop :=
   (cond (decide ((robots : Int) < 0))
    (K (.tuple #[.pointer none, .int .i64 1]) w)
    ((cond (decide ((robots : Int) > 8))
    (K (.tuple #[.pointer none, .int .i64 1]) w)
    ((cond (decide ((resend : Int) < 1))
    (K (.tuple #[.pointer none, .int .i64 1]) w)
    (∀ (b1 : Nat) (w2 : World), AllocO w b1 (.map #[] 0) w2 →
    ∀ (b3 : Nat) (w4 : World), Alloc w2 b3 59 [.int .i64 robots, .int .i64 resend, .map (some b1)] w4 →
    K (.tuple #[.pointer (some ⟨b3, 0, none⟩), .int .i64 0]) w4))))))
theorem link_New_of {robots : Int} {resend : Int} {w : World} {K : Value → World → Prop} {KP : List PanicEntry → World → Prop} (h : W.link_New robots resend w K KP) : C.link_New robots resend w K KP :=
  xcall (E := E) (T := mkTab [] [] [] [] [] [] []) (c := Try.f10.body.getD .skip) (rs := [.tmp 4, .tmp 5]) ⟨⟩ mixed Try.func10 (by kernel_rfl) (by kernel_rfl) [.int .i64 robots, .int .i64 resend] (by kernel_rfl) (by kernel_rfl) (.inr (by kernel_rfl)) (Eq.mp (by kernel_rfl) h)

def W.link_Link_Send (l : (Option Addr)) (t : S.api_Tele) (now : Int) (w : World) (K : Value → World → Prop) (KP : List PanicEntry → World → Prop) : Prop :=
   ∀ (b1 : Nat) (w2 : World), Alloc w b1 35 (S.api_Tele.v t : Value).cells.toList w2 →
    ∀ (b3 : Nat) (w4 : World), Alloc w2 b3 35 [.int .i64 0, .int .i64 0, .int .i64 0, .int .i64 0, .int .i64 0, .int .i64 0, .int .i64 0, .int .i64 0, .int .i64 0, .bool false, .int .i64 0, .int .i64 0, .bool false, .int .i64 0, .int .i64 0, .int .i64 0, .int .i64 0, .bool false, .int .i64 0] w4 →
    ∃ J5 : World → Prop,
    (∀ w6, Drew w4 w6 →
    (cond l.isNone
    ((okVal true 19 (.agg #[.int .i64 0, .int .i64 0, .int .i64 0, .int .i64 0, .int .i64 0, .int .i64 0, .int .i64 0, .int .i64 0, .int .i64 0, .bool false, .int .i64 0, .int .i64 0, .bool false, .int .i64 0, .int .i64 0, .int .i64 0, .int .i64 0, .bool false, .int .i64 0]) = true ∧ canPut w6 ⟨b3, 0, none⟩ (.agg #[.int .i64 0, .int .i64 0, .int .i64 0, .int .i64 0, .int .i64 0, .int .i64 0, .int .i64 0, .int .i64 0, .int .i64 0, .bool false, .int .i64 0, .int .i64 0, .bool false, .int .i64 0, .int .i64 0, .int .i64 0, .int .i64 0, .bool false, .int .i64 0])) ∧ ∀ w7 : World, w7 = putAt w6 ⟨b3, 0, none⟩ (.agg #[.int .i64 0, .int .i64 0, .int .i64 0, .int .i64 0, .int .i64 0, .int .i64 0, .int .i64 0, .int .i64 0, .int .i64 0, .bool false, .int .i64 0, .int .i64 0, .bool false, .int .i64 0, .int .i64 0, .int .i64 0, .int .i64 0, .bool false, .int .i64 0]) →
    ∃ y8 : S.api_Tele, (okVal true 19 (S.api_Tele.v y8) = true ∧ rd w7 ⟨b3, 0, none⟩ (S.api_Tele.v y8)) ∧ K (.tuple #[S.api_Tele.v y8, .int .i64 1]) w7)
    (withSome l fun a9 =>
    ∃ y10 : (Option Nat), (okVal false 1 (.map y10) = true ∧ w6.cell? (Addr.add a9 2) = some (.map y10)) ∧
    (cond y10.isNone
    ((okVal true 19 (.agg #[.int .i64 0, .int .i64 0, .int .i64 0, .int .i64 0, .int .i64 0, .int .i64 0, .int .i64 0, .int .i64 0, .int .i64 0, .bool false, .int .i64 0, .int .i64 0, .bool false, .int .i64 0, .int .i64 0, .int .i64 0, .int .i64 0, .bool false, .int .i64 0]) = true ∧ canPut w6 ⟨b3, 0, none⟩ (.agg #[.int .i64 0, .int .i64 0, .int .i64 0, .int .i64 0, .int .i64 0, .int .i64 0, .int .i64 0, .int .i64 0, .int .i64 0, .bool false, .int .i64 0, .int .i64 0, .bool false, .int .i64 0, .int .i64 0, .int .i64 0, .int .i64 0, .bool false, .int .i64 0])) ∧ ∀ w11 : World, w11 = putAt w6 ⟨b3, 0, none⟩ (.agg #[.int .i64 0, .int .i64 0, .int .i64 0, .int .i64 0, .int .i64 0, .int .i64 0, .int .i64 0, .int .i64 0, .int .i64 0, .bool false, .int .i64 0, .int .i64 0, .bool false, .int .i64 0, .int .i64 0, .int .i64 0, .int .i64 0, .bool false, .int .i64 0]) →
    ∃ y12 : S.api_Tele, (okVal true 19 (S.api_Tele.v y12) = true ∧ rd w11 ⟨b3, 0, none⟩ (S.api_Tele.v y12)) ∧ K (.tuple #[S.api_Tele.v y12, .int .i64 1]) w11)
    (∃ y13 : Int, (okVal false 1 (.int .i64 y13) = true ∧ w6.cell? ⟨b1, 1, none⟩ = some (.int .i64 y13)) ∧
    (cond (decide ((y13 : Int) < 0))
    ((okVal true 19 (.agg #[.int .i64 0, .int .i64 0, .int .i64 0, .int .i64 0, .int .i64 0, .int .i64 0, .int .i64 0, .int .i64 0, .int .i64 0, .bool false, .int .i64 0, .int .i64 0, .bool false, .int .i64 0, .int .i64 0, .int .i64 0, .int .i64 0, .bool false, .int .i64 0]) = true ∧ canPut w6 ⟨b3, 0, none⟩ (.agg #[.int .i64 0, .int .i64 0, .int .i64 0, .int .i64 0, .int .i64 0, .int .i64 0, .int .i64 0, .int .i64 0, .int .i64 0, .bool false, .int .i64 0, .int .i64 0, .bool false, .int .i64 0, .int .i64 0, .int .i64 0, .int .i64 0, .bool false, .int .i64 0])) ∧ ∀ w14 : World, w14 = putAt w6 ⟨b3, 0, none⟩ (.agg #[.int .i64 0, .int .i64 0, .int .i64 0, .int .i64 0, .int .i64 0, .int .i64 0, .int .i64 0, .int .i64 0, .int .i64 0, .bool false, .int .i64 0, .int .i64 0, .bool false, .int .i64 0, .int .i64 0, .int .i64 0, .int .i64 0, .bool false, .int .i64 0]) →
    ∃ y15 : S.api_Tele, (okVal true 19 (S.api_Tele.v y15) = true ∧ rd w14 ⟨b3, 0, none⟩ (S.api_Tele.v y15)) ∧ K (.tuple #[S.api_Tele.v y15, .int .i64 1]) w14)
    (∃ y16 : Int, (okVal false 1 (.int .i64 y16) = true ∧ w6.cell? ⟨b1, 1, none⟩ = some (.int .i64 y16)) ∧
    withSome l fun a17 =>
    ∃ y18 : Int, (okVal false 1 (.int .i64 y18) = true ∧ w6.cell? a17 = some (.int .i64 y18)) ∧
    (cond (decide ((y16 : Int) ≥ y18))
    ((okVal true 19 (.agg #[.int .i64 0, .int .i64 0, .int .i64 0, .int .i64 0, .int .i64 0, .int .i64 0, .int .i64 0, .int .i64 0, .int .i64 0, .bool false, .int .i64 0, .int .i64 0, .bool false, .int .i64 0, .int .i64 0, .int .i64 0, .int .i64 0, .bool false, .int .i64 0]) = true ∧ canPut w6 ⟨b3, 0, none⟩ (.agg #[.int .i64 0, .int .i64 0, .int .i64 0, .int .i64 0, .int .i64 0, .int .i64 0, .int .i64 0, .int .i64 0, .int .i64 0, .bool false, .int .i64 0, .int .i64 0, .bool false, .int .i64 0, .int .i64 0, .int .i64 0, .int .i64 0, .bool false, .int .i64 0])) ∧ ∀ w19 : World, w19 = putAt w6 ⟨b3, 0, none⟩ (.agg #[.int .i64 0, .int .i64 0, .int .i64 0, .int .i64 0, .int .i64 0, .int .i64 0, .int .i64 0, .int .i64 0, .int .i64 0, .bool false, .int .i64 0, .int .i64 0, .bool false, .int .i64 0, .int .i64 0, .int .i64 0, .int .i64 0, .bool false, .int .i64 0]) →
    ∃ y20 : S.api_Tele, (okVal true 19 (S.api_Tele.v y20) = true ∧ rd w19 ⟨b3, 0, none⟩ (S.api_Tele.v y20)) ∧ K (.tuple #[S.api_Tele.v y20, .int .i64 1]) w19)
    (∃ y21 : Int, (okVal false 1 (.int .i64 y21) = true ∧ w6.cell? ⟨b1, 0, none⟩ = some (.int .i64 y21)) ∧
    (cond ((y21 : Int) != 1)
    (∃ y22 : Int, (okVal false 1 (.int .i64 y22) = true ∧ w6.cell? ⟨b1, 0, none⟩ = some (.int .i64 y22)) ∧
    (cond ((y22 : Int) != 2)
    ((okVal true 19 (.agg #[.int .i64 0, .int .i64 0, .int .i64 0, .int .i64 0, .int .i64 0, .int .i64 0, .int .i64 0, .int .i64 0, .int .i64 0, .bool false, .int .i64 0, .int .i64 0, .bool false, .int .i64 0, .int .i64 0, .int .i64 0, .int .i64 0, .bool false, .int .i64 0]) = true ∧ canPut w6 ⟨b3, 0, none⟩ (.agg #[.int .i64 0, .int .i64 0, .int .i64 0, .int .i64 0, .int .i64 0, .int .i64 0, .int .i64 0, .int .i64 0, .int .i64 0, .bool false, .int .i64 0, .int .i64 0, .bool false, .int .i64 0, .int .i64 0, .int .i64 0, .int .i64 0, .bool false, .int .i64 0])) ∧ ∀ w23 : World, w23 = putAt w6 ⟨b3, 0, none⟩ (.agg #[.int .i64 0, .int .i64 0, .int .i64 0, .int .i64 0, .int .i64 0, .int .i64 0, .int .i64 0, .int .i64 0, .int .i64 0, .bool false, .int .i64 0, .int .i64 0, .bool false, .int .i64 0, .int .i64 0, .int .i64 0, .int .i64 0, .bool false, .int .i64 0]) →
    ∃ y24 : S.api_Tele, (okVal true 19 (S.api_Tele.v y24) = true ∧ rd w23 ⟨b3, 0, none⟩ (S.api_Tele.v y24)) ∧ K (.tuple #[S.api_Tele.v y24, .int .i64 1]) w23)
    (J5 w6)))
    (J5 w6))))))))))) ∧
    ∀ e0 : Env, ∀ w25 : World, J5 w25 →
    ∀ w26, Drew w25 w26 →
    withSome l fun a27 =>
    ∃ y28 : (Option Nat), (okVal false 1 (.map y28) = true ∧ w26.cell? (Addr.add a27 2) = some (.map y28)) ∧
    ∃ y29 : Int, (okVal false 1 (.int .i64 y29) = true ∧ w26.cell? ⟨b1, 1, none⟩ = some (.int .i64 y29)) ∧
    ∃ y30 : S.api_Tele, (okVal true 19 (S.api_Tele.v y30) = true ∧ rd w26 ⟨b1, 0, none⟩ (S.api_Tele.v y30)) ∧
    ∃ w31 : World, (Instr.mapUpdate 57 (.map y28) (.int .i64 y29) (.agg #[.int .i64 y30.Kind, .int .i64 y30.Robot, .int .i64 y30.Epoch, .int .i64 y30.Num, .int .i64 y30.Move.Kind, .int .i64 y30.Move.Dir, .int .i64 y30.Move.N, .int .i64 y30.Move.From.At.X, .int .i64 y30.Move.From.At.Y, .bool y30.Move.From.Down, .int .i64 y30.Move.To.At.X, .int .i64 y30.Move.To.At.Y, .bool y30.Move.To.Down, .int .i64 y30.Move.At, .int .i64 y30.Move.End, .int .i64 y30.Pose.At.X, .int .i64 y30.Pose.At.Y, .bool y30.Pose.Down, .int .i64 y30.Load, .int .i64 now])).run Try.prog w26 = .ok () w31 ∧
    ∃ y32 : S.api_Tele, (okVal true 19 (S.api_Tele.v y32) = true ∧ rd w31 ⟨b1, 0, none⟩ (S.api_Tele.v y32)) ∧
    (okVal true 19 (S.api_Tele.v y32) = true ∧ canPut w31 ⟨b3, 0, none⟩ (S.api_Tele.v y32)) ∧ ∀ w33 : World, w33 = putAt w31 ⟨b3, 0, none⟩ (S.api_Tele.v y32) →
    ∃ y34 : S.api_Tele, (okVal true 19 (S.api_Tele.v y34) = true ∧ rd w33 ⟨b3, 0, none⟩ (S.api_Tele.v y34)) ∧ K (.tuple #[S.api_Tele.v y34, .int .i64 0]) w33
theorem link_Link_Send_of {l : (Option Addr)} {t : S.api_Tele} {now : Int} {w : World} {K : Value → World → Prop} {KP : List PanicEntry → World → Prop} (h : W.link_Link_Send l t now w K KP) : C.link_Link_Send l t now w K KP :=
  xcall (E := E) (T := mkTab [] [] [(3, [])] [(3, [7, 8, 9, 10, 11, 12, 13, 14, 15, 16, 17, 18, 19, 20, 21, 22, 23, 24, 25, 26, 27, 28, 29, 30, 31, 32, 33, 34, 35, 36, 37, 38, 39, 40, 41])] [(1, [0, 1, 2, 3, 4, 5, 6, 7, 8, 9, 10, 11, 12, 13, 14, 15, 16, 17, 18, 19, 20, 21, 22, 23, 24, 25, 26, 27, 28, 29, 30, 31, 32]), (3, [0, 1, 2, 3, 4, 5, 6, 7, 8, 9])] [(1, [0, 1, 3, 7, 15, 31, 63, 127, 255, 511, 1023, 2047, 4095, 8191, 16383, 32767, 65535, 32767, 163839, 425983, 950271, 2097151, 4194303, 8388607, 16777215, 33554431, 67108863, 134217727, 268435455, 536870911, 1073741823, 2147483647, 4294967295]), (3, [0, 1, 3, 7, 0, 16, 0, 0, 192, 511])] []) (c := Try.f11.body.getD .skip) (rs := [.cell 6 35, .tmp 7]) ⟨⟩ mixed Try.func11 (by kernel_rfl) (by kernel_rfl) [.pointer l, S.api_Tele.v t, .int .i64 now] (by kernel_rfl) (by kernel_rfl) (.inr (by kernel_rfl)) (Eq.mp (by kernel_rfl) h)

def W.link_Link_Due (l : (Option Addr)) (now : Int) (w : World) (K : Value → World → Prop) (KP : List PanicEntry → World → Prop) : Prop :=
   (cond l.isNone
    (K (.slice none 0 0) w)
    (withSome l fun a1 =>
    ∃ y2 : Int, (okVal false 1 (.int .i64 y2) = true ∧ w.cell? a1 = some (.int .i64 y2)) ∧
    ∃ (I3 : Sl → Int → World → Prop) (M4 : Sl → Int → World → Nat),
    (∃ u5 : Sl, (.slice none 0 0 : Value) = .slice u5.a u5.len u5.cap ∧ ∃ u6 : Int, (.int .i64 0 : Value) = .int .i64 u6 ∧ I3 u5 u6 w) ∧
    ∀ e0 : Env, ∀ v7 : Sl, ∀ v8 : Int, ∀ w9 : World, I3 v7 v8 w9 →
    (cond (decide ((v8 : Int) < y2))
    (withSome l fun a10 =>
    ∃ y11 : (Option Nat), (okVal false 1 (.map y11) = true ∧ w9.cell? (Addr.add a10 2) = some (.map y11)) ∧
    ∃ y12 : (S.link_sent × Bool), (Instr.lookup 57 (.map y11) (.int .i64 v8) true).run Try.prog w9 = .ok (.tuple #[S.link_sent.v y12.1, .bool y12.2]) w9 ∧
    ∀ (b13 : Nat) (w14 : World), Alloc w9 b13 61 [.int .i64 0, .int .i64 0, .int .i64 0, .int .i64 0, .int .i64 0, .int .i64 0, .int .i64 0, .int .i64 0, .int .i64 0, .bool false, .int .i64 0, .int .i64 0, .bool false, .int .i64 0, .int .i64 0, .int .i64 0, .int .i64 0, .bool false, .int .i64 0, .int .i64 0] w14 →
    (okVal true 20 (S.link_sent.v y12.1) = true ∧ canPut w14 ⟨b13, 0, none⟩ (S.link_sent.v y12.1)) ∧ ∀ w15 : World, w15 = putAt w14 ⟨b13, 0, none⟩ (S.link_sent.v y12.1) →
    ∀ w16, Drew w15 w16 →
    (cond (!y12.2)
    (∃ u17 : Sl, (.slice v7.a v7.len v7.cap : Value) = .slice u17.a u17.len u17.cap ∧ ∃ u18 : Int, (.int .i64 (IntKind.i64.wrap (v8 + 1)) : Value) = .int .i64 u18 ∧ (I3 u17 u18 w16 ∧ M4 u17 u18 w16 < M4 v7 v8 w9))
    (∃ y19 : Int, (okVal false 1 (.int .i64 y19) = true ∧ w16.cell? ⟨b13, 19, none⟩ = some (.int .i64 y19)) ∧
    withSome l fun a20 =>
    ∃ y21 : Int, (okVal false 1 (.int .i64 y21) = true ∧ w16.cell? (Addr.add a20 1) = some (.int .i64 y21)) ∧
    C.tick_Less now y19 w16 (fun r24 w22 => ∃ p23 : Int, r24 = .int .i64 p23 ∧
    (w22.cell? (Addr.add a20 1) = some (.int .i64 y21)) ∧ (cond (decide ((p23 : Int) < y21))
    (∃ u25 : Sl, (.slice v7.a v7.len v7.cap : Value) = .slice u25.a u25.len u25.cap ∧ ∃ u26 : Int, (.int .i64 (IntKind.i64.wrap (v8 + 1)) : Value) = .int .i64 u26 ∧ (I3 u25 u26 w22 ∧ M4 u25 u26 w22 < M4 v7 v8 w9))
    ((okVal false 1 (.int .i64 now) = true ∧ canPut w22 ⟨b13, 19, none⟩ (.int .i64 now)) ∧ ∀ w27 : World, w27 = putAt w22 ⟨b13, 19, none⟩ (.int .i64 now) →
    ∀ w28, Drew w27 w28 →
    withSome l fun a29 =>
    ∃ y30 : (Option Nat), (okVal false 1 (.map y30) = true ∧ w28.cell? (Addr.add a29 2) = some (.map y30)) ∧
    ∃ y31 : S.link_sent, (okVal true 20 (S.link_sent.v y31) = true ∧ rd w28 ⟨b13, 0, none⟩ (S.link_sent.v y31)) ∧
    ∃ w32 : World, (Instr.mapUpdate 57 (.map y30) (.int .i64 v8) (S.link_sent.v y31)).run Try.prog w28 = .ok () w32 ∧
    ∃ y33 : S.api_Tele, (okVal true 19 (S.api_Tele.v y33) = true ∧ rd w32 ⟨b13, 0, none⟩ (S.api_Tele.v y33)) ∧
    ∀ (b34 : Nat) (w35 : World), Alloc w32 b34 35 [.int .i64 y33.Kind, .int .i64 y33.Robot, .int .i64 y33.Epoch, .int .i64 y33.Num, .int .i64 y33.Move.Kind, .int .i64 y33.Move.Dir, .int .i64 y33.Move.N, .int .i64 y33.Move.From.At.X, .int .i64 y33.Move.From.At.Y, .bool y33.Move.From.Down, .int .i64 y33.Move.To.At.X, .int .i64 y33.Move.To.At.Y, .bool y33.Move.To.Down, .int .i64 y33.Move.At, .int .i64 y33.Move.End, .int .i64 y33.Pose.At.X, .int .i64 y33.Pose.At.Y, .bool y33.Pose.Down, .int .i64 y33.Load] w35 →
    ∃ (q36 : Option Addr) (n37 c38 : Nat) (w39 : World), (Builtin.append_ #[22, 22] 22 #[.slice v7.a v7.len v7.cap, .slice (some ⟨b34, 0, none⟩) 1 1]).run Try.prog w35 = .ok (.slice q36 n37 c38) w39 ∧
    ∃ u40 : Sl, (.slice q36 n37 c38 : Value) = .slice u40.a u40.len u40.cap ∧ ∃ u41 : Int, (.int .i64 (IntKind.i64.wrap (v8 + 1)) : Value) = .int .i64 u41 ∧ (I3 u40 u41 w39 ∧ M4 u40 u41 w39 < M4 v7 v8 w9)))) KP)))
    (K (.slice v7.a v7.len v7.cap) w9))))
theorem link_Link_Due_of {l : (Option Addr)} {now : Int} {w : World} {K : Value → World → Prop} {KP : List PanicEntry → World → Prop} (h : W.link_Link_Due l now w K KP) : C.link_Link_Due l now w K KP :=
  xcall (E := E) (T := mkTab [(5, [(5, 22), (15, 3)])] [(5, [5, 6, 7, 8, 15, 16, 17, 18, 19, 20, 21, 22, 23, 24, 25, 26, 27, 28, 29, 30, 31, 32, 33, 34, 35, 36, 37, 38, 39, 40, 41, 42, 43, 44, 45, 46, 47, 48, 49, 50, 51, 52, 53])] [] [] [(8, [0, 1, 2, 3, 4, 5, 7, 8, 9, 10, 6, 11, 12]), (10, [0, 1, 2, 3, 4, 5, 6])] [(8, [0, 1, 3, 7, 7, 23, 63, 7, 135, 391, 903, 2047, 4095]), (10, [0, 1, 3, 7, 0, 0, 63])] []) (c := Try.f12.body.getD .skip) (rs := [.tmp 4]) ⟨⟩ mixed Try.func12 (by kernel_rfl) (by kernel_rfl) [.pointer l, .int .i64 now] (by kernel_rfl) (by kernel_rfl) (.inr (by kernel_rfl)) (Eq.mp (by kernel_rfl) h)

def W.skeplaw17_awake (w : World) (K : Value → World → Prop) (KP : List PanicEntry → World → Prop) : Prop :=
   C.link_New 2 10 w (fun r3 w1 => ∃ p2 : ((Option Addr) × Int), r3 = .tuple #[.pointer p2.1, .int .i64 p2.2] ∧
    (cond ((p2.2 : Int) != 0)
    (K (.bool false) w1)
    ((cond p2.1.isNone
    (K (.bool false) w1)
    (C.link_Link_Send p2.1 (⟨1, 1, 0, 3, ⟨0, 0, 0, ⟨⟨0, 0⟩, false⟩, ⟨⟨0, 0⟩, false⟩, 0, 0⟩, ⟨⟨0, 0⟩, false⟩, 0⟩) 5 w1 (fun r6 w4 => ∃ p5 : (S.api_Tele × Int), r6 = .tuple #[S.api_Tele.v p5.1, .int .i64 p5.2] ∧
    ∀ (b7 : Nat) (w8 : World), Alloc w4 b7 35 [.int .i64 0, .int .i64 0, .int .i64 0, .int .i64 0, .int .i64 0, .int .i64 0, .int .i64 0, .int .i64 0, .int .i64 0, .bool false, .int .i64 0, .int .i64 0, .bool false, .int .i64 0, .int .i64 0, .int .i64 0, .int .i64 0, .bool false, .int .i64 0] w8 →
    (okVal true 19 (S.api_Tele.v p5.1) = true ∧ canPut w8 ⟨b7, 0, none⟩ (S.api_Tele.v p5.1)) ∧ ∀ w9 : World, w9 = putAt w8 ⟨b7, 0, none⟩ (S.api_Tele.v p5.1) →
    (cond ((p5.2 : Int) == 0)
    (∃ y10 : Int, (okVal false 1 (.int .i64 y10) = true ∧ w9.cell? ⟨b7, 3, none⟩ = some (.int .i64 y10)) ∧
    (cond ((y10 : Int) == 3)
    (C.link_Link_Due p2.1 14 w9 (fun r13 w11 => ∃ p12 : Sl, r13 = .slice p12.a p12.len p12.cap ∧
    (cond (((p12.len : Int) : Int) == 0)
    (C.link_Link_Due p2.1 15 w11 (fun r16 w14 => ∃ p15 : Sl, r16 = .slice p15.a p15.len p15.cap ∧
    (cond (((p15.len : Int) : Int) == 1)
    (C.link_Link_Due p2.1 20 w14 (fun r19 w17 => ∃ p18 : Sl, r19 = .slice p18.a p18.len p18.cap ∧
    K (.bool (((p18.len : Int) : Int) == 0)) w17) KP)
    (K (.bool false) w14))) KP)
    (K (.bool false) w11))) KP)
    (K (.bool false) w9)))
    (K (.bool false) w9))) KP))))) KP
theorem skeplaw17_awake_of {w : World} {K : Value → World → Prop} {KP : List PanicEntry → World → Prop} (h : W.skeplaw17_awake  w K KP) : C.skeplaw17_awake  w K KP :=
  xcall (E := E) (T := mkTab [] [] [] [] [] [] []) (c := Try.f13.body.getD .skip) (rs := [.tmp 0]) ⟨⟩ mixed Try.func13 (by kernel_rfl) (by kernel_rfl) [] (by kernel_rfl) (by kernel_rfl) (.inr (by kernel_rfl)) (Eq.mp (by kernel_rfl) h)

def W.link_Link_Waits (l : (Option Addr)) (robot : Int) (w : World) (K : Value → World → Prop) (KP : List PanicEntry → World → Prop) : Prop :=
   ∀ (b1 : Nat) (w2 : World), Alloc w b1 35 [.int .i64 0, .int .i64 0, .int .i64 0, .int .i64 0, .int .i64 0, .int .i64 0, .int .i64 0, .int .i64 0, .int .i64 0, .bool false, .int .i64 0, .int .i64 0, .bool false, .int .i64 0, .int .i64 0, .int .i64 0, .int .i64 0, .bool false, .int .i64 0] w2 →
    (cond l.isNone
    ((okVal true 19 (.agg #[.int .i64 0, .int .i64 0, .int .i64 0, .int .i64 0, .int .i64 0, .int .i64 0, .int .i64 0, .int .i64 0, .int .i64 0, .bool false, .int .i64 0, .int .i64 0, .bool false, .int .i64 0, .int .i64 0, .int .i64 0, .int .i64 0, .bool false, .int .i64 0]) = true ∧ canPut w2 ⟨b1, 0, none⟩ (.agg #[.int .i64 0, .int .i64 0, .int .i64 0, .int .i64 0, .int .i64 0, .int .i64 0, .int .i64 0, .int .i64 0, .int .i64 0, .bool false, .int .i64 0, .int .i64 0, .bool false, .int .i64 0, .int .i64 0, .int .i64 0, .int .i64 0, .bool false, .int .i64 0])) ∧ ∀ w3 : World, w3 = putAt w2 ⟨b1, 0, none⟩ (.agg #[.int .i64 0, .int .i64 0, .int .i64 0, .int .i64 0, .int .i64 0, .int .i64 0, .int .i64 0, .int .i64 0, .int .i64 0, .bool false, .int .i64 0, .int .i64 0, .bool false, .int .i64 0, .int .i64 0, .int .i64 0, .int .i64 0, .bool false, .int .i64 0]) →
    ∃ y4 : S.api_Tele, (okVal true 19 (S.api_Tele.v y4) = true ∧ rd w3 ⟨b1, 0, none⟩ (S.api_Tele.v y4)) ∧ K (.tuple #[S.api_Tele.v y4, .bool false]) w3)
    (withSome l fun a5 =>
    ∃ y6 : (Option Nat), (okVal false 1 (.map y6) = true ∧ w2.cell? (Addr.add a5 2) = some (.map y6)) ∧
    ∃ y7 : (S.link_sent × Bool), (Instr.lookup 57 (.map y6) (.int .i64 robot) true).run Try.prog w2 = .ok (.tuple #[S.link_sent.v y7.1, .bool y7.2]) w2 ∧
    ∀ (b8 : Nat) (w9 : World), Alloc w2 b8 61 [.int .i64 0, .int .i64 0, .int .i64 0, .int .i64 0, .int .i64 0, .int .i64 0, .int .i64 0, .int .i64 0, .int .i64 0, .bool false, .int .i64 0, .int .i64 0, .bool false, .int .i64 0, .int .i64 0, .int .i64 0, .int .i64 0, .bool false, .int .i64 0, .int .i64 0] w9 →
    (okVal true 20 (S.link_sent.v y7.1) = true ∧ canPut w9 ⟨b8, 0, none⟩ (S.link_sent.v y7.1)) ∧ ∀ w10 : World, w10 = putAt w9 ⟨b8, 0, none⟩ (S.link_sent.v y7.1) →
    ∃ y11 : S.api_Tele, (okVal true 19 (S.api_Tele.v y11) = true ∧ rd w10 ⟨b8, 0, none⟩ (S.api_Tele.v y11)) ∧
    (okVal true 19 (S.api_Tele.v y11) = true ∧ canPut w10 ⟨b1, 0, none⟩ (S.api_Tele.v y11)) ∧ ∀ w12 : World, w12 = putAt w10 ⟨b1, 0, none⟩ (S.api_Tele.v y11) →
    ∃ y13 : S.api_Tele, (okVal true 19 (S.api_Tele.v y13) = true ∧ rd w12 ⟨b1, 0, none⟩ (S.api_Tele.v y13)) ∧ K (.tuple #[S.api_Tele.v y13, .bool y7.2]) w12))
theorem link_Link_Waits_of {l : (Option Addr)} {robot : Int} {w : World} {K : Value → World → Prop} {KP : List PanicEntry → World → Prop} (h : W.link_Link_Waits l robot w K KP) : C.link_Link_Waits l robot w K KP :=
  xcall (E := E) (T := mkTab [] [] [] [] [] [] []) (c := Try.f14.body.getD .skip) (rs := [.cell 4 35, .tmp 5]) ⟨⟩ mixed Try.func14 (by kernel_rfl) (by kernel_rfl) [.pointer l, .int .i64 robot] (by kernel_rfl) (by kernel_rfl) (.inr (by kernel_rfl)) (Eq.mp (by kernel_rfl) h)

def W.link_Link_Got (l : (Option Addr)) (robot : Int) (w : World) (K : Value → World → Prop) (KP : List PanicEntry → World → Prop) : Prop :=
   C.link_Link_Waits l robot w (fun r3 w1 => ∃ p2 : (S.api_Tele × Bool), r3 = .tuple #[S.api_Tele.v p2.1, .bool p2.2] ∧
    ∀ (b4 : Nat) (w5 : World), Alloc w1 b4 35 [.int .i64 0, .int .i64 0, .int .i64 0, .int .i64 0, .int .i64 0, .int .i64 0, .int .i64 0, .int .i64 0, .int .i64 0, .bool false, .int .i64 0, .int .i64 0, .bool false, .int .i64 0, .int .i64 0, .int .i64 0, .int .i64 0, .bool false, .int .i64 0] w5 →
    (okVal true 19 (S.api_Tele.v p2.1) = true ∧ canPut w5 ⟨b4, 0, none⟩ (S.api_Tele.v p2.1)) ∧ ∀ w6 : World, w6 = putAt w5 ⟨b4, 0, none⟩ (S.api_Tele.v p2.1) →
    (cond p2.2
    (withSome l fun a7 =>
    ∃ y8 : (Option Nat), (okVal false 1 (.map y8) = true ∧ w6.cell? (Addr.add a7 2) = some (.map y8)) ∧
    ∃ w9 : World, (Builtin.delete_ #[57, 3] 0 #[.map y8, .int .i64 robot]).run Try.prog w6 = .ok (.tuple #[]) w9 ∧
    K (.bool p2.2) w9)
    (K (.bool p2.2) w6))) KP
theorem link_Link_Got_of {l : (Option Addr)} {robot : Int} {w : World} {K : Value → World → Prop} {KP : List PanicEntry → World → Prop} (h : W.link_Link_Got l robot w K KP) : C.link_Link_Got l robot w K KP :=
  xcall (E := E) (T := mkTab [] [] [] [] [] [] []) (c := Try.f15.body.getD .skip) (rs := [.tmp 4]) ⟨⟩ mixed Try.func15 (by kernel_rfl) (by kernel_rfl) [.pointer l, .int .i64 robot] (by kernel_rfl) (by kernel_rfl) (.inr (by kernel_rfl)) (Eq.mp (by kernel_rfl) h)

def W.skepref17_New (robots : Int) (resend : Int) (w : World) (K : Value → World → Prop) (KP : List PanicEntry → World → Prop) : Prop :=
   (cond (decide ((robots : Int) < 0))
    (K (.pointer none) w)
    ((cond (decide ((robots : Int) > 8))
    (K (.pointer none) w)
    ((cond (decide ((resend : Int) < 1))
    (K (.pointer none) w)
    (((0 : Int) ≤ robots ∧ (robots : Int) ≤ robots ∧ (168 : Int) * robots ≤ 281474976710656 ∧ (robots : Int) ≤ 9223372036854775807) ∧ ∀ (b1 : Nat) (w2 : World), Alloc w b1 67 (madeCells #[.bool false, .int .i64 0, .int .i64 0, .int .i64 0, .int .i64 0, .int .i64 0, .int .i64 0, .int .i64 0, .int .i64 0, .int .i64 0, .bool false, .int .i64 0, .int .i64 0, .bool false, .int .i64 0, .int .i64 0, .int .i64 0, .int .i64 0, .bool false, .int .i64 0, .int .i64 0] (robots.toNat * 21)).toList w2 →
    ∀ (b3 : Nat) (w4 : World), Alloc w2 b3 65 [.slice (some ⟨b1, 0, none⟩) robots.toNat robots.toNat, .int .i64 resend] w4 →
    K (.pointer (some ⟨b3, 0, none⟩)) w4))))))
theorem skepref17_New_of {robots : Int} {resend : Int} {w : World} {K : Value → World → Prop} {KP : List PanicEntry → World → Prop} (h : W.skepref17_New robots resend w K KP) : C.skepref17_New robots resend w K KP :=
  xcall (E := E) (T := mkTab [] [] [] [] [] [] []) (c := Try.f16.body.getD .skip) (rs := [.tmp 4]) ⟨⟩ mixed Try.func16 (by kernel_rfl) (by kernel_rfl) [.int .i64 robots, .int .i64 resend] (by kernel_rfl) (by kernel_rfl) (.inr (by kernel_rfl)) (Eq.mp (by kernel_rfl) h)

def W.skepref17_Link_Send (l : (Option Addr)) (t : S.api_Tele) (now : Int) (w : World) (K : Value → World → Prop) (KP : List PanicEntry → World → Prop) : Prop :=
   ∀ (b1 : Nat) (w2 : World), Alloc w b1 35 (S.api_Tele.v t : Value).cells.toList w2 →
    ∀ (b3 : Nat) (w4 : World), Alloc w2 b3 35 [.int .i64 0, .int .i64 0, .int .i64 0, .int .i64 0, .int .i64 0, .int .i64 0, .int .i64 0, .int .i64 0, .int .i64 0, .bool false, .int .i64 0, .int .i64 0, .bool false, .int .i64 0, .int .i64 0, .int .i64 0, .int .i64 0, .bool false, .int .i64 0] w4 →
    ∃ J5 : World → Prop,
    (∀ w6, Drew w4 w6 →
    ∃ y7 : Int, (okVal false 1 (.int .i64 y7) = true ∧ w6.cell? ⟨b1, 1, none⟩ = some (.int .i64 y7)) ∧
    (cond (decide ((y7 : Int) < 0))
    ((okVal true 19 (.agg #[.int .i64 0, .int .i64 0, .int .i64 0, .int .i64 0, .int .i64 0, .int .i64 0, .int .i64 0, .int .i64 0, .int .i64 0, .bool false, .int .i64 0, .int .i64 0, .bool false, .int .i64 0, .int .i64 0, .int .i64 0, .int .i64 0, .bool false, .int .i64 0]) = true ∧ canPut w6 ⟨b3, 0, none⟩ (.agg #[.int .i64 0, .int .i64 0, .int .i64 0, .int .i64 0, .int .i64 0, .int .i64 0, .int .i64 0, .int .i64 0, .int .i64 0, .bool false, .int .i64 0, .int .i64 0, .bool false, .int .i64 0, .int .i64 0, .int .i64 0, .int .i64 0, .bool false, .int .i64 0])) ∧ ∀ w8 : World, w8 = putAt w6 ⟨b3, 0, none⟩ (.agg #[.int .i64 0, .int .i64 0, .int .i64 0, .int .i64 0, .int .i64 0, .int .i64 0, .int .i64 0, .int .i64 0, .int .i64 0, .bool false, .int .i64 0, .int .i64 0, .bool false, .int .i64 0, .int .i64 0, .int .i64 0, .int .i64 0, .bool false, .int .i64 0]) →
    ∃ y9 : S.api_Tele, (okVal true 19 (S.api_Tele.v y9) = true ∧ rd w8 ⟨b3, 0, none⟩ (S.api_Tele.v y9)) ∧ K (.tuple #[S.api_Tele.v y9, .int .i64 1]) w8)
    (∃ y10 : Int, (okVal false 1 (.int .i64 y10) = true ∧ w6.cell? ⟨b1, 1, none⟩ = some (.int .i64 y10)) ∧
    withSome l fun a11 =>
    ∃ y12 : Sl, (okVal false 1 (.slice y12.a y12.len y12.cap) = true ∧ w6.cell? a11 = some (.slice y12.a y12.len y12.cap)) ∧
    (cond (decide ((y10 : Int) ≥ (y12.len : Int)))
    ((okVal true 19 (.agg #[.int .i64 0, .int .i64 0, .int .i64 0, .int .i64 0, .int .i64 0, .int .i64 0, .int .i64 0, .int .i64 0, .int .i64 0, .bool false, .int .i64 0, .int .i64 0, .bool false, .int .i64 0, .int .i64 0, .int .i64 0, .int .i64 0, .bool false, .int .i64 0]) = true ∧ canPut w6 ⟨b3, 0, none⟩ (.agg #[.int .i64 0, .int .i64 0, .int .i64 0, .int .i64 0, .int .i64 0, .int .i64 0, .int .i64 0, .int .i64 0, .int .i64 0, .bool false, .int .i64 0, .int .i64 0, .bool false, .int .i64 0, .int .i64 0, .int .i64 0, .int .i64 0, .bool false, .int .i64 0])) ∧ ∀ w13 : World, w13 = putAt w6 ⟨b3, 0, none⟩ (.agg #[.int .i64 0, .int .i64 0, .int .i64 0, .int .i64 0, .int .i64 0, .int .i64 0, .int .i64 0, .int .i64 0, .int .i64 0, .bool false, .int .i64 0, .int .i64 0, .bool false, .int .i64 0, .int .i64 0, .int .i64 0, .int .i64 0, .bool false, .int .i64 0]) →
    ∃ y14 : S.api_Tele, (okVal true 19 (S.api_Tele.v y14) = true ∧ rd w13 ⟨b3, 0, none⟩ (S.api_Tele.v y14)) ∧ K (.tuple #[S.api_Tele.v y14, .int .i64 1]) w13)
    (∃ y15 : Int, (okVal false 1 (.int .i64 y15) = true ∧ w6.cell? ⟨b1, 0, none⟩ = some (.int .i64 y15)) ∧
    (cond ((y15 : Int) != 1)
    (∃ y16 : Int, (okVal false 1 (.int .i64 y16) = true ∧ w6.cell? ⟨b1, 0, none⟩ = some (.int .i64 y16)) ∧
    (cond ((y16 : Int) != 2)
    ((okVal true 19 (.agg #[.int .i64 0, .int .i64 0, .int .i64 0, .int .i64 0, .int .i64 0, .int .i64 0, .int .i64 0, .int .i64 0, .int .i64 0, .bool false, .int .i64 0, .int .i64 0, .bool false, .int .i64 0, .int .i64 0, .int .i64 0, .int .i64 0, .bool false, .int .i64 0]) = true ∧ canPut w6 ⟨b3, 0, none⟩ (.agg #[.int .i64 0, .int .i64 0, .int .i64 0, .int .i64 0, .int .i64 0, .int .i64 0, .int .i64 0, .int .i64 0, .int .i64 0, .bool false, .int .i64 0, .int .i64 0, .bool false, .int .i64 0, .int .i64 0, .int .i64 0, .int .i64 0, .bool false, .int .i64 0])) ∧ ∀ w17 : World, w17 = putAt w6 ⟨b3, 0, none⟩ (.agg #[.int .i64 0, .int .i64 0, .int .i64 0, .int .i64 0, .int .i64 0, .int .i64 0, .int .i64 0, .int .i64 0, .int .i64 0, .bool false, .int .i64 0, .int .i64 0, .bool false, .int .i64 0, .int .i64 0, .int .i64 0, .int .i64 0, .bool false, .int .i64 0]) →
    ∃ y18 : S.api_Tele, (okVal true 19 (S.api_Tele.v y18) = true ∧ rd w17 ⟨b3, 0, none⟩ (S.api_Tele.v y18)) ∧ K (.tuple #[S.api_Tele.v y18, .int .i64 1]) w17)
    (J5 w6)))
    (J5 w6))))))) ∧
    ∀ e0 : Env, ∀ w19 : World, J5 w19 →
    ∀ w20, Drew w19 w20 →
    withSome l fun a21 =>
    ∃ y22 : Sl, (okVal false 1 (.slice y22.a y22.len y22.cap) = true ∧ w20.cell? a21 = some (.slice y22.a y22.len y22.cap)) ∧
    ∃ y23 : Int, (okVal false 1 (.int .i64 y23) = true ∧ w20.cell? ⟨b1, 1, none⟩ = some (.int .i64 y23)) ∧
    ∃ y24 : S.api_Tele, (okVal true 19 (S.api_Tele.v y24) = true ∧ rd w20 ⟨b1, 0, none⟩ (S.api_Tele.v y24)) ∧
    ((0 : Int) ≤ y23 ∧ (y23 : Int) < (y22.len : Int)) ∧ withSome y22.a fun a25 =>
    (okVal true 21 (.agg #[.bool true, .int .i64 y24.Kind, .int .i64 y24.Robot, .int .i64 y24.Epoch, .int .i64 y24.Num, .int .i64 y24.Move.Kind, .int .i64 y24.Move.Dir, .int .i64 y24.Move.N, .int .i64 y24.Move.From.At.X, .int .i64 y24.Move.From.At.Y, .bool y24.Move.From.Down, .int .i64 y24.Move.To.At.X, .int .i64 y24.Move.To.At.Y, .bool y24.Move.To.Down, .int .i64 y24.Move.At, .int .i64 y24.Move.End, .int .i64 y24.Pose.At.X, .int .i64 y24.Pose.At.Y, .bool y24.Pose.Down, .int .i64 y24.Load, .int .i64 now]) = true ∧ canPut w20 (Addr.add a25 (y23.toNat * 21)) (.agg #[.bool true, .int .i64 y24.Kind, .int .i64 y24.Robot, .int .i64 y24.Epoch, .int .i64 y24.Num, .int .i64 y24.Move.Kind, .int .i64 y24.Move.Dir, .int .i64 y24.Move.N, .int .i64 y24.Move.From.At.X, .int .i64 y24.Move.From.At.Y, .bool y24.Move.From.Down, .int .i64 y24.Move.To.At.X, .int .i64 y24.Move.To.At.Y, .bool y24.Move.To.Down, .int .i64 y24.Move.At, .int .i64 y24.Move.End, .int .i64 y24.Pose.At.X, .int .i64 y24.Pose.At.Y, .bool y24.Pose.Down, .int .i64 y24.Load, .int .i64 now])) ∧ ∀ w26 : World, w26 = putAt w20 (Addr.add a25 (y23.toNat * 21)) (.agg #[.bool true, .int .i64 y24.Kind, .int .i64 y24.Robot, .int .i64 y24.Epoch, .int .i64 y24.Num, .int .i64 y24.Move.Kind, .int .i64 y24.Move.Dir, .int .i64 y24.Move.N, .int .i64 y24.Move.From.At.X, .int .i64 y24.Move.From.At.Y, .bool y24.Move.From.Down, .int .i64 y24.Move.To.At.X, .int .i64 y24.Move.To.At.Y, .bool y24.Move.To.Down, .int .i64 y24.Move.At, .int .i64 y24.Move.End, .int .i64 y24.Pose.At.X, .int .i64 y24.Pose.At.Y, .bool y24.Pose.Down, .int .i64 y24.Load, .int .i64 now]) →
    ∃ y27 : S.api_Tele, (okVal true 19 (S.api_Tele.v y27) = true ∧ rd w26 ⟨b1, 0, none⟩ (S.api_Tele.v y27)) ∧
    (okVal true 19 (S.api_Tele.v y27) = true ∧ canPut w26 ⟨b3, 0, none⟩ (S.api_Tele.v y27)) ∧ ∀ w28 : World, w28 = putAt w26 ⟨b3, 0, none⟩ (S.api_Tele.v y27) →
    ∃ y29 : S.api_Tele, (okVal true 19 (S.api_Tele.v y29) = true ∧ rd w28 ⟨b3, 0, none⟩ (S.api_Tele.v y29)) ∧ K (.tuple #[S.api_Tele.v y29, .int .i64 0]) w28
theorem skepref17_Link_Send_of {l : (Option Addr)} {t : S.api_Tele} {now : Int} {w : World} {K : Value → World → Prop} {KP : List PanicEntry → World → Prop} (h : W.skepref17_Link_Send l t now w K KP) : C.skepref17_Link_Send l t now w K KP :=
  xcall (E := E) (T := mkTab [] [] [(3, [])] [(3, [7, 8, 9, 10, 11, 12, 13, 14, 15, 16, 17, 18, 19, 20, 21, 22, 23, 24, 25, 26, 27, 28, 29, 30, 31])] [(1, [0, 1, 2, 3, 4, 5, 6, 7, 8, 9, 10, 11, 12, 13, 14, 15, 16, 17, 18, 19, 20, 21, 22]), (3, [0, 1, 2, 3, 4, 5, 6, 7, 8, 9, 10])] [(1, [0, 1, 3, 7, 15, 31, 15, 79, 207, 463, 975, 2047, 4095, 8191, 16383, 32767, 65535, 131071, 262143, 524287, 1048575, 2097151, 4194303]), (3, [0, 1, 3, 7, 0, 16, 0, 0, 192, 511, 1023])] []) (c := Try.f17.body.getD .skip) (rs := [.cell 6 35, .tmp 7]) ⟨⟩ mixed Try.func17 (by kernel_rfl) (by kernel_rfl) [.pointer l, S.api_Tele.v t, .int .i64 now] (by kernel_rfl) (by kernel_rfl) (.inr (by kernel_rfl)) (Eq.mp (by kernel_rfl) h)

def W.skepref17_Link_Got (l : (Option Addr)) (robot : Int) (w : World) (K : Value → World → Prop) (KP : List PanicEntry → World → Prop) : Prop :=
   (cond (decide ((robot : Int) < 0))
    (K (.bool false) w)
    (withSome l fun a1 =>
    ∃ y2 : Sl, (okVal false 1 (.slice y2.a y2.len y2.cap) = true ∧ w.cell? a1 = some (.slice y2.a y2.len y2.cap)) ∧
    (cond (decide ((robot : Int) ≥ (y2.len : Int)))
    (K (.bool false) w)
    (withSome l fun a3 =>
    ∃ y4 : Sl, (okVal false 1 (.slice y4.a y4.len y4.cap) = true ∧ w.cell? a3 = some (.slice y4.a y4.len y4.cap)) ∧
    ((0 : Int) ≤ robot ∧ (robot : Int) < (y4.len : Int)) ∧ withSome y4.a fun a5 =>
    ∃ y6 : Bool, (okVal false 1 (.bool y6) = true ∧ w.cell? (Addr.add a5 (robot.toNat * 21)) = some (.bool y6)) ∧
    (cond (!y6)
    (K (.bool false) w)
    (withSome l fun a7 =>
    ∃ y8 : Sl, (okVal false 1 (.slice y8.a y8.len y8.cap) = true ∧ w.cell? a7 = some (.slice y8.a y8.len y8.cap)) ∧
    ((0 : Int) ≤ robot ∧ (robot : Int) < (y8.len : Int)) ∧ withSome y8.a fun a9 =>
    (okVal true 21 (.agg #[.bool false, .int .i64 0, .int .i64 0, .int .i64 0, .int .i64 0, .int .i64 0, .int .i64 0, .int .i64 0, .int .i64 0, .int .i64 0, .bool false, .int .i64 0, .int .i64 0, .bool false, .int .i64 0, .int .i64 0, .int .i64 0, .int .i64 0, .bool false, .int .i64 0, .int .i64 0]) = true ∧ canPut w (Addr.add a9 (robot.toNat * 21)) (.agg #[.bool false, .int .i64 0, .int .i64 0, .int .i64 0, .int .i64 0, .int .i64 0, .int .i64 0, .int .i64 0, .int .i64 0, .int .i64 0, .bool false, .int .i64 0, .int .i64 0, .bool false, .int .i64 0, .int .i64 0, .int .i64 0, .int .i64 0, .bool false, .int .i64 0, .int .i64 0])) ∧ ∀ w10 : World, w10 = putAt w (Addr.add a9 (robot.toNat * 21)) (.agg #[.bool false, .int .i64 0, .int .i64 0, .int .i64 0, .int .i64 0, .int .i64 0, .int .i64 0, .int .i64 0, .int .i64 0, .int .i64 0, .bool false, .int .i64 0, .int .i64 0, .bool false, .int .i64 0, .int .i64 0, .int .i64 0, .int .i64 0, .bool false, .int .i64 0, .int .i64 0]) →
    K (.bool true) w10))))))
theorem skepref17_Link_Got_of {l : (Option Addr)} {robot : Int} {w : World} {K : Value → World → Prop} {KP : List PanicEntry → World → Prop} (h : W.skepref17_Link_Got l robot w K KP) : C.skepref17_Link_Got l robot w K KP :=
  xcall (E := E) (T := mkTab [] [] [] [] [] [] []) (c := Try.f18.body.getD .skip) (rs := [.tmp 4]) ⟨⟩ mixed Try.func18 (by kernel_rfl) (by kernel_rfl) [.pointer l, .int .i64 robot] (by kernel_rfl) (by kernel_rfl) (.inr (by kernel_rfl)) (Eq.mp (by kernel_rfl) h)

def W.skeplaw00_SameTeles (a : Sl) (p1_ : Sl) (w : World) (K : Value → World → Prop) (KP : List PanicEntry → World → Prop) : Prop :=
   (cond (((a.len : Int) : Int) != (p1_.len : Int))
    (K (.bool false) w)
    (∃ (I1 : Int → World → Prop) (M2 : Int → World → Nat),
    (∃ u3 : Int, (.int .i64 0 : Value) = .int .i64 u3 ∧ I1 u3 w) ∧
    ∀ e0 : Env, ∀ v4 : Int, ∀ w5 : World, I1 v4 w5 →
    (cond (decide ((v4 : Int) < (a.len : Int)))
    (∀ w6, Drew w5 w6 →
    ((0 : Int) ≤ v4 ∧ (v4 : Int) < (a.len : Int)) ∧ withSome a.a fun a7 =>
    ∃ y8 : S.api_Tele, (okVal true 19 (S.api_Tele.v y8) = true ∧ rd w6 (Addr.add a7 (v4.toNat * 19)) (S.api_Tele.v y8)) ∧
    ((0 : Int) ≤ v4 ∧ (v4 : Int) < (p1_.len : Int)) ∧ withSome p1_.a fun a9 =>
    ∃ y10 : S.api_Tele, (okVal true 19 (S.api_Tele.v y10) = true ∧ rd w6 (Addr.add a9 (v4.toNat * 19)) (S.api_Tele.v y10)) ∧
    (cond (!((((y8.Kind : Int) == y10.Kind) && (((y8.Robot : Int) == y10.Robot) && (((y8.Epoch : Int) == y10.Epoch) && (((y8.Num : Int) == y10.Num) && ((((y8.Move.Kind : Int) == y10.Move.Kind) && (((y8.Move.Dir : Int) == y10.Move.Dir) && (((y8.Move.N : Int) == y10.Move.N) && (((((y8.Move.From.At.X : Int) == y10.Move.From.At.X) && (((y8.Move.From.At.Y : Int) == y10.Move.From.At.Y) && true)) && ((y8.Move.From.Down == y10.Move.From.Down) && true)) && (((((y8.Move.To.At.X : Int) == y10.Move.To.At.X) && (((y8.Move.To.At.Y : Int) == y10.Move.To.At.Y) && true)) && ((y8.Move.To.Down == y10.Move.To.Down) && true)) && (((y8.Move.At : Int) == y10.Move.At) && (((y8.Move.End : Int) == y10.Move.End) && true))))))) && (((((y8.Pose.At.X : Int) == y10.Pose.At.X) && (((y8.Pose.At.Y : Int) == y10.Pose.At.Y) && true)) && ((y8.Pose.Down == y10.Pose.Down) && true)) && (((y8.Load : Int) == y10.Load) && true)))))))))
    (K (.bool false) w6)
    (∃ u11 : Int, (.int .i64 (IntKind.i64.wrap (v4 + 1)) : Value) = .int .i64 u11 ∧ (I1 u11 w6 ∧ M2 u11 w6 < M2 v4 w5))))
    (K (.bool true) w5))))
theorem skeplaw00_SameTeles_of {a : Sl} {p1_ : Sl} {w : World} {K : Value → World → Prop} {KP : List PanicEntry → World → Prop} (h : W.skeplaw00_SameTeles a p1_ w K KP) : C.skeplaw00_SameTeles a p1_ w K KP :=
  xcall (E := E) (T := mkTab [(4, [(5, 3)])] [(4, [4, 5, 11, 12, 13, 14, 15, 16, 17, 18, 19, 20, 21, 22, 23, 24, 25])] [] [] [(6, [0, 1, 2, 3, 4, 5, 6, 7, 8])] [(6, [0, 0, 3, 7, 0, 0, 48, 112, 255])] []) (c := Try.f19.body.getD .skip) (rs := [.tmp 4]) ⟨⟩ mixed Try.func19 (by kernel_rfl) (by kernel_rfl) [.slice a.a a.len a.cap, .slice p1_.a p1_.len p1_.cap] (by kernel_rfl) (by kernel_rfl) (.inr (by kernel_rfl)) (Eq.mp (by kernel_rfl) h)

def W.skepref17_Link_Due (l : (Option Addr)) (now : Int) (w : World) (K : Value → World → Prop) (KP : List PanicEntry → World → Prop) : Prop :=
   ∃ (I1 : Sl → Int → World → Prop) (M2 : Sl → Int → World → Nat),
    (∃ u3 : Sl, (.slice none 0 0 : Value) = .slice u3.a u3.len u3.cap ∧ ∃ u4 : Int, (.int .i64 0 : Value) = .int .i64 u4 ∧ I1 u3 u4 w) ∧
    ∀ e0 : Env, ∀ v5 : Sl, ∀ v6 : Int, ∀ w7 : World, I1 v5 v6 w7 →
    withSome l fun a8 =>
    ∃ y9 : Sl, (okVal false 1 (.slice y9.a y9.len y9.cap) = true ∧ w7.cell? a8 = some (.slice y9.a y9.len y9.cap)) ∧
    (cond (decide ((v6 : Int) < (y9.len : Int)))
    (∀ w10, Drew w7 w10 →
    withSome l fun a11 =>
    ∃ y12 : Sl, (okVal false 1 (.slice y12.a y12.len y12.cap) = true ∧ w10.cell? a11 = some (.slice y12.a y12.len y12.cap)) ∧
    ((0 : Int) ≤ v6 ∧ (v6 : Int) < (y12.len : Int)) ∧ withSome y12.a fun a13 =>
    ∃ y14 : Bool, (okVal false 1 (.bool y14) = true ∧ w10.cell? (Addr.add a13 (v6.toNat * 21)) = some (.bool y14)) ∧
    (cond y14
    (withSome l fun a15 =>
    ∃ y16 : Sl, (okVal false 1 (.slice y16.a y16.len y16.cap) = true ∧ w10.cell? a15 = some (.slice y16.a y16.len y16.cap)) ∧
    ((0 : Int) ≤ v6 ∧ (v6 : Int) < (y16.len : Int)) ∧ withSome y16.a fun a17 =>
    ∃ y18 : Int, (okVal false 1 (.int .i64 y18) = true ∧ w10.cell? (Addr.add (Addr.add a17 (v6.toNat * 21)) 20) = some (.int .i64 y18)) ∧
    withSome l fun a19 =>
    ∃ y20 : Int, (okVal false 1 (.int .i64 y20) = true ∧ w10.cell? (Addr.add a19 1) = some (.int .i64 y20)) ∧
    C.skepref01_Less now y18 w10 (fun r23 w21 => ∃ p22 : Int, r23 = .int .i64 p22 ∧
    (w21.cell? (Addr.add a19 1) = some (.int .i64 y20)) ∧ (cond (decide ((p22 : Int) ≥ y20))
    (withSome l fun a24 =>
    ∃ y25 : Sl, (okVal false 1 (.slice y25.a y25.len y25.cap) = true ∧ w21.cell? a24 = some (.slice y25.a y25.len y25.cap)) ∧
    ((0 : Int) ≤ v6 ∧ (v6 : Int) < (y25.len : Int)) ∧ withSome y25.a fun a26 =>
    (okVal false 1 (.int .i64 now) = true ∧ canPut w21 (Addr.add (Addr.add a26 (v6.toNat * 21)) 20) (.int .i64 now)) ∧ ∀ w27 : World, w27 = putAt w21 (Addr.add (Addr.add a26 (v6.toNat * 21)) 20) (.int .i64 now) →
    withSome l fun a28 =>
    ∃ y29 : Sl, (okVal false 1 (.slice y29.a y29.len y29.cap) = true ∧ w27.cell? a28 = some (.slice y29.a y29.len y29.cap)) ∧
    ((0 : Int) ≤ v6 ∧ (v6 : Int) < (y29.len : Int)) ∧ withSome y29.a fun a30 =>
    ∃ y31 : S.api_Tele, (okVal true 19 (S.api_Tele.v y31) = true ∧ rd w27 (Addr.add (Addr.add a30 (v6.toNat * 21)) 1) (S.api_Tele.v y31)) ∧
    ∀ (b32 : Nat) (w33 : World), Alloc w27 b32 35 [.int .i64 y31.Kind, .int .i64 y31.Robot, .int .i64 y31.Epoch, .int .i64 y31.Num, .int .i64 y31.Move.Kind, .int .i64 y31.Move.Dir, .int .i64 y31.Move.N, .int .i64 y31.Move.From.At.X, .int .i64 y31.Move.From.At.Y, .bool y31.Move.From.Down, .int .i64 y31.Move.To.At.X, .int .i64 y31.Move.To.At.Y, .bool y31.Move.To.Down, .int .i64 y31.Move.At, .int .i64 y31.Move.End, .int .i64 y31.Pose.At.X, .int .i64 y31.Pose.At.Y, .bool y31.Pose.Down, .int .i64 y31.Load] w33 →
    ∃ (q34 : Option Addr) (n35 c36 : Nat) (w37 : World), (Builtin.append_ #[22, 22] 22 #[.slice v5.a v5.len v5.cap, .slice (some ⟨b32, 0, none⟩) 1 1]).run Try.prog w33 = .ok (.slice q34 n35 c36) w37 ∧
    ∃ u38 : Sl, (.slice q34 n35 c36 : Value) = .slice u38.a u38.len u38.cap ∧ ∃ u39 : Int, (.int .i64 (IntKind.i64.wrap (v6 + 1)) : Value) = .int .i64 u39 ∧ (I1 u38 u39 w37 ∧ M2 u38 u39 w37 < M2 v5 v6 w7))
    (∃ u40 : Sl, (.slice v5.a v5.len v5.cap : Value) = .slice u40.a u40.len u40.cap ∧ ∃ u41 : Int, (.int .i64 (IntKind.i64.wrap (v6 + 1)) : Value) = .int .i64 u41 ∧ (I1 u40 u41 w21 ∧ M2 u40 u41 w21 < M2 v5 v6 w7)))) KP)
    (∃ u42 : Sl, (.slice v5.a v5.len v5.cap : Value) = .slice u42.a u42.len u42.cap ∧ ∃ u43 : Int, (.int .i64 (IntKind.i64.wrap (v6 + 1)) : Value) = .int .i64 u43 ∧ (I1 u42 u43 w10 ∧ M2 u42 u43 w10 < M2 v5 v6 w7))))
    (K (.slice v5.a v5.len v5.cap) w7))
theorem skepref17_Link_Due_of {l : (Option Addr)} {now : Int} {w : World} {K : Value → World → Prop} {KP : List PanicEntry → World → Prop} (h : W.skepref17_Link_Due l now w K KP) : C.skepref17_Link_Due l now w K KP :=
  xcall (E := E) (T := mkTab [(3, [(5, 22), (6, 3)])] [(3, [5, 6, 7, 8, 9, 10, 11, 12, 13, 14, 15, 16, 17, 18, 19, 20, 21, 22, 23, 24, 25, 26, 27, 28, 29, 30, 31, 32, 33, 34, 35, 36, 37, 38, 39, 40, 41, 42, 43, 44, 45, 46, 47, 48, 49, 50, 51, 52, 53, 54, 55, 56, 57, 58, 59])] [] [] [(5, [0, 1, 2, 3, 4, 5, 6, 7, 8, 9, 10, 11, 12, 13, 14, 15, 16, 17, 19, 20, 21, 22, 18, 23, 24])] [(5, [0, 1, 3, 7, 0, 31, 63, 127, 255, 511, 511, 1535, 3583, 7679, 511, 32255, 65023, 130559, 262143, 511, 524799, 1573375, 3670527, 8388607, 16777215])] []) (c := Try.f20.body.getD .skip) (rs := [.tmp 4]) ⟨⟩ mixed Try.func20 (by kernel_rfl) (by kernel_rfl) [.pointer l, .int .i64 now] (by kernel_rfl) (by kernel_rfl) (.inr (by kernel_rfl)) (Eq.mp (by kernel_rfl) h)

def W.link_Link_Clear (l : (Option Addr)) (w : World) (K : Value → World → Prop) (KP : List PanicEntry → World → Prop) : Prop :=
   (cond (!l.isNone)
    (withSome l fun a1 =>
    ∃ y2 : (Option Nat), (okVal false 1 (.map y2) = true ∧ w.cell? (Addr.add a1 2) = some (.map y2)) ∧
    ∃ w3 : World, (Builtin.clear_ #[57] 0 #[.map y2]).run Try.prog w = .ok (.tuple #[]) w3 ∧
    K (.tuple #[]) w3)
    (K (.tuple #[]) w))
theorem link_Link_Clear_of {l : (Option Addr)} {w : World} {K : Value → World → Prop} {KP : List PanicEntry → World → Prop} (h : W.link_Link_Clear l w K KP) : C.link_Link_Clear l w K KP :=
  xcall (E := E) (T := mkTab [] [] [] [] [] [] []) (c := Try.f21.body.getD .skip) (rs := []) ⟨⟩ mixed Try.func21 (by kernel_rfl) (by kernel_rfl) [.pointer l] (by kernel_rfl) (by kernel_rfl) (.inr (by kernel_rfl)) (Eq.mp (by kernel_rfl) h)

def W.skepref17_Link_Clear (l : (Option Addr)) (w : World) (K : Value → World → Prop) (KP : List PanicEntry → World → Prop) : Prop :=
   withSome l fun a1 =>
    ∃ y2 : Sl, (okVal false 1 (.slice y2.a y2.len y2.cap) = true ∧ w.cell? a1 = some (.slice y2.a y2.len y2.cap)) ∧
    ((0 : Int) ≤ (y2.len : Int) ∧ ((y2.len : Int) : Int) ≤ (y2.len : Int) ∧ (168 : Int) * (y2.len : Int) ≤ 281474976710656 ∧ ((y2.len : Int) : Int) ≤ 9223372036854775807) ∧ ∀ (b3 : Nat) (w4 : World), Alloc w b3 67 (madeCells #[.bool false, .int .i64 0, .int .i64 0, .int .i64 0, .int .i64 0, .int .i64 0, .int .i64 0, .int .i64 0, .int .i64 0, .int .i64 0, .bool false, .int .i64 0, .int .i64 0, .bool false, .int .i64 0, .int .i64 0, .int .i64 0, .int .i64 0, .bool false, .int .i64 0, .int .i64 0] ((y2.len : Int).toNat * 21)).toList w4 →
    withSome l fun a5 =>
    (okVal false 1 (.slice (some ⟨b3, 0, none⟩) ((y2.len : Int).toNat) ((y2.len : Int).toNat)) = true ∧ canPut w4 a5 (.slice (some ⟨b3, 0, none⟩) ((y2.len : Int).toNat) ((y2.len : Int).toNat))) ∧ ∀ w6 : World, w6 = putAt w4 a5 (.slice (some ⟨b3, 0, none⟩) ((y2.len : Int).toNat) ((y2.len : Int).toNat)) →
    K (.tuple #[]) w6
theorem skepref17_Link_Clear_of {l : (Option Addr)} {w : World} {K : Value → World → Prop} {KP : List PanicEntry → World → Prop} (h : W.skepref17_Link_Clear l w K KP) : C.skepref17_Link_Clear l w K KP :=
  xcall (E := E) (T := mkTab [] [] [] [] [] [] []) (c := Try.f22.body.getD .skip) (rs := []) ⟨⟩ mixed Try.func22 (by kernel_rfl) (by kernel_rfl) [.pointer l] (by kernel_rfl) (by kernel_rfl) (.inr (by kernel_rfl)) (Eq.mp (by kernel_rfl) h)

def W.skepref17_Link_Waits (l : (Option Addr)) (robot : Int) (w : World) (K : Value → World → Prop) (KP : List PanicEntry → World → Prop) : Prop :=
   ∀ (b1 : Nat) (w2 : World), Alloc w b1 35 [.int .i64 0, .int .i64 0, .int .i64 0, .int .i64 0, .int .i64 0, .int .i64 0, .int .i64 0, .int .i64 0, .int .i64 0, .bool false, .int .i64 0, .int .i64 0, .bool false, .int .i64 0, .int .i64 0, .int .i64 0, .int .i64 0, .bool false, .int .i64 0] w2 →
    (cond (decide ((robot : Int) < 0))
    ((okVal true 19 (.agg #[.int .i64 0, .int .i64 0, .int .i64 0, .int .i64 0, .int .i64 0, .int .i64 0, .int .i64 0, .int .i64 0, .int .i64 0, .bool false, .int .i64 0, .int .i64 0, .bool false, .int .i64 0, .int .i64 0, .int .i64 0, .int .i64 0, .bool false, .int .i64 0]) = true ∧ canPut w2 ⟨b1, 0, none⟩ (.agg #[.int .i64 0, .int .i64 0, .int .i64 0, .int .i64 0, .int .i64 0, .int .i64 0, .int .i64 0, .int .i64 0, .int .i64 0, .bool false, .int .i64 0, .int .i64 0, .bool false, .int .i64 0, .int .i64 0, .int .i64 0, .int .i64 0, .bool false, .int .i64 0])) ∧ ∀ w3 : World, w3 = putAt w2 ⟨b1, 0, none⟩ (.agg #[.int .i64 0, .int .i64 0, .int .i64 0, .int .i64 0, .int .i64 0, .int .i64 0, .int .i64 0, .int .i64 0, .int .i64 0, .bool false, .int .i64 0, .int .i64 0, .bool false, .int .i64 0, .int .i64 0, .int .i64 0, .int .i64 0, .bool false, .int .i64 0]) →
    ∃ y4 : S.api_Tele, (okVal true 19 (S.api_Tele.v y4) = true ∧ rd w3 ⟨b1, 0, none⟩ (S.api_Tele.v y4)) ∧ K (.tuple #[S.api_Tele.v y4, .bool false]) w3)
    (withSome l fun a5 =>
    ∃ y6 : Sl, (okVal false 1 (.slice y6.a y6.len y6.cap) = true ∧ w2.cell? a5 = some (.slice y6.a y6.len y6.cap)) ∧
    (cond (decide ((robot : Int) ≥ (y6.len : Int)))
    ((okVal true 19 (.agg #[.int .i64 0, .int .i64 0, .int .i64 0, .int .i64 0, .int .i64 0, .int .i64 0, .int .i64 0, .int .i64 0, .int .i64 0, .bool false, .int .i64 0, .int .i64 0, .bool false, .int .i64 0, .int .i64 0, .int .i64 0, .int .i64 0, .bool false, .int .i64 0]) = true ∧ canPut w2 ⟨b1, 0, none⟩ (.agg #[.int .i64 0, .int .i64 0, .int .i64 0, .int .i64 0, .int .i64 0, .int .i64 0, .int .i64 0, .int .i64 0, .int .i64 0, .bool false, .int .i64 0, .int .i64 0, .bool false, .int .i64 0, .int .i64 0, .int .i64 0, .int .i64 0, .bool false, .int .i64 0])) ∧ ∀ w7 : World, w7 = putAt w2 ⟨b1, 0, none⟩ (.agg #[.int .i64 0, .int .i64 0, .int .i64 0, .int .i64 0, .int .i64 0, .int .i64 0, .int .i64 0, .int .i64 0, .int .i64 0, .bool false, .int .i64 0, .int .i64 0, .bool false, .int .i64 0, .int .i64 0, .int .i64 0, .int .i64 0, .bool false, .int .i64 0]) →
    ∃ y8 : S.api_Tele, (okVal true 19 (S.api_Tele.v y8) = true ∧ rd w7 ⟨b1, 0, none⟩ (S.api_Tele.v y8)) ∧ K (.tuple #[S.api_Tele.v y8, .bool false]) w7)
    (∀ w9, Drew w2 w9 →
    withSome l fun a10 =>
    ∃ y11 : Sl, (okVal false 1 (.slice y11.a y11.len y11.cap) = true ∧ w9.cell? a10 = some (.slice y11.a y11.len y11.cap)) ∧
    ((0 : Int) ≤ robot ∧ (robot : Int) < (y11.len : Int)) ∧ withSome y11.a fun a12 =>
    ∃ y13 : S.api_Tele, (okVal true 19 (S.api_Tele.v y13) = true ∧ rd w9 (Addr.add (Addr.add a12 (robot.toNat * 21)) 1) (S.api_Tele.v y13)) ∧
    withSome l fun a14 =>
    ∃ y15 : Sl, (okVal false 1 (.slice y15.a y15.len y15.cap) = true ∧ w9.cell? a14 = some (.slice y15.a y15.len y15.cap)) ∧
    ((0 : Int) ≤ robot ∧ (robot : Int) < (y15.len : Int)) ∧ withSome y15.a fun a16 =>
    ∃ y17 : Bool, (okVal false 1 (.bool y17) = true ∧ w9.cell? (Addr.add a16 (robot.toNat * 21)) = some (.bool y17)) ∧
    (okVal true 19 (S.api_Tele.v y13) = true ∧ canPut w9 ⟨b1, 0, none⟩ (S.api_Tele.v y13)) ∧ ∀ w18 : World, w18 = putAt w9 ⟨b1, 0, none⟩ (S.api_Tele.v y13) →
    (w18.cell? (Addr.add a16 (robot.toNat * 21)) = some (.bool y17)) ∧ (w18.cell? a14 = some (.slice y15.a y15.len y15.cap)) ∧ ∃ y19 : S.api_Tele, (okVal true 19 (S.api_Tele.v y19) = true ∧ rd w18 ⟨b1, 0, none⟩ (S.api_Tele.v y19)) ∧ K (.tuple #[S.api_Tele.v y19, .bool y17]) w18))))
theorem skepref17_Link_Waits_of {l : (Option Addr)} {robot : Int} {w : World} {K : Value → World → Prop} {KP : List PanicEntry → World → Prop} (h : W.skepref17_Link_Waits l robot w K KP) : C.skepref17_Link_Waits l robot w K KP :=
  xcall (E := E) (T := mkTab [] [] [] [] [(3, [0, 1, 2, 3, 4, 5, 6, 7, 8, 9, 10, 11, 12, 13, 14, 15, 16, 17])] [(3, [0, 1, 3, 7, 0, 31, 63, 127, 0, 256, 768, 1792, 0, 7936, 16128, 32512, 255, 131071])] []) (c := Try.f23.body.getD .skip) (rs := [.cell 4 35, .tmp 5]) ⟨⟩ mixed Try.func23 (by kernel_rfl) (by kernel_rfl) [.pointer l, .int .i64 robot] (by kernel_rfl) (by kernel_rfl) (.inr (by kernel_rfl)) (Eq.mp (by kernel_rfl) h)

def W.tick_Less (a : Int) (p1_ : Int) (w : World) (K : Value → World → Prop) (KP : List PanicEntry → World → Prop) : Prop :=
   C.tick_both a p1_ w (fun r3 w1 => ∃ p2 : S.Ar68, r3 = S.Ar68.v p2 ∧
    ∀ (b4 : Nat) (w5 : World), Alloc w1 b4 68 [.int .i64 0, .int .i64 0] w5 →
    (okVal true 2 (S.Ar68.v p2) = true ∧ canPut w5 ⟨b4, 0, none⟩ (S.Ar68.v p2)) ∧ ∀ w6 : World, w6 = putAt w5 ⟨b4, 0, none⟩ (S.Ar68.v p2) →
    ((0 : Int) ≤ 0 ∧ (0 : Int) < (2 : Int)) ∧ ∃ y7 : Int, (okVal false 1 (.int .i64 y7) = true ∧ w6.cell? ⟨b4, 0, none⟩ = some (.int .i64 y7)) ∧
    (cond ((y7 : Int) == 4611686018427387904)
    (((0 : Int) ≤ 0 ∧ (0 : Int) < (2 : Int)) ∧ ∃ y8 : Int, (okVal false 1 (.int .i64 y8) = true ∧ w6.cell? ⟨b4, 0, none⟩ = some (.int .i64 y8)) ∧
    K (.int .i64 y8) w6)
    (((0 : Int) ≤ 0 ∧ (0 : Int) < (2 : Int)) ∧ ∃ y9 : Int, (okVal false 1 (.int .i64 y9) = true ∧ w6.cell? ⟨b4, 0, none⟩ = some (.int .i64 y9)) ∧
    ((0 : Int) ≤ 1 ∧ (1 : Int) < (2 : Int)) ∧ ∃ y10 : Int, (okVal false 1 (.int .i64 y10) = true ∧ w6.cell? ⟨b4, 1, none⟩ = some (.int .i64 y10)) ∧
    K (.int .i64 (if ((IntKind.i64.wrap (y9 - y10)) : Int) > 0 then (IntKind.i64.wrap (y9 - y10)) else 0)) w6))) KP
theorem tick_Less_of {a : Int} {p1_ : Int} {w : World} {K : Value → World → Prop} {KP : List PanicEntry → World → Prop} (h : W.tick_Less a p1_ w K KP) : C.tick_Less a p1_ w K KP :=
  xcall (E := E) (T := mkTab [] [] [] [] [] [] []) (c := Try.f24.body.getD .skip) (rs := [.tmp 4]) ⟨⟩ mixed Try.func24 (by kernel_rfl) (by kernel_rfl) [.int .i64 a, .int .i64 p1_] (by kernel_rfl) (by kernel_rfl) (.inr (by kernel_rfl)) (Eq.mp (by kernel_rfl) h)

def W.skepref01_Less (a : Int) (p1_ : Int) (w : World) (K : Value → World → Prop) (KP : List PanicEntry → World → Prop) : Prop :=
   C.skepref01_Cut a w (fun r3 w1 => ∃ p2 : Int, r3 = .int .i64 p2 ∧
    C.skepref01_Cut p1_ w1 (fun r6 w4 => ∃ p5 : Int, r6 = .int .i64 p5 ∧
    (cond ((p2 : Int) == 4611686018427387904)
    (K (.int .i64 4611686018427387904) w4)
    ((cond (decide ((p5 : Int) > p2))
    (K (.int .i64 0) w4)
    (K (.int .i64 (IntKind.i64.wrap (p2 - p5))) w4))))) KP) KP
theorem skepref01_Less_of {a : Int} {p1_ : Int} {w : World} {K : Value → World → Prop} {KP : List PanicEntry → World → Prop} (h : W.skepref01_Less a p1_ w K KP) : C.skepref01_Less a p1_ w K KP :=
  xcall (E := E) (T := mkTab [] [] [] [] [] [] []) (c := Try.f25.body.getD .skip) (rs := [.tmp 4]) ⟨⟩ mixed Try.func25 (by kernel_rfl) (by kernel_rfl) [.int .i64 a, .int .i64 p1_] (by kernel_rfl) (by kernel_rfl) (.inr (by kernel_rfl)) (Eq.mp (by kernel_rfl) h)

def W.tick_both (a : Int) (p1_ : Int) (w : World) (K : Value → World → Prop) (KP : List PanicEntry → World → Prop) : Prop :=
   ∀ (b1 : Nat) (w2 : World), Alloc w b1 68 [.int .i64 0, .int .i64 0] w2 →
    C.tick_Cut a w2 (fun r5 w3 => ∃ p4 : Int, r5 = .int .i64 p4 ∧
    C.tick_Cut p1_ w3 (fun r8 w6 => ∃ p7 : Int, r8 = .int .i64 p7 ∧
    (okVal true 2 (.agg #[.int .i64 p4, .int .i64 p7]) = true ∧ canPut w6 ⟨b1, 0, none⟩ (.agg #[.int .i64 p4, .int .i64 p7])) ∧ ∀ w9 : World, w9 = putAt w6 ⟨b1, 0, none⟩ (.agg #[.int .i64 p4, .int .i64 p7]) →
    ∃ y10 : S.Ar68, (okVal true 2 (S.Ar68.v y10) = true ∧ rd w9 ⟨b1, 0, none⟩ (S.Ar68.v y10)) ∧ K (S.Ar68.v y10) w9) KP) KP
theorem tick_both_of {a : Int} {p1_ : Int} {w : World} {K : Value → World → Prop} {KP : List PanicEntry → World → Prop} (h : W.tick_both a p1_ w K KP) : C.tick_both a p1_ w K KP :=
  xcall (E := E) (T := mkTab [] [] [] [] [] [] []) (c := Try.f26.body.getD .skip) (rs := [.cell 4 68]) ⟨⟩ mixed Try.func26 (by kernel_rfl) (by kernel_rfl) [.int .i64 a, .int .i64 p1_] (by kernel_rfl) (by kernel_rfl) (.inr (by kernel_rfl)) (Eq.mp (by kernel_rfl) h)

def W.skepref01_Cut (a : Int) (w : World) (K : Value → World → Prop) (KP : List PanicEntry → World → Prop) : Prop :=
   (cond (decide ((a : Int) < 0))
    (K (.int .i64 0) w)
    ((cond (decide ((a : Int) > 4611686018427387904))
    (K (.int .i64 4611686018427387904) w)
    (K (.int .i64 a) w))))
theorem skepref01_Cut_of {a : Int} {w : World} {K : Value → World → Prop} {KP : List PanicEntry → World → Prop} (h : W.skepref01_Cut a w K KP) : C.skepref01_Cut a w K KP :=
  xcall (E := E) (T := mkTab [] [] [] [] [] [] []) (c := Try.f27.body.getD .skip) (rs := [.tmp 2]) ⟨⟩ mixed Try.func27 (by kernel_rfl) (by kernel_rfl) [.int .i64 a] (by kernel_rfl) (by kernel_rfl) (.inr (by kernel_rfl)) (Eq.mp (by kernel_rfl) h)

def W.tick_Cut (a : Int) (w : World) (K : Value → World → Prop) (KP : List PanicEntry → World → Prop) : Prop :=
   K (.int .i64 (if ((if (4611686018427387904 : Int) < a then 4611686018427387904 else a) : Int) > 0 then (if (4611686018427387904 : Int) < a then 4611686018427387904 else a) else 0)) w
theorem tick_Cut_of {a : Int} {w : World} {K : Value → World → Prop} {KP : List PanicEntry → World → Prop} (h : W.tick_Cut a w K KP) : C.tick_Cut a w K KP :=
  xcall (E := E) (T := mkTab [] [] [] [] [] [] []) (c := Try.f28.body.getD .skip) (rs := [.tmp 2]) ⟨⟩ mixed Try.func28 (by kernel_rfl) (by kernel_rfl) [.int .i64 a] (by kernel_rfl) (by kernel_rfl) (.inr (by kernel_rfl)) (Eq.mp (by kernel_rfl) h)
end Go.Proofs.Ytkafemfpfbcoaaa
