/- Printed by vc.py: what functions of this seat come to, as predicates of typed values, each with its proof. No conditions. -/
import Derived.Test.YtocbjadhcfjfiaaTab
namespace Go.Proofs.Ytocbjadhcfjfiaa
open Go.Eng
set_option linter.unusedVariables false
set_option maxRecDepth 100000
def W.skepref05_moves (p0_ : Sl) (l : Sl) (w : World) (K : Value → World → Prop) (KP : List PanicEntry → World → Prop) : Prop :=
   C.skepref05_num p0_ (l.len : Int) w (fun r3 w1 => ∃ p2 : Sl, r3 = .slice p2.a p2.len p2.cap ∧
    ∃ (I4 : Sl → Int → World → Prop) (M5 : Sl → Int → World → Nat),
    (∃ u6 : Sl, (.slice p2.a p2.len p2.cap : Value) = .slice u6.a u6.len u6.cap ∧ ∃ u7 : Int, (.int .i64 0 : Value) = .int .i64 u7 ∧ I4 u6 u7 w1) ∧
    ∀ e0 : Env, ∀ v8 : Sl, ∀ v9 : Int, ∀ w10 : World, I4 v8 v9 w10 →
    (cond (decide ((v9 : Int) < (l.len : Int)))
    (((0 : Int) ≤ v9 ∧ (v9 : Int) < (l.len : Int)) ∧ withSome l.a fun a11 =>
    ∃ y12 : S.api_Move, (okVal true 11 (S.api_Move.v y12) = true ∧ rd w10 (Addr.add a11 (v9.toNat * 11)) (S.api_Move.v y12)) ∧
    C.skepref05_move v8 y12 w10 (fun r15 w13 => ∃ p14 : Sl, r15 = .slice p14.a p14.len p14.cap ∧
    ∃ u16 : Sl, (.slice p14.a p14.len p14.cap : Value) = .slice u16.a u16.len u16.cap ∧ ∃ u17 : Int, (.int .i64 (IntKind.i64.wrap (v9 + 1)) : Value) = .int .i64 u17 ∧ (I4 u16 u17 w13 ∧ M5 u16 u17 w13 < M5 v8 v9 w10)) KP)
    (K (.slice v8.a v8.len v8.cap) w10))) KP
theorem skepref05_moves_of {p0_ : Sl} {l : Sl} {w : World} {K : Value → World → Prop} {KP : List PanicEntry → World → Prop} (h : W.skepref05_moves p0_ l w K KP) : C.skepref05_moves p0_ l w K KP :=
  xcall (E := E) (T := mkTab [(3, [(0, 22), (5, 3)])] [(3, [0, 5, 10, 11, 12, 13, 14, 15, 16, 17, 18, 19, 20, 21])] [] [] [] [] []) (c := Try.f60.body.getD .skip) (rs := [.tmp 4]) ⟨⟩ mixed Try.func60 (by kernel_rfl) (by kernel_rfl) [.slice p0_.a p0_.len p0_.cap, .slice l.a l.len l.cap] (by kernel_rfl) (by kernel_rfl) (.inr (by kernel_rfl)) (Eq.mp (by kernel_rfl) h)

def W.skeplaw00_SameMoves (a : Sl) (p1_ : Sl) (w : World) (K : Value → World → Prop) (KP : List PanicEntry → World → Prop) : Prop :=
   (cond (((a.len : Int) : Int) != (p1_.len : Int))
    (K (.bool false) w)
    (∃ (I1 : Int → World → Prop) (M2 : Int → World → Nat),
    (∃ u3 : Int, (.int .i64 0 : Value) = .int .i64 u3 ∧ I1 u3 w) ∧
    ∀ e0 : Env, ∀ v4 : Int, ∀ w5 : World, I1 v4 w5 →
    (cond (decide ((v4 : Int) < (a.len : Int)))
    (∀ w6, Drew w5 w6 →
    ((0 : Int) ≤ v4 ∧ (v4 : Int) < (a.len : Int)) ∧ withSome a.a fun a7 =>
    ∃ y8 : S.api_Move, (okVal true 11 (S.api_Move.v y8) = true ∧ rd w6 (Addr.add a7 (v4.toNat * 11)) (S.api_Move.v y8)) ∧
    ((0 : Int) ≤ v4 ∧ (v4 : Int) < (p1_.len : Int)) ∧ withSome p1_.a fun a9 =>
    ∃ y10 : S.api_Move, (okVal true 11 (S.api_Move.v y10) = true ∧ rd w6 (Addr.add a9 (v4.toNat * 11)) (S.api_Move.v y10)) ∧
    (cond (!((((y8.Kind : Int) == y10.Kind) && (((y8.Dir : Int) == y10.Dir) && (((y8.N : Int) == y10.N) && (((((y8.From.At.X : Int) == y10.From.At.X) && (((y8.From.At.Y : Int) == y10.From.At.Y) && true)) && ((y8.From.Down == y10.From.Down) && true)) && (((((y8.To.At.X : Int) == y10.To.At.X) && (((y8.To.At.Y : Int) == y10.To.At.Y) && true)) && ((y8.To.Down == y10.To.Down) && true)) && (((y8.At : Int) == y10.At) && (((y8.End : Int) == y10.End) && true)))))))))
    (K (.bool false) w6)
    (∃ u11 : Int, (.int .i64 (IntKind.i64.wrap (v4 + 1)) : Value) = .int .i64 u11 ∧ (I1 u11 w6 ∧ M2 u11 w6 < M2 v4 w5))))
    (K (.bool true) w5))))
theorem skeplaw00_SameMoves_of {a : Sl} {p1_ : Sl} {w : World} {K : Value → World → Prop} {KP : List PanicEntry → World → Prop} (h : W.skeplaw00_SameMoves a p1_ w K KP) : C.skeplaw00_SameMoves a p1_ w K KP :=
  xcall (E := E) (T := mkTab [(4, [(5, 3)])] [(4, [4, 5, 11, 12, 13, 14, 15, 16, 17, 18, 19, 20, 21, 22, 23, 24, 25])] [] [] [(6, [0, 1, 2, 3, 4, 5, 6, 7, 8])] [(6, [0, 0, 3, 7, 0, 0, 48, 112, 255])] []) (c := Try.f61.body.getD .skip) (rs := [.tmp 4]) ⟨⟩ mixed Try.func61 (by kernel_rfl) (by kernel_rfl) [.slice a.a a.len a.cap, .slice p1_.a p1_.len p1_.cap] (by kernel_rfl) (by kernel_rfl) (.inr (by kernel_rfl)) (Eq.mp (by kernel_rfl) h)

def W.codec_flag (p0_ : Sl) (v : Bool) (w : World) (K : Value → World → Prop) (KP : List PanicEntry → World → Prop) : Prop :=
   (cond v
    (∀ (b1 : Nat) (w2 : World), Alloc w b1 5 [.int .u8 1] w2 →
    ∃ (q3 : Option Addr) (n4 c5 : Nat) (w6 : World), (Builtin.append_ #[22, 22] 22 #[.slice p0_.a p0_.len p0_.cap, .slice (some ⟨b1, 0, none⟩) 1 1]).run Try.prog w2 = .ok (.slice q3 n4 c5) w6 ∧
    K (.slice q3 n4 c5) w6)
    (∀ (b7 : Nat) (w8 : World), Alloc w b7 5 [.int .u8 0] w8 →
    ∃ (q9 : Option Addr) (n10 c11 : Nat) (w12 : World), (Builtin.append_ #[22, 22] 22 #[.slice p0_.a p0_.len p0_.cap, .slice (some ⟨b7, 0, none⟩) 1 1]).run Try.prog w8 = .ok (.slice q9 n10 c11) w12 ∧
    K (.slice q9 n10 c11) w12))
theorem codec_flag_of {p0_ : Sl} {v : Bool} {w : World} {K : Value → World → Prop} {KP : List PanicEntry → World → Prop} (h : W.codec_flag p0_ v w K KP) : C.codec_flag p0_ v w K KP :=
  xcall (E := E) (T := mkTab [] [] [] [] [] [] []) (c := Try.f62.body.getD .skip) (rs := [.tmp 4]) ⟨⟩ mixed Try.func62 (by kernel_rfl) (by kernel_rfl) [.slice p0_.a p0_.len p0_.cap, .bool v] (by kernel_rfl) (by kernel_rfl) (.inr (by kernel_rfl)) (Eq.mp (by kernel_rfl) h)

def W.codec_puts_api_Stack (p0_ : Sl) (l : Sl) (item : Value) (w : World) (K : Value → World → Prop) (KP : List PanicEntry → World → Prop) : Prop :=
   C.codec_number p0_ (l.len : Int) w (fun r3 w1 => ∃ p2 : Sl, r3 = .slice p2.a p2.len p2.cap ∧
    ∃ (I4 : Sl → Int → World → Prop) (M5 : Sl → Int → World → Nat),
    (∃ u6 : Sl, (.slice p2.a p2.len p2.cap : Value) = .slice u6.a u6.len u6.cap ∧ ∃ u7 : Int, (.int .i64 0 : Value) = .int .i64 u7 ∧ I4 u6 u7 w1) ∧
    ∀ e0 : Env, ∀ v8 : Sl, ∀ v9 : Int, ∀ w10 : World, I4 v8 v9 w10 →
    (cond (decide ((v9 : Int) < (l.len : Int)))
    (((0 : Int) ≤ v9 ∧ (v9 : Int) < (l.len : Int)) ∧ withSome l.a fun a11 =>
    ∃ y12 : S.api_Stack, (okVal true 3 (S.api_Stack.v y12) = true ∧ rd w10 (Addr.add a11 (v9.toNat * 3)) (S.api_Stack.v y12)) ∧
    ∀ (b13 : Nat) (w14 : World), Alloc w10 b13 110 [.int .i64 0, .int .i64 0, .slice none 0 0] w14 →
    (okVal true 3 (S.api_Stack.v y12) = true ∧ canPut w14 ⟨b13, 0, none⟩ (S.api_Stack.v y12)) ∧ ∀ w15 : World, w15 = putAt w14 ⟨b13, 0, none⟩ (S.api_Stack.v y12) →
    ∃ y16 : S.api_Stack, (okVal true 3 (S.api_Stack.v y16) = true ∧ rd w15 ⟨b13, 0, none⟩ (S.api_Stack.v y16)) ∧
    callV Try.prog item [.slice v8.a v8.len v8.cap, S.api_Stack.v y16] w15 (Ret (fun r19 w17 => ∃ p18 : Sl, r19 = .slice p18.a p18.len p18.cap ∧
    ∃ u20 : Sl, (.slice p18.a p18.len p18.cap : Value) = .slice u20.a u20.len u20.cap ∧ ∃ u21 : Int, (.int .i64 (IntKind.i64.wrap (v9 + 1)) : Value) = .int .i64 u21 ∧ (I4 u20 u21 w17 ∧ M5 u20 u21 w17 < M5 v8 v9 w10)) KP))
    (K (.slice v8.a v8.len v8.cap) w10))) KP
theorem codec_puts_api_Stack_of {p0_ : Sl} {l : Sl} {item : Value} {w : World} {K : Value → World → Prop} {KP : List PanicEntry → World → Prop} (h : W.codec_puts_api_Stack p0_ l item w K KP) : C.codec_puts_api_Stack p0_ l item w K KP :=
  xcall (E := E) (T := mkTab [(3, [(0, 22), (15, 3)])] [(3, [0, 8, 15, 16, 17, 18, 19, 20, 21, 22, 23])] [] [] [] [] []) (c := Try.f63.body.getD .skip) (rs := [.tmp 6]) ⟨⟩ mixed Try.func63 (by kernel_rfl) (by kernel_rfl) [.slice p0_.a p0_.len p0_.cap, .slice l.a l.len l.cap, item] (by kernel_rfl) (by kernel_rfl) (.inr (by kernel_rfl)) (Eq.mp (by kernel_rfl) h)

def W.codec_PutState_1 (p0_ : Sl) (p1_ : S.api_Stack) (w : World) (K : Value → World → Prop) (KP : List PanicEntry → World → Prop) : Prop :=
   ∀ (b1 : Nat) (w2 : World), Alloc w b1 110 (S.api_Stack.v p1_ : Value).cells.toList w2 →
    ∀ w3, Drew w2 w3 →
    ∃ y4 : S.api_Cell, (okVal true 2 (S.api_Cell.v y4) = true ∧ rd w3 ⟨b1, 0, none⟩ (S.api_Cell.v y4)) ∧
    ∃ y5 : Sl, (okVal false 1 (.slice y5.a y5.len y5.cap) = true ∧ w3.cell? ⟨b1, 2, none⟩ = some (.slice y5.a y5.len y5.cap)) ∧
    C.codec_cell p0_ y4 w3 (fun r8 w6 => ∃ p7 : Sl, r8 = .slice p7.a p7.len p7.cap ∧
    (w6.cell? ⟨b1, 2, none⟩ = some (.slice y5.a y5.len y5.cap)) ∧ C.codec_puts_int p7 y5 (.func (.func 39) #[] #[]) w6 (fun r11 w9 => ∃ p10 : Sl, r11 = .slice p10.a p10.len p10.cap ∧
    K (.slice p10.a p10.len p10.cap) w9) KP) KP
theorem codec_PutState_1_of {p0_ : Sl} {p1_ : S.api_Stack} {w : World} {K : Value → World → Prop} {KP : List PanicEntry → World → Prop} (h : W.codec_PutState_1 p0_ p1_ w K KP) : C.codec_PutState_1 p0_ p1_ w K KP :=
  xcall (E := E) (T := mkTab [] [] [] [] [(1, [0, 1, 2, 4, 5, 3, 6, 7])] [(1, [0, 0, 2, 7, 0, 16, 63, 127])] []) (c := Try.f64.body.getD .skip) (rs := [.tmp 4]) ⟨⟩ mixed Try.func64 (by kernel_rfl) (by kernel_rfl) [.slice p0_.a p0_.len p0_.cap, S.api_Stack.v p1_] (by kernel_rfl) (by kernel_rfl) (.inr (by kernel_rfl)) (Eq.mp (by kernel_rfl) h)

def W.codec_puts_int (p0_ : Sl) (l : Sl) (item : Value) (w : World) (K : Value → World → Prop) (KP : List PanicEntry → World → Prop) : Prop :=
   C.codec_number p0_ (l.len : Int) w (fun r3 w1 => ∃ p2 : Sl, r3 = .slice p2.a p2.len p2.cap ∧
    ∃ (I4 : Sl → Int → World → Prop) (M5 : Sl → Int → World → Nat),
    (∃ u6 : Sl, (.slice p2.a p2.len p2.cap : Value) = .slice u6.a u6.len u6.cap ∧ ∃ u7 : Int, (.int .i64 0 : Value) = .int .i64 u7 ∧ I4 u6 u7 w1) ∧
    ∀ e0 : Env, ∀ v8 : Sl, ∀ v9 : Int, ∀ w10 : World, I4 v8 v9 w10 →
    (cond (decide ((v9 : Int) < (l.len : Int)))
    (((0 : Int) ≤ v9 ∧ (v9 : Int) < (l.len : Int)) ∧ withSome l.a fun a11 =>
    ∃ y12 : Int, (okVal false 1 (.int .i64 y12) = true ∧ w10.cell? (Addr.add a11 (v9.toNat * 1)) = some (.int .i64 y12)) ∧
    callV Try.prog item [.slice v8.a v8.len v8.cap, .int .i64 y12] w10 (Ret (fun r15 w13 => ∃ p14 : Sl, r15 = .slice p14.a p14.len p14.cap ∧
    ∃ u16 : Sl, (.slice p14.a p14.len p14.cap : Value) = .slice u16.a u16.len u16.cap ∧ ∃ u17 : Int, (.int .i64 (IntKind.i64.wrap (v9 + 1)) : Value) = .int .i64 u17 ∧ (I4 u16 u17 w13 ∧ M5 u16 u17 w13 < M5 v8 v9 w10)) KP))
    (K (.slice v8.a v8.len v8.cap) w10))) KP
theorem codec_puts_int_of {p0_ : Sl} {l : Sl} {item : Value} {w : World} {K : Value → World → Prop} {KP : List PanicEntry → World → Prop} (h : W.codec_puts_int p0_ l item w K KP) : C.codec_puts_int p0_ l item w K KP :=
  xcall (E := E) (T := mkTab [(3, [(0, 22), (15, 3)])] [(3, [0, 8, 15, 16, 17, 18, 19, 20, 21, 22, 23])] [] [] [] [] []) (c := Try.f65.body.getD .skip) (rs := [.tmp 6]) ⟨⟩ mixed Try.func65 (by kernel_rfl) (by kernel_rfl) [.slice p0_.a p0_.len p0_.cap, .slice l.a l.len l.cap, item] (by kernel_rfl) (by kernel_rfl) (.inr (by kernel_rfl)) (Eq.mp (by kernel_rfl) h)

def W.codec_cell (p0_ : Sl) (c : S.api_Cell) (w : World) (K : Value → World → Prop) (KP : List PanicEntry → World → Prop) : Prop :=
   ∀ (b1 : Nat) (w2 : World), Alloc w b1 47 (S.api_Cell.v c : Value).cells.toList w2 →
    ∀ w3, Drew w2 w3 →
    ∃ y4 : Int, (okVal false 1 (.int .i64 y4) = true ∧ w3.cell? ⟨b1, 0, none⟩ = some (.int .i64 y4)) ∧
    ∃ y5 : Int, (okVal false 1 (.int .i64 y5) = true ∧ w3.cell? ⟨b1, 1, none⟩ = some (.int .i64 y5)) ∧
    C.codec_number p0_ y4 w3 (fun r8 w6 => ∃ p7 : Sl, r8 = .slice p7.a p7.len p7.cap ∧
    (w6.cell? ⟨b1, 1, none⟩ = some (.int .i64 y5)) ∧ C.codec_number p7 y5 w6 (fun r11 w9 => ∃ p10 : Sl, r11 = .slice p10.a p10.len p10.cap ∧
    K (.slice p10.a p10.len p10.cap) w9) KP) KP
theorem codec_cell_of {p0_ : Sl} {c : S.api_Cell} {w : World} {K : Value → World → Prop} {KP : List PanicEntry → World → Prop} (h : W.codec_cell p0_ c w K KP) : C.codec_cell p0_ c w K KP :=
  xcall (E := E) (T := mkTab [] [] [] [] [(1, [0, 1, 2, 4, 5, 3, 6, 7])] [(1, [0, 0, 2, 7, 0, 16, 63, 127])] []) (c := Try.f66.body.getD .skip) (rs := [.tmp 4]) ⟨⟩ mixed Try.func66 (by kernel_rfl) (by kernel_rfl) [.slice p0_.a p0_.len p0_.cap, S.api_Cell.v c] (by kernel_rfl) (by kernel_rfl) (.inr (by kernel_rfl)) (Eq.mp (by kernel_rfl) h)

def W.codec_puts_api_Robot (p0_ : Sl) (l : Sl) (item : Value) (w : World) (K : Value → World → Prop) (KP : List PanicEntry → World → Prop) : Prop :=
   C.codec_number p0_ (l.len : Int) w (fun r3 w1 => ∃ p2 : Sl, r3 = .slice p2.a p2.len p2.cap ∧
    ∃ (I4 : Sl → Int → World → Prop) (M5 : Sl → Int → World → Nat),
    (∃ u6 : Sl, (.slice p2.a p2.len p2.cap : Value) = .slice u6.a u6.len u6.cap ∧ ∃ u7 : Int, (.int .i64 0 : Value) = .int .i64 u7 ∧ I4 u6 u7 w1) ∧
    ∀ e0 : Env, ∀ v8 : Sl, ∀ v9 : Int, ∀ w10 : World, I4 v8 v9 w10 →
    (cond (decide ((v9 : Int) < (l.len : Int)))
    (((0 : Int) ≤ v9 ∧ (v9 : Int) < (l.len : Int)) ∧ withSome l.a fun a11 =>
    ∃ y12 : S.api_Robot, (okVal true 9 (S.api_Robot.v y12) = true ∧ rd w10 (Addr.add a11 (v9.toNat * 9)) (S.api_Robot.v y12)) ∧
    ∀ (b13 : Nat) (w14 : World), Alloc w10 b13 116 [.int .i64 0, .int .i64 0, .bool false, .int .i64 0, .int .i64 0, .slice none 0 0, .bool false, .int .i64 0, .bool false] w14 →
    (okVal true 9 (S.api_Robot.v y12) = true ∧ canPut w14 ⟨b13, 0, none⟩ (S.api_Robot.v y12)) ∧ ∀ w15 : World, w15 = putAt w14 ⟨b13, 0, none⟩ (S.api_Robot.v y12) →
    ∃ y16 : S.api_Robot, (okVal true 9 (S.api_Robot.v y16) = true ∧ rd w15 ⟨b13, 0, none⟩ (S.api_Robot.v y16)) ∧
    callV Try.prog item [.slice v8.a v8.len v8.cap, S.api_Robot.v y16] w15 (Ret (fun r19 w17 => ∃ p18 : Sl, r19 = .slice p18.a p18.len p18.cap ∧
    ∃ u20 : Sl, (.slice p18.a p18.len p18.cap : Value) = .slice u20.a u20.len u20.cap ∧ ∃ u21 : Int, (.int .i64 (IntKind.i64.wrap (v9 + 1)) : Value) = .int .i64 u21 ∧ (I4 u20 u21 w17 ∧ M5 u20 u21 w17 < M5 v8 v9 w10)) KP))
    (K (.slice v8.a v8.len v8.cap) w10))) KP
theorem codec_puts_api_Robot_of {p0_ : Sl} {l : Sl} {item : Value} {w : World} {K : Value → World → Prop} {KP : List PanicEntry → World → Prop} (h : W.codec_puts_api_Robot p0_ l item w K KP) : C.codec_puts_api_Robot p0_ l item w K KP :=
  xcall (E := E) (T := mkTab [(3, [(0, 22), (15, 3)])] [(3, [0, 8, 15, 16, 17, 18, 19, 20, 21, 22, 23])] [] [] [] [] []) (c := Try.f67.body.getD .skip) (rs := [.tmp 6]) ⟨⟩ mixed Try.func67 (by kernel_rfl) (by kernel_rfl) [.slice p0_.a p0_.len p0_.cap, .slice l.a l.len l.cap, item] (by kernel_rfl) (by kernel_rfl) (.inr (by kernel_rfl)) (Eq.mp (by kernel_rfl) h)

def W.codec_PutState_2 (p0_ : Sl) (p1_ : S.api_Robot) (w : World) (K : Value → World → Prop) (KP : List PanicEntry → World → Prop) : Prop :=
   ∀ (b1 : Nat) (w2 : World), Alloc w b1 116 (S.api_Robot.v p1_ : Value).cells.toList w2 →
    ∀ w3, Drew w2 w3 →
    ∃ y4 : S.api_Pose, (okVal true 3 (S.api_Pose.v y4) = true ∧ rd w3 ⟨b1, 0, none⟩ (S.api_Pose.v y4)) ∧
    ∃ y5 : Int, (okVal false 1 (.int .i64 y5) = true ∧ w3.cell? ⟨b1, 3, none⟩ = some (.int .i64 y5)) ∧
    ∃ y6 : Int, (okVal false 1 (.int .i64 y6) = true ∧ w3.cell? ⟨b1, 4, none⟩ = some (.int .i64 y6)) ∧
    C.codec_pose p0_ y4 w3 (fun r9 w7 => ∃ p8 : Sl, r9 = .slice p8.a p8.len p8.cap ∧
    (w7.cell? ⟨b1, 4, none⟩ = some (.int .i64 y6)) ∧ (w7.cell? ⟨b1, 3, none⟩ = some (.int .i64 y5)) ∧ C.codec_number p8 y5 w7 (fun r12 w10 => ∃ p11 : Sl, r12 = .slice p11.a p11.len p11.cap ∧
    (w10.cell? ⟨b1, 4, none⟩ = some (.int .i64 y6)) ∧ C.codec_number p11 y6 w10 (fun r15 w13 => ∃ p14 : Sl, r15 = .slice p14.a p14.len p14.cap ∧
    ∀ w16, Drew w13 w16 →
    ∃ y17 : Sl, (okVal false 1 (.slice y17.a y17.len y17.cap) = true ∧ w16.cell? ⟨b1, 5, none⟩ = some (.slice y17.a y17.len y17.cap)) ∧
    ∃ y18 : Bool, (okVal false 1 (.bool y18) = true ∧ w16.cell? ⟨b1, 6, none⟩ = some (.bool y18)) ∧
    C.codec_puts_api_Move p14 y17 (.func (.func 46) #[] #[]) w16 (fun r21 w19 => ∃ p20 : Sl, r21 = .slice p20.a p20.len p20.cap ∧
    (w19.cell? ⟨b1, 6, none⟩ = some (.bool y18)) ∧ C.codec_flag p20 y18 w19 (fun r24 w22 => ∃ p23 : Sl, r24 = .slice p23.a p23.len p23.cap ∧
    ∀ w25, Drew w22 w25 →
    ∃ y26 : Int, (okVal false 1 (.int .i64 y26) = true ∧ w25.cell? ⟨b1, 7, none⟩ = some (.int .i64 y26)) ∧
    ∃ y27 : Bool, (okVal false 1 (.bool y27) = true ∧ w25.cell? ⟨b1, 8, none⟩ = some (.bool y27)) ∧
    C.codec_number p23 y26 w25 (fun r30 w28 => ∃ p29 : Sl, r30 = .slice p29.a p29.len p29.cap ∧
    (w28.cell? ⟨b1, 8, none⟩ = some (.bool y27)) ∧ C.codec_flag p29 y27 w28 (fun r33 w31 => ∃ p32 : Sl, r33 = .slice p32.a p32.len p32.cap ∧
    K (.slice p32.a p32.len p32.cap) w31) KP) KP) KP) KP) KP) KP) KP
theorem codec_PutState_2_of {p0_ : Sl} {p1_ : S.api_Robot} {w : World} {K : Value → World → Prop} {KP : List PanicEntry → World → Prop} (h : W.codec_PutState_2 p0_ p1_ w K KP) : C.codec_PutState_2 p0_ p1_ w K KP :=
  xcall (E := E) (T := mkTab [] [] [] [] [(1, [0, 1, 2, 4, 5, 7, 8, 3, 6, 9, 10]), (2, [0, 1, 2, 4, 5, 3, 6, 7]), (3, [0, 1, 2, 4, 5, 3, 6, 7])] [(1, [0, 0, 2, 7, 0, 16, 63, 0, 128, 511, 1023]), (2, [0, 0, 2, 7, 0, 16, 63, 127]), (3, [0, 0, 2, 7, 0, 16, 63, 127])] []) (c := Try.f68.body.getD .skip) (rs := [.tmp 4]) ⟨⟩ mixed Try.func68 (by kernel_rfl) (by kernel_rfl) [.slice p0_.a p0_.len p0_.cap, S.api_Robot.v p1_] (by kernel_rfl) (by kernel_rfl) (.inr (by kernel_rfl)) (Eq.mp (by kernel_rfl) h)

def W.codec_puts_api_Port (p0_ : Sl) (l : Sl) (item : Value) (w : World) (K : Value → World → Prop) (KP : List PanicEntry → World → Prop) : Prop :=
   C.codec_number p0_ (l.len : Int) w (fun r3 w1 => ∃ p2 : Sl, r3 = .slice p2.a p2.len p2.cap ∧
    ∃ (I4 : Sl → Int → World → Prop) (M5 : Sl → Int → World → Nat),
    (∃ u6 : Sl, (.slice p2.a p2.len p2.cap : Value) = .slice u6.a u6.len u6.cap ∧ ∃ u7 : Int, (.int .i64 0 : Value) = .int .i64 u7 ∧ I4 u6 u7 w1) ∧
    ∀ e0 : Env, ∀ v8 : Sl, ∀ v9 : Int, ∀ w10 : World, I4 v8 v9 w10 →
    (cond (decide ((v9 : Int) < (l.len : Int)))
    (((0 : Int) ≤ v9 ∧ (v9 : Int) < (l.len : Int)) ∧ withSome l.a fun a11 =>
    ∃ y12 : S.api_Port, (okVal true 3 (S.api_Port.v y12) = true ∧ rd w10 (Addr.add a11 (v9.toNat * 3)) (S.api_Port.v y12)) ∧
    ∀ (b13 : Nat) (w14 : World), Alloc w10 b13 120 [.int .i64 0, .int .i64 0, .slice none 0 0] w14 →
    (okVal true 3 (S.api_Port.v y12) = true ∧ canPut w14 ⟨b13, 0, none⟩ (S.api_Port.v y12)) ∧ ∀ w15 : World, w15 = putAt w14 ⟨b13, 0, none⟩ (S.api_Port.v y12) →
    ∃ y16 : S.api_Port, (okVal true 3 (S.api_Port.v y16) = true ∧ rd w15 ⟨b13, 0, none⟩ (S.api_Port.v y16)) ∧
    callV Try.prog item [.slice v8.a v8.len v8.cap, S.api_Port.v y16] w15 (Ret (fun r19 w17 => ∃ p18 : Sl, r19 = .slice p18.a p18.len p18.cap ∧
    ∃ u20 : Sl, (.slice p18.a p18.len p18.cap : Value) = .slice u20.a u20.len u20.cap ∧ ∃ u21 : Int, (.int .i64 (IntKind.i64.wrap (v9 + 1)) : Value) = .int .i64 u21 ∧ (I4 u20 u21 w17 ∧ M5 u20 u21 w17 < M5 v8 v9 w10)) KP))
    (K (.slice v8.a v8.len v8.cap) w10))) KP
theorem codec_puts_api_Port_of {p0_ : Sl} {l : Sl} {item : Value} {w : World} {K : Value → World → Prop} {KP : List PanicEntry → World → Prop} (h : W.codec_puts_api_Port p0_ l item w K KP) : C.codec_puts_api_Port p0_ l item w K KP :=
  xcall (E := E) (T := mkTab [(3, [(0, 22), (15, 3)])] [(3, [0, 8, 15, 16, 17, 18, 19, 20, 21, 22, 23])] [] [] [] [] []) (c := Try.f69.body.getD .skip) (rs := [.tmp 6]) ⟨⟩ mixed Try.func69 (by kernel_rfl) (by kernel_rfl) [.slice p0_.a p0_.len p0_.cap, .slice l.a l.len l.cap, item] (by kernel_rfl) (by kernel_rfl) (.inr (by kernel_rfl)) (Eq.mp (by kernel_rfl) h)

def W.codec_PutState_3 (p0_ : Sl) (p1_ : S.api_Port) (w : World) (K : Value → World → Prop) (KP : List PanicEntry → World → Prop) : Prop :=
   ∀ (b1 : Nat) (w2 : World), Alloc w b1 120 (S.api_Port.v p1_ : Value).cells.toList w2 →
    ∀ w3, Drew w2 w3 →
    ∃ y4 : Int, (okVal false 1 (.int .i64 y4) = true ∧ w3.cell? ⟨b1, 0, none⟩ = some (.int .i64 y4)) ∧
    ∃ y5 : Int, (okVal false 1 (.int .i64 y5) = true ∧ w3.cell? ⟨b1, 1, none⟩ = some (.int .i64 y5)) ∧
    ∃ y6 : Sl, (okVal false 1 (.slice y6.a y6.len y6.cap) = true ∧ w3.cell? ⟨b1, 2, none⟩ = some (.slice y6.a y6.len y6.cap)) ∧
    C.codec_number p0_ y4 w3 (fun r9 w7 => ∃ p8 : Sl, r9 = .slice p8.a p8.len p8.cap ∧
    (w7.cell? ⟨b1, 2, none⟩ = some (.slice y6.a y6.len y6.cap)) ∧ (w7.cell? ⟨b1, 1, none⟩ = some (.int .i64 y5)) ∧ C.codec_number p8 y5 w7 (fun r12 w10 => ∃ p11 : Sl, r12 = .slice p11.a p11.len p11.cap ∧
    (w10.cell? ⟨b1, 2, none⟩ = some (.slice y6.a y6.len y6.cap)) ∧ C.codec_puts_int p11 y6 (.func (.func 39) #[] #[]) w10 (fun r15 w13 => ∃ p14 : Sl, r15 = .slice p14.a p14.len p14.cap ∧
    K (.slice p14.a p14.len p14.cap) w13) KP) KP) KP
theorem codec_PutState_3_of {p0_ : Sl} {p1_ : S.api_Port} {w : World} {K : Value → World → Prop} {KP : List PanicEntry → World → Prop} (h : W.codec_PutState_3 p0_ p1_ w K KP) : C.codec_PutState_3 p0_ p1_ w K KP :=
  xcall (E := E) (T := mkTab [] [] [] [] [(1, [0, 1, 2, 4, 5, 7, 8, 3, 6, 9, 10])] [(1, [0, 0, 2, 7, 0, 16, 63, 0, 128, 511, 1023])] []) (c := Try.f70.body.getD .skip) (rs := [.tmp 4]) ⟨⟩ mixed Try.func70 (by kernel_rfl) (by kernel_rfl) [.slice p0_.a p0_.len p0_.cap, S.api_Port.v p1_] (by kernel_rfl) (by kernel_rfl) (.inr (by kernel_rfl)) (Eq.mp (by kernel_rfl) h)

def W.codec_puts_api_Order (p0_ : Sl) (l : Sl) (item : Value) (w : World) (K : Value → World → Prop) (KP : List PanicEntry → World → Prop) : Prop :=
   C.codec_number p0_ (l.len : Int) w (fun r3 w1 => ∃ p2 : Sl, r3 = .slice p2.a p2.len p2.cap ∧
    ∃ (I4 : Sl → Int → World → Prop) (M5 : Sl → Int → World → Nat),
    (∃ u6 : Sl, (.slice p2.a p2.len p2.cap : Value) = .slice u6.a u6.len u6.cap ∧ ∃ u7 : Int, (.int .i64 0 : Value) = .int .i64 u7 ∧ I4 u6 u7 w1) ∧
    ∀ e0 : Env, ∀ v8 : Sl, ∀ v9 : Int, ∀ w10 : World, I4 v8 v9 w10 →
    (cond (decide ((v9 : Int) < (l.len : Int)))
    (((0 : Int) ≤ v9 ∧ (v9 : Int) < (l.len : Int)) ∧ withSome l.a fun a11 =>
    ∃ y12 : S.api_Order, (okVal true 4 (S.api_Order.v y12) = true ∧ rd w10 (Addr.add a11 (v9.toNat * 4)) (S.api_Order.v y12)) ∧
    ∀ (b13 : Nat) (w14 : World), Alloc w10 b13 124 [.int .i64 0, .int .i64 0, .int .i64 0, .int .i64 0] w14 →
    (okVal true 4 (S.api_Order.v y12) = true ∧ canPut w14 ⟨b13, 0, none⟩ (S.api_Order.v y12)) ∧ ∀ w15 : World, w15 = putAt w14 ⟨b13, 0, none⟩ (S.api_Order.v y12) →
    ∃ y16 : S.api_Order, (okVal true 4 (S.api_Order.v y16) = true ∧ rd w15 ⟨b13, 0, none⟩ (S.api_Order.v y16)) ∧
    callV Try.prog item [.slice v8.a v8.len v8.cap, S.api_Order.v y16] w15 (Ret (fun r19 w17 => ∃ p18 : Sl, r19 = .slice p18.a p18.len p18.cap ∧
    ∃ u20 : Sl, (.slice p18.a p18.len p18.cap : Value) = .slice u20.a u20.len u20.cap ∧ ∃ u21 : Int, (.int .i64 (IntKind.i64.wrap (v9 + 1)) : Value) = .int .i64 u21 ∧ (I4 u20 u21 w17 ∧ M5 u20 u21 w17 < M5 v8 v9 w10)) KP))
    (K (.slice v8.a v8.len v8.cap) w10))) KP
theorem codec_puts_api_Order_of {p0_ : Sl} {l : Sl} {item : Value} {w : World} {K : Value → World → Prop} {KP : List PanicEntry → World → Prop} (h : W.codec_puts_api_Order p0_ l item w K KP) : C.codec_puts_api_Order p0_ l item w K KP :=
  xcall (E := E) (T := mkTab [(3, [(0, 22), (15, 3)])] [(3, [0, 8, 15, 16, 17, 18, 19, 20, 21, 22, 23])] [] [] [] [] []) (c := Try.f71.body.getD .skip) (rs := [.tmp 6]) ⟨⟩ mixed Try.func71 (by kernel_rfl) (by kernel_rfl) [.slice p0_.a p0_.len p0_.cap, .slice l.a l.len l.cap, item] (by kernel_rfl) (by kernel_rfl) (.inr (by kernel_rfl)) (Eq.mp (by kernel_rfl) h)

def W.codec_PutState_4 (p0_ : Sl) (p1_ : S.api_Order) (w : World) (K : Value → World → Prop) (KP : List PanicEntry → World → Prop) : Prop :=
   ∀ (b1 : Nat) (w2 : World), Alloc w b1 124 (S.api_Order.v p1_ : Value).cells.toList w2 →
    ∀ w3, Drew w2 w3 →
    ∃ y4 : Int, (okVal false 1 (.int .i64 y4) = true ∧ w3.cell? ⟨b1, 0, none⟩ = some (.int .i64 y4)) ∧
    ∃ y5 : Int, (okVal false 1 (.int .i64 y5) = true ∧ w3.cell? ⟨b1, 1, none⟩ = some (.int .i64 y5)) ∧
    ∃ y6 : Int, (okVal false 1 (.int .i64 y6) = true ∧ w3.cell? ⟨b1, 2, none⟩ = some (.int .i64 y6)) ∧
    ∃ y7 : Int, (okVal false 1 (.int .i64 y7) = true ∧ w3.cell? ⟨b1, 3, none⟩ = some (.int .i64 y7)) ∧
    C.codec_number p0_ y4 w3 (fun r10 w8 => ∃ p9 : Sl, r10 = .slice p9.a p9.len p9.cap ∧
    (w8.cell? ⟨b1, 3, none⟩ = some (.int .i64 y7)) ∧ (w8.cell? ⟨b1, 2, none⟩ = some (.int .i64 y6)) ∧ (w8.cell? ⟨b1, 1, none⟩ = some (.int .i64 y5)) ∧ C.codec_number p9 y5 w8 (fun r13 w11 => ∃ p12 : Sl, r13 = .slice p12.a p12.len p12.cap ∧
    (w11.cell? ⟨b1, 3, none⟩ = some (.int .i64 y7)) ∧ (w11.cell? ⟨b1, 2, none⟩ = some (.int .i64 y6)) ∧ C.codec_number p12 y6 w11 (fun r16 w14 => ∃ p15 : Sl, r16 = .slice p15.a p15.len p15.cap ∧
    (w14.cell? ⟨b1, 3, none⟩ = some (.int .i64 y7)) ∧ C.codec_number p15 y7 w14 (fun r19 w17 => ∃ p18 : Sl, r19 = .slice p18.a p18.len p18.cap ∧
    K (.slice p18.a p18.len p18.cap) w17) KP) KP) KP) KP
theorem codec_PutState_4_of {p0_ : Sl} {p1_ : S.api_Order} {w : World} {K : Value → World → Prop} {KP : List PanicEntry → World → Prop} (h : W.codec_PutState_4 p0_ p1_ w K KP) : C.codec_PutState_4 p0_ p1_ w K KP :=
  xcall (E := E) (T := mkTab [] [] [] [] [(1, [0, 1, 2, 4, 5, 7, 8, 10, 11, 3, 6, 9, 12, 13])] [(1, [0, 0, 2, 7, 0, 16, 63, 0, 128, 511, 0, 1024, 4095, 8191])] []) (c := Try.f72.body.getD .skip) (rs := [.tmp 4]) ⟨⟩ mixed Try.func72 (by kernel_rfl) (by kernel_rfl) [.slice p0_.a p0_.len p0_.cap, S.api_Order.v p1_] (by kernel_rfl) (by kernel_rfl) (.inr (by kernel_rfl)) (Eq.mp (by kernel_rfl) h)

def W.codec_puts_api_Job (p0_ : Sl) (l : Sl) (item : Value) (w : World) (K : Value → World → Prop) (KP : List PanicEntry → World → Prop) : Prop :=
   C.codec_number p0_ (l.len : Int) w (fun r3 w1 => ∃ p2 : Sl, r3 = .slice p2.a p2.len p2.cap ∧
    ∃ (I4 : Sl → Int → World → Prop) (M5 : Sl → Int → World → Nat),
    (∃ u6 : Sl, (.slice p2.a p2.len p2.cap : Value) = .slice u6.a u6.len u6.cap ∧ ∃ u7 : Int, (.int .i64 0 : Value) = .int .i64 u7 ∧ I4 u6 u7 w1) ∧
    ∀ e0 : Env, ∀ v8 : Sl, ∀ v9 : Int, ∀ w10 : World, I4 v8 v9 w10 →
    (cond (decide ((v9 : Int) < (l.len : Int)))
    (((0 : Int) ≤ v9 ∧ (v9 : Int) < (l.len : Int)) ∧ withSome l.a fun a11 =>
    ∃ y12 : S.api_Job, (okVal true 9 (S.api_Job.v y12) = true ∧ rd w10 (Addr.add a11 (v9.toNat * 9)) (S.api_Job.v y12)) ∧
    ∀ (b13 : Nat) (w14 : World), Alloc w10 b13 128 [.int .i64 0, .int .i64 0, .int .i64 0, .int .i64 0, .int .i64 0, .int .i64 0, .int .i64 0, .int .i64 0, .int .i64 0] w14 →
    (okVal true 9 (S.api_Job.v y12) = true ∧ canPut w14 ⟨b13, 0, none⟩ (S.api_Job.v y12)) ∧ ∀ w15 : World, w15 = putAt w14 ⟨b13, 0, none⟩ (S.api_Job.v y12) →
    ∃ y16 : S.api_Job, (okVal true 9 (S.api_Job.v y16) = true ∧ rd w15 ⟨b13, 0, none⟩ (S.api_Job.v y16)) ∧
    callV Try.prog item [.slice v8.a v8.len v8.cap, S.api_Job.v y16] w15 (Ret (fun r19 w17 => ∃ p18 : Sl, r19 = .slice p18.a p18.len p18.cap ∧
    ∃ u20 : Sl, (.slice p18.a p18.len p18.cap : Value) = .slice u20.a u20.len u20.cap ∧ ∃ u21 : Int, (.int .i64 (IntKind.i64.wrap (v9 + 1)) : Value) = .int .i64 u21 ∧ (I4 u20 u21 w17 ∧ M5 u20 u21 w17 < M5 v8 v9 w10)) KP))
    (K (.slice v8.a v8.len v8.cap) w10))) KP
theorem codec_puts_api_Job_of {p0_ : Sl} {l : Sl} {item : Value} {w : World} {K : Value → World → Prop} {KP : List PanicEntry → World → Prop} (h : W.codec_puts_api_Job p0_ l item w K KP) : C.codec_puts_api_Job p0_ l item w K KP :=
  xcall (E := E) (T := mkTab [(3, [(0, 22), (15, 3)])] [(3, [0, 8, 15, 16, 17, 18, 19, 20, 21, 22, 23])] [] [] [] [] []) (c := Try.f73.body.getD .skip) (rs := [.tmp 6]) ⟨⟩ mixed Try.func73 (by kernel_rfl) (by kernel_rfl) [.slice p0_.a p0_.len p0_.cap, .slice l.a l.len l.cap, item] (by kernel_rfl) (by kernel_rfl) (.inr (by kernel_rfl)) (Eq.mp (by kernel_rfl) h)

def W.codec_PutState_5 (p0_ : Sl) (p1_ : S.api_Job) (w : World) (K : Value → World → Prop) (KP : List PanicEntry → World → Prop) : Prop :=
   ∀ (b1 : Nat) (w2 : World), Alloc w b1 128 (S.api_Job.v p1_ : Value).cells.toList w2 →
    ∀ w3, Drew w2 w3 →
    ∃ y4 : Int, (okVal false 1 (.int .i64 y4) = true ∧ w3.cell? ⟨b1, 0, none⟩ = some (.int .i64 y4)) ∧
    ∃ y5 : Int, (okVal false 1 (.int .i64 y5) = true ∧ w3.cell? ⟨b1, 1, none⟩ = some (.int .i64 y5)) ∧
    ∃ y6 : Int, (okVal false 1 (.int .i64 y6) = true ∧ w3.cell? ⟨b1, 2, none⟩ = some (.int .i64 y6)) ∧
    ∃ y7 : Int, (okVal false 1 (.int .i64 y7) = true ∧ w3.cell? ⟨b1, 3, none⟩ = some (.int .i64 y7)) ∧
    C.codec_number p0_ y4 w3 (fun r10 w8 => ∃ p9 : Sl, r10 = .slice p9.a p9.len p9.cap ∧
    (w8.cell? ⟨b1, 3, none⟩ = some (.int .i64 y7)) ∧ (w8.cell? ⟨b1, 2, none⟩ = some (.int .i64 y6)) ∧ (w8.cell? ⟨b1, 1, none⟩ = some (.int .i64 y5)) ∧ C.codec_number p9 y5 w8 (fun r13 w11 => ∃ p12 : Sl, r13 = .slice p12.a p12.len p12.cap ∧
    (w11.cell? ⟨b1, 3, none⟩ = some (.int .i64 y7)) ∧ (w11.cell? ⟨b1, 2, none⟩ = some (.int .i64 y6)) ∧ C.codec_number p12 y6 w11 (fun r16 w14 => ∃ p15 : Sl, r16 = .slice p15.a p15.len p15.cap ∧
    (w14.cell? ⟨b1, 3, none⟩ = some (.int .i64 y7)) ∧ C.codec_number p15 y7 w14 (fun r19 w17 => ∃ p18 : Sl, r19 = .slice p18.a p18.len p18.cap ∧
    ∀ w20, Drew w17 w20 →
    ∃ y21 : S.api_Cell, (okVal true 2 (S.api_Cell.v y21) = true ∧ rd w20 ⟨b1, 4, none⟩ (S.api_Cell.v y21)) ∧
    ∃ y22 : S.api_Cell, (okVal true 2 (S.api_Cell.v y22) = true ∧ rd w20 ⟨b1, 6, none⟩ (S.api_Cell.v y22)) ∧
    ∃ y23 : Int, (okVal false 1 (.int .i64 y23) = true ∧ w20.cell? ⟨b1, 8, none⟩ = some (.int .i64 y23)) ∧
    C.codec_cell p18 y21 w20 (fun r26 w24 => ∃ p25 : Sl, r26 = .slice p25.a p25.len p25.cap ∧
    (w24.cell? ⟨b1, 8, none⟩ = some (.int .i64 y23)) ∧ (rd w24 ⟨b1, 6, none⟩ (S.api_Cell.v y22)) ∧ C.codec_cell p25 y22 w24 (fun r29 w27 => ∃ p28 : Sl, r29 = .slice p28.a p28.len p28.cap ∧
    (w27.cell? ⟨b1, 8, none⟩ = some (.int .i64 y23)) ∧ C.codec_number p28 y23 w27 (fun r32 w30 => ∃ p31 : Sl, r32 = .slice p31.a p31.len p31.cap ∧
    K (.slice p31.a p31.len p31.cap) w30) KP) KP) KP) KP) KP) KP) KP
theorem codec_PutState_5_of {p0_ : Sl} {p1_ : S.api_Job} {w : World} {K : Value → World → Prop} {KP : List PanicEntry → World → Prop} (h : W.codec_PutState_5 p0_ p1_ w K KP) : C.codec_PutState_5 p0_ p1_ w K KP :=
  xcall (E := E) (T := mkTab [] [] [] [] [(1, [0, 1, 2, 4, 5, 7, 8, 10, 11, 3, 6, 9, 12, 13]), (2, [0, 1, 2, 4, 5, 7, 8, 3, 6, 9, 10])] [(1, [0, 0, 2, 7, 0, 16, 63, 0, 128, 511, 0, 1024, 4095, 8191]), (2, [0, 0, 2, 7, 0, 16, 63, 0, 128, 511, 1023])] []) (c := Try.f74.body.getD .skip) (rs := [.tmp 4]) ⟨⟩ mixed Try.func74 (by kernel_rfl) (by kernel_rfl) [.slice p0_.a p0_.len p0_.cap, S.api_Job.v p1_] (by kernel_rfl) (by kernel_rfl) (.inr (by kernel_rfl)) (Eq.mp (by kernel_rfl) h)

def W.codec_read_api_State (p0_ : Sl) (thing : Value) (w : World) (K : Value → World → Prop) (KP : List PanicEntry → World → Prop) : Prop :=
   ∀ (b1 : Nat) (w2 : World), Alloc w b1 78 [.int .i64 0, .int .i64 0, .bool false, .slice none 0 0, .slice none 0 0, .slice none 0 0, .slice none 0 0, .slice none 0 0, .int .i64 0, .int .i64 0] w2 →
    ∀ (b3 : Nat) (w4 : World), Alloc w2 b3 37 [.int .i64 0] w4 →
    ∀ (b5 : Nat) (w6 : World), Alloc w4 b5 153 [.slice p0_.a p0_.len p0_.cap, .int .i64 0] w6 →
    callV Try.prog thing [.pointer (some ⟨b5, 0, none⟩)] w6 (Ret (fun r9 w7 => ∃ p8 : S.api_State, r9 = S.api_State.v p8 ∧
    (okVal true 10 (S.api_State.v p8) = true ∧ canPut w7 ⟨b1, 0, none⟩ (S.api_State.v p8)) ∧ ∀ w10 : World, w10 = putAt w7 ⟨b1, 0, none⟩ (S.api_State.v p8) →
    ∃ y11 : Int, (okVal false 1 (.int .i64 y11) = true ∧ w10.cell? ⟨b5, 1, none⟩ = some (.int .i64 y11)) ∧
    (cond ((y11 : Int) != (p0_.len : Int))
    ((fun ch12 w13 => xleave Try.prog [{ target := .fn (.func 106) #[.pointer (some ⟨b1, 0, none⟩), .pointer (some ⟨b3, 0, none⟩)], args := #[] }] (.panicking ch12) w13 (xendF (fun w14 => ∃ y15 : S.api_State, (okVal true 10 (S.api_State.v y15) = true ∧ rd w14 ⟨b1, 0, none⟩ (S.api_State.v y15)) ∧ ∃ y16 : Int, (okVal false 1 (.int .i64 y16) = true ∧ w14.cell? ⟨b3, 0, none⟩ = some (.int .i64 y16)) ∧ K (.tuple #[S.api_State.v y15, .int .i64 y16]) w14) KP)) [{ v := .iface 151 (.agg #[]), recovered := false }] w10)
    (∃ y17 : S.api_State, (okVal true 10 (S.api_State.v y17) = true ∧ rd w10 ⟨b1, 0, none⟩ (S.api_State.v y17)) ∧
    (okVal true 10 (S.api_State.v y17) = true ∧ canPut w10 ⟨b1, 0, none⟩ (S.api_State.v y17)) ∧ ∀ w18 : World, w18 = putAt w10 ⟨b1, 0, none⟩ (S.api_State.v y17) →
    (okVal false 1 (.int .i64 0) = true ∧ canPut w18 ⟨b3, 0, none⟩ (.int .i64 0)) ∧ ∀ w19 : World, w19 = putAt w18 ⟨b3, 0, none⟩ (.int .i64 0) →
    xleave Try.prog [{ target := .fn (.func 106) #[.pointer (some ⟨b1, 0, none⟩), .pointer (some ⟨b3, 0, none⟩)], args := #[] }] .returning w19 (xendF (fun w20 => ∃ y21 : S.api_State, (okVal true 10 (S.api_State.v y21) = true ∧ rd w20 ⟨b1, 0, none⟩ (S.api_State.v y21)) ∧ ∃ y22 : Int, (okVal false 1 (.int .i64 y22) = true ∧ w20.cell? ⟨b3, 0, none⟩ = some (.int .i64 y22)) ∧ K (.tuple #[S.api_State.v y21, .int .i64 y22]) w20) KP)))) (fun ch23 w24 => xleave Try.prog [{ target := .fn (.func 106) #[.pointer (some ⟨b1, 0, none⟩), .pointer (some ⟨b3, 0, none⟩)], args := #[] }] (.panicking ch23) w24 (xendF (fun w25 => ∃ y26 : S.api_State, (okVal true 10 (S.api_State.v y26) = true ∧ rd w25 ⟨b1, 0, none⟩ (S.api_State.v y26)) ∧ ∃ y27 : Int, (okVal false 1 (.int .i64 y27) = true ∧ w25.cell? ⟨b3, 0, none⟩ = some (.int .i64 y27)) ∧ K (.tuple #[S.api_State.v y26, .int .i64 y27]) w25) KP)))
theorem codec_read_api_State_of {p0_ : Sl} {thing : Value} {w : World} {K : Value → World → Prop} {KP : List PanicEntry → World → Prop} (h : W.codec_read_api_State p0_ thing w K KP) : C.codec_read_api_State p0_ thing w K KP :=
  xcall (E := E) (T := mkTab [] [] [] [] [] [] [4, 5]) (c := Try.f75.body.getD .skip) (rs := [.cell 4 78, .cell 5 37]) ⟨⟩ mixed Try.func75 (by kernel_rfl) (by kernel_rfl) [.slice p0_.a p0_.len p0_.cap, thing] (by kernel_rfl) (by kernel_rfl) (.inl (by kernel_rfl)) (Eq.mp (by kernel_rfl) h)

def W.codec_GetState_1 (r : (Option Addr)) (w : World) (K : Value → World → Prop) (KP : List PanicEntry → World → Prop) : Prop :=
   ∀ (b1 : Nat) (w2 : World), Alloc w b1 91 [.pointer r] w2 →
    ∀ (b3 : Nat) (w4 : World), Alloc w2 b3 78 [.int .i64 0, .int .i64 0, .bool false, .slice none 0 0, .slice none 0 0, .slice none 0 0, .slice none 0 0, .slice none 0 0, .int .i64 0, .int .i64 0] w4 →
    ∀ (b5 : Nat) (w6 : World), Alloc w4 b5 78 [.int .i64 0, .int .i64 0, .bool false, .slice none 0 0, .slice none 0 0, .slice none 0 0, .slice none 0 0, .slice none 0 0, .int .i64 0, .int .i64 0] w6 →
    ∀ w7, Drew w6 w7 →
    ∃ y8 : (Option Addr), (okVal false 1 (.pointer y8) = true ∧ w7.cell? ⟨b1, 0, none⟩ = some (.pointer y8)) ∧
    ∃ y9 : (Option Addr), (okVal false 1 (.pointer y9) = true ∧ w7.cell? ⟨b1, 0, none⟩ = some (.pointer y9)) ∧
    ∃ y10 : (Option Addr), (okVal false 1 (.pointer y10) = true ∧ w7.cell? ⟨b1, 0, none⟩ = some (.pointer y10)) ∧
    C.codec_reader_number y8 w7 (fun r13 w11 => ∃ p12 : Int, r13 = .int .i64 p12 ∧
    (w11.cell? ⟨b1, 0, none⟩ = some (.pointer y10)) ∧ (w11.cell? ⟨b1, 0, none⟩ = some (.pointer y9)) ∧ C.codec_reader_number y9 w11 (fun r16 w14 => ∃ p15 : Int, r16 = .int .i64 p15 ∧
    (w14.cell? ⟨b1, 0, none⟩ = some (.pointer y10)) ∧ C.codec_reader_bool y10 w14 (fun r19 w17 => ∃ p18 : Bool, r19 = .bool p18 ∧
    (okVal false 1 (.int .i64 p12) = true ∧ canPut w17 ⟨b5, 0, none⟩ (.int .i64 p12)) ∧ ∀ w20 : World, w20 = putAt w17 ⟨b5, 0, none⟩ (.int .i64 p12) →
    (okVal false 1 (.int .i64 p15) = true ∧ canPut w20 ⟨b5, 1, none⟩ (.int .i64 p15)) ∧ ∀ w21 : World, w21 = putAt w20 ⟨b5, 1, none⟩ (.int .i64 p15) →
    (okVal false 1 (.bool p18) = true ∧ canPut w21 ⟨b5, 2, none⟩ (.bool p18)) ∧ ∀ w22 : World, w22 = putAt w21 ⟨b5, 2, none⟩ (.bool p18) →
    ∃ y23 : (Option Addr), (okVal false 1 (.pointer y23) = true ∧ w22.cell? ⟨b1, 0, none⟩ = some (.pointer y23)) ∧
    C.codec_list_api_Stack y23 (.func (.func 79) #[] #[.pointer (some ⟨b1, 0, none⟩)]) w22 (fun r26 w24 => ∃ p25 : Sl, r26 = .slice p25.a p25.len p25.cap ∧
    (okVal false 1 (.slice p25.a p25.len p25.cap) = true ∧ canPut w24 ⟨b5, 3, none⟩ (.slice p25.a p25.len p25.cap)) ∧ ∀ w27 : World, w27 = putAt w24 ⟨b5, 3, none⟩ (.slice p25.a p25.len p25.cap) →
    ∃ y28 : (Option Addr), (okVal false 1 (.pointer y28) = true ∧ w27.cell? ⟨b1, 0, none⟩ = some (.pointer y28)) ∧
    C.codec_list_api_Robot y28 (.func (.func 83) #[] #[.pointer (some ⟨b1, 0, none⟩)]) w27 (fun r31 w29 => ∃ p30 : Sl, r31 = .slice p30.a p30.len p30.cap ∧
    (okVal false 1 (.slice p30.a p30.len p30.cap) = true ∧ canPut w29 ⟨b5, 4, none⟩ (.slice p30.a p30.len p30.cap)) ∧ ∀ w32 : World, w32 = putAt w29 ⟨b5, 4, none⟩ (.slice p30.a p30.len p30.cap) →
    ∃ y33 : (Option Addr), (okVal false 1 (.pointer y33) = true ∧ w32.cell? ⟨b1, 0, none⟩ = some (.pointer y33)) ∧
    C.codec_list_api_Port y33 (.func (.func 85) #[] #[.pointer (some ⟨b1, 0, none⟩)]) w32 (fun r36 w34 => ∃ p35 : Sl, r36 = .slice p35.a p35.len p35.cap ∧
    (okVal false 1 (.slice p35.a p35.len p35.cap) = true ∧ canPut w34 ⟨b5, 5, none⟩ (.slice p35.a p35.len p35.cap)) ∧ ∀ w37 : World, w37 = putAt w34 ⟨b5, 5, none⟩ (.slice p35.a p35.len p35.cap) →
    ∃ y38 : (Option Addr), (okVal false 1 (.pointer y38) = true ∧ w37.cell? ⟨b1, 0, none⟩ = some (.pointer y38)) ∧
    C.codec_list_api_Order y38 (.func (.func 87) #[] #[.pointer (some ⟨b1, 0, none⟩)]) w37 (fun r41 w39 => ∃ p40 : Sl, r41 = .slice p40.a p40.len p40.cap ∧
    (okVal false 1 (.slice p40.a p40.len p40.cap) = true ∧ canPut w39 ⟨b5, 6, none⟩ (.slice p40.a p40.len p40.cap)) ∧ ∀ w42 : World, w42 = putAt w39 ⟨b5, 6, none⟩ (.slice p40.a p40.len p40.cap) →
    ∃ y43 : (Option Addr), (okVal false 1 (.pointer y43) = true ∧ w42.cell? ⟨b1, 0, none⟩ = some (.pointer y43)) ∧
    C.codec_list_api_Job y43 (.func (.func 89) #[] #[.pointer (some ⟨b1, 0, none⟩)]) w42 (fun r46 w44 => ∃ p45 : Sl, r46 = .slice p45.a p45.len p45.cap ∧
    (okVal false 1 (.slice p45.a p45.len p45.cap) = true ∧ canPut w44 ⟨b5, 7, none⟩ (.slice p45.a p45.len p45.cap)) ∧ ∀ w47 : World, w47 = putAt w44 ⟨b5, 7, none⟩ (.slice p45.a p45.len p45.cap) →
    ∀ w48, Drew w47 w48 →
    ∃ y49 : (Option Addr), (okVal false 1 (.pointer y49) = true ∧ w48.cell? ⟨b1, 0, none⟩ = some (.pointer y49)) ∧
    ∃ y50 : (Option Addr), (okVal false 1 (.pointer y50) = true ∧ w48.cell? ⟨b1, 0, none⟩ = some (.pointer y50)) ∧
    C.codec_reader_number y49 w48 (fun r53 w51 => ∃ p52 : Int, r53 = .int .i64 p52 ∧
    (w51.cell? ⟨b1, 0, none⟩ = some (.pointer y50)) ∧ C.codec_reader_number y50 w51 (fun r56 w54 => ∃ p55 : Int, r56 = .int .i64 p55 ∧
    (okVal false 1 (.int .i64 p52) = true ∧ canPut w54 ⟨b5, 8, none⟩ (.int .i64 p52)) ∧ ∀ w57 : World, w57 = putAt w54 ⟨b5, 8, none⟩ (.int .i64 p52) →
    (okVal false 1 (.int .i64 p55) = true ∧ canPut w57 ⟨b5, 9, none⟩ (.int .i64 p55)) ∧ ∀ w58 : World, w58 = putAt w57 ⟨b5, 9, none⟩ (.int .i64 p55) →
    ∃ y59 : S.api_State, (okVal true 10 (S.api_State.v y59) = true ∧ rd w58 ⟨b5, 0, none⟩ (S.api_State.v y59)) ∧
    (okVal true 10 (S.api_State.v y59) = true ∧ canPut w58 ⟨b3, 0, none⟩ (S.api_State.v y59)) ∧ ∀ w60 : World, w60 = putAt w58 ⟨b3, 0, none⟩ (S.api_State.v y59) →
    ∃ y61 : S.api_State, (okVal true 10 (S.api_State.v y61) = true ∧ rd w60 ⟨b3, 0, none⟩ (S.api_State.v y61)) ∧ K (S.api_State.v y61) w60) KP) KP) KP) KP) KP) KP) KP) KP) KP) KP
theorem codec_GetState_1_of {r : (Option Addr)} {w : World} {K : Value → World → Prop} {KP : List PanicEntry → World → Prop} (h : W.codec_GetState_1 r w K KP) : C.codec_GetState_1 r w K KP :=
  xcall (E := E) (T := mkTab [] [] [] [] [(2, [0, 2, 4, 1, 6, 3, 5, 7, 8, 9, 10, 11]), (8, [0, 2, 1, 4, 3, 5, 6, 7])] [(2, [0, 1, 0, 7, 0, 31, 3, 127, 255, 511, 1023, 2047]), (8, [0, 1, 0, 7, 3, 31, 63, 127])] []) (c := Try.f76.body.getD .skip) (rs := [.cell 2 78]) ⟨⟩ mixed Try.func76 (by kernel_rfl) (by kernel_rfl) [.pointer r] (by kernel_rfl) (by kernel_rfl) (.inr (by kernel_rfl)) (Eq.mp (by kernel_rfl) h)

def W.codec_reader_bool (r : (Option Addr)) (w : World) (K : Value → World → Prop) (KP : List PanicEntry → World → Prop) : Prop :=
   ∃ J1 : World → Prop,
    (∀ w2, Drew w w2 →
    withSome r fun a3 =>
    ∃ y4 : Int, (okVal false 1 (.int .i64 y4) = true ∧ w2.cell? (Addr.add a3 1) = some (.int .i64 y4)) ∧
    withSome r fun a5 =>
    ∃ y6 : Sl, (okVal false 1 (.slice y6.a y6.len y6.cap) = true ∧ w2.cell? a5 = some (.slice y6.a y6.len y6.cap)) ∧
    (cond (decide ((y4 : Int) ≥ (y6.len : Int)))
    (KP [{ v := .iface 151 (.agg #[]), recovered := false }] w2)
    (withSome r fun a7 =>
    ∃ y8 : Sl, (okVal false 1 (.slice y8.a y8.len y8.cap) = true ∧ w2.cell? a7 = some (.slice y8.a y8.len y8.cap)) ∧
    withSome r fun a9 =>
    ∃ y10 : Int, (okVal false 1 (.int .i64 y10) = true ∧ w2.cell? (Addr.add a9 1) = some (.int .i64 y10)) ∧
    ((0 : Int) ≤ y10 ∧ (y10 : Int) < (y8.len : Int)) ∧ withSome y8.a fun a11 =>
    ∃ y12 : Int, (okVal false 1 (.int .u8 y12) = true ∧ w2.cell? (Addr.add a11 (y10.toNat * 1)) = some (.int .u8 y12)) ∧
    (cond (decide ((y12 : Int) > 1))
    (KP [{ v := .iface 151 (.agg #[]), recovered := false }] w2)
    (J1 w2))))) ∧
    ∀ e0 : Env, ∀ w13 : World, J1 w13 →
    withSome r fun a14 =>
    ∃ y15 : Int, (okVal false 1 (.int .i64 y15) = true ∧ w13.cell? (Addr.add a14 1) = some (.int .i64 y15)) ∧
    withSome r fun a16 =>
    (okVal false 1 (.int .i64 (IntKind.i64.wrap (y15 + 1))) = true ∧ canPut w13 (Addr.add a16 1) (.int .i64 (IntKind.i64.wrap (y15 + 1)))) ∧ ∀ w17 : World, w17 = putAt w13 (Addr.add a16 1) (.int .i64 (IntKind.i64.wrap (y15 + 1))) →
    ∀ w18, Drew w17 w18 →
    withSome r fun a19 =>
    ∃ y20 : Sl, (okVal false 1 (.slice y20.a y20.len y20.cap) = true ∧ w18.cell? a19 = some (.slice y20.a y20.len y20.cap)) ∧
    withSome r fun a21 =>
    ∃ y22 : Int, (okVal false 1 (.int .i64 y22) = true ∧ w18.cell? (Addr.add a21 1) = some (.int .i64 y22)) ∧
    ((0 : Int) ≤ (IntKind.i64.wrap (y22 - 1)) ∧ ((IntKind.i64.wrap (y22 - 1)) : Int) < (y20.len : Int)) ∧ withSome y20.a fun a23 =>
    ∃ y24 : Int, (okVal false 1 (.int .u8 y24) = true ∧ w18.cell? (Addr.add a23 ((IntKind.i64.wrap (y22 - 1)).toNat * 1)) = some (.int .u8 y24)) ∧
    K (.bool ((y24 : Int) == 1)) w18
theorem codec_reader_bool_of {r : (Option Addr)} {w : World} {K : Value → World → Prop} {KP : List PanicEntry → World → Prop} (h : W.codec_reader_bool r w K KP) : C.codec_reader_bool r w K KP :=
  xcall (E := E) (T := mkTab [] [] [(3, [])] [(3, [3, 4, 5, 6, 7, 8, 9, 10, 11, 12, 13, 14, 15, 16, 17, 18, 19, 20, 21, 22, 23, 24, 25, 26, 27])] [(1, [0, 1, 2, 3, 4, 5, 6, 7, 8, 9, 10, 11, 12, 13, 14, 15, 16, 17, 18, 19, 20, 21, 22]), (4, [0, 1, 2, 3, 4, 5, 6, 7, 8, 9, 10, 11, 12])] [(1, [0, 1, 3, 7, 0, 16, 48, 112, 240, 511, 1023, 2047, 4095, 8191, 16383, 2047, 34815, 100351, 231423, 524287, 1048575, 2097151, 4194303]), (4, [0, 1, 3, 7, 0, 16, 48, 112, 240, 511, 1023, 2047, 4095])] []) (c := Try.f77.body.getD .skip) (rs := [.tmp 2]) ⟨⟩ mixed Try.func77 (by kernel_rfl) (by kernel_rfl) [.pointer r] (by kernel_rfl) (by kernel_rfl) (.inr (by kernel_rfl)) (Eq.mp (by kernel_rfl) h)

def W.codec_list_api_Stack (r : (Option Addr)) (item : Value) (w : World) (K : Value → World → Prop) (KP : List PanicEntry → World → Prop) : Prop :=
   C.codec_reader_number r w (fun r3 w1 => ∃ p2 : Int, r3 = .int .i64 p2 ∧
    ∃ J4 : World → Prop,
    (∀ w5, Drew w1 w5 →
    (cond (decide ((p2 : Int) < 0))
    (KP [{ v := .iface 151 (.agg #[]), recovered := false }] w5)
    (withSome r fun a6 =>
    ∃ y7 : Sl, (okVal false 1 (.slice y7.a y7.len y7.cap) = true ∧ w5.cell? a6 = some (.slice y7.a y7.len y7.cap)) ∧
    withSome r fun a8 =>
    ∃ y9 : Int, (okVal false 1 (.int .i64 y9) = true ∧ w5.cell? (Addr.add a8 1) = some (.int .i64 y9)) ∧
    (cond (decide ((p2 : Int) > (IntKind.i64.wrap ((y7.len : Int) - y9))))
    (KP [{ v := .iface 151 (.agg #[]), recovered := false }] w5)
    (J4 w5))))) ∧
    ∀ e0 : Env, ∀ w10 : World, J4 w10 →
    ∃ (I11 : Sl → Int → World → Prop) (M12 : Sl → Int → World → Nat),
    (∃ u13 : Sl, (.slice none 0 0 : Value) = .slice u13.a u13.len u13.cap ∧ ∃ u14 : Int, (.int .i64 0 : Value) = .int .i64 u14 ∧ I11 u13 u14 w10) ∧
    ∀ e0 : Env, ∀ v15 : Sl, ∀ v16 : Int, ∀ w17 : World, I11 v15 v16 w17 →
    (cond (decide ((v16 : Int) < p2))
    (callV Try.prog item [] w17 (Ret (fun r20 w18 => ∃ p19 : S.api_Stack, r20 = S.api_Stack.v p19 ∧
    ∀ (b21 : Nat) (w22 : World), Alloc w18 b21 110 [.int .i64 p19.At.X, .int .i64 p19.At.Y, .slice p19.Bins.a p19.Bins.len p19.Bins.cap] w22 →
    ∃ (q23 : Option Addr) (n24 c25 : Nat) (w26 : World), (Builtin.append_ #[72, 72] 72 #[.slice v15.a v15.len v15.cap, .slice (some ⟨b21, 0, none⟩) 1 1]).run Try.prog w22 = .ok (.slice q23 n24 c25) w26 ∧
    ∃ u27 : Sl, (.slice q23 n24 c25 : Value) = .slice u27.a u27.len u27.cap ∧ ∃ u28 : Int, (.int .i64 (IntKind.i64.wrap (v16 + 1)) : Value) = .int .i64 u28 ∧ (I11 u27 u28 w26 ∧ M12 u27 u28 w26 < M12 v15 v16 w17)) KP))
    (K (.slice v15.a v15.len v15.cap) w17))) KP
theorem codec_list_api_Stack_of {r : (Option Addr)} {item : Value} {w : World} {K : Value → World → Prop} {KP : List PanicEntry → World → Prop} (h : W.codec_list_api_Stack r item w K KP) : C.codec_list_api_Stack r item w K KP :=
  xcall (E := E) (T := mkTab [(6, [(6, 72), (28, 3)])] [(6, [6, 28, 29, 30, 31, 32, 33, 34, 35])] [(4, [])] [(4, [9, 10, 11, 12, 13, 14, 15, 16, 17, 18, 19, 20, 21, 22, 23, 24, 25, 26])] [(2, [0, 1, 2, 3, 4, 5, 6, 7, 8, 9, 10, 11, 12, 13, 14, 15])] [(2, [0, 1, 3, 7, 7, 23, 55, 119, 247, 7, 519, 1543, 3591, 8183, 16383, 32767])] []) (c := Try.f78.body.getD .skip) (rs := [.tmp 4]) ⟨⟩ mixed Try.func78 (by kernel_rfl) (by kernel_rfl) [.pointer r, item] (by kernel_rfl) (by kernel_rfl) (.inr (by kernel_rfl)) (Eq.mp (by kernel_rfl) h)

def W.codec_GetState_1_1 (p0_ : (Option Addr)) (w : World) (K : Value → World → Prop) (KP : List PanicEntry → World → Prop) : Prop :=
   ∀ (b1 : Nat) (w2 : World), Alloc w b1 110 [.int .i64 0, .int .i64 0, .slice none 0 0] w2 →
    withSome p0_ fun a4 =>
    ∃ y3 : (Option Addr), (okVal false 1 (.pointer y3) = true ∧ w2.cell? a4 = some (.pointer y3)) ∧
    C.codec_reader_cell y3 w2 (fun r7 w5 => ∃ p6 : S.api_Cell, r7 = S.api_Cell.v p6 ∧
    ∀ (b8 : Nat) (w9 : World), Alloc w5 b8 47 [.int .i64 0, .int .i64 0] w9 →
    (okVal true 2 (S.api_Cell.v p6) = true ∧ canPut w9 ⟨b8, 0, none⟩ (S.api_Cell.v p6)) ∧ ∀ w10 : World, w10 = putAt w9 ⟨b8, 0, none⟩ (S.api_Cell.v p6) →
    ∀ w11, Drew w10 w11 →
    ∃ y12 : S.api_Cell, (okVal true 2 (S.api_Cell.v y12) = true ∧ rd w11 ⟨b8, 0, none⟩ (S.api_Cell.v y12)) ∧
    withSome p0_ fun a14 =>
    ∃ y13 : (Option Addr), (okVal false 1 (.pointer y13) = true ∧ w11.cell? a14 = some (.pointer y13)) ∧
    withSome p0_ fun a16 =>
    ∃ y15 : (Option Addr), (okVal false 1 (.pointer y15) = true ∧ w11.cell? a16 = some (.pointer y15)) ∧
    C.codec_list_int y13 (.func (.func 42) #[.pointer y15] #[]) w11 (fun r19 w17 => ∃ p18 : Sl, r19 = .slice p18.a p18.len p18.cap ∧
    (rd w17 ⟨b8, 0, none⟩ (S.api_Cell.v y12)) ∧ (okVal true 3 (.agg #[.int .i64 y12.X, .int .i64 y12.Y, .slice p18.a p18.len p18.cap]) = true ∧ canPut w17 ⟨b1, 0, none⟩ (.agg #[.int .i64 y12.X, .int .i64 y12.Y, .slice p18.a p18.len p18.cap])) ∧ ∀ w20 : World, w20 = putAt w17 ⟨b1, 0, none⟩ (.agg #[.int .i64 y12.X, .int .i64 y12.Y, .slice p18.a p18.len p18.cap]) →
    ∃ y21 : S.api_Stack, (okVal true 3 (S.api_Stack.v y21) = true ∧ rd w20 ⟨b1, 0, none⟩ (S.api_Stack.v y21)) ∧ K (S.api_Stack.v y21) w20) KP) KP
theorem codec_GetState_1_1_of {p0_ : (Option Addr)} {w : World} {K : Value → World → Prop} {KP : List PanicEntry → World → Prop} (h : W.codec_GetState_1_1 p0_ w K KP) : C.codec_GetState_1_1 p0_ w K KP :=
  xcall (E := E) (T := mkTab [] [] [] [] [(2, [0, 1, 2, 3, 4, 5, 6])] [(2, [0, 0, 0, 4, 14, 31, 63])] []) (c := Try.f79.body.getD .skip) (rs := [.cell 1 110]) ⟨⟩ mixed Try.func79 (by kernel_rfl) (by kernel_rfl) [.pointer p0_] (by kernel_rfl) (by kernel_rfl) (.inr (by kernel_rfl)) (Eq.mp (by kernel_rfl) h)

def W.codec_reader_cell (r : (Option Addr)) (w : World) (K : Value → World → Prop) (KP : List PanicEntry → World → Prop) : Prop :=
   ∀ (b1 : Nat) (w2 : World), Alloc w b1 47 [.int .i64 0, .int .i64 0] w2 →
    C.codec_reader_number r w2 (fun r5 w3 => ∃ p4 : Int, r5 = .int .i64 p4 ∧
    C.codec_reader_number r w3 (fun r8 w6 => ∃ p7 : Int, r8 = .int .i64 p7 ∧
    (okVal true 2 (.agg #[.int .i64 p4, .int .i64 p7]) = true ∧ canPut w6 ⟨b1, 0, none⟩ (.agg #[.int .i64 p4, .int .i64 p7])) ∧ ∀ w9 : World, w9 = putAt w6 ⟨b1, 0, none⟩ (.agg #[.int .i64 p4, .int .i64 p7]) →
    ∃ y10 : S.api_Cell, (okVal true 2 (S.api_Cell.v y10) = true ∧ rd w9 ⟨b1, 0, none⟩ (S.api_Cell.v y10)) ∧ K (S.api_Cell.v y10) w9) KP) KP
theorem codec_reader_cell_of {r : (Option Addr)} {w : World} {K : Value → World → Prop} {KP : List PanicEntry → World → Prop} (h : W.codec_reader_cell r w K KP) : C.codec_reader_cell r w K KP :=
  xcall (E := E) (T := mkTab [] [] [] [] [] [] []) (c := Try.f80.body.getD .skip) (rs := [.cell 2 47]) ⟨⟩ mixed Try.func80 (by kernel_rfl) (by kernel_rfl) [.pointer r] (by kernel_rfl) (by kernel_rfl) (.inr (by kernel_rfl)) (Eq.mp (by kernel_rfl) h)

def W.codec_list_int (r : (Option Addr)) (item : Value) (w : World) (K : Value → World → Prop) (KP : List PanicEntry → World → Prop) : Prop :=
   C.codec_reader_number r w (fun r3 w1 => ∃ p2 : Int, r3 = .int .i64 p2 ∧
    ∃ J4 : World → Prop,
    (∀ w5, Drew w1 w5 →
    (cond (decide ((p2 : Int) < 0))
    (KP [{ v := .iface 151 (.agg #[]), recovered := false }] w5)
    (withSome r fun a6 =>
    ∃ y7 : Sl, (okVal false 1 (.slice y7.a y7.len y7.cap) = true ∧ w5.cell? a6 = some (.slice y7.a y7.len y7.cap)) ∧
    withSome r fun a8 =>
    ∃ y9 : Int, (okVal false 1 (.int .i64 y9) = true ∧ w5.cell? (Addr.add a8 1) = some (.int .i64 y9)) ∧
    (cond (decide ((p2 : Int) > (IntKind.i64.wrap ((y7.len : Int) - y9))))
    (KP [{ v := .iface 151 (.agg #[]), recovered := false }] w5)
    (J4 w5))))) ∧
    ∀ e0 : Env, ∀ w10 : World, J4 w10 →
    ∃ (I11 : Sl → Int → World → Prop) (M12 : Sl → Int → World → Nat),
    (∃ u13 : Sl, (.slice none 0 0 : Value) = .slice u13.a u13.len u13.cap ∧ ∃ u14 : Int, (.int .i64 0 : Value) = .int .i64 u14 ∧ I11 u13 u14 w10) ∧
    ∀ e0 : Env, ∀ v15 : Sl, ∀ v16 : Int, ∀ w17 : World, I11 v15 v16 w17 →
    (cond (decide ((v16 : Int) < p2))
    (callV Try.prog item [] w17 (Ret (fun r20 w18 => ∃ p19 : Int, r20 = .int .i64 p19 ∧
    ∀ (b21 : Nat) (w22 : World), Alloc w18 b21 3 [.int .i64 p19] w22 →
    ∃ (q23 : Option Addr) (n24 c25 : Nat) (w26 : World), (Builtin.append_ #[108, 108] 108 #[.slice v15.a v15.len v15.cap, .slice (some ⟨b21, 0, none⟩) 1 1]).run Try.prog w22 = .ok (.slice q23 n24 c25) w26 ∧
    ∃ u27 : Sl, (.slice q23 n24 c25 : Value) = .slice u27.a u27.len u27.cap ∧ ∃ u28 : Int, (.int .i64 (IntKind.i64.wrap (v16 + 1)) : Value) = .int .i64 u28 ∧ (I11 u27 u28 w26 ∧ M12 u27 u28 w26 < M12 v15 v16 w17)) KP))
    (K (.slice v15.a v15.len v15.cap) w17))) KP
theorem codec_list_int_of {r : (Option Addr)} {item : Value} {w : World} {K : Value → World → Prop} {KP : List PanicEntry → World → Prop} (h : W.codec_list_int r item w K KP) : C.codec_list_int r item w K KP :=
  xcall (E := E) (T := mkTab [(6, [(6, 108), (28, 3)])] [(6, [6, 28, 29, 30, 31, 32, 33, 34, 35])] [(4, [])] [(4, [9, 10, 11, 12, 13, 14, 15, 16, 17, 18, 19, 20, 21, 22, 23, 24, 25, 26])] [(2, [0, 1, 2, 3, 4, 5, 6, 7, 8, 9, 10, 11, 12, 13, 14, 15])] [(2, [0, 1, 3, 7, 7, 23, 55, 119, 247, 7, 519, 1543, 3591, 8183, 16383, 32767])] []) (c := Try.f81.body.getD .skip) (rs := [.tmp 4]) ⟨⟩ mixed Try.func81 (by kernel_rfl) (by kernel_rfl) [.pointer r, item] (by kernel_rfl) (by kernel_rfl) (.inr (by kernel_rfl)) (Eq.mp (by kernel_rfl) h)

def W.codec_list_api_Robot (r : (Option Addr)) (item : Value) (w : World) (K : Value → World → Prop) (KP : List PanicEntry → World → Prop) : Prop :=
   C.codec_reader_number r w (fun r3 w1 => ∃ p2 : Int, r3 = .int .i64 p2 ∧
    ∃ J4 : World → Prop,
    (∀ w5, Drew w1 w5 →
    (cond (decide ((p2 : Int) < 0))
    (KP [{ v := .iface 151 (.agg #[]), recovered := false }] w5)
    (withSome r fun a6 =>
    ∃ y7 : Sl, (okVal false 1 (.slice y7.a y7.len y7.cap) = true ∧ w5.cell? a6 = some (.slice y7.a y7.len y7.cap)) ∧
    withSome r fun a8 =>
    ∃ y9 : Int, (okVal false 1 (.int .i64 y9) = true ∧ w5.cell? (Addr.add a8 1) = some (.int .i64 y9)) ∧
    (cond (decide ((p2 : Int) > (IntKind.i64.wrap ((y7.len : Int) - y9))))
    (KP [{ v := .iface 151 (.agg #[]), recovered := false }] w5)
    (J4 w5))))) ∧
    ∀ e0 : Env, ∀ w10 : World, J4 w10 →
    ∃ (I11 : Sl → Int → World → Prop) (M12 : Sl → Int → World → Nat),
    (∃ u13 : Sl, (.slice none 0 0 : Value) = .slice u13.a u13.len u13.cap ∧ ∃ u14 : Int, (.int .i64 0 : Value) = .int .i64 u14 ∧ I11 u13 u14 w10) ∧
    ∀ e0 : Env, ∀ v15 : Sl, ∀ v16 : Int, ∀ w17 : World, I11 v15 v16 w17 →
    (cond (decide ((v16 : Int) < p2))
    (callV Try.prog item [] w17 (Ret (fun r20 w18 => ∃ p19 : S.api_Robot, r20 = S.api_Robot.v p19 ∧
    ∀ (b21 : Nat) (w22 : World), Alloc w18 b21 116 [.int .i64 p19.At.At.X, .int .i64 p19.At.At.Y, .bool p19.At.Down, .int .i64 p19.Load, .int .i64 p19.Job, .slice p19.Moves.a p19.Moves.len p19.Moves.cap, .bool p19.Out, .int .i64 p19.Num, .bool p19.Stands] w22 →
    ∃ (q23 : Option Addr) (n24 c25 : Nat) (w26 : World), (Builtin.append_ #[73, 73] 73 #[.slice v15.a v15.len v15.cap, .slice (some ⟨b21, 0, none⟩) 1 1]).run Try.prog w22 = .ok (.slice q23 n24 c25) w26 ∧
    ∃ u27 : Sl, (.slice q23 n24 c25 : Value) = .slice u27.a u27.len u27.cap ∧ ∃ u28 : Int, (.int .i64 (IntKind.i64.wrap (v16 + 1)) : Value) = .int .i64 u28 ∧ (I11 u27 u28 w26 ∧ M12 u27 u28 w26 < M12 v15 v16 w17)) KP))
    (K (.slice v15.a v15.len v15.cap) w17))) KP
theorem codec_list_api_Robot_of {r : (Option Addr)} {item : Value} {w : World} {K : Value → World → Prop} {KP : List PanicEntry → World → Prop} (h : W.codec_list_api_Robot r item w K KP) : C.codec_list_api_Robot r item w K KP :=
  xcall (E := E) (T := mkTab [(6, [(6, 73), (28, 3)])] [(6, [6, 28, 29, 30, 31, 32, 33, 34, 35])] [(4, [])] [(4, [9, 10, 11, 12, 13, 14, 15, 16, 17, 18, 19, 20, 21, 22, 23, 24, 25, 26])] [(2, [0, 1, 2, 3, 4, 5, 6, 7, 8, 9, 10, 11, 12, 13, 14, 15])] [(2, [0, 1, 3, 7, 7, 23, 55, 119, 247, 7, 519, 1543, 3591, 8183, 16383, 32767])] []) (c := Try.f82.body.getD .skip) (rs := [.tmp 4]) ⟨⟩ mixed Try.func82 (by kernel_rfl) (by kernel_rfl) [.pointer r, item] (by kernel_rfl) (by kernel_rfl) (.inr (by kernel_rfl)) (Eq.mp (by kernel_rfl) h)

def W.codec_GetState_1_2 (p0_ : (Option Addr)) (w : World) (K : Value → World → Prop) (KP : List PanicEntry → World → Prop) : Prop :=
   ∀ (b1 : Nat) (w2 : World), Alloc w b1 116 [.int .i64 0, .int .i64 0, .bool false, .int .i64 0, .int .i64 0, .slice none 0 0, .bool false, .int .i64 0, .bool false] w2 →
    ∀ (b3 : Nat) (w4 : World), Alloc w2 b3 116 [.int .i64 0, .int .i64 0, .bool false, .int .i64 0, .int .i64 0, .slice none 0 0, .bool false, .int .i64 0, .bool false] w4 →
    ∀ w5, Drew w4 w5 →
    withSome p0_ fun a7 =>
    ∃ y6 : (Option Addr), (okVal false 1 (.pointer y6) = true ∧ w5.cell? a7 = some (.pointer y6)) ∧
    withSome p0_ fun a9 =>
    ∃ y8 : (Option Addr), (okVal false 1 (.pointer y8) = true ∧ w5.cell? a9 = some (.pointer y8)) ∧
    withSome p0_ fun a11 =>
    ∃ y10 : (Option Addr), (okVal false 1 (.pointer y10) = true ∧ w5.cell? a11 = some (.pointer y10)) ∧
    C.codec_reader_pose y6 w5 (fun r14 w12 => ∃ p13 : S.api_Pose, r14 = S.api_Pose.v p13 ∧
    (w12.cell? a11 = some (.pointer y10)) ∧ (w12.cell? a9 = some (.pointer y8)) ∧ C.codec_reader_number y8 w12 (fun r17 w15 => ∃ p16 : Int, r17 = .int .i64 p16 ∧
    (w15.cell? a11 = some (.pointer y10)) ∧ C.codec_reader_number y10 w15 (fun r20 w18 => ∃ p19 : Int, r20 = .int .i64 p19 ∧
    (okVal true 3 (S.api_Pose.v p13) = true ∧ canPut w18 ⟨b3, 0, none⟩ (S.api_Pose.v p13)) ∧ ∀ w21 : World, w21 = putAt w18 ⟨b3, 0, none⟩ (S.api_Pose.v p13) →
    (okVal false 1 (.int .i64 p16) = true ∧ canPut w21 ⟨b3, 3, none⟩ (.int .i64 p16)) ∧ ∀ w22 : World, w22 = putAt w21 ⟨b3, 3, none⟩ (.int .i64 p16) →
    (okVal false 1 (.int .i64 p19) = true ∧ canPut w22 ⟨b3, 4, none⟩ (.int .i64 p19)) ∧ ∀ w23 : World, w23 = putAt w22 ⟨b3, 4, none⟩ (.int .i64 p19) →
    withSome p0_ fun a25 =>
    ∃ y24 : (Option Addr), (okVal false 1 (.pointer y24) = true ∧ w23.cell? a25 = some (.pointer y24)) ∧
    withSome p0_ fun a27 =>
    ∃ y26 : (Option Addr), (okVal false 1 (.pointer y26) = true ∧ w23.cell? a27 = some (.pointer y26)) ∧
    C.codec_list_api_Move y24 (.func (.func 49) #[.pointer y26] #[]) w23 (fun r30 w28 => ∃ p29 : Sl, r30 = .slice p29.a p29.len p29.cap ∧
    (okVal false 1 (.slice p29.a p29.len p29.cap) = true ∧ canPut w28 ⟨b3, 5, none⟩ (.slice p29.a p29.len p29.cap)) ∧ ∀ w31 : World, w31 = putAt w28 ⟨b3, 5, none⟩ (.slice p29.a p29.len p29.cap) →
    ∀ w32, Drew w31 w32 →
    withSome p0_ fun a34 =>
    ∃ y33 : (Option Addr), (okVal false 1 (.pointer y33) = true ∧ w32.cell? a34 = some (.pointer y33)) ∧
    withSome p0_ fun a36 =>
    ∃ y35 : (Option Addr), (okVal false 1 (.pointer y35) = true ∧ w32.cell? a36 = some (.pointer y35)) ∧
    withSome p0_ fun a38 =>
    ∃ y37 : (Option Addr), (okVal false 1 (.pointer y37) = true ∧ w32.cell? a38 = some (.pointer y37)) ∧
    C.codec_reader_bool y33 w32 (fun r41 w39 => ∃ p40 : Bool, r41 = .bool p40 ∧
    (w39.cell? a38 = some (.pointer y37)) ∧ (w39.cell? a36 = some (.pointer y35)) ∧ C.codec_reader_number y35 w39 (fun r44 w42 => ∃ p43 : Int, r44 = .int .i64 p43 ∧
    (w42.cell? a38 = some (.pointer y37)) ∧ C.codec_reader_bool y37 w42 (fun r47 w45 => ∃ p46 : Bool, r47 = .bool p46 ∧
    (okVal false 1 (.bool p40) = true ∧ canPut w45 ⟨b3, 6, none⟩ (.bool p40)) ∧ ∀ w48 : World, w48 = putAt w45 ⟨b3, 6, none⟩ (.bool p40) →
    (okVal false 1 (.int .i64 p43) = true ∧ canPut w48 ⟨b3, 7, none⟩ (.int .i64 p43)) ∧ ∀ w49 : World, w49 = putAt w48 ⟨b3, 7, none⟩ (.int .i64 p43) →
    (okVal false 1 (.bool p46) = true ∧ canPut w49 ⟨b3, 8, none⟩ (.bool p46)) ∧ ∀ w50 : World, w50 = putAt w49 ⟨b3, 8, none⟩ (.bool p46) →
    ∃ y51 : S.api_Robot, (okVal true 9 (S.api_Robot.v y51) = true ∧ rd w50 ⟨b3, 0, none⟩ (S.api_Robot.v y51)) ∧
    (okVal true 9 (S.api_Robot.v y51) = true ∧ canPut w50 ⟨b1, 0, none⟩ (S.api_Robot.v y51)) ∧ ∀ w52 : World, w52 = putAt w50 ⟨b1, 0, none⟩ (S.api_Robot.v y51) →
    ∃ y53 : S.api_Robot, (okVal true 9 (S.api_Robot.v y53) = true ∧ rd w52 ⟨b1, 0, none⟩ (S.api_Robot.v y53)) ∧ K (S.api_Robot.v y53) w52) KP) KP) KP) KP) KP) KP) KP
theorem codec_GetState_1_2_of {p0_ : (Option Addr)} {w : World} {K : Value → World → Prop} {KP : List PanicEntry → World → Prop} (h : W.codec_GetState_1_2 p0_ w K KP) : C.codec_GetState_1_2 p0_ w K KP :=
  xcall (E := E) (T := mkTab [] [] [] [] [(2, [0, 2, 4, 1, 6, 3, 5, 7, 8, 9, 10, 11]), (4, [0, 2, 4, 1, 6, 3, 5, 7, 8, 9, 10, 11])] [(2, [0, 1, 0, 7, 0, 31, 3, 127, 255, 511, 1023, 2047]), (4, [0, 1, 0, 7, 0, 31, 3, 127, 255, 511, 1023, 2047])] []) (c := Try.f83.body.getD .skip) (rs := [.cell 1 116]) ⟨⟩ mixed Try.func83 (by kernel_rfl) (by kernel_rfl) [.pointer p0_] (by kernel_rfl) (by kernel_rfl) (.inr (by kernel_rfl)) (Eq.mp (by kernel_rfl) h)

def W.codec_list_api_Port (r : (Option Addr)) (item : Value) (w : World) (K : Value → World → Prop) (KP : List PanicEntry → World → Prop) : Prop :=
   C.codec_reader_number r w (fun r3 w1 => ∃ p2 : Int, r3 = .int .i64 p2 ∧
    ∃ J4 : World → Prop,
    (∀ w5, Drew w1 w5 →
    (cond (decide ((p2 : Int) < 0))
    (KP [{ v := .iface 151 (.agg #[]), recovered := false }] w5)
    (withSome r fun a6 =>
    ∃ y7 : Sl, (okVal false 1 (.slice y7.a y7.len y7.cap) = true ∧ w5.cell? a6 = some (.slice y7.a y7.len y7.cap)) ∧
    withSome r fun a8 =>
    ∃ y9 : Int, (okVal false 1 (.int .i64 y9) = true ∧ w5.cell? (Addr.add a8 1) = some (.int .i64 y9)) ∧
    (cond (decide ((p2 : Int) > (IntKind.i64.wrap ((y7.len : Int) - y9))))
    (KP [{ v := .iface 151 (.agg #[]), recovered := false }] w5)
    (J4 w5))))) ∧
    ∀ e0 : Env, ∀ w10 : World, J4 w10 →
    ∃ (I11 : Sl → Int → World → Prop) (M12 : Sl → Int → World → Nat),
    (∃ u13 : Sl, (.slice none 0 0 : Value) = .slice u13.a u13.len u13.cap ∧ ∃ u14 : Int, (.int .i64 0 : Value) = .int .i64 u14 ∧ I11 u13 u14 w10) ∧
    ∀ e0 : Env, ∀ v15 : Sl, ∀ v16 : Int, ∀ w17 : World, I11 v15 v16 w17 →
    (cond (decide ((v16 : Int) < p2))
    (callV Try.prog item [] w17 (Ret (fun r20 w18 => ∃ p19 : S.api_Port, r20 = S.api_Port.v p19 ∧
    ∀ (b21 : Nat) (w22 : World), Alloc w18 b21 120 [.int .i64 p19.Bin, .int .i64 p19.Active, .slice p19.Queue.a p19.Queue.len p19.Queue.cap] w22 →
    ∃ (q23 : Option Addr) (n24 c25 : Nat) (w26 : World), (Builtin.append_ #[74, 74] 74 #[.slice v15.a v15.len v15.cap, .slice (some ⟨b21, 0, none⟩) 1 1]).run Try.prog w22 = .ok (.slice q23 n24 c25) w26 ∧
    ∃ u27 : Sl, (.slice q23 n24 c25 : Value) = .slice u27.a u27.len u27.cap ∧ ∃ u28 : Int, (.int .i64 (IntKind.i64.wrap (v16 + 1)) : Value) = .int .i64 u28 ∧ (I11 u27 u28 w26 ∧ M12 u27 u28 w26 < M12 v15 v16 w17)) KP))
    (K (.slice v15.a v15.len v15.cap) w17))) KP
theorem codec_list_api_Port_of {r : (Option Addr)} {item : Value} {w : World} {K : Value → World → Prop} {KP : List PanicEntry → World → Prop} (h : W.codec_list_api_Port r item w K KP) : C.codec_list_api_Port r item w K KP :=
  xcall (E := E) (T := mkTab [(6, [(6, 74), (28, 3)])] [(6, [6, 28, 29, 30, 31, 32, 33, 34, 35])] [(4, [])] [(4, [9, 10, 11, 12, 13, 14, 15, 16, 17, 18, 19, 20, 21, 22, 23, 24, 25, 26])] [(2, [0, 1, 2, 3, 4, 5, 6, 7, 8, 9, 10, 11, 12, 13, 14, 15])] [(2, [0, 1, 3, 7, 7, 23, 55, 119, 247, 7, 519, 1543, 3591, 8183, 16383, 32767])] []) (c := Try.f84.body.getD .skip) (rs := [.tmp 4]) ⟨⟩ mixed Try.func84 (by kernel_rfl) (by kernel_rfl) [.pointer r, item] (by kernel_rfl) (by kernel_rfl) (.inr (by kernel_rfl)) (Eq.mp (by kernel_rfl) h)

def W.codec_GetState_1_3 (p0_ : (Option Addr)) (w : World) (K : Value → World → Prop) (KP : List PanicEntry → World → Prop) : Prop :=
   ∀ (b1 : Nat) (w2 : World), Alloc w b1 120 [.int .i64 0, .int .i64 0, .slice none 0 0] w2 →
    ∀ (b3 : Nat) (w4 : World), Alloc w2 b3 120 [.int .i64 0, .int .i64 0, .slice none 0 0] w4 →
    ∀ w5, Drew w4 w5 →
    withSome p0_ fun a7 =>
    ∃ y6 : (Option Addr), (okVal false 1 (.pointer y6) = true ∧ w5.cell? a7 = some (.pointer y6)) ∧
    withSome p0_ fun a9 =>
    ∃ y8 : (Option Addr), (okVal false 1 (.pointer y8) = true ∧ w5.cell? a9 = some (.pointer y8)) ∧
    C.codec_reader_number y6 w5 (fun r12 w10 => ∃ p11 : Int, r12 = .int .i64 p11 ∧
    (w10.cell? a9 = some (.pointer y8)) ∧ C.codec_reader_number y8 w10 (fun r15 w13 => ∃ p14 : Int, r15 = .int .i64 p14 ∧
    (okVal false 1 (.int .i64 p11) = true ∧ canPut w13 ⟨b3, 0, none⟩ (.int .i64 p11)) ∧ ∀ w16 : World, w16 = putAt w13 ⟨b3, 0, none⟩ (.int .i64 p11) →
    (okVal false 1 (.int .i64 p14) = true ∧ canPut w16 ⟨b3, 1, none⟩ (.int .i64 p14)) ∧ ∀ w17 : World, w17 = putAt w16 ⟨b3, 1, none⟩ (.int .i64 p14) →
    withSome p0_ fun a19 =>
    ∃ y18 : (Option Addr), (okVal false 1 (.pointer y18) = true ∧ w17.cell? a19 = some (.pointer y18)) ∧
    withSome p0_ fun a21 =>
    ∃ y20 : (Option Addr), (okVal false 1 (.pointer y20) = true ∧ w17.cell? a21 = some (.pointer y20)) ∧
    C.codec_list_int y18 (.func (.func 42) #[.pointer y20] #[]) w17 (fun r24 w22 => ∃ p23 : Sl, r24 = .slice p23.a p23.len p23.cap ∧
    (okVal false 1 (.slice p23.a p23.len p23.cap) = true ∧ canPut w22 ⟨b3, 2, none⟩ (.slice p23.a p23.len p23.cap)) ∧ ∀ w25 : World, w25 = putAt w22 ⟨b3, 2, none⟩ (.slice p23.a p23.len p23.cap) →
    ∃ y26 : S.api_Port, (okVal true 3 (S.api_Port.v y26) = true ∧ rd w25 ⟨b3, 0, none⟩ (S.api_Port.v y26)) ∧
    (okVal true 3 (S.api_Port.v y26) = true ∧ canPut w25 ⟨b1, 0, none⟩ (S.api_Port.v y26)) ∧ ∀ w27 : World, w27 = putAt w25 ⟨b1, 0, none⟩ (S.api_Port.v y26) →
    ∃ y28 : S.api_Port, (okVal true 3 (S.api_Port.v y28) = true ∧ rd w27 ⟨b1, 0, none⟩ (S.api_Port.v y28)) ∧ K (S.api_Port.v y28) w27) KP) KP) KP
theorem codec_GetState_1_3_of {p0_ : (Option Addr)} {w : World} {K : Value → World → Prop} {KP : List PanicEntry → World → Prop} (h : W.codec_GetState_1_3 p0_ w K KP) : C.codec_GetState_1_3 p0_ w K KP :=
  xcall (E := E) (T := mkTab [] [] [] [] [(2, [0, 2, 1, 4, 3, 5, 6, 7])] [(2, [0, 1, 0, 7, 3, 31, 63, 127])] []) (c := Try.f85.body.getD .skip) (rs := [.cell 1 120]) ⟨⟩ mixed Try.func85 (by kernel_rfl) (by kernel_rfl) [.pointer p0_] (by kernel_rfl) (by kernel_rfl) (.inr (by kernel_rfl)) (Eq.mp (by kernel_rfl) h)

def W.codec_list_api_Order (r : (Option Addr)) (item : Value) (w : World) (K : Value → World → Prop) (KP : List PanicEntry → World → Prop) : Prop :=
   C.codec_reader_number r w (fun r3 w1 => ∃ p2 : Int, r3 = .int .i64 p2 ∧
    ∃ J4 : World → Prop,
    (∀ w5, Drew w1 w5 →
    (cond (decide ((p2 : Int) < 0))
    (KP [{ v := .iface 151 (.agg #[]), recovered := false }] w5)
    (withSome r fun a6 =>
    ∃ y7 : Sl, (okVal false 1 (.slice y7.a y7.len y7.cap) = true ∧ w5.cell? a6 = some (.slice y7.a y7.len y7.cap)) ∧
    withSome r fun a8 =>
    ∃ y9 : Int, (okVal false 1 (.int .i64 y9) = true ∧ w5.cell? (Addr.add a8 1) = some (.int .i64 y9)) ∧
    (cond (decide ((p2 : Int) > (IntKind.i64.wrap ((y7.len : Int) - y9))))
    (KP [{ v := .iface 151 (.agg #[]), recovered := false }] w5)
    (J4 w5))))) ∧
    ∀ e0 : Env, ∀ w10 : World, J4 w10 →
    ∃ (I11 : Sl → Int → World → Prop) (M12 : Sl → Int → World → Nat),
    (∃ u13 : Sl, (.slice none 0 0 : Value) = .slice u13.a u13.len u13.cap ∧ ∃ u14 : Int, (.int .i64 0 : Value) = .int .i64 u14 ∧ I11 u13 u14 w10) ∧
    ∀ e0 : Env, ∀ v15 : Sl, ∀ v16 : Int, ∀ w17 : World, I11 v15 v16 w17 →
    (cond (decide ((v16 : Int) < p2))
    (callV Try.prog item [] w17 (Ret (fun r20 w18 => ∃ p19 : S.api_Order, r20 = S.api_Order.v p19 ∧
    ∀ (b21 : Nat) (w22 : World), Alloc w18 b21 124 [.int .i64 p19.ID, .int .i64 p19.Bin, .int .i64 p19.Port, .int .i64 p19.State] w22 →
    ∃ (q23 : Option Addr) (n24 c25 : Nat) (w26 : World), (Builtin.append_ #[75, 75] 75 #[.slice v15.a v15.len v15.cap, .slice (some ⟨b21, 0, none⟩) 1 1]).run Try.prog w22 = .ok (.slice q23 n24 c25) w26 ∧
    ∃ u27 : Sl, (.slice q23 n24 c25 : Value) = .slice u27.a u27.len u27.cap ∧ ∃ u28 : Int, (.int .i64 (IntKind.i64.wrap (v16 + 1)) : Value) = .int .i64 u28 ∧ (I11 u27 u28 w26 ∧ M12 u27 u28 w26 < M12 v15 v16 w17)) KP))
    (K (.slice v15.a v15.len v15.cap) w17))) KP
theorem codec_list_api_Order_of {r : (Option Addr)} {item : Value} {w : World} {K : Value → World → Prop} {KP : List PanicEntry → World → Prop} (h : W.codec_list_api_Order r item w K KP) : C.codec_list_api_Order r item w K KP :=
  xcall (E := E) (T := mkTab [(6, [(6, 75), (28, 3)])] [(6, [6, 28, 29, 30, 31, 32, 33, 34, 35])] [(4, [])] [(4, [9, 10, 11, 12, 13, 14, 15, 16, 17, 18, 19, 20, 21, 22, 23, 24, 25, 26])] [(2, [0, 1, 2, 3, 4, 5, 6, 7, 8, 9, 10, 11, 12, 13, 14, 15])] [(2, [0, 1, 3, 7, 7, 23, 55, 119, 247, 7, 519, 1543, 3591, 8183, 16383, 32767])] []) (c := Try.f86.body.getD .skip) (rs := [.tmp 4]) ⟨⟩ mixed Try.func86 (by kernel_rfl) (by kernel_rfl) [.pointer r, item] (by kernel_rfl) (by kernel_rfl) (.inr (by kernel_rfl)) (Eq.mp (by kernel_rfl) h)

def W.codec_GetState_1_4 (p0_ : (Option Addr)) (w : World) (K : Value → World → Prop) (KP : List PanicEntry → World → Prop) : Prop :=
   ∀ (b1 : Nat) (w2 : World), Alloc w b1 124 [.int .i64 0, .int .i64 0, .int .i64 0, .int .i64 0] w2 →
    ∀ (b3 : Nat) (w4 : World), Alloc w2 b3 124 [.int .i64 0, .int .i64 0, .int .i64 0, .int .i64 0] w4 →
    ∀ w5, Drew w4 w5 →
    withSome p0_ fun a7 =>
    ∃ y6 : (Option Addr), (okVal false 1 (.pointer y6) = true ∧ w5.cell? a7 = some (.pointer y6)) ∧
    withSome p0_ fun a9 =>
    ∃ y8 : (Option Addr), (okVal false 1 (.pointer y8) = true ∧ w5.cell? a9 = some (.pointer y8)) ∧
    withSome p0_ fun a11 =>
    ∃ y10 : (Option Addr), (okVal false 1 (.pointer y10) = true ∧ w5.cell? a11 = some (.pointer y10)) ∧
    withSome p0_ fun a13 =>
    ∃ y12 : (Option Addr), (okVal false 1 (.pointer y12) = true ∧ w5.cell? a13 = some (.pointer y12)) ∧
    C.codec_reader_number y6 w5 (fun r16 w14 => ∃ p15 : Int, r16 = .int .i64 p15 ∧
    (w14.cell? a13 = some (.pointer y12)) ∧ (w14.cell? a11 = some (.pointer y10)) ∧ (w14.cell? a9 = some (.pointer y8)) ∧ C.codec_reader_number y8 w14 (fun r19 w17 => ∃ p18 : Int, r19 = .int .i64 p18 ∧
    (w17.cell? a13 = some (.pointer y12)) ∧ (w17.cell? a11 = some (.pointer y10)) ∧ C.codec_reader_number y10 w17 (fun r22 w20 => ∃ p21 : Int, r22 = .int .i64 p21 ∧
    (w20.cell? a13 = some (.pointer y12)) ∧ C.codec_reader_number y12 w20 (fun r25 w23 => ∃ p24 : Int, r25 = .int .i64 p24 ∧
    (okVal false 1 (.int .i64 p15) = true ∧ canPut w23 ⟨b3, 0, none⟩ (.int .i64 p15)) ∧ ∀ w26 : World, w26 = putAt w23 ⟨b3, 0, none⟩ (.int .i64 p15) →
    (okVal false 1 (.int .i64 p18) = true ∧ canPut w26 ⟨b3, 1, none⟩ (.int .i64 p18)) ∧ ∀ w27 : World, w27 = putAt w26 ⟨b3, 1, none⟩ (.int .i64 p18) →
    (okVal false 1 (.int .i64 p21) = true ∧ canPut w27 ⟨b3, 2, none⟩ (.int .i64 p21)) ∧ ∀ w28 : World, w28 = putAt w27 ⟨b3, 2, none⟩ (.int .i64 p21) →
    (okVal false 1 (.int .i64 p24) = true ∧ canPut w28 ⟨b3, 3, none⟩ (.int .i64 p24)) ∧ ∀ w29 : World, w29 = putAt w28 ⟨b3, 3, none⟩ (.int .i64 p24) →
    ∃ y30 : S.api_Order, (okVal true 4 (S.api_Order.v y30) = true ∧ rd w29 ⟨b3, 0, none⟩ (S.api_Order.v y30)) ∧
    (okVal true 4 (S.api_Order.v y30) = true ∧ canPut w29 ⟨b1, 0, none⟩ (S.api_Order.v y30)) ∧ ∀ w31 : World, w31 = putAt w29 ⟨b1, 0, none⟩ (S.api_Order.v y30) →
    ∃ y32 : S.api_Order, (okVal true 4 (S.api_Order.v y32) = true ∧ rd w31 ⟨b1, 0, none⟩ (S.api_Order.v y32)) ∧ K (S.api_Order.v y32) w31) KP) KP) KP) KP
theorem codec_GetState_1_4_of {p0_ : (Option Addr)} {w : World} {K : Value → World → Prop} {KP : List PanicEntry → World → Prop} (h : W.codec_GetState_1_4 p0_ w K KP) : C.codec_GetState_1_4 p0_ w K KP :=
  xcall (E := E) (T := mkTab [] [] [] [] [(2, [0, 2, 4, 6, 1, 8, 3, 5, 7, 9, 10, 11, 12, 13, 14, 15])] [(2, [0, 1, 0, 7, 0, 31, 0, 127, 3, 511, 1023, 2047, 4095, 8191, 16383, 32767])] []) (c := Try.f87.body.getD .skip) (rs := [.cell 1 124]) ⟨⟩ mixed Try.func87 (by kernel_rfl) (by kernel_rfl) [.pointer p0_] (by kernel_rfl) (by kernel_rfl) (.inr (by kernel_rfl)) (Eq.mp (by kernel_rfl) h)

def W.codec_list_api_Job (r : (Option Addr)) (item : Value) (w : World) (K : Value → World → Prop) (KP : List PanicEntry → World → Prop) : Prop :=
   C.codec_reader_number r w (fun r3 w1 => ∃ p2 : Int, r3 = .int .i64 p2 ∧
    ∃ J4 : World → Prop,
    (∀ w5, Drew w1 w5 →
    (cond (decide ((p2 : Int) < 0))
    (KP [{ v := .iface 151 (.agg #[]), recovered := false }] w5)
    (withSome r fun a6 =>
    ∃ y7 : Sl, (okVal false 1 (.slice y7.a y7.len y7.cap) = true ∧ w5.cell? a6 = some (.slice y7.a y7.len y7.cap)) ∧
    withSome r fun a8 =>
    ∃ y9 : Int, (okVal false 1 (.int .i64 y9) = true ∧ w5.cell? (Addr.add a8 1) = some (.int .i64 y9)) ∧
    (cond (decide ((p2 : Int) > (IntKind.i64.wrap ((y7.len : Int) - y9))))
    (KP [{ v := .iface 151 (.agg #[]), recovered := false }] w5)
    (J4 w5))))) ∧
    ∀ e0 : Env, ∀ w10 : World, J4 w10 →
    ∃ (I11 : Sl → Int → World → Prop) (M12 : Sl → Int → World → Nat),
    (∃ u13 : Sl, (.slice none 0 0 : Value) = .slice u13.a u13.len u13.cap ∧ ∃ u14 : Int, (.int .i64 0 : Value) = .int .i64 u14 ∧ I11 u13 u14 w10) ∧
    ∀ e0 : Env, ∀ v15 : Sl, ∀ v16 : Int, ∀ w17 : World, I11 v15 v16 w17 →
    (cond (decide ((v16 : Int) < p2))
    (callV Try.prog item [] w17 (Ret (fun r20 w18 => ∃ p19 : S.api_Job, r20 = S.api_Job.v p19 ∧
    ∀ (b21 : Nat) (w22 : World), Alloc w18 b21 128 [.int .i64 p19.ID, .int .i64 p19.Kind, .int .i64 p19.Order, .int .i64 p19.Bin, .int .i64 p19.From.X, .int .i64 p19.From.Y, .int .i64 p19.To.X, .int .i64 p19.To.Y, .int .i64 p19.Robot] w22 →
    ∃ (q23 : Option Addr) (n24 c25 : Nat) (w26 : World), (Builtin.append_ #[76, 76] 76 #[.slice v15.a v15.len v15.cap, .slice (some ⟨b21, 0, none⟩) 1 1]).run Try.prog w22 = .ok (.slice q23 n24 c25) w26 ∧
    ∃ u27 : Sl, (.slice q23 n24 c25 : Value) = .slice u27.a u27.len u27.cap ∧ ∃ u28 : Int, (.int .i64 (IntKind.i64.wrap (v16 + 1)) : Value) = .int .i64 u28 ∧ (I11 u27 u28 w26 ∧ M12 u27 u28 w26 < M12 v15 v16 w17)) KP))
    (K (.slice v15.a v15.len v15.cap) w17))) KP
theorem codec_list_api_Job_of {r : (Option Addr)} {item : Value} {w : World} {K : Value → World → Prop} {KP : List PanicEntry → World → Prop} (h : W.codec_list_api_Job r item w K KP) : C.codec_list_api_Job r item w K KP :=
  xcall (E := E) (T := mkTab [(6, [(6, 76), (28, 3)])] [(6, [6, 28, 29, 30, 31, 32, 33, 34, 35])] [(4, [])] [(4, [9, 10, 11, 12, 13, 14, 15, 16, 17, 18, 19, 20, 21, 22, 23, 24, 25, 26])] [(2, [0, 1, 2, 3, 4, 5, 6, 7, 8, 9, 10, 11, 12, 13, 14, 15])] [(2, [0, 1, 3, 7, 7, 23, 55, 119, 247, 7, 519, 1543, 3591, 8183, 16383, 32767])] []) (c := Try.f88.body.getD .skip) (rs := [.tmp 4]) ⟨⟩ mixed Try.func88 (by kernel_rfl) (by kernel_rfl) [.pointer r, item] (by kernel_rfl) (by kernel_rfl) (.inr (by kernel_rfl)) (Eq.mp (by kernel_rfl) h)

def W.codec_GetState_1_5 (p0_ : (Option Addr)) (w : World) (K : Value → World → Prop) (KP : List PanicEntry → World → Prop) : Prop :=
   ∀ (b1 : Nat) (w2 : World), Alloc w b1 128 [.int .i64 0, .int .i64 0, .int .i64 0, .int .i64 0, .int .i64 0, .int .i64 0, .int .i64 0, .int .i64 0, .int .i64 0] w2 →
    ∀ (b3 : Nat) (w4 : World), Alloc w2 b3 128 [.int .i64 0, .int .i64 0, .int .i64 0, .int .i64 0, .int .i64 0, .int .i64 0, .int .i64 0, .int .i64 0, .int .i64 0] w4 →
    ∀ w5, Drew w4 w5 →
    withSome p0_ fun a7 =>
    ∃ y6 : (Option Addr), (okVal false 1 (.pointer y6) = true ∧ w5.cell? a7 = some (.pointer y6)) ∧
    withSome p0_ fun a9 =>
    ∃ y8 : (Option Addr), (okVal false 1 (.pointer y8) = true ∧ w5.cell? a9 = some (.pointer y8)) ∧
    withSome p0_ fun a11 =>
    ∃ y10 : (Option Addr), (okVal false 1 (.pointer y10) = true ∧ w5.cell? a11 = some (.pointer y10)) ∧
    withSome p0_ fun a13 =>
    ∃ y12 : (Option Addr), (okVal false 1 (.pointer y12) = true ∧ w5.cell? a13 = some (.pointer y12)) ∧
    C.codec_reader_number y6 w5 (fun r16 w14 => ∃ p15 : Int, r16 = .int .i64 p15 ∧
    (w14.cell? a13 = some (.pointer y12)) ∧ (w14.cell? a11 = some (.pointer y10)) ∧ (w14.cell? a9 = some (.pointer y8)) ∧ C.codec_reader_number y8 w14 (fun r19 w17 => ∃ p18 : Int, r19 = .int .i64 p18 ∧
    (w17.cell? a13 = some (.pointer y12)) ∧ (w17.cell? a11 = some (.pointer y10)) ∧ C.codec_reader_number y10 w17 (fun r22 w20 => ∃ p21 : Int, r22 = .int .i64 p21 ∧
    (w20.cell? a13 = some (.pointer y12)) ∧ C.codec_reader_number y12 w20 (fun r25 w23 => ∃ p24 : Int, r25 = .int .i64 p24 ∧
    (okVal false 1 (.int .i64 p15) = true ∧ canPut w23 ⟨b3, 0, none⟩ (.int .i64 p15)) ∧ ∀ w26 : World, w26 = putAt w23 ⟨b3, 0, none⟩ (.int .i64 p15) →
    (okVal false 1 (.int .i64 p18) = true ∧ canPut w26 ⟨b3, 1, none⟩ (.int .i64 p18)) ∧ ∀ w27 : World, w27 = putAt w26 ⟨b3, 1, none⟩ (.int .i64 p18) →
    (okVal false 1 (.int .i64 p21) = true ∧ canPut w27 ⟨b3, 2, none⟩ (.int .i64 p21)) ∧ ∀ w28 : World, w28 = putAt w27 ⟨b3, 2, none⟩ (.int .i64 p21) →
    (okVal false 1 (.int .i64 p24) = true ∧ canPut w28 ⟨b3, 3, none⟩ (.int .i64 p24)) ∧ ∀ w29 : World, w29 = putAt w28 ⟨b3, 3, none⟩ (.int .i64 p24) →
    ∀ w30, Drew w29 w30 →
    withSome p0_ fun a32 =>
    ∃ y31 : (Option Addr), (okVal false 1 (.pointer y31) = true ∧ w30.cell? a32 = some (.pointer y31)) ∧
    withSome p0_ fun a34 =>
    ∃ y33 : (Option Addr), (okVal false 1 (.pointer y33) = true ∧ w30.cell? a34 = some (.pointer y33)) ∧
    C.codec_reader_cell y31 w30 (fun r37 w35 => ∃ p36 : S.api_Cell, r37 = S.api_Cell.v p36 ∧
    (w35.cell? a34 = some (.pointer y33)) ∧ C.codec_reader_cell y33 w35 (fun r40 w38 => ∃ p39 : S.api_Cell, r40 = S.api_Cell.v p39 ∧
    (okVal true 2 (S.api_Cell.v p36) = true ∧ canPut w38 ⟨b3, 4, none⟩ (S.api_Cell.v p36)) ∧ ∀ w41 : World, w41 = putAt w38 ⟨b3, 4, none⟩ (S.api_Cell.v p36) →
    (okVal true 2 (S.api_Cell.v p39) = true ∧ canPut w41 ⟨b3, 6, none⟩ (S.api_Cell.v p39)) ∧ ∀ w42 : World, w42 = putAt w41 ⟨b3, 6, none⟩ (S.api_Cell.v p39) →
    withSome p0_ fun a44 =>
    ∃ y43 : (Option Addr), (okVal false 1 (.pointer y43) = true ∧ w42.cell? a44 = some (.pointer y43)) ∧
    C.codec_reader_number y43 w42 (fun r47 w45 => ∃ p46 : Int, r47 = .int .i64 p46 ∧
    (okVal false 1 (.int .i64 p46) = true ∧ canPut w45 ⟨b3, 8, none⟩ (.int .i64 p46)) ∧ ∀ w48 : World, w48 = putAt w45 ⟨b3, 8, none⟩ (.int .i64 p46) →
    ∃ y49 : S.api_Job, (okVal true 9 (S.api_Job.v y49) = true ∧ rd w48 ⟨b3, 0, none⟩ (S.api_Job.v y49)) ∧
    (okVal true 9 (S.api_Job.v y49) = true ∧ canPut w48 ⟨b1, 0, none⟩ (S.api_Job.v y49)) ∧ ∀ w50 : World, w50 = putAt w48 ⟨b1, 0, none⟩ (S.api_Job.v y49) →
    ∃ y51 : S.api_Job, (okVal true 9 (S.api_Job.v y51) = true ∧ rd w50 ⟨b1, 0, none⟩ (S.api_Job.v y51)) ∧ K (S.api_Job.v y51) w50) KP) KP) KP) KP) KP) KP) KP
theorem codec_GetState_1_5_of {p0_ : (Option Addr)} {w : World} {K : Value → World → Prop} {KP : List PanicEntry → World → Prop} (h : W.codec_GetState_1_5 p0_ w K KP) : C.codec_GetState_1_5 p0_ w K KP :=
  xcall (E := E) (T := mkTab [] [] [] [] [(2, [0, 2, 4, 6, 1, 8, 3, 5, 7, 9, 10, 11, 12, 13, 14, 15]), (3, [0, 2, 1, 4, 3, 5, 6, 7])] [(2, [0, 1, 0, 7, 0, 31, 0, 127, 3, 511, 1023, 2047, 4095, 8191, 16383, 32767]), (3, [0, 1, 0, 7, 3, 31, 63, 127])] []) (c := Try.f89.body.getD .skip) (rs := [.cell 1 128]) ⟨⟩ mixed Try.func89 (by kernel_rfl) (by kernel_rfl) [.pointer p0_] (by kernel_rfl) (by kernel_rfl) (.inr (by kernel_rfl)) (Eq.mp (by kernel_rfl) h)

def W.skepref05_R_Flag (r : (Option Addr)) (w : World) (K : Value → World → Prop) (KP : List PanicEntry → World → Prop) : Prop :=
   ∀ w1, Drew w w1 →
    withSome r fun a2 =>
    ∃ y3 : Bool, (okVal false 1 (.bool y3) = true ∧ w1.cell? (Addr.add a2 2) = some (.bool y3)) ∧
    (cond y3
    (withSome r fun a4 =>
    (okVal false 1 (.bool true) = true ∧ canPut w1 (Addr.add a4 2) (.bool true)) ∧ ∀ w5 : World, w5 = putAt w1 (Addr.add a4 2) (.bool true) →
    K (.bool false) w5)
    (withSome r fun a6 =>
    ∃ y7 : Int, (okVal false 1 (.int .i64 y7) = true ∧ w1.cell? (Addr.add a6 1) = some (.int .i64 y7)) ∧
    withSome r fun a8 =>
    ∃ y9 : Sl, (okVal false 1 (.slice y9.a y9.len y9.cap) = true ∧ w1.cell? a8 = some (.slice y9.a y9.len y9.cap)) ∧
    (cond (decide ((y7 : Int) ≥ (y9.len : Int)))
    (withSome r fun a10 =>
    (okVal false 1 (.bool true) = true ∧ canPut w1 (Addr.add a10 2) (.bool true)) ∧ ∀ w11 : World, w11 = putAt w1 (Addr.add a10 2) (.bool true) →
    K (.bool false) w11)
    (withSome r fun a12 =>
    ∃ y13 : Sl, (okVal false 1 (.slice y13.a y13.len y13.cap) = true ∧ w1.cell? a12 = some (.slice y13.a y13.len y13.cap)) ∧
    withSome r fun a14 =>
    ∃ y15 : Int, (okVal false 1 (.int .i64 y15) = true ∧ w1.cell? (Addr.add a14 1) = some (.int .i64 y15)) ∧
    ((0 : Int) ≤ y15 ∧ (y15 : Int) < (y13.len : Int)) ∧ withSome y13.a fun a16 =>
    ∃ y17 : Int, (okVal false 1 (.int .u8 y17) = true ∧ w1.cell? (Addr.add a16 (y15.toNat * 1)) = some (.int .u8 y17)) ∧
    (cond (decide ((y17 : Int) > 1))
    (withSome r fun a18 =>
    (okVal false 1 (.bool true) = true ∧ canPut w1 (Addr.add a18 2) (.bool true)) ∧ ∀ w19 : World, w19 = putAt w1 (Addr.add a18 2) (.bool true) →
    K (.bool false) w19)
    (withSome r fun a20 =>
    ∃ y21 : Int, (okVal false 1 (.int .i64 y21) = true ∧ w1.cell? (Addr.add a20 1) = some (.int .i64 y21)) ∧
    withSome r fun a22 =>
    (okVal false 1 (.int .i64 (IntKind.i64.wrap (y21 + 1))) = true ∧ canPut w1 (Addr.add a22 1) (.int .i64 (IntKind.i64.wrap (y21 + 1)))) ∧ ∀ w23 : World, w23 = putAt w1 (Addr.add a22 1) (.int .i64 (IntKind.i64.wrap (y21 + 1))) →
    ∀ w24, Drew w23 w24 →
    withSome r fun a25 =>
    ∃ y26 : Sl, (okVal false 1 (.slice y26.a y26.len y26.cap) = true ∧ w24.cell? a25 = some (.slice y26.a y26.len y26.cap)) ∧
    withSome r fun a27 =>
    ∃ y28 : Int, (okVal false 1 (.int .i64 y28) = true ∧ w24.cell? (Addr.add a27 1) = some (.int .i64 y28)) ∧
    ((0 : Int) ≤ (IntKind.i64.wrap (y28 - 1)) ∧ ((IntKind.i64.wrap (y28 - 1)) : Int) < (y26.len : Int)) ∧ withSome y26.a fun a29 =>
    ∃ y30 : Int, (okVal false 1 (.int .u8 y30) = true ∧ w24.cell? (Addr.add a29 ((IntKind.i64.wrap (y28 - 1)).toNat * 1)) = some (.int .u8 y30)) ∧
    K (.bool ((y30 : Int) == 1)) w24))))))
theorem skepref05_R_Flag_of {r : (Option Addr)} {w : World} {K : Value → World → Prop} {KP : List PanicEntry → World → Prop} (h : W.skepref05_R_Flag r w K KP) : C.skepref05_R_Flag r w K KP :=
  xcall (E := E) (T := mkTab [] [] [] [] [(1, [0, 1, 2, 3, 4, 5, 6, 7, 8, 9, 10, 11, 12, 13, 14, 15, 16, 17, 18, 19, 20, 21, 22, 23, 24, 25, 26, 27, 28]), (5, [0, 1, 2, 3, 4, 5, 6, 7, 8, 9, 10, 11, 12])] [(1, [0, 1, 3, 7, 15, 31, 63, 127, 255, 31, 543, 1567, 3615, 7711, 16383, 32767, 65535, 131071, 262143, 524287, 1048575, 131071, 2228223, 6422527, 14811135, 33554431, 67108863, 134217727, 268435455]), (5, [0, 1, 3, 7, 0, 16, 48, 112, 240, 511, 1023, 2047, 4095])] []) (c := Try.f90.body.getD .skip) (rs := [.tmp 2]) ⟨⟩ mixed Try.func90 (by kernel_rfl) (by kernel_rfl) [.pointer r] (by kernel_rfl) (by kernel_rfl) (.inr (by kernel_rfl)) (Eq.mp (by kernel_rfl) h)

def W.skepref05_R_Count (r : (Option Addr)) (w : World) (K : Value → World → Prop) (KP : List PanicEntry → World → Prop) : Prop :=
   C.skepref05_R_Number r w (fun r3 w1 => ∃ p2 : Int, r3 = .int .i64 p2 ∧
    ∀ w4, Drew w1 w4 →
    (cond (decide ((p2 : Int) < 0))
    (withSome r fun a5 =>
    (okVal false 1 (.bool true) = true ∧ canPut w4 (Addr.add a5 2) (.bool true)) ∧ ∀ w6 : World, w6 = putAt w4 (Addr.add a5 2) (.bool true) →
    withSome r fun a7 =>
    ∃ y8 : Bool, (okVal false 1 (.bool y8) = true ∧ w6.cell? (Addr.add a7 2) = some (.bool y8)) ∧
    (cond y8
    (K (.int .i64 0) w6)
    (K (.int .i64 p2) w6)))
    (withSome r fun a9 =>
    ∃ y10 : Sl, (okVal false 1 (.slice y10.a y10.len y10.cap) = true ∧ w4.cell? a9 = some (.slice y10.a y10.len y10.cap)) ∧
    withSome r fun a11 =>
    ∃ y12 : Int, (okVal false 1 (.int .i64 y12) = true ∧ w4.cell? (Addr.add a11 1) = some (.int .i64 y12)) ∧
    (cond (decide ((p2 : Int) > (IntKind.i64.wrap ((y10.len : Int) - y12))))
    (withSome r fun a13 =>
    (okVal false 1 (.bool true) = true ∧ canPut w4 (Addr.add a13 2) (.bool true)) ∧ ∀ w14 : World, w14 = putAt w4 (Addr.add a13 2) (.bool true) →
    withSome r fun a15 =>
    ∃ y16 : Bool, (okVal false 1 (.bool y16) = true ∧ w14.cell? (Addr.add a15 2) = some (.bool y16)) ∧
    (cond y16
    (K (.int .i64 0) w14)
    (K (.int .i64 p2) w14)))
    (withSome r fun a17 =>
    ∃ y18 : Bool, (okVal false 1 (.bool y18) = true ∧ w4.cell? (Addr.add a17 2) = some (.bool y18)) ∧
    (cond y18
    (K (.int .i64 0) w4)
    (K (.int .i64 p2) w4))))))) KP
theorem skepref05_R_Count_of {r : (Option Addr)} {w : World} {K : Value → World → Prop} {KP : List PanicEntry → World → Prop} (h : W.skepref05_R_Count r w K KP) : C.skepref05_R_Count r w K KP :=
  xcall (E := E) (T := mkTab [] [] [] [] [(2, [0, 1, 2, 3, 4, 5, 6, 7, 8, 9, 10, 11, 12, 13, 14, 15])] [(2, [0, 1, 3, 7, 7, 23, 55, 119, 247, 7, 519, 1543, 3591, 8183, 16383, 32767])] []) (c := Try.f91.body.getD .skip) (rs := [.tmp 2]) ⟨⟩ mixed Try.func91 (by kernel_rfl) (by kernel_rfl) [.pointer r] (by kernel_rfl) (by kernel_rfl) (.inr (by kernel_rfl)) (Eq.mp (by kernel_rfl) h)

def W.skepref05_R_cell (r : (Option Addr)) (w : World) (K : Value → World → Prop) (KP : List PanicEntry → World → Prop) : Prop :=
   ∀ (b1 : Nat) (w2 : World), Alloc w b1 47 [.int .i64 0, .int .i64 0] w2 →
    C.skepref05_R_Number r w2 (fun r5 w3 => ∃ p4 : Int, r5 = .int .i64 p4 ∧
    C.skepref05_R_Number r w3 (fun r8 w6 => ∃ p7 : Int, r8 = .int .i64 p7 ∧
    (okVal true 2 (.agg #[.int .i64 p4, .int .i64 p7]) = true ∧ canPut w6 ⟨b1, 0, none⟩ (.agg #[.int .i64 p4, .int .i64 p7])) ∧ ∀ w9 : World, w9 = putAt w6 ⟨b1, 0, none⟩ (.agg #[.int .i64 p4, .int .i64 p7]) →
    ∃ y10 : S.api_Cell, (okVal true 2 (S.api_Cell.v y10) = true ∧ rd w9 ⟨b1, 0, none⟩ (S.api_Cell.v y10)) ∧ K (S.api_Cell.v y10) w9) KP) KP
theorem skepref05_R_cell_of {r : (Option Addr)} {w : World} {K : Value → World → Prop} {KP : List PanicEntry → World → Prop} (h : W.skepref05_R_cell r w K KP) : C.skepref05_R_cell r w K KP :=
  xcall (E := E) (T := mkTab [] [] [] [] [] [] []) (c := Try.f92.body.getD .skip) (rs := [.cell 2 47]) ⟨⟩ mixed Try.func92 (by kernel_rfl) (by kernel_rfl) [.pointer r] (by kernel_rfl) (by kernel_rfl) (.inr (by kernel_rfl)) (Eq.mp (by kernel_rfl) h)

def W.skepref05_R_numbers (r : (Option Addr)) (w : World) (K : Value → World → Prop) (KP : List PanicEntry → World → Prop) : Prop :=
   C.skepref05_R_Count r w (fun r3 w1 => ∃ p2 : Int, r3 = .int .i64 p2 ∧
    ∃ (I4 : Sl → Int → World → Prop) (M5 : Sl → Int → World → Nat),
    (∃ u6 : Sl, (.slice none 0 0 : Value) = .slice u6.a u6.len u6.cap ∧ ∃ u7 : Int, (.int .i64 0 : Value) = .int .i64 u7 ∧ I4 u6 u7 w1) ∧
    ∀ e0 : Env, ∀ v8 : Sl, ∀ v9 : Int, ∀ w10 : World, I4 v8 v9 w10 →
    (cond (decide ((v9 : Int) < p2))
    (withSome r fun a11 =>
    ∃ y12 : Bool, (okVal false 1 (.bool y12) = true ∧ w10.cell? (Addr.add a11 2) = some (.bool y12)) ∧
    (cond (!y12)
    (C.skepref05_R_Number r w10 (fun r15 w13 => ∃ p14 : Int, r15 = .int .i64 p14 ∧
    ∀ (b16 : Nat) (w17 : World), Alloc w13 b16 3 [.int .i64 p14] w17 →
    ∃ (q18 : Option Addr) (n19 c20 : Nat) (w21 : World), (Builtin.append_ #[108, 108] 108 #[.slice v8.a v8.len v8.cap, .slice (some ⟨b16, 0, none⟩) 1 1]).run Try.prog w17 = .ok (.slice q18 n19 c20) w21 ∧
    ∃ u22 : Sl, (.slice q18 n19 c20 : Value) = .slice u22.a u22.len u22.cap ∧ ∃ u23 : Int, (.int .i64 (IntKind.i64.wrap (v9 + 1)) : Value) = .int .i64 u23 ∧ (I4 u22 u23 w21 ∧ M5 u22 u23 w21 < M5 v8 v9 w10)) KP)
    (K (.slice v8.a v8.len v8.cap) w10)))
    (K (.slice v8.a v8.len v8.cap) w10))) KP
theorem skepref05_R_numbers_of {r : (Option Addr)} {w : World} {K : Value → World → Prop} {KP : List PanicEntry → World → Prop} (h : W.skepref05_R_numbers r w K KP) : C.skepref05_R_numbers r w K KP :=
  xcall (E := E) (T := mkTab [(4, [(3, 108), (5, 3)])] [(4, [3, 5, 6, 9, 10, 11, 12, 13, 14, 15, 16, 17, 18, 19, 20, 21, 22, 23, 24, 25, 26])] [] [] [] [] []) (c := Try.f93.body.getD .skip) (rs := [.tmp 2]) ⟨⟩ mixed Try.func93 (by kernel_rfl) (by kernel_rfl) [.pointer r] (by kernel_rfl) (by kernel_rfl) (.inr (by kernel_rfl)) (Eq.mp (by kernel_rfl) h)

def W.skepref05_R_robot (r : (Option Addr)) (w : World) (K : Value → World → Prop) (KP : List PanicEntry → World → Prop) : Prop :=
   ∀ (b1 : Nat) (w2 : World), Alloc w b1 116 [.int .i64 0, .int .i64 0, .bool false, .int .i64 0, .int .i64 0, .slice none 0 0, .bool false, .int .i64 0, .bool false] w2 →
    ∀ (b3 : Nat) (w4 : World), Alloc w2 b3 116 [.int .i64 0, .int .i64 0, .bool false, .int .i64 0, .int .i64 0, .slice none 0 0, .bool false, .int .i64 0, .bool false] w4 →
    (okVal true 9 (.agg #[.int .i64 0, .int .i64 0, .bool false, .int .i64 0, .int .i64 0, .slice none 0 0, .bool false, .int .i64 0, .bool false]) = true ∧ canPut w4 ⟨b3, 0, none⟩ (.agg #[.int .i64 0, .int .i64 0, .bool false, .int .i64 0, .int .i64 0, .slice none 0 0, .bool false, .int .i64 0, .bool false])) ∧ ∀ w5 : World, w5 = putAt w4 ⟨b3, 0, none⟩ (.agg #[.int .i64 0, .int .i64 0, .bool false, .int .i64 0, .int .i64 0, .slice none 0 0, .bool false, .int .i64 0, .bool false]) →
    C.skepref05_R_pose r w5 (fun r8 w6 => ∃ p7 : S.api_Pose, r8 = S.api_Pose.v p7 ∧
    (okVal true 3 (S.api_Pose.v p7) = true ∧ canPut w6 ⟨b3, 0, none⟩ (S.api_Pose.v p7)) ∧ ∀ w9 : World, w9 = putAt w6 ⟨b3, 0, none⟩ (S.api_Pose.v p7) →
    C.skepref05_R_Number r w9 (fun r12 w10 => ∃ p11 : Int, r12 = .int .i64 p11 ∧
    (okVal false 1 (.int .i64 p11) = true ∧ canPut w10 ⟨b3, 3, none⟩ (.int .i64 p11)) ∧ ∀ w13 : World, w13 = putAt w10 ⟨b3, 3, none⟩ (.int .i64 p11) →
    C.skepref05_R_Number r w13 (fun r16 w14 => ∃ p15 : Int, r16 = .int .i64 p15 ∧
    (okVal false 1 (.int .i64 p15) = true ∧ canPut w14 ⟨b3, 4, none⟩ (.int .i64 p15)) ∧ ∀ w17 : World, w17 = putAt w14 ⟨b3, 4, none⟩ (.int .i64 p15) →
    C.skepref05_R_moves r w17 (fun r20 w18 => ∃ p19 : Sl, r20 = .slice p19.a p19.len p19.cap ∧
    (okVal false 1 (.slice p19.a p19.len p19.cap) = true ∧ canPut w18 ⟨b3, 5, none⟩ (.slice p19.a p19.len p19.cap)) ∧ ∀ w21 : World, w21 = putAt w18 ⟨b3, 5, none⟩ (.slice p19.a p19.len p19.cap) →
    C.skepref05_R_Flag r w21 (fun r24 w22 => ∃ p23 : Bool, r24 = .bool p23 ∧
    (okVal false 1 (.bool p23) = true ∧ canPut w22 ⟨b3, 6, none⟩ (.bool p23)) ∧ ∀ w25 : World, w25 = putAt w22 ⟨b3, 6, none⟩ (.bool p23) →
    C.skepref05_R_Number r w25 (fun r28 w26 => ∃ p27 : Int, r28 = .int .i64 p27 ∧
    (okVal false 1 (.int .i64 p27) = true ∧ canPut w26 ⟨b3, 7, none⟩ (.int .i64 p27)) ∧ ∀ w29 : World, w29 = putAt w26 ⟨b3, 7, none⟩ (.int .i64 p27) →
    C.skepref05_R_Flag r w29 (fun r32 w30 => ∃ p31 : Bool, r32 = .bool p31 ∧
    (okVal false 1 (.bool p31) = true ∧ canPut w30 ⟨b3, 8, none⟩ (.bool p31)) ∧ ∀ w33 : World, w33 = putAt w30 ⟨b3, 8, none⟩ (.bool p31) →
    ∃ y34 : S.api_Robot, (okVal true 9 (S.api_Robot.v y34) = true ∧ rd w33 ⟨b3, 0, none⟩ (S.api_Robot.v y34)) ∧
    (okVal true 9 (S.api_Robot.v y34) = true ∧ canPut w33 ⟨b1, 0, none⟩ (S.api_Robot.v y34)) ∧ ∀ w35 : World, w35 = putAt w33 ⟨b1, 0, none⟩ (S.api_Robot.v y34) →
    ∃ y36 : S.api_Robot, (okVal true 9 (S.api_Robot.v y36) = true ∧ rd w35 ⟨b1, 0, none⟩ (S.api_Robot.v y36)) ∧ K (S.api_Robot.v y36) w35) KP) KP) KP) KP) KP) KP) KP
theorem skepref05_R_robot_of {r : (Option Addr)} {w : World} {K : Value → World → Prop} {KP : List PanicEntry → World → Prop} (h : W.skepref05_R_robot r w K KP) : C.skepref05_R_robot r w K KP :=
  xcall (E := E) (T := mkTab [] [] [] [] [] [] []) (c := Try.f94.body.getD .skip) (rs := [.cell 2 116]) ⟨⟩ mixed Try.func94 (by kernel_rfl) (by kernel_rfl) [.pointer r] (by kernel_rfl) (by kernel_rfl) (.inr (by kernel_rfl)) (Eq.mp (by kernel_rfl) h)

def W.skepref05_R_job (r : (Option Addr)) (w : World) (K : Value → World → Prop) (KP : List PanicEntry → World → Prop) : Prop :=
   ∀ (b1 : Nat) (w2 : World), Alloc w b1 128 [.int .i64 0, .int .i64 0, .int .i64 0, .int .i64 0, .int .i64 0, .int .i64 0, .int .i64 0, .int .i64 0, .int .i64 0] w2 →
    ∀ (b3 : Nat) (w4 : World), Alloc w2 b3 128 [.int .i64 0, .int .i64 0, .int .i64 0, .int .i64 0, .int .i64 0, .int .i64 0, .int .i64 0, .int .i64 0, .int .i64 0] w4 →
    (okVal true 9 (.agg #[.int .i64 0, .int .i64 0, .int .i64 0, .int .i64 0, .int .i64 0, .int .i64 0, .int .i64 0, .int .i64 0, .int .i64 0]) = true ∧ canPut w4 ⟨b3, 0, none⟩ (.agg #[.int .i64 0, .int .i64 0, .int .i64 0, .int .i64 0, .int .i64 0, .int .i64 0, .int .i64 0, .int .i64 0, .int .i64 0])) ∧ ∀ w5 : World, w5 = putAt w4 ⟨b3, 0, none⟩ (.agg #[.int .i64 0, .int .i64 0, .int .i64 0, .int .i64 0, .int .i64 0, .int .i64 0, .int .i64 0, .int .i64 0, .int .i64 0]) →
    C.skepref05_R_Number r w5 (fun r8 w6 => ∃ p7 : Int, r8 = .int .i64 p7 ∧
    (okVal false 1 (.int .i64 p7) = true ∧ canPut w6 ⟨b3, 0, none⟩ (.int .i64 p7)) ∧ ∀ w9 : World, w9 = putAt w6 ⟨b3, 0, none⟩ (.int .i64 p7) →
    C.skepref05_R_Number r w9 (fun r12 w10 => ∃ p11 : Int, r12 = .int .i64 p11 ∧
    (okVal false 1 (.int .i64 p11) = true ∧ canPut w10 ⟨b3, 1, none⟩ (.int .i64 p11)) ∧ ∀ w13 : World, w13 = putAt w10 ⟨b3, 1, none⟩ (.int .i64 p11) →
    C.skepref05_R_Number r w13 (fun r16 w14 => ∃ p15 : Int, r16 = .int .i64 p15 ∧
    (okVal false 1 (.int .i64 p15) = true ∧ canPut w14 ⟨b3, 2, none⟩ (.int .i64 p15)) ∧ ∀ w17 : World, w17 = putAt w14 ⟨b3, 2, none⟩ (.int .i64 p15) →
    C.skepref05_R_Number r w17 (fun r20 w18 => ∃ p19 : Int, r20 = .int .i64 p19 ∧
    (okVal false 1 (.int .i64 p19) = true ∧ canPut w18 ⟨b3, 3, none⟩ (.int .i64 p19)) ∧ ∀ w21 : World, w21 = putAt w18 ⟨b3, 3, none⟩ (.int .i64 p19) →
    C.skepref05_R_cell r w21 (fun r24 w22 => ∃ p23 : S.api_Cell, r24 = S.api_Cell.v p23 ∧
    (okVal true 2 (S.api_Cell.v p23) = true ∧ canPut w22 ⟨b3, 4, none⟩ (S.api_Cell.v p23)) ∧ ∀ w25 : World, w25 = putAt w22 ⟨b3, 4, none⟩ (S.api_Cell.v p23) →
    C.skepref05_R_cell r w25 (fun r28 w26 => ∃ p27 : S.api_Cell, r28 = S.api_Cell.v p27 ∧
    (okVal true 2 (S.api_Cell.v p27) = true ∧ canPut w26 ⟨b3, 6, none⟩ (S.api_Cell.v p27)) ∧ ∀ w29 : World, w29 = putAt w26 ⟨b3, 6, none⟩ (S.api_Cell.v p27) →
    C.skepref05_R_Number r w29 (fun r32 w30 => ∃ p31 : Int, r32 = .int .i64 p31 ∧
    (okVal false 1 (.int .i64 p31) = true ∧ canPut w30 ⟨b3, 8, none⟩ (.int .i64 p31)) ∧ ∀ w33 : World, w33 = putAt w30 ⟨b3, 8, none⟩ (.int .i64 p31) →
    ∃ y34 : S.api_Job, (okVal true 9 (S.api_Job.v y34) = true ∧ rd w33 ⟨b3, 0, none⟩ (S.api_Job.v y34)) ∧
    (okVal true 9 (S.api_Job.v y34) = true ∧ canPut w33 ⟨b1, 0, none⟩ (S.api_Job.v y34)) ∧ ∀ w35 : World, w35 = putAt w33 ⟨b1, 0, none⟩ (S.api_Job.v y34) →
    ∃ y36 : S.api_Job, (okVal true 9 (S.api_Job.v y36) = true ∧ rd w35 ⟨b1, 0, none⟩ (S.api_Job.v y36)) ∧ K (S.api_Job.v y36) w35) KP) KP) KP) KP) KP) KP) KP
theorem skepref05_R_job_of {r : (Option Addr)} {w : World} {K : Value → World → Prop} {KP : List PanicEntry → World → Prop} (h : W.skepref05_R_job r w K KP) : C.skepref05_R_job r w K KP :=
  xcall (E := E) (T := mkTab [] [] [] [] [] [] []) (c := Try.f95.body.getD .skip) (rs := [.cell 2 128]) ⟨⟩ mixed Try.func95 (by kernel_rfl) (by kernel_rfl) [.pointer r] (by kernel_rfl) (by kernel_rfl) (.inr (by kernel_rfl)) (Eq.mp (by kernel_rfl) h)

def W.skepref05_flag (p0_ : Sl) (v : Bool) (w : World) (K : Value → World → Prop) (KP : List PanicEntry → World → Prop) : Prop :=
   (cond v
    (∀ (b1 : Nat) (w2 : World), Alloc w b1 5 [.int .u8 1] w2 →
    ∃ (q3 : Option Addr) (n4 c5 : Nat) (w6 : World), (Builtin.append_ #[22, 22] 22 #[.slice p0_.a p0_.len p0_.cap, .slice (some ⟨b1, 0, none⟩) 1 1]).run Try.prog w2 = .ok (.slice q3 n4 c5) w6 ∧
    K (.slice q3 n4 c5) w6)
    (∀ (b7 : Nat) (w8 : World), Alloc w b7 5 [.int .u8 0] w8 →
    ∃ (q9 : Option Addr) (n10 c11 : Nat) (w12 : World), (Builtin.append_ #[22, 22] 22 #[.slice p0_.a p0_.len p0_.cap, .slice (some ⟨b7, 0, none⟩) 1 1]).run Try.prog w8 = .ok (.slice q9 n10 c11) w12 ∧
    K (.slice q9 n10 c11) w12))
theorem skepref05_flag_of {p0_ : Sl} {v : Bool} {w : World} {K : Value → World → Prop} {KP : List PanicEntry → World → Prop} (h : W.skepref05_flag p0_ v w K KP) : C.skepref05_flag p0_ v w K KP :=
  xcall (E := E) (T := mkTab [] [] [] [] [] [] []) (c := Try.f96.body.getD .skip) (rs := [.tmp 4]) ⟨⟩ mixed Try.func96 (by kernel_rfl) (by kernel_rfl) [.slice p0_.a p0_.len p0_.cap, .bool v] (by kernel_rfl) (by kernel_rfl) (.inr (by kernel_rfl)) (Eq.mp (by kernel_rfl) h)

def W.skepref05_numbers (p0_ : Sl) (l : Sl) (w : World) (K : Value → World → Prop) (KP : List PanicEntry → World → Prop) : Prop :=
   C.skepref05_num p0_ (l.len : Int) w (fun r3 w1 => ∃ p2 : Sl, r3 = .slice p2.a p2.len p2.cap ∧
    ∃ (I4 : Sl → Int → World → Prop) (M5 : Sl → Int → World → Nat),
    (∃ u6 : Sl, (.slice p2.a p2.len p2.cap : Value) = .slice u6.a u6.len u6.cap ∧ ∃ u7 : Int, (.int .i64 0 : Value) = .int .i64 u7 ∧ I4 u6 u7 w1) ∧
    ∀ e0 : Env, ∀ v8 : Sl, ∀ v9 : Int, ∀ w10 : World, I4 v8 v9 w10 →
    (cond (decide ((v9 : Int) < (l.len : Int)))
    (((0 : Int) ≤ v9 ∧ (v9 : Int) < (l.len : Int)) ∧ withSome l.a fun a11 =>
    ∃ y12 : Int, (okVal false 1 (.int .i64 y12) = true ∧ w10.cell? (Addr.add a11 (v9.toNat * 1)) = some (.int .i64 y12)) ∧
    C.skepref05_num v8 y12 w10 (fun r15 w13 => ∃ p14 : Sl, r15 = .slice p14.a p14.len p14.cap ∧
    ∃ u16 : Sl, (.slice p14.a p14.len p14.cap : Value) = .slice u16.a u16.len u16.cap ∧ ∃ u17 : Int, (.int .i64 (IntKind.i64.wrap (v9 + 1)) : Value) = .int .i64 u17 ∧ (I4 u16 u17 w13 ∧ M5 u16 u17 w13 < M5 v8 v9 w10)) KP)
    (K (.slice v8.a v8.len v8.cap) w10))) KP
theorem skepref05_numbers_of {p0_ : Sl} {l : Sl} {w : World} {K : Value → World → Prop} {KP : List PanicEntry → World → Prop} (h : W.skepref05_numbers p0_ l w K KP) : C.skepref05_numbers p0_ l w K KP :=
  xcall (E := E) (T := mkTab [(3, [(0, 22), (5, 3)])] [(3, [0, 5, 10, 11, 12, 13, 14, 15, 16, 17, 18, 19, 20, 21])] [] [] [] [] []) (c := Try.f97.body.getD .skip) (rs := [.tmp 4]) ⟨⟩ mixed Try.func97 (by kernel_rfl) (by kernel_rfl) [.slice p0_.a p0_.len p0_.cap, .slice l.a l.len l.cap] (by kernel_rfl) (by kernel_rfl) (.inr (by kernel_rfl)) (Eq.mp (by kernel_rfl) h)

def W.skepref05_cell (p0_ : Sl) (c : S.api_Cell) (w : World) (K : Value → World → Prop) (KP : List PanicEntry → World → Prop) : Prop :=
   ∀ (b1 : Nat) (w2 : World), Alloc w b1 47 (S.api_Cell.v c : Value).cells.toList w2 →
    ∀ w3, Drew w2 w3 →
    ∃ y4 : Int, (okVal false 1 (.int .i64 y4) = true ∧ w3.cell? ⟨b1, 0, none⟩ = some (.int .i64 y4)) ∧
    ∃ y5 : Int, (okVal false 1 (.int .i64 y5) = true ∧ w3.cell? ⟨b1, 1, none⟩ = some (.int .i64 y5)) ∧
    C.skepref05_num p0_ y4 w3 (fun r8 w6 => ∃ p7 : Sl, r8 = .slice p7.a p7.len p7.cap ∧
    (w6.cell? ⟨b1, 1, none⟩ = some (.int .i64 y5)) ∧ C.skepref05_num p7 y5 w6 (fun r11 w9 => ∃ p10 : Sl, r11 = .slice p10.a p10.len p10.cap ∧
    K (.slice p10.a p10.len p10.cap) w9) KP) KP
theorem skepref05_cell_of {p0_ : Sl} {c : S.api_Cell} {w : World} {K : Value → World → Prop} {KP : List PanicEntry → World → Prop} (h : W.skepref05_cell p0_ c w K KP) : C.skepref05_cell p0_ c w K KP :=
  xcall (E := E) (T := mkTab [] [] [] [] [(1, [0, 1, 2, 4, 5, 3, 6, 7])] [(1, [0, 0, 2, 7, 0, 16, 63, 127])] []) (c := Try.f98.body.getD .skip) (rs := [.tmp 4]) ⟨⟩ mixed Try.func98 (by kernel_rfl) (by kernel_rfl) [.slice p0_.a p0_.len p0_.cap, S.api_Cell.v c] (by kernel_rfl) (by kernel_rfl) (.inr (by kernel_rfl)) (Eq.mp (by kernel_rfl) h)

def W.skeplaw00_SameStacks (a : Sl) (p1_ : Sl) (w : World) (K : Value → World → Prop) (KP : List PanicEntry → World → Prop) : Prop :=
   (cond (((a.len : Int) : Int) != (p1_.len : Int))
    (K (.bool false) w)
    (∃ (I1 : Int → World → Prop) (M2 : Int → World → Nat),
    (∃ u3 : Int, (.int .i64 0 : Value) = .int .i64 u3 ∧ I1 u3 w) ∧
    ∀ e0 : Env, ∀ v4 : Int, ∀ w5 : World, I1 v4 w5 →
    (cond (decide ((v4 : Int) < (a.len : Int)))
    (∀ w6, Drew w5 w6 →
    ((0 : Int) ≤ v4 ∧ (v4 : Int) < (a.len : Int)) ∧ withSome a.a fun a7 =>
    ∃ y8 : S.api_Cell, (okVal true 2 (S.api_Cell.v y8) = true ∧ rd w6 (Addr.add a7 (v4.toNat * 3)) (S.api_Cell.v y8)) ∧
    ((0 : Int) ≤ v4 ∧ (v4 : Int) < (p1_.len : Int)) ∧ withSome p1_.a fun a9 =>
    ∃ y10 : S.api_Cell, (okVal true 2 (S.api_Cell.v y10) = true ∧ rd w6 (Addr.add a9 (v4.toNat * 3)) (S.api_Cell.v y10)) ∧
    (cond (!((((y8.X : Int) == y10.X) && (((y8.Y : Int) == y10.Y) && true))))
    (K (.bool false) w6)
    (((0 : Int) ≤ v4 ∧ (v4 : Int) < (a.len : Int)) ∧ withSome a.a fun a11 =>
    ∃ y12 : Sl, (okVal false 1 (.slice y12.a y12.len y12.cap) = true ∧ w6.cell? (Addr.add (Addr.add a11 (v4.toNat * 3)) 2) = some (.slice y12.a y12.len y12.cap)) ∧
    ((0 : Int) ≤ v4 ∧ (v4 : Int) < (p1_.len : Int)) ∧ withSome p1_.a fun a13 =>
    ∃ y14 : Sl, (okVal false 1 (.slice y14.a y14.len y14.cap) = true ∧ w6.cell? (Addr.add (Addr.add a13 (v4.toNat * 3)) 2) = some (.slice y14.a y14.len y14.cap)) ∧
    C.skeplaw00_SameInts y12 y14 w6 (fun r17 w15 => ∃ p16 : Bool, r17 = .bool p16 ∧
    (cond (!p16)
    (K (.bool false) w15)
    (∃ u18 : Int, (.int .i64 (IntKind.i64.wrap (v4 + 1)) : Value) = .int .i64 u18 ∧ (I1 u18 w15 ∧ M2 u18 w15 < M2 v4 w5)))) KP)))
    (K (.bool true) w5))))
theorem skeplaw00_SameStacks_of {a : Sl} {p1_ : Sl} {w : World} {K : Value → World → Prop} {KP : List PanicEntry → World → Prop} (h : W.skeplaw00_SameStacks a p1_ w K KP) : C.skeplaw00_SameStacks a p1_ w K KP :=
  xcall (E := E) (T := mkTab [(4, [(5, 3)])] [(4, [4, 5, 11, 12, 13, 14, 15, 16, 17, 18, 19, 20, 21, 22, 23, 24, 25, 26, 27, 28, 29, 30, 31, 32, 33, 34, 35, 36, 37, 38, 39, 40, 41])] [] [] [(6, [0, 1, 2, 3, 4, 5, 6, 7, 8, 9, 10, 11, 12, 13, 14, 15, 16, 17, 18, 19, 20, 21, 22, 23, 24])] [(6, [0, 0, 3, 7, 15, 0, 0, 96, 224, 480, 1023, 2047, 4095, 4095, 16383, 32767, 65535, 4095, 4095, 397311, 921599, 1970175, 4194303, 8388607, 16777215])] []) (c := Try.f99.body.getD .skip) (rs := [.tmp 4]) ⟨⟩ mixed Try.func99 (by kernel_rfl) (by kernel_rfl) [.slice a.a a.len a.cap, .slice p1_.a p1_.len p1_.cap] (by kernel_rfl) (by kernel_rfl) (.inr (by kernel_rfl)) (Eq.mp (by kernel_rfl) h)

def W.skeplaw00_SameJobs (a : Sl) (p1_ : Sl) (w : World) (K : Value → World → Prop) (KP : List PanicEntry → World → Prop) : Prop :=
   (cond (((a.len : Int) : Int) != (p1_.len : Int))
    (K (.bool false) w)
    (∃ (I1 : Int → World → Prop) (M2 : Int → World → Nat),
    (∃ u3 : Int, (.int .i64 0 : Value) = .int .i64 u3 ∧ I1 u3 w) ∧
    ∀ e0 : Env, ∀ v4 : Int, ∀ w5 : World, I1 v4 w5 →
    (cond (decide ((v4 : Int) < (a.len : Int)))
    (∀ w6, Drew w5 w6 →
    ((0 : Int) ≤ v4 ∧ (v4 : Int) < (a.len : Int)) ∧ withSome a.a fun a7 =>
    ∃ y8 : S.api_Job, (okVal true 9 (S.api_Job.v y8) = true ∧ rd w6 (Addr.add a7 (v4.toNat * 9)) (S.api_Job.v y8)) ∧
    ((0 : Int) ≤ v4 ∧ (v4 : Int) < (p1_.len : Int)) ∧ withSome p1_.a fun a9 =>
    ∃ y10 : S.api_Job, (okVal true 9 (S.api_Job.v y10) = true ∧ rd w6 (Addr.add a9 (v4.toNat * 9)) (S.api_Job.v y10)) ∧
    (cond (!((((y8.ID : Int) == y10.ID) && (((y8.Kind : Int) == y10.Kind) && (((y8.Order : Int) == y10.Order) && (((y8.Bin : Int) == y10.Bin) && ((((y8.From.X : Int) == y10.From.X) && (((y8.From.Y : Int) == y10.From.Y) && true)) && ((((y8.To.X : Int) == y10.To.X) && (((y8.To.Y : Int) == y10.To.Y) && true)) && (((y8.Robot : Int) == y10.Robot) && true)))))))))
    (K (.bool false) w6)
    (∃ u11 : Int, (.int .i64 (IntKind.i64.wrap (v4 + 1)) : Value) = .int .i64 u11 ∧ (I1 u11 w6 ∧ M2 u11 w6 < M2 v4 w5))))
    (K (.bool true) w5))))
theorem skeplaw00_SameJobs_of {a : Sl} {p1_ : Sl} {w : World} {K : Value → World → Prop} {KP : List PanicEntry → World → Prop} (h : W.skeplaw00_SameJobs a p1_ w K KP) : C.skeplaw00_SameJobs a p1_ w K KP :=
  xcall (E := E) (T := mkTab [(4, [(5, 3)])] [(4, [4, 5, 11, 12, 13, 14, 15, 16, 17, 18, 19, 20, 21, 22, 23, 24, 25])] [] [] [(6, [0, 1, 2, 3, 4, 5, 6, 7, 8])] [(6, [0, 0, 3, 7, 0, 0, 48, 112, 255])] []) (c := Try.f100.body.getD .skip) (rs := [.tmp 4]) ⟨⟩ mixed Try.func100 (by kernel_rfl) (by kernel_rfl) [.slice a.a a.len a.cap, .slice p1_.a p1_.len p1_.cap] (by kernel_rfl) (by kernel_rfl) (.inr (by kernel_rfl)) (Eq.mp (by kernel_rfl) h)

def W.skeplaw00_sameRobot (a : S.api_Robot) (p1_ : S.api_Robot) (w : World) (K : Value → World → Prop) (KP : List PanicEntry → World → Prop) : Prop :=
   ∀ (b1 : Nat) (w2 : World), Alloc w b1 116 (S.api_Robot.v a : Value).cells.toList w2 →
    ∀ (b3 : Nat) (w4 : World), Alloc w2 b3 116 (S.api_Robot.v p1_ : Value).cells.toList w4 →
    ∃ y5 : S.api_Pose, (okVal true 3 (S.api_Pose.v y5) = true ∧ rd w4 ⟨b1, 0, none⟩ (S.api_Pose.v y5)) ∧
    ∃ y6 : S.api_Pose, (okVal true 3 (S.api_Pose.v y6) = true ∧ rd w4 ⟨b3, 0, none⟩ (S.api_Pose.v y6)) ∧
    (cond ((((y5.At.X : Int) == y6.At.X) && (((y5.At.Y : Int) == y6.At.Y) && true)) && ((y5.Down == y6.Down) && true))
    (∃ y7 : Int, (okVal false 1 (.int .i64 y7) = true ∧ w4.cell? ⟨b1, 3, none⟩ = some (.int .i64 y7)) ∧
    ∃ y8 : Int, (okVal false 1 (.int .i64 y8) = true ∧ w4.cell? ⟨b3, 3, none⟩ = some (.int .i64 y8)) ∧
    (cond ((y7 : Int) == y8)
    (∃ y9 : Int, (okVal false 1 (.int .i64 y9) = true ∧ w4.cell? ⟨b1, 4, none⟩ = some (.int .i64 y9)) ∧
    ∃ y10 : Int, (okVal false 1 (.int .i64 y10) = true ∧ w4.cell? ⟨b3, 4, none⟩ = some (.int .i64 y10)) ∧
    (cond ((y9 : Int) == y10)
    (∃ y11 : Sl, (okVal false 1 (.slice y11.a y11.len y11.cap) = true ∧ w4.cell? ⟨b1, 5, none⟩ = some (.slice y11.a y11.len y11.cap)) ∧
    ∃ y12 : Sl, (okVal false 1 (.slice y12.a y12.len y12.cap) = true ∧ w4.cell? ⟨b3, 5, none⟩ = some (.slice y12.a y12.len y12.cap)) ∧
    C.skeplaw00_SameMoves y11 y12 w4 (fun r15 w13 => ∃ p14 : Bool, r15 = .bool p14 ∧
    (cond p14
    (∃ y16 : Bool, (okVal false 1 (.bool y16) = true ∧ w13.cell? ⟨b1, 6, none⟩ = some (.bool y16)) ∧
    ∃ y17 : Bool, (okVal false 1 (.bool y17) = true ∧ w13.cell? ⟨b3, 6, none⟩ = some (.bool y17)) ∧
    (cond (y16 == y17)
    (∃ y18 : Int, (okVal false 1 (.int .i64 y18) = true ∧ w13.cell? ⟨b1, 7, none⟩ = some (.int .i64 y18)) ∧
    ∃ y19 : Int, (okVal false 1 (.int .i64 y19) = true ∧ w13.cell? ⟨b3, 7, none⟩ = some (.int .i64 y19)) ∧
    (cond ((y18 : Int) == y19)
    (∃ y20 : Bool, (okVal false 1 (.bool y20) = true ∧ w13.cell? ⟨b1, 8, none⟩ = some (.bool y20)) ∧
    ∃ y21 : Bool, (okVal false 1 (.bool y21) = true ∧ w13.cell? ⟨b3, 8, none⟩ = some (.bool y21)) ∧
    K (.bool (y20 == y21)) w13)
    (K (.bool false) w13)))
    (K (.bool false) w13)))
    (K (.bool false) w13))) KP)
    (K (.bool false) w4)))
    (K (.bool false) w4)))
    (K (.bool false) w4))
theorem skeplaw00_sameRobot_of {a : S.api_Robot} {p1_ : S.api_Robot} {w : World} {K : Value → World → Prop} {KP : List PanicEntry → World → Prop} (h : W.skeplaw00_sameRobot a p1_ w K KP) : C.skeplaw00_sameRobot a p1_ w K KP :=
  xcall (E := E) (T := mkTab [] [] [] [] [] [] []) (c := Try.f101.body.getD .skip) (rs := [.tmp 4]) ⟨⟩ mixed Try.func101 (by kernel_rfl) (by kernel_rfl) [S.api_Robot.v a, S.api_Robot.v p1_] (by kernel_rfl) (by kernel_rfl) (.inr (by kernel_rfl)) (Eq.mp (by kernel_rfl) h)

def W.skeplaw00_SameInts (a : Sl) (p1_ : Sl) (w : World) (K : Value → World → Prop) (KP : List PanicEntry → World → Prop) : Prop :=
   (cond (((a.len : Int) : Int) != (p1_.len : Int))
    (K (.bool false) w)
    (∃ (I1 : Int → World → Prop) (M2 : Int → World → Nat),
    (∃ u3 : Int, (.int .i64 0 : Value) = .int .i64 u3 ∧ I1 u3 w) ∧
    ∀ e0 : Env, ∀ v4 : Int, ∀ w5 : World, I1 v4 w5 →
    (cond (decide ((v4 : Int) < (a.len : Int)))
    (∀ w6, Drew w5 w6 →
    ((0 : Int) ≤ v4 ∧ (v4 : Int) < (a.len : Int)) ∧ withSome a.a fun a7 =>
    ∃ y8 : Int, (okVal false 1 (.int .i64 y8) = true ∧ w6.cell? (Addr.add a7 (v4.toNat * 1)) = some (.int .i64 y8)) ∧
    ((0 : Int) ≤ v4 ∧ (v4 : Int) < (p1_.len : Int)) ∧ withSome p1_.a fun a9 =>
    ∃ y10 : Int, (okVal false 1 (.int .i64 y10) = true ∧ w6.cell? (Addr.add a9 (v4.toNat * 1)) = some (.int .i64 y10)) ∧
    (cond ((y8 : Int) != y10)
    (K (.bool false) w6)
    (∃ u11 : Int, (.int .i64 (IntKind.i64.wrap (v4 + 1)) : Value) = .int .i64 u11 ∧ (I1 u11 w6 ∧ M2 u11 w6 < M2 v4 w5))))
    (K (.bool true) w5))))
theorem skeplaw00_SameInts_of {a : Sl} {p1_ : Sl} {w : World} {K : Value → World → Prop} {KP : List PanicEntry → World → Prop} (h : W.skeplaw00_SameInts a p1_ w K KP) : C.skeplaw00_SameInts a p1_ w K KP :=
  xcall (E := E) (T := mkTab [(4, [(5, 3)])] [(4, [4, 5, 11, 12, 13, 14, 15, 16, 17, 18, 19, 20, 21, 22, 23, 24, 25])] [] [] [(6, [0, 1, 2, 3, 4, 5, 6, 7, 8])] [(6, [0, 0, 3, 7, 0, 0, 48, 112, 255])] []) (c := Try.f102.body.getD .skip) (rs := [.tmp 4]) ⟨⟩ mixed Try.func102 (by kernel_rfl) (by kernel_rfl) [.slice a.a a.len a.cap, .slice p1_.a p1_.len p1_.cap] (by kernel_rfl) (by kernel_rfl) (.inr (by kernel_rfl)) (Eq.mp (by kernel_rfl) h)
end Go.Proofs.Ytocbjadhcfjfiaa
