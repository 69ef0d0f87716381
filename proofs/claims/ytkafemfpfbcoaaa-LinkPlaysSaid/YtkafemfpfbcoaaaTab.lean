/- Printed by vc.py: the structures, the table of types, the calls of this seat. No conditions. -/
import Derived.Test.YtkafemfpfbcoaaaProg
import Derived.Test.YtkafemfpfbcoaaaEng
namespace Go.Proofs.Ytkafemfpfbcoaaa
open Go.Eng
set_option linter.unusedVariables false
structure S.api_Cell where
  X : Int
  Y : Int
@[reducible] def S.api_Cell.v (s : S.api_Cell) : Value := .agg #[.int .i64 s.X, .int .i64 s.Y]
structure S.api_Pose where
  At : S.api_Cell
  Down : Bool
@[reducible] def S.api_Pose.v (s : S.api_Pose) : Value := .agg #[.int .i64 s.At.X, .int .i64 s.At.Y, .bool s.Down]
structure S.api_Move where
  Kind : Int
  Dir : Int
  N : Int
  From : S.api_Pose
  To : S.api_Pose
  At : Int
  End : Int
@[reducible] def S.api_Move.v (s : S.api_Move) : Value := .agg #[.int .i64 s.Kind, .int .i64 s.Dir, .int .i64 s.N, .int .i64 s.From.At.X, .int .i64 s.From.At.Y, .bool s.From.Down, .int .i64 s.To.At.X, .int .i64 s.To.At.Y, .bool s.To.Down, .int .i64 s.At, .int .i64 s.End]
structure S.api_Tele where
  Kind : Int
  Robot : Int
  Epoch : Int
  Num : Int
  Move : S.api_Move
  Pose : S.api_Pose
  Load : Int
@[reducible] def S.api_Tele.v (s : S.api_Tele) : Value := .agg #[.int .i64 s.Kind, .int .i64 s.Robot, .int .i64 s.Epoch, .int .i64 s.Num, .int .i64 s.Move.Kind, .int .i64 s.Move.Dir, .int .i64 s.Move.N, .int .i64 s.Move.From.At.X, .int .i64 s.Move.From.At.Y, .bool s.Move.From.Down, .int .i64 s.Move.To.At.X, .int .i64 s.Move.To.At.Y, .bool s.Move.To.Down, .int .i64 s.Move.At, .int .i64 s.Move.End, .int .i64 s.Pose.At.X, .int .i64 s.Pose.At.Y, .bool s.Pose.Down, .int .i64 s.Load]
structure S.skeplaw17_Op where
  Kind : Int
  Robot : Int
  Now : Int
  T : S.api_Tele
@[reducible] def S.skeplaw17_Op.v (s : S.skeplaw17_Op) : Value := .agg #[.int .i64 s.Kind, .int .i64 s.Robot, .int .i64 s.Now, .int .i64 s.T.Kind, .int .i64 s.T.Robot, .int .i64 s.T.Epoch, .int .i64 s.T.Num, .int .i64 s.T.Move.Kind, .int .i64 s.T.Move.Dir, .int .i64 s.T.Move.N, .int .i64 s.T.Move.From.At.X, .int .i64 s.T.Move.From.At.Y, .bool s.T.Move.From.Down, .int .i64 s.T.Move.To.At.X, .int .i64 s.T.Move.To.At.Y, .bool s.T.Move.To.Down, .int .i64 s.T.Move.At, .int .i64 s.T.Move.End, .int .i64 s.T.Pose.At.X, .int .i64 s.T.Pose.At.Y, .bool s.T.Pose.Down, .int .i64 s.T.Load]
structure S.link_Link where
  robots : Int
  resend : Int
  waits : (Option Nat)
@[reducible] def S.link_Link.v (s : S.link_Link) : Value := .agg #[.int .i64 s.robots, .int .i64 s.resend, .map s.waits]
structure S.link_sent where
  t : S.api_Tele
  at_ : Int
@[reducible] def S.link_sent.v (s : S.link_sent) : Value := .agg #[.int .i64 s.t.Kind, .int .i64 s.t.Robot, .int .i64 s.t.Epoch, .int .i64 s.t.Num, .int .i64 s.t.Move.Kind, .int .i64 s.t.Move.Dir, .int .i64 s.t.Move.N, .int .i64 s.t.Move.From.At.X, .int .i64 s.t.Move.From.At.Y, .bool s.t.Move.From.Down, .int .i64 s.t.Move.To.At.X, .int .i64 s.t.Move.To.At.Y, .bool s.t.Move.To.Down, .int .i64 s.t.Move.At, .int .i64 s.t.Move.End, .int .i64 s.t.Pose.At.X, .int .i64 s.t.Pose.At.Y, .bool s.t.Pose.Down, .int .i64 s.t.Load, .int .i64 s.at_]
structure S.skepref17_Link where
  L : Sl
  Resend : Int
@[reducible] def S.skepref17_Link.v (s : S.skepref17_Link) : Value := .agg #[.slice s.L.a s.L.len s.L.cap, .int .i64 s.Resend]
structure S.skepref17_W where
  On : Bool
  T : S.api_Tele
  At : Int
@[reducible] def S.skepref17_W.v (s : S.skepref17_W) : Value := .agg #[.bool s.On, .int .i64 s.T.Kind, .int .i64 s.T.Robot, .int .i64 s.T.Epoch, .int .i64 s.T.Num, .int .i64 s.T.Move.Kind, .int .i64 s.T.Move.Dir, .int .i64 s.T.Move.N, .int .i64 s.T.Move.From.At.X, .int .i64 s.T.Move.From.At.Y, .bool s.T.Move.From.Down, .int .i64 s.T.Move.To.At.X, .int .i64 s.T.Move.To.At.Y, .bool s.T.Move.To.Down, .int .i64 s.T.Move.At, .int .i64 s.T.Move.End, .int .i64 s.T.Pose.At.X, .int .i64 s.T.Pose.At.Y, .bool s.T.Pose.Down, .int .i64 s.T.Load, .int .i64 s.At]
structure S.Ar68 where
  i0 : Int
  i1 : Int
@[reducible] def S.Ar68.v (s : S.Ar68) : Value := .agg #[.int .i64 s.i0, .int .i64 s.i1]
def etab : List (Nat × Ty) := [(0, ⟨Unit, fun y => .tuple #[]⟩),
  (3, ⟨Int, fun y => .int .i64 y⟩),
  (4, ⟨Bool, fun y => .bool y⟩),
  (22, ⟨Sl, fun y => .slice y.a y.len y.cap⟩),
  (24, ⟨(Option Addr), fun y => .pointer y⟩),
  (25, ⟨Int, fun y => .int .i64 y⟩),
  (26, ⟨((Option Addr) × Int), fun y => .tuple #[.pointer y.1, .int .i64 y.2]⟩),
  (29, ⟨S.api_Cell, fun y => S.api_Cell.v y⟩),
  (31, ⟨S.api_Pose, fun y => S.api_Pose.v y⟩),
  (33, ⟨S.api_Move, fun y => S.api_Move.v y⟩),
  (35, ⟨S.api_Tele, fun y => S.api_Tele.v y⟩),
  (37, ⟨(S.api_Tele × Int), fun y => .tuple #[S.api_Tele.v y.1, .int .i64 y.2]⟩),
  (42, ⟨(S.api_Tele × Bool), fun y => .tuple #[S.api_Tele.v y.1, .bool y.2]⟩),
  (45, ⟨Sl, fun y => .slice y.a y.len y.cap⟩),
  (50, ⟨Sl, fun y => .slice y.a y.len y.cap⟩),
  (51, ⟨(Option Addr), fun y => .pointer y⟩),
  (54, ⟨S.skeplaw17_Op, fun y => S.skeplaw17_Op.v y⟩),
  (57, ⟨(Option Nat), fun y => .map y⟩),
  (61, ⟨S.link_sent, fun y => S.link_sent.v y⟩),
  (62, ⟨(S.link_sent × Bool), fun y => .tuple #[S.link_sent.v y.1, .bool y.2]⟩),
  (63, ⟨Sl, fun y => .slice y.a y.len y.cap⟩),
  (68, ⟨S.Ar68, fun y => S.Ar68.v y⟩),
  (1000001, ⟨(Option Addr), fun y => .pointer y⟩),
  (1000002, ⟨Nat, fun y => .pointer (some ⟨y, 0, none⟩)⟩),
  (1000010, ⟨Int, fun y => .int .i8 y⟩),
  (1000011, ⟨Int, fun y => .int .i16 y⟩),
  (1000012, ⟨Int, fun y => .int .i32 y⟩),
  (1000013, ⟨Int, fun y => .int .i64 y⟩),
  (1000014, ⟨Int, fun y => .int .u8 y⟩),
  (1000015, ⟨Int, fun y => .int .u16 y⟩),
  (1000016, ⟨Int, fun y => .int .u32 y⟩),
  (1000017, ⟨Int, fun y => .int .u64 y⟩),
  (1000030, ⟨Bool, fun y => .bool y⟩),
  (1000031, ⟨ByteArray, fun y => .string y⟩),
  (1000032, ⟨Sl, fun y => .slice y.a y.len y.cap⟩),
  (1000033, ⟨(Option Nat), fun y => .map y⟩)]
@[reducible] def lookT : List (Nat × Ty) → Nat → Ty
  | [], _ => ⟨Value, fun y => y⟩
  | (k, x) :: r, i => match Nat.beq k i with | true => x | false => lookT r i
@[reducible] def E (t : TypeId) : Ty := lookT etab t
theorem mixed : Try.prog.follows .mixedOrders = true := by kernel_rfl
namespace C
@[reducible] def skeplaw17_LinkOrder (l : Sl) (now : Int) (w : World) (K : Value → World → Prop) (KP : List PanicEntry → World → Prop) : Prop := Calls Try.prog 3 #[.slice l.a l.len l.cap, .int .i64 now] w (Ret K KP)
@[reducible] def skeplaw17_LinkNews (robots : Int) (resend : Int) (w : World) (K : Value → World → Prop) (KP : List PanicEntry → World → Prop) : Prop := Calls Try.prog 4 #[.int .i64 robots, .int .i64 resend] w (Ret K KP)
@[reducible] def skeplaw17_LinkAgain (resend : Int) (gaps : Sl) (got : Int) (w : World) (K : Value → World → Prop) (KP : List PanicEntry → World → Prop) : Prop := Calls Try.prog 5 #[.int .i64 resend, .slice gaps.a gaps.len gaps.cap, .int .i64 got] w (Ret K KP)
@[reducible] def skeplaw17_LinkLast (l : Sl) (t : S.api_Tele) (now : Int) (w : World) (K : Value → World → Prop) (KP : List PanicEntry → World → Prop) : Prop := Calls Try.prog 6 #[.slice l.a l.len l.cap, S.api_Tele.v t, .int .i64 now] w (Ret K KP)
@[reducible] def skeplaw17_LinkPlays (robots : Int) (resend : Int) (script : Sl) (w : World) (K : Value → World → Prop) (KP : List PanicEntry → World → Prop) : Prop := Calls Try.prog 7 #[.int .i64 robots, .int .i64 resend, .slice script.a script.len script.cap] w (Ret K KP)
@[reducible] def skeplaw17_LinkClears (l : Sl) (now : Int) (w : World) (K : Value → World → Prop) (KP : List PanicEntry → World → Prop) : Prop := Calls Try.prog 8 #[.slice l.a l.len l.cap, .int .i64 now] w (Ret K KP)
@[reducible] def skeplaw00_Place (v : Int) (n : Int) (w : World) (K : Value → World → Prop) (KP : List PanicEntry → World → Prop) : Prop := Calls Try.prog 9 #[.int .i64 v, .int .i64 n] w (Ret K KP)
@[reducible] def link_New (robots : Int) (resend : Int) (w : World) (K : Value → World → Prop) (KP : List PanicEntry → World → Prop) : Prop := Calls Try.prog 10 #[.int .i64 robots, .int .i64 resend] w (Ret K KP)
@[reducible] def link_Link_Send (l : (Option Addr)) (t : S.api_Tele) (now : Int) (w : World) (K : Value → World → Prop) (KP : List PanicEntry → World → Prop) : Prop := Calls Try.prog 11 #[.pointer l, S.api_Tele.v t, .int .i64 now] w (Ret K KP)
@[reducible] def link_Link_Due (l : (Option Addr)) (now : Int) (w : World) (K : Value → World → Prop) (KP : List PanicEntry → World → Prop) : Prop := Calls Try.prog 12 #[.pointer l, .int .i64 now] w (Ret K KP)
@[reducible] def skeplaw17_awake (w : World) (K : Value → World → Prop) (KP : List PanicEntry → World → Prop) : Prop := Calls Try.prog 13 #[] w (Ret K KP)
@[reducible] def link_Link_Waits (l : (Option Addr)) (robot : Int) (w : World) (K : Value → World → Prop) (KP : List PanicEntry → World → Prop) : Prop := Calls Try.prog 14 #[.pointer l, .int .i64 robot] w (Ret K KP)
@[reducible] def link_Link_Got (l : (Option Addr)) (robot : Int) (w : World) (K : Value → World → Prop) (KP : List PanicEntry → World → Prop) : Prop := Calls Try.prog 15 #[.pointer l, .int .i64 robot] w (Ret K KP)
@[reducible] def skepref17_New (robots : Int) (resend : Int) (w : World) (K : Value → World → Prop) (KP : List PanicEntry → World → Prop) : Prop := Calls Try.prog 16 #[.int .i64 robots, .int .i64 resend] w (Ret K KP)
@[reducible] def skepref17_Link_Send (l : (Option Addr)) (t : S.api_Tele) (now : Int) (w : World) (K : Value → World → Prop) (KP : List PanicEntry → World → Prop) : Prop := Calls Try.prog 17 #[.pointer l, S.api_Tele.v t, .int .i64 now] w (Ret K KP)
@[reducible] def skepref17_Link_Got (l : (Option Addr)) (robot : Int) (w : World) (K : Value → World → Prop) (KP : List PanicEntry → World → Prop) : Prop := Calls Try.prog 18 #[.pointer l, .int .i64 robot] w (Ret K KP)
@[reducible] def skeplaw00_SameTeles (a : Sl) (p1_ : Sl) (w : World) (K : Value → World → Prop) (KP : List PanicEntry → World → Prop) : Prop := Calls Try.prog 19 #[.slice a.a a.len a.cap, .slice p1_.a p1_.len p1_.cap] w (Ret K KP)
@[reducible] def skepref17_Link_Due (l : (Option Addr)) (now : Int) (w : World) (K : Value → World → Prop) (KP : List PanicEntry → World → Prop) : Prop := Calls Try.prog 20 #[.pointer l, .int .i64 now] w (Ret K KP)
@[reducible] def link_Link_Clear (l : (Option Addr)) (w : World) (K : Value → World → Prop) (KP : List PanicEntry → World → Prop) : Prop := Calls Try.prog 21 #[.pointer l] w (Ret K KP)
@[reducible] def skepref17_Link_Clear (l : (Option Addr)) (w : World) (K : Value → World → Prop) (KP : List PanicEntry → World → Prop) : Prop := Calls Try.prog 22 #[.pointer l] w (Ret K KP)
@[reducible] def skepref17_Link_Waits (l : (Option Addr)) (robot : Int) (w : World) (K : Value → World → Prop) (KP : List PanicEntry → World → Prop) : Prop := Calls Try.prog 23 #[.pointer l, .int .i64 robot] w (Ret K KP)
@[reducible] def tick_Less (a : Int) (p1_ : Int) (w : World) (K : Value → World → Prop) (KP : List PanicEntry → World → Prop) : Prop := Calls Try.prog 24 #[.int .i64 a, .int .i64 p1_] w (Ret K KP)
@[reducible] def skepref01_Less (a : Int) (p1_ : Int) (w : World) (K : Value → World → Prop) (KP : List PanicEntry → World → Prop) : Prop := Calls Try.prog 25 #[.int .i64 a, .int .i64 p1_] w (Ret K KP)
@[reducible] def tick_both (a : Int) (p1_ : Int) (w : World) (K : Value → World → Prop) (KP : List PanicEntry → World → Prop) : Prop := Calls Try.prog 26 #[.int .i64 a, .int .i64 p1_] w (Ret K KP)
@[reducible] def skepref01_Cut (a : Int) (w : World) (K : Value → World → Prop) (KP : List PanicEntry → World → Prop) : Prop := Calls Try.prog 27 #[.int .i64 a] w (Ret K KP)
@[reducible] def tick_Cut (a : Int) (w : World) (K : Value → World → Prop) (KP : List PanicEntry → World → Prop) : Prop := Calls Try.prog 28 #[.int .i64 a] w (Ret K KP)
end C
end Go.Proofs.Ytkafemfpfbcoaaa
