/- Printed by vc.py: the structures, the table of types, the calls of this seat. No conditions. -/
import Derived.Test.YtocbjadhcfjfiaaProg
import Derived.Test.YtocbjadhcfjfiaaEng
namespace Go.Proofs.Ytocbjadhcfjfiaa
open Go.Eng
set_option linter.unusedVariables false
structure S.skepref05_R where
  B : Sl
  At : Int
  Bad : Bool
@[reducible] def S.skepref05_R.v (s : S.skepref05_R) : Value := .agg #[.slice s.B.a s.B.len s.B.cap, .int .i64 s.At, .bool s.Bad]
structure S.api_Op where
  Kind : Int
  A : Int
  B : Int
@[reducible] def S.api_Op.v (s : S.api_Op) : Value := .agg #[.int .i64 s.Kind, .int .i64 s.A, .int .i64 s.B]
structure S.api_Cell where
  X : Int
  Y : Int
@[reducible] def S.api_Cell.v (s : S.api_Cell) : Value := .agg #[.int .i64 s.X, .int .i64 s.Y]
structure S.api_Pose where
  At : S.api_Cell
  Down : Bool
@[reducible] def S.api_Pose.v (s : S.api_Pose) : Value := .agg #[.int .i64 s.At.X, .int .i64 s.At.Y, .bool s.Down]
structure S.api_Move where
  Kind : Int
  Dir : Int
  N : Int
  From : S.api_Pose
  To : S.api_Pose
  At : Int
  End : Int
@[reducible] def S.api_Move.v (s : S.api_Move) : Value := .agg #[.int .i64 s.Kind, .int .i64 s.Dir, .int .i64 s.N, .int .i64 s.From.At.X, .int .i64 s.From.At.Y, .bool s.From.Down, .int .i64 s.To.At.X, .int .i64 s.To.At.Y, .bool s.To.Down, .int .i64 s.At, .int .i64 s.End]
structure S.api_Tele where
  Kind : Int
  Robot : Int
  Epoch : Int
  Num : Int
  Move : S.api_Move
  Pose : S.api_Pose
  Load : Int
@[reducible] def S.api_Tele.v (s : S.api_Tele) : Value := .agg #[.int .i64 s.Kind, .int .i64 s.Robot, .int .i64 s.Epoch, .int .i64 s.Num, .int .i64 s.Move.Kind, .int .i64 s.Move.Dir, .int .i64 s.Move.N, .int .i64 s.Move.From.At.X, .int .i64 s.Move.From.At.Y, .bool s.Move.From.Down, .int .i64 s.Move.To.At.X, .int .i64 s.Move.To.At.Y, .bool s.Move.To.Down, .int .i64 s.Move.At, .int .i64 s.Move.End, .int .i64 s.Pose.At.X, .int .i64 s.Pose.At.Y, .bool s.Pose.Down, .int .i64 s.Load]
structure S.api_Event where
  Kind : Int
  A : Int
  B : Int
  Pose : S.api_Pose
  Moves : Sl
@[reducible] def S.api_Event.v (s : S.api_Event) : Value := .agg #[.int .i64 s.Kind, .int .i64 s.A, .int .i64 s.B, .int .i64 s.Pose.At.X, .int .i64 s.Pose.At.Y, .bool s.Pose.Down, .slice s.Moves.a s.Moves.len s.Moves.cap]
structure S.api_State where
  Seq : Int
  Epoch : Int
  Held : Bool
  Stacks : Sl
  Robots : Sl
  Ports : Sl
  Orders : Sl
  Jobs : Sl
  NextOrder : Int
  NextJob : Int
@[reducible] def S.api_State.v (s : S.api_State) : Value := .agg #[.int .i64 s.Seq, .int .i64 s.Epoch, .bool s.Held, .slice s.Stacks.a s.Stacks.len s.Stacks.cap, .slice s.Robots.a s.Robots.len s.Robots.cap, .slice s.Ports.a s.Ports.len s.Ports.cap, .slice s.Orders.a s.Orders.len s.Orders.cap, .slice s.Jobs.a s.Jobs.len s.Jobs.cap, .int .i64 s.NextOrder, .int .i64 s.NextJob]
structure S.api_Stack where
  At : S.api_Cell
  Bins : Sl
@[reducible] def S.api_Stack.v (s : S.api_Stack) : Value := .agg #[.int .i64 s.At.X, .int .i64 s.At.Y, .slice s.Bins.a s.Bins.len s.Bins.cap]
structure S.api_Robot where
  At : S.api_Pose
  Load : Int
  Job : Int
  Moves : Sl
  Out : Bool
  Num : Int
  Stands : Bool
@[reducible] def S.api_Robot.v (s : S.api_Robot) : Value := .agg #[.int .i64 s.At.At.X, .int .i64 s.At.At.Y, .bool s.At.Down, .int .i64 s.Load, .int .i64 s.Job, .slice s.Moves.a s.Moves.len s.Moves.cap, .bool s.Out, .int .i64 s.Num, .bool s.Stands]
structure S.api_Port where
  Bin : Int
  Active : Int
  Queue : Sl
@[reducible] def S.api_Port.v (s : S.api_Port) : Value := .agg #[.int .i64 s.Bin, .int .i64 s.Active, .slice s.Queue.a s.Queue.len s.Queue.cap]
structure S.api_Order where
  ID : Int
  Bin : Int
  Port : Int
  State : Int
@[reducible] def S.api_Order.v (s : S.api_Order) : Value := .agg #[.int .i64 s.ID, .int .i64 s.Bin, .int .i64 s.Port, .int .i64 s.State]
structure S.api_Job where
  ID : Int
  Kind : Int
  Order : Int
  Bin : Int
  From : S.api_Cell
  To : S.api_Cell
  Robot : Int
@[reducible] def S.api_Job.v (s : S.api_Job) : Value := .agg #[.int .i64 s.ID, .int .i64 s.Kind, .int .i64 s.Order, .int .i64 s.Bin, .int .i64 s.From.X, .int .i64 s.From.Y, .int .i64 s.To.X, .int .i64 s.To.Y, .int .i64 s.Robot]
structure S.codec_reader where
  b_ : Sl
  at_ : Int
@[reducible] def S.codec_reader.v (s : S.codec_reader) : Value := .agg #[.slice s.b_.a s.b_.len s.b_.cap, .int .i64 s.at_]
structure S.codec_none where
  mk ::
@[reducible] def S.codec_none.v (s : S.codec_none) : Value := .agg #[]
def etab : List (Nat × Ty) := [(3, ⟨Int, fun y => .int .i64 y⟩),
  (4, ⟨Bool, fun y => .bool y⟩),
  (5, ⟨Int, fun y => .int .u8 y⟩),
  (22, ⟨Sl, fun y => .slice y.a y.len y.cap⟩),
  (23, ⟨Value, fun y => y⟩),
  (25, ⟨(Int × Int × Bool), fun y => .tuple #[.int .i64 y.1, .int .i64 y.2.1, .bool y.2.2]⟩),
  (29, ⟨(Option Addr), fun y => .pointer y⟩),
  (32, ⟨Value, fun y => y⟩),
  (35, ⟨S.api_Op, fun y => S.api_Op.v y⟩),
  (37, ⟨Int, fun y => .int .i64 y⟩),
  (38, ⟨(S.api_Op × Int), fun y => .tuple #[S.api_Op.v y.1, .int .i64 y.2]⟩),
  (40, ⟨(S.api_Op × Bool), fun y => .tuple #[S.api_Op.v y.1, .bool y.2]⟩),
  (43, ⟨Int, fun y => .int .u64 y⟩),
  (47, ⟨S.api_Cell, fun y => S.api_Cell.v y⟩),
  (49, ⟨S.api_Pose, fun y => S.api_Pose.v y⟩),
  (51, ⟨S.api_Move, fun y => S.api_Move.v y⟩),
  (53, ⟨S.api_Tele, fun y => S.api_Tele.v y⟩),
  (56, ⟨(S.api_Tele × Int), fun y => .tuple #[S.api_Tele.v y.1, .int .i64 y.2]⟩),
  (58, ⟨(S.api_Tele × Bool), fun y => .tuple #[S.api_Tele.v y.1, .bool y.2]⟩),
  (61, ⟨Sl, fun y => .slice y.a y.len y.cap⟩),
  (63, ⟨S.api_Event, fun y => S.api_Event.v y⟩),
  (66, ⟨(S.api_Event × Int), fun y => .tuple #[S.api_Event.v y.1, .int .i64 y.2]⟩),
  (68, ⟨(S.api_Event × Bool), fun y => .tuple #[S.api_Event.v y.1, .bool y.2]⟩),
  (72, ⟨Sl, fun y => .slice y.a y.len y.cap⟩),
  (73, ⟨Sl, fun y => .slice y.a y.len y.cap⟩),
  (74, ⟨Sl, fun y => .slice y.a y.len y.cap⟩),
  (75, ⟨Sl, fun y => .slice y.a y.len y.cap⟩),
  (76, ⟨Sl, fun y => .slice y.a y.len y.cap⟩),
  (78, ⟨S.api_State, fun y => S.api_State.v y⟩),
  (80, ⟨(S.api_State × Int), fun y => .tuple #[S.api_State.v y.1, .int .i64 y.2]⟩),
  (82, ⟨(S.api_State × Bool), fun y => .tuple #[S.api_State.v y.1, .bool y.2]⟩),
  (91, ⟨(Option Addr), fun y => .pointer y⟩),
  (92, ⟨Value, fun y => y⟩),
  (94, ⟨Value, fun y => y⟩),
  (96, ⟨Value, fun y => y⟩),
  (98, ⟨Value, fun y => y⟩),
  (102, ⟨Value, fun y => y⟩),
  (108, ⟨Sl, fun y => .slice y.a y.len y.cap⟩),
  (110, ⟨S.api_Stack, fun y => S.api_Stack.v y⟩),
  (113, ⟨Value, fun y => y⟩),
  (116, ⟨S.api_Robot, fun y => S.api_Robot.v y⟩),
  (117, ⟨Value, fun y => y⟩),
  (120, ⟨S.api_Port, fun y => S.api_Port.v y⟩),
  (121, ⟨Value, fun y => y⟩),
  (124, ⟨S.api_Order, fun y => S.api_Order.v y⟩),
  (125, ⟨Value, fun y => y⟩),
  (128, ⟨S.api_Job, fun y => S.api_Job.v y⟩),
  (129, ⟨Value, fun y => y⟩),
  (134, ⟨Value, fun y => y⟩),
  (136, ⟨Value, fun y => y⟩),
  (138, ⟨Value, fun y => y⟩),
  (140, ⟨Value, fun y => y⟩),
  (142, ⟨Value, fun y => y⟩),
  (143, ⟨Value, fun y => y⟩),
  (1000001, ⟨(Option Addr), fun y => .pointer y⟩),
  (1000002, ⟨Nat, fun y => .pointer (some ⟨y, 0, none⟩)⟩),
  (1000010, ⟨Int, fun y => .int .i8 y⟩),
  (1000011, ⟨Int, fun y => .int .i16 y⟩),
  (1000012, ⟨Int, fun y => .int .i32 y⟩),
  (1000013, ⟨Int, fun y => .int .i64 y⟩),
  (1000014, ⟨Int, fun y => .int .u8 y⟩),
  (1000015, ⟨Int, fun y => .int .u16 y⟩),
  (1000016, ⟨Int, fun y => .int .u32 y⟩),
  (1000017, ⟨Int, fun y => .int .u64 y⟩),
  (1000030, ⟨Bool, fun y => .bool y⟩),
  (1000031, ⟨ByteArray, fun y => .string y⟩),
  (1000032, ⟨Sl, fun y => .slice y.a y.len y.cap⟩),
  (1000033, ⟨(Option Nat), fun y => .map y⟩)]
@[reducible] def lookT : List (Nat × Ty) → Nat → Ty
  | [], _ => ⟨Value, fun y => y⟩
  | (k, x) :: r, i => match Nat.beq k i with | true => x | false => lookT r i
@[reducible] def E (t : TypeId) : Ty := lookT etab t
theorem mixed : Try.prog.follows .mixedOrders = true := by kernel_rfl
namespace C
@[reducible] def skeplaw05_CodecNumbers (v : Int) (p1_ : Sl) (p2_ : Int) (w : World) (K : Value → World → Prop) (KP : List PanicEntry → World → Prop) : Prop := Calls Try.prog 3 #[.int .i64 v, .slice p1_.a p1_.len p1_.cap, .int .i64 p2_] w (Ret K KP)
@[reducible] def skeplaw05_CodecOps (o : S.api_Op) (p1_ : Sl) (w : World) (K : Value → World → Prop) (KP : List PanicEntry → World → Prop) : Prop := Calls Try.prog 4 #[S.api_Op.v o, .slice p1_.a p1_.len p1_.cap] w (Ret K KP)
@[reducible] def skeplaw05_CodecSizes (a : Int) (p1_ : Int) (w : World) (K : Value → World → Prop) (KP : List PanicEntry → World → Prop) : Prop := Calls Try.prog 5 #[.int .i64 a, .int .i64 p1_] w (Ret K KP)
@[reducible] def skeplaw05_CodecUnlike (a : S.api_Op) (p1_ : S.api_Op) (t : S.api_Tele) (u : S.api_Tele) (w : World) (K : Value → World → Prop) (KP : List PanicEntry → World → Prop) : Prop := Calls Try.prog 6 #[S.api_Op.v a, S.api_Op.v p1_, S.api_Tele.v t, S.api_Tele.v u] w (Ret K KP)
@[reducible] def skeplaw05_CodecTeles (t : S.api_Tele) (p1_ : Sl) (w : World) (K : Value → World → Prop) (KP : List PanicEntry → World → Prop) : Prop := Calls Try.prog 7 #[S.api_Tele.v t, .slice p1_.a p1_.len p1_.cap] w (Ret K KP)
@[reducible] def skeplaw05_CodecEvents (p0_ : S.api_Event) (p1_ : Sl) (w : World) (K : Value → World → Prop) (KP : List PanicEntry → World → Prop) : Prop := Calls Try.prog 8 #[S.api_Event.v p0_, .slice p1_.a p1_.len p1_.cap] w (Ret K KP)
@[reducible] def skeplaw05_CodecStates (s : S.api_State) (p1_ : Sl) (w : World) (K : Value → World → Prop) (KP : List PanicEntry → World → Prop) : Prop := Calls Try.prog 9 #[S.api_State.v s, .slice p1_.a p1_.len p1_.cap] w (Ret K KP)
@[reducible] def skeplaw05_CodecCuts (s : S.api_State) (p1_ : S.api_Event) (p2_ : Int) (more : Sl) (w : World) (K : Value → World → Prop) (KP : List PanicEntry → World → Prop) : Prop := Calls Try.prog 10 #[S.api_State.v s, S.api_Event.v p1_, .int .i64 p2_, .slice more.a more.len more.cap] w (Ret K KP)
@[reducible] def skeplaw05_CodecOne (p0_ : Sl) (w : World) (K : Value → World → Prop) (KP : List PanicEntry → World → Prop) : Prop := Calls Try.prog 11 #[.slice p0_.a p0_.len p0_.cap] w (Ret K KP)
@[reducible] def codec_PutNumber (p0_ : Sl) (v : Int) (w : World) (K : Value → World → Prop) (KP : List PanicEntry → World → Prop) : Prop := Calls Try.prog 12 #[.slice p0_.a p0_.len p0_.cap, .int .i64 v] w (Ret K KP)
@[reducible] def skepref05_Number (v : Int) (w : World) (K : Value → World → Prop) (KP : List PanicEntry → World → Prop) : Prop := Calls Try.prog 13 #[.int .i64 v] w (Ret K KP)
@[reducible] def codec_GetNumber (p0_ : Sl) (p1_ : Int) (w : World) (K : Value → World → Prop) (KP : List PanicEntry → World → Prop) : Prop := Calls Try.prog 14 #[.slice p0_.a p0_.len p0_.cap, .int .i64 p1_] w (Ret K KP)
@[reducible] def skeplaw00_CopyBytes (p0_ : Sl) (w : World) (K : Value → World → Prop) (KP : List PanicEntry → World → Prop) : Prop := Calls Try.prog 15 #[.slice p0_.a p0_.len p0_.cap] w (Ret K KP)
@[reducible] def skeplaw05_awake (w : World) (K : Value → World → Prop) (KP : List PanicEntry → World → Prop) : Prop := Calls Try.prog 16 #[] w (Ret K KP)
@[reducible] def skepref05_R_Number (r : (Option Addr)) (w : World) (K : Value → World → Prop) (KP : List PanicEntry → World → Prop) : Prop := Calls Try.prog 17 #[.pointer r] w (Ret K KP)
@[reducible] def codec_PutOp (o : S.api_Op) (w : World) (K : Value → World → Prop) (KP : List PanicEntry → World → Prop) : Prop := Calls Try.prog 18 #[S.api_Op.v o] w (Ret K KP)
@[reducible] def codec_GetOp (p0_ : Sl) (w : World) (K : Value → World → Prop) (KP : List PanicEntry → World → Prop) : Prop := Calls Try.prog 19 #[.slice p0_.a p0_.len p0_.cap] w (Ret K KP)
@[reducible] def skepref05_GetOp (p0_ : Sl) (w : World) (K : Value → World → Prop) (KP : List PanicEntry → World → Prop) : Prop := Calls Try.prog 20 #[.slice p0_.a p0_.len p0_.cap] w (Ret K KP)
@[reducible] def skepref05_PutOp (o : S.api_Op) (w : World) (K : Value → World → Prop) (KP : List PanicEntry → World → Prop) : Prop := Calls Try.prog 21 #[S.api_Op.v o] w (Ret K KP)
@[reducible] def skeplaw05_CodecSizes_1 (v : Int) (w : World) (K : Value → World → Prop) (KP : List PanicEntry → World → Prop) : Prop := Calls Try.prog 22 #[.int .i64 v] w (Ret K KP)
@[reducible] def codec_PutTele (t : S.api_Tele) (w : World) (K : Value → World → Prop) (KP : List PanicEntry → World → Prop) : Prop := Calls Try.prog 23 #[S.api_Tele.v t] w (Ret K KP)
@[reducible] def codec_GetTele (p0_ : Sl) (w : World) (K : Value → World → Prop) (KP : List PanicEntry → World → Prop) : Prop := Calls Try.prog 24 #[.slice p0_.a p0_.len p0_.cap] w (Ret K KP)
@[reducible] def skepref05_GetTele (p0_ : Sl) (w : World) (K : Value → World → Prop) (KP : List PanicEntry → World → Prop) : Prop := Calls Try.prog 25 #[.slice p0_.a p0_.len p0_.cap] w (Ret K KP)
@[reducible] def skepref05_PutTele (t : S.api_Tele) (w : World) (K : Value → World → Prop) (KP : List PanicEntry → World → Prop) : Prop := Calls Try.prog 26 #[S.api_Tele.v t] w (Ret K KP)
@[reducible] def codec_PutEvent (p0_ : S.api_Event) (w : World) (K : Value → World → Prop) (KP : List PanicEntry → World → Prop) : Prop := Calls Try.prog 27 #[S.api_Event.v p0_] w (Ret K KP)
@[reducible] def skeplaw00_CopyEvent (p0_ : S.api_Event) (w : World) (K : Value → World → Prop) (KP : List PanicEntry → World → Prop) : Prop := Calls Try.prog 28 #[S.api_Event.v p0_] w (Ret K KP)
@[reducible] def codec_GetEvent (p0_ : Sl) (w : World) (K : Value → World → Prop) (KP : List PanicEntry → World → Prop) : Prop := Calls Try.prog 29 #[.slice p0_.a p0_.len p0_.cap] w (Ret K KP)
@[reducible] def skepref05_GetEvent (p0_ : Sl) (w : World) (K : Value → World → Prop) (KP : List PanicEntry → World → Prop) : Prop := Calls Try.prog 30 #[.slice p0_.a p0_.len p0_.cap] w (Ret K KP)
@[reducible] def skepref05_PutEvent (p0_ : S.api_Event) (w : World) (K : Value → World → Prop) (KP : List PanicEntry → World → Prop) : Prop := Calls Try.prog 31 #[S.api_Event.v p0_] w (Ret K KP)
@[reducible] def skeplaw00_SameEvent (a : S.api_Event) (p1_ : S.api_Event) (w : World) (K : Value → World → Prop) (KP : List PanicEntry → World → Prop) : Prop := Calls Try.prog 32 #[S.api_Event.v a, S.api_Event.v p1_] w (Ret K KP)
@[reducible] def codec_PutState (s : S.api_State) (w : World) (K : Value → World → Prop) (KP : List PanicEntry → World → Prop) : Prop := Calls Try.prog 33 #[S.api_State.v s] w (Ret K KP)
@[reducible] def codec_GetState (p0_ : Sl) (w : World) (K : Value → World → Prop) (KP : List PanicEntry → World → Prop) : Prop := Calls Try.prog 34 #[.slice p0_.a p0_.len p0_.cap] w (Ret K KP)
@[reducible] def skepref05_GetState (p0_ : Sl) (w : World) (K : Value → World → Prop) (KP : List PanicEntry → World → Prop) : Prop := Calls Try.prog 35 #[.slice p0_.a p0_.len p0_.cap] w (Ret K KP)
@[reducible] def skepref05_PutState (s : S.api_State) (w : World) (K : Value → World → Prop) (KP : List PanicEntry → World → Prop) : Prop := Calls Try.prog 36 #[S.api_State.v s] w (Ret K KP)
@[reducible] def skeplaw00_SameState (a : S.api_State) (p1_ : S.api_State) (w : World) (K : Value → World → Prop) (KP : List PanicEntry → World → Prop) : Prop := Calls Try.prog 37 #[S.api_State.v a, S.api_State.v p1_] w (Ret K KP)
@[reducible] def skeplaw00_Place (v : Int) (n : Int) (w : World) (K : Value → World → Prop) (KP : List PanicEntry → World → Prop) : Prop := Calls Try.prog 38 #[.int .i64 v, .int .i64 n] w (Ret K KP)
@[reducible] def codec_number (p0_ : Sl) (v : Int) (w : World) (K : Value → World → Prop) (KP : List PanicEntry → World → Prop) : Prop := Calls Try.prog 39 #[.slice p0_.a p0_.len p0_.cap, .int .i64 v] w (Ret K KP)
@[reducible] def codec_read_api_Op (p0_ : Sl) (thing : Value) (w : World) (K : Value → World → Prop) (KP : List PanicEntry → World → Prop) : Prop := Calls Try.prog 40 #[.slice p0_.a p0_.len p0_.cap, thing] w (Ret K KP)
@[reducible] def codec_GetOp_1 (r : (Option Addr)) (w : World) (K : Value → World → Prop) (KP : List PanicEntry → World → Prop) : Prop := Calls Try.prog 41 #[.pointer r] w (Ret K KP)
@[reducible] def codec_reader_number (r : (Option Addr)) (w : World) (K : Value → World → Prop) (KP : List PanicEntry → World → Prop) : Prop := Calls Try.prog 42 #[.pointer r] w (Ret K KP)
@[reducible] def skepref05_R_whole (r : (Option Addr)) (w : World) (K : Value → World → Prop) (KP : List PanicEntry → World → Prop) : Prop := Calls Try.prog 43 #[.pointer r] w (Ret K KP)
@[reducible] def skepref05_num (p0_ : Sl) (v : Int) (w : World) (K : Value → World → Prop) (KP : List PanicEntry → World → Prop) : Prop := Calls Try.prog 44 #[.slice p0_.a p0_.len p0_.cap, .int .i64 v] w (Ret K KP)
@[reducible] def codec_pose (p0_ : Sl) (p : S.api_Pose) (w : World) (K : Value → World → Prop) (KP : List PanicEntry → World → Prop) : Prop := Calls Try.prog 45 #[.slice p0_.a p0_.len p0_.cap, S.api_Pose.v p] w (Ret K KP)
@[reducible] def codec_move (p0_ : Sl) (m : S.api_Move) (w : World) (K : Value → World → Prop) (KP : List PanicEntry → World → Prop) : Prop := Calls Try.prog 46 #[.slice p0_.a p0_.len p0_.cap, S.api_Move.v m] w (Ret K KP)
@[reducible] def codec_read_api_Tele (p0_ : Sl) (thing : Value) (w : World) (K : Value → World → Prop) (KP : List PanicEntry → World → Prop) : Prop := Calls Try.prog 47 #[.slice p0_.a p0_.len p0_.cap, thing] w (Ret K KP)
@[reducible] def codec_GetTele_1 (r : (Option Addr)) (w : World) (K : Value → World → Prop) (KP : List PanicEntry → World → Prop) : Prop := Calls Try.prog 48 #[.pointer r] w (Ret K KP)
@[reducible] def codec_reader_move (r : (Option Addr)) (w : World) (K : Value → World → Prop) (KP : List PanicEntry → World → Prop) : Prop := Calls Try.prog 49 #[.pointer r] w (Ret K KP)
@[reducible] def codec_reader_pose (r : (Option Addr)) (w : World) (K : Value → World → Prop) (KP : List PanicEntry → World → Prop) : Prop := Calls Try.prog 50 #[.pointer r] w (Ret K KP)
@[reducible] def skepref05_R_move (r : (Option Addr)) (w : World) (K : Value → World → Prop) (KP : List PanicEntry → World → Prop) : Prop := Calls Try.prog 51 #[.pointer r] w (Ret K KP)
@[reducible] def skepref05_R_pose (r : (Option Addr)) (w : World) (K : Value → World → Prop) (KP : List PanicEntry → World → Prop) : Prop := Calls Try.prog 52 #[.pointer r] w (Ret K KP)
@[reducible] def skepref05_pose (p0_ : Sl) (p : S.api_Pose) (w : World) (K : Value → World → Prop) (KP : List PanicEntry → World → Prop) : Prop := Calls Try.prog 53 #[.slice p0_.a p0_.len p0_.cap, S.api_Pose.v p] w (Ret K KP)
@[reducible] def skepref05_move (p0_ : Sl) (m : S.api_Move) (w : World) (K : Value → World → Prop) (KP : List PanicEntry → World → Prop) : Prop := Calls Try.prog 54 #[.slice p0_.a p0_.len p0_.cap, S.api_Move.v m] w (Ret K KP)
@[reducible] def codec_puts_api_Move (p0_ : Sl) (l : Sl) (item : Value) (w : World) (K : Value → World → Prop) (KP : List PanicEntry → World → Prop) : Prop := Calls Try.prog 55 #[.slice p0_.a p0_.len p0_.cap, .slice l.a l.len l.cap, item] w (Ret K KP)
@[reducible] def codec_read_api_Event (p0_ : Sl) (thing : Value) (w : World) (K : Value → World → Prop) (KP : List PanicEntry → World → Prop) : Prop := Calls Try.prog 56 #[.slice p0_.a p0_.len p0_.cap, thing] w (Ret K KP)
@[reducible] def codec_GetEvent_1 (r : (Option Addr)) (w : World) (K : Value → World → Prop) (KP : List PanicEntry → World → Prop) : Prop := Calls Try.prog 57 #[.pointer r] w (Ret K KP)
@[reducible] def codec_list_api_Move (r : (Option Addr)) (item : Value) (w : World) (K : Value → World → Prop) (KP : List PanicEntry → World → Prop) : Prop := Calls Try.prog 58 #[.pointer r, item] w (Ret K KP)
@[reducible] def skepref05_R_moves (r : (Option Addr)) (w : World) (K : Value → World → Prop) (KP : List PanicEntry → World → Prop) : Prop := Calls Try.prog 59 #[.pointer r] w (Ret K KP)
@[reducible] def skepref05_moves (p0_ : Sl) (l : Sl) (w : World) (K : Value → World → Prop) (KP : List PanicEntry → World → Prop) : Prop := Calls Try.prog 60 #[.slice p0_.a p0_.len p0_.cap, .slice l.a l.len l.cap] w (Ret K KP)
@[reducible] def skeplaw00_SameMoves (a : Sl) (p1_ : Sl) (w : World) (K : Value → World → Prop) (KP : List PanicEntry → World → Prop) : Prop := Calls Try.prog 61 #[.slice a.a a.len a.cap, .slice p1_.a p1_.len p1_.cap] w (Ret K KP)
@[reducible] def codec_flag (p0_ : Sl) (v : Bool) (w : World) (K : Value → World → Prop) (KP : List PanicEntry → World → Prop) : Prop := Calls Try.prog 62 #[.slice p0_.a p0_.len p0_.cap, .bool v] w (Ret K KP)
@[reducible] def codec_puts_api_Stack (p0_ : Sl) (l : Sl) (item : Value) (w : World) (K : Value → World → Prop) (KP : List PanicEntry → World → Prop) : Prop := Calls Try.prog 63 #[.slice p0_.a p0_.len p0_.cap, .slice l.a l.len l.cap, item] w (Ret K KP)
@[reducible] def codec_PutState_1 (p0_ : Sl) (p1_ : S.api_Stack) (w : World) (K : Value → World → Prop) (KP : List PanicEntry → World → Prop) : Prop := Calls Try.prog 64 #[.slice p0_.a p0_.len p0_.cap, S.api_Stack.v p1_] w (Ret K KP)
@[reducible] def codec_puts_int (p0_ : Sl) (l : Sl) (item : Value) (w : World) (K : Value → World → Prop) (KP : List PanicEntry → World → Prop) : Prop := Calls Try.prog 65 #[.slice p0_.a p0_.len p0_.cap, .slice l.a l.len l.cap, item] w (Ret K KP)
@[reducible] def codec_cell (p0_ : Sl) (c : S.api_Cell) (w : World) (K : Value → World → Prop) (KP : List PanicEntry → World → Prop) : Prop := Calls Try.prog 66 #[.slice p0_.a p0_.len p0_.cap, S.api_Cell.v c] w (Ret K KP)
@[reducible] def codec_puts_api_Robot (p0_ : Sl) (l : Sl) (item : Value) (w : World) (K : Value → World → Prop) (KP : List PanicEntry → World → Prop) : Prop := Calls Try.prog 67 #[.slice p0_.a p0_.len p0_.cap, .slice l.a l.len l.cap, item] w (Ret K KP)
@[reducible] def codec_PutState_2 (p0_ : Sl) (p1_ : S.api_Robot) (w : World) (K : Value → World → Prop) (KP : List PanicEntry → World → Prop) : Prop := Calls Try.prog 68 #[.slice p0_.a p0_.len p0_.cap, S.api_Robot.v p1_] w (Ret K KP)
@[reducible] def codec_puts_api_Port (p0_ : Sl) (l : Sl) (item : Value) (w : World) (K : Value → World → Prop) (KP : List PanicEntry → World → Prop) : Prop := Calls Try.prog 69 #[.slice p0_.a p0_.len p0_.cap, .slice l.a l.len l.cap, item] w (Ret K KP)
@[reducible] def codec_PutState_3 (p0_ : Sl) (p1_ : S.api_Port) (w : World) (K : Value → World → Prop) (KP : List PanicEntry → World → Prop) : Prop := Calls Try.prog 70 #[.slice p0_.a p0_.len p0_.cap, S.api_Port.v p1_] w (Ret K KP)
@[reducible] def codec_puts_api_Order (p0_ : Sl) (l : Sl) (item : Value) (w : World) (K : Value → World → Prop) (KP : List PanicEntry → World → Prop) : Prop := Calls Try.prog 71 #[.slice p0_.a p0_.len p0_.cap, .slice l.a l.len l.cap, item] w (Ret K KP)
@[reducible] def codec_PutState_4 (p0_ : Sl) (p1_ : S.api_Order) (w : World) (K : Value → World → Prop) (KP : List PanicEntry → World → Prop) : Prop := Calls Try.prog 72 #[.slice p0_.a p0_.len p0_.cap, S.api_Order.v p1_] w (Ret K KP)
@[reducible] def codec_puts_api_Job (p0_ : Sl) (l : Sl) (item : Value) (w : World) (K : Value → World → Prop) (KP : List PanicEntry → World → Prop) : Prop := Calls Try.prog 73 #[.slice p0_.a p0_.len p0_.cap, .slice l.a l.len l.cap, item] w (Ret K KP)
@[reducible] def codec_PutState_5 (p0_ : Sl) (p1_ : S.api_Job) (w : World) (K : Value → World → Prop) (KP : List PanicEntry → World → Prop) : Prop := Calls Try.prog 74 #[.slice p0_.a p0_.len p0_.cap, S.api_Job.v p1_] w (Ret K KP)
@[reducible] def codec_read_api_State (p0_ : Sl) (thing : Value) (w : World) (K : Value → World → Prop) (KP : List PanicEntry → World → Prop) : Prop := Calls Try.prog 75 #[.slice p0_.a p0_.len p0_.cap, thing] w (Ret K KP)
@[reducible] def codec_GetState_1 (r : (Option Addr)) (w : World) (K : Value → World → Prop) (KP : List PanicEntry → World → Prop) : Prop := Calls Try.prog 76 #[.pointer r] w (Ret K KP)
@[reducible] def codec_reader_bool (r : (Option Addr)) (w : World) (K : Value → World → Prop) (KP : List PanicEntry → World → Prop) : Prop := Calls Try.prog 77 #[.pointer r] w (Ret K KP)
@[reducible] def codec_list_api_Stack (r : (Option Addr)) (item : Value) (w : World) (K : Value → World → Prop) (KP : List PanicEntry → World → Prop) : Prop := Calls Try.prog 78 #[.pointer r, item] w (Ret K KP)
@[reducible] def codec_GetState_1_1 (p0_ : (Option Addr)) (w : World) (K : Value → World → Prop) (KP : List PanicEntry → World → Prop) : Prop := Calls Try.prog 79 #[.pointer p0_] w (Ret K KP)
@[reducible] def codec_reader_cell (r : (Option Addr)) (w : World) (K : Value → World → Prop) (KP : List PanicEntry → World → Prop) : Prop := Calls Try.prog 80 #[.pointer r] w (Ret K KP)
@[reducible] def codec_list_int (r : (Option Addr)) (item : Value) (w : World) (K : Value → World → Prop) (KP : List PanicEntry → World → Prop) : Prop := Calls Try.prog 81 #[.pointer r, item] w (Ret K KP)
@[reducible] def codec_list_api_Robot (r : (Option Addr)) (item : Value) (w : World) (K : Value → World → Prop) (KP : List PanicEntry → World → Prop) : Prop := Calls Try.prog 82 #[.pointer r, item] w (Ret K KP)
@[reducible] def codec_GetState_1_2 (p0_ : (Option Addr)) (w : World) (K : Value → World → Prop) (KP : List PanicEntry → World → Prop) : Prop := Calls Try.prog 83 #[.pointer p0_] w (Ret K KP)
@[reducible] def codec_list_api_Port (r : (Option Addr)) (item : Value) (w : World) (K : Value → World → Prop) (KP : List PanicEntry → World → Prop) : Prop := Calls Try.prog 84 #[.pointer r, item] w (Ret K KP)
@[reducible] def codec_GetState_1_3 (p0_ : (Option Addr)) (w : World) (K : Value → World → Prop) (KP : List PanicEntry → World → Prop) : Prop := Calls Try.prog 85 #[.pointer p0_] w (Ret K KP)
@[reducible] def codec_list_api_Order (r : (Option Addr)) (item : Value) (w : World) (K : Value → World → Prop) (KP : List PanicEntry → World → Prop) : Prop := Calls Try.prog 86 #[.pointer r, item] w (Ret K KP)
@[reducible] def codec_GetState_1_4 (p0_ : (Option Addr)) (w : World) (K : Value → World → Prop) (KP : List PanicEntry → World → Prop) : Prop := Calls Try.prog 87 #[.pointer p0_] w (Ret K KP)
@[reducible] def codec_list_api_Job (r : (Option Addr)) (item : Value) (w : World) (K : Value → World → Prop) (KP : List PanicEntry → World → Prop) : Prop := Calls Try.prog 88 #[.pointer r, item] w (Ret K KP)
@[reducible] def codec_GetState_1_5 (p0_ : (Option Addr)) (w : World) (K : Value → World → Prop) (KP : List PanicEntry → World → Prop) : Prop := Calls Try.prog 89 #[.pointer p0_] w (Ret K KP)
@[reducible] def skepref05_R_Flag (r : (Option Addr)) (w : World) (K : Value → World → Prop) (KP : List PanicEntry → World → Prop) : Prop := Calls Try.prog 90 #[.pointer r] w (Ret K KP)
@[reducible] def skepref05_R_Count (r : (Option Addr)) (w : World) (K : Value → World → Prop) (KP : List PanicEntry → World → Prop) : Prop := Calls Try.prog 91 #[.pointer r] w (Ret K KP)
@[reducible] def skepref05_R_cell (r : (Option Addr)) (w : World) (K : Value → World → Prop) (KP : List PanicEntry → World → Prop) : Prop := Calls Try.prog 92 #[.pointer r] w (Ret K KP)
@[reducible] def skepref05_R_numbers (r : (Option Addr)) (w : World) (K : Value → World → Prop) (KP : List PanicEntry → World → Prop) : Prop := Calls Try.prog 93 #[.pointer r] w (Ret K KP)
@[reducible] def skepref05_R_robot (r : (Option Addr)) (w : World) (K : Value → World → Prop) (KP : List PanicEntry → World → Prop) : Prop := Calls Try.prog 94 #[.pointer r] w (Ret K KP)
@[reducible] def skepref05_R_job (r : (Option Addr)) (w : World) (K : Value → World → Prop) (KP : List PanicEntry → World → Prop) : Prop := Calls Try.prog 95 #[.pointer r] w (Ret K KP)
@[reducible] def skepref05_flag (p0_ : Sl) (v : Bool) (w : World) (K : Value → World → Prop) (KP : List PanicEntry → World → Prop) : Prop := Calls Try.prog 96 #[.slice p0_.a p0_.len p0_.cap, .bool v] w (Ret K KP)
@[reducible] def skepref05_numbers (p0_ : Sl) (l : Sl) (w : World) (K : Value → World → Prop) (KP : List PanicEntry → World → Prop) : Prop := Calls Try.prog 97 #[.slice p0_.a p0_.len p0_.cap, .slice l.a l.len l.cap] w (Ret K KP)
@[reducible] def skepref05_cell (p0_ : Sl) (c : S.api_Cell) (w : World) (K : Value → World → Prop) (KP : List PanicEntry → World → Prop) : Prop := Calls Try.prog 98 #[.slice p0_.a p0_.len p0_.cap, S.api_Cell.v c] w (Ret K KP)
@[reducible] def skeplaw00_SameStacks (a : Sl) (p1_ : Sl) (w : World) (K : Value → World → Prop) (KP : List PanicEntry → World → Prop) : Prop := Calls Try.prog 99 #[.slice a.a a.len a.cap, .slice p1_.a p1_.len p1_.cap] w (Ret K KP)
@[reducible] def skeplaw00_SameJobs (a : Sl) (p1_ : Sl) (w : World) (K : Value → World → Prop) (KP : List PanicEntry → World → Prop) : Prop := Calls Try.prog 100 #[.slice a.a a.len a.cap, .slice p1_.a p1_.len p1_.cap] w (Ret K KP)
@[reducible] def skeplaw00_sameRobot (a : S.api_Robot) (p1_ : S.api_Robot) (w : World) (K : Value → World → Prop) (KP : List PanicEntry → World → Prop) : Prop := Calls Try.prog 101 #[S.api_Robot.v a, S.api_Robot.v p1_] w (Ret K KP)
@[reducible] def skeplaw00_SameInts (a : Sl) (p1_ : Sl) (w : World) (K : Value → World → Prop) (KP : List PanicEntry → World → Prop) : Prop := Calls Try.prog 102 #[.slice a.a a.len a.cap, .slice p1_.a p1_.len p1_.cap] w (Ret K KP)
@[reducible] def codec_read_api_Op_1 (p0_ : (Option Addr)) (p1_ : (Option Addr)) (w : World) (K : Value → World → Prop) (KP : List PanicEntry → World → Prop) : Prop := Calls Try.prog 103 #[.pointer p0_, .pointer p1_] w (Ret K KP)
@[reducible] def codec_read_api_Tele_1 (p0_ : (Option Addr)) (p1_ : (Option Addr)) (w : World) (K : Value → World → Prop) (KP : List PanicEntry → World → Prop) : Prop := Calls Try.prog 104 #[.pointer p0_, .pointer p1_] w (Ret K KP)
@[reducible] def codec_read_api_Event_1 (p0_ : (Option Addr)) (p1_ : (Option Addr)) (w : World) (K : Value → World → Prop) (KP : List PanicEntry → World → Prop) : Prop := Calls Try.prog 105 #[.pointer p0_, .pointer p1_] w (Ret K KP)
@[reducible] def codec_read_api_State_1 (p0_ : (Option Addr)) (p1_ : (Option Addr)) (w : World) (K : Value → World → Prop) (KP : List PanicEntry → World → Prop) : Prop := Calls Try.prog 106 #[.pointer p0_, .pointer p1_] w (Ret K KP)
end C
end Go.Proofs.Ytocbjadhcfjfiaa
