/- Printed by vc.py: the structures, the table of types, the calls of this seat. No conditions. -/
import Derived.Test.YtfgepillnemolaaProg
import Derived.Test.YtfgepillnemolaaEng
namespace Go.Proofs.Ytfgepillnemolaa
open Go.Eng
set_option linter.unusedVariables false
structure S.skeplaw06_Op where
  Kind : Int
  N : Int
  M_ : Int
  B : Sl
@[reducible] def S.skeplaw06_Op.v (s : S.skeplaw06_Op) : Value := .agg #[.int .i64 s.Kind, .int .i64 s.N, .int .i64 s.M_, .slice s.B.a s.B.len s.B.cap]
structure S.disk_file where
  sure : Sl
  now : Sl
  pending : Sl
@[reducible] def S.disk_file.v (s : S.disk_file) : Value := .agg #[.slice s.sure.a s.sure.len s.sure.cap, .slice s.now.a s.now.len s.now.cap, .slice s.pending.a s.pending.len s.pending.cap]
structure S.Ar68 where
  i0 : S.disk_file
  i1 : S.disk_file
@[reducible] def S.Ar68.v (s : S.Ar68) : Value := .agg #[.slice s.i0.sure.a s.i0.sure.len s.i0.sure.cap, .slice s.i0.now.a s.i0.now.len s.i0.now.cap, .slice s.i0.pending.a s.i0.pending.len s.i0.pending.cap, .slice s.i1.sure.a s.i1.sure.len s.i1.sure.cap, .slice s.i1.now.a s.i1.now.len s.i1.now.cap, .slice s.i1.pending.a s.i1.pending.len s.i1.pending.cap]
structure S.disk_Disk where
  f : S.Ar68
@[reducible] def S.disk_Disk.v (s : S.disk_Disk) : Value := .agg #[.slice s.f.i0.sure.a s.f.i0.sure.len s.f.i0.sure.cap, .slice s.f.i0.now.a s.f.i0.now.len s.f.i0.now.cap, .slice s.f.i0.pending.a s.f.i0.pending.len s.f.i0.pending.cap, .slice s.f.i1.sure.a s.f.i1.sure.len s.f.i1.sure.cap, .slice s.f.i1.now.a s.f.i1.now.len s.f.i1.now.cap, .slice s.f.i1.pending.a s.f.i1.pending.len s.f.i1.pending.cap]
structure S.Ar72 where
  i0 : (Option Addr)
  i1 : (Option Addr)
@[reducible] def S.Ar72.v (s : S.Ar72) : Value := .agg #[.pointer s.i0, .pointer s.i1]
structure S.store_Store where
  logs : S.Ar72
  at_ : Int
  g : Int
  from_ : Int
  last : Int
@[reducible] def S.store_Store.v (s : S.store_Store) : Value := .agg #[.pointer s.logs.i0, .pointer s.logs.i1, .int .i64 s.at_, .int .i64 s.g, .int .i64 s.from_, .int .i64 s.last]
structure S.store_head where
  g : Int
  s : Int
  snap : Sl
  ok : Bool
@[reducible] def S.store_head.v (s : S.store_head) : Value := .agg #[.int .i64 s.g, .int .i64 s.s, .slice s.snap.a s.snap.len s.snap.cap, .bool s.ok]
structure S.disk_done where
  cut : Bool
  size : Int
  b_ : Sl
@[reducible] def S.disk_done.v (s : S.disk_done) : Value := .agg #[.bool s.cut, .int .i64 s.size, .slice s.b_.a s.b_.len s.b_.cap]
structure S.skeplaw06_On where
  D : (Option Addr)
  S : (Option Addr)
  W : (Option Addr)
@[reducible] def S.skeplaw06_On.v (s : S.skeplaw06_On) : Value := .agg #[.pointer s.D, .pointer s.S, .pointer s.W]
structure S.skepref03_F where
  Sure : Sl
  Us : Sl
@[reducible] def S.skepref03_F.v (s : S.skepref03_F) : Value := .agg #[.slice s.Sure.a s.Sure.len s.Sure.cap, .slice s.Us.a s.Us.len s.Us.cap]
structure S.Ar102 where
  i0 : S.skepref03_F
  i1 : S.skepref03_F
@[reducible] def S.Ar102.v (s : S.Ar102) : Value := .agg #[.slice s.i0.Sure.a s.i0.Sure.len s.i0.Sure.cap, .slice s.i0.Us.a s.i0.Us.len s.i0.Us.cap, .slice s.i1.Sure.a s.i1.Sure.len s.i1.Sure.cap, .slice s.i1.Us.a s.i1.Us.len s.i1.Us.cap]
structure S.skepref03_Disk where
  Fs : S.Ar102
@[reducible] def S.skepref03_Disk.v (s : S.skepref03_Disk) : Value := .agg #[.slice s.Fs.i0.Sure.a s.Fs.i0.Sure.len s.Fs.i0.Sure.cap, .slice s.Fs.i0.Us.a s.Fs.i0.Us.len s.Fs.i0.Us.cap, .slice s.Fs.i1.Sure.a s.Fs.i1.Sure.len s.Fs.i1.Sure.cap, .slice s.Fs.i1.Us.a s.Fs.i1.Us.len s.Fs.i1.Us.cap]
structure S.skepref03_U where
  B : Int
  Cut : Bool
  N : Int
@[reducible] def S.skepref03_U.v (s : S.skepref03_U) : Value := .agg #[.int .u8 s.B, .bool s.Cut, .int .i64 s.N]
structure S.wal_Log where
  d : (Option Addr)
  file : Int
@[reducible] def S.wal_Log.v (s : S.wal_Log) : Value := .agg #[.pointer s.d, .int .i64 s.file]
structure S.skepref06_Store where
  D : (Option Addr)
  File : Int
  G : Int
  S : Int
  Last : Int
@[reducible] def S.skepref06_Store.v (s : S.skepref06_Store) : Value := .agg #[.pointer s.D, .int .i64 s.File, .int .i64 s.G, .int .i64 s.S, .int .i64 s.Last]
structure S.skepref05_R where
  B : Sl
  At : Int
  Bad : Bool
@[reducible] def S.skepref05_R.v (s : S.skepref05_R) : Value := .agg #[.slice s.B.a s.B.len s.B.cap, .int .i64 s.At, .bool s.Bad]
structure S.skepref04_R where
  At : Int
  B : Sl
@[reducible] def S.skepref04_R.v (s : S.skepref04_R) : Value := .agg #[.int .i64 s.At, .slice s.B.a s.B.len s.B.cap]
def etab : List (Nat × Ty) := [(0, ⟨Unit, fun y => .tuple #[]⟩),
  (3, ⟨Int, fun y => .int .i64 y⟩),
  (4, ⟨Bool, fun y => .bool y⟩),
  (5, ⟨Int, fun y => .int .u8 y⟩),
  (9, ⟨ByteArray, fun y => .string y⟩),
  (22, ⟨Sl, fun y => .slice y.a y.len y.cap⟩),
  (23, ⟨Sl, fun y => .slice y.a y.len y.cap⟩),
  (24, ⟨(Option Addr), fun y => .pointer y⟩),
  (26, ⟨(Option Addr), fun y => .pointer y⟩),
  (27, ⟨Sl, fun y => .slice y.a y.len y.cap⟩),
  (28, ⟨Int, fun y => .int .i64 y⟩),
  (29, ⟨((Option Addr) × Sl × Sl × Int), fun y => .tuple #[.pointer y.1, .slice y.2.1.a y.2.1.len y.2.1.cap, .slice y.2.2.1.a y.2.2.1.len y.2.2.1.cap, .int .i64 y.2.2.2]⟩),
  (42, ⟨Sl, fun y => .slice y.a y.len y.cap⟩),
  (45, ⟨(Sl × Sl × Int × Bool), fun y => .tuple #[.slice y.1.a y.1.len y.1.cap, .slice y.2.1.a y.2.1.len y.2.1.cap, .int .i64 y.2.2.1, .bool y.2.2.2]⟩),
  (53, ⟨Sl, fun y => .slice y.a y.len y.cap⟩),
  (54, ⟨(Option Addr), fun y => .pointer y⟩),
  (55, ⟨((Option Addr) × Bool), fun y => .tuple #[.pointer y.1, .bool y.2]⟩),
  (57, ⟨(Option Addr), fun y => .pointer y⟩),
  (60, ⟨S.skeplaw06_Op, fun y => S.skeplaw06_Op.v y⟩),
  (65, ⟨Sl, fun y => .slice y.a y.len y.cap⟩),
  (67, ⟨S.disk_file, fun y => S.disk_file.v y⟩),
  (68, ⟨S.Ar68, fun y => S.Ar68.v y⟩),
  (71, ⟨(Option Addr), fun y => .pointer y⟩),
  (72, ⟨S.Ar72, fun y => S.Ar72.v y⟩),
  (77, ⟨S.store_head, fun y => S.store_head.v y⟩),
  (79, ⟨((Option Addr) × Sl × Int), fun y => .tuple #[.pointer y.1, .slice y.2.1.a y.2.1.len y.2.1.cap, .int .i64 y.2.2]⟩),
  (84, ⟨Value, fun y => y⟩),
  (86, ⟨(Option Addr), fun y => .pointer y⟩),
  (89, ⟨Int, fun y => .int .u32 y⟩),
  (93, ⟨S.disk_done, fun y => S.disk_done.v y⟩),
  (94, ⟨(Option Addr), fun y => .pointer y⟩),
  (95, ⟨((Option Addr) × Sl × Sl × Bool), fun y => .tuple #[.pointer y.1, .slice y.2.1.a y.2.1.len y.2.1.cap, .slice y.2.2.1.a y.2.2.1.len y.2.2.1.cap, .bool y.2.2.2]⟩),
  (99, ⟨Sl, fun y => .slice y.a y.len y.cap⟩),
  (101, ⟨S.skepref03_F, fun y => S.skepref03_F.v y⟩),
  (102, ⟨S.Ar102, fun y => S.Ar102.v y⟩),
  (114, ⟨(Int × Int × Bool), fun y => .tuple #[.int .i64 y.1, .int .i64 y.2.1, .bool y.2.2]⟩),
  (117, ⟨Value, fun y => y⟩),
  (119, ⟨Int, fun y => .int .u64 y⟩),
  (120, ⟨Sl, fun y => .slice y.a y.len y.cap⟩),
  (123, ⟨(Int × Int × Sl × Bool), fun y => .tuple #[.int .i64 y.1, .int .i64 y.2.1, .slice y.2.2.1.a y.2.2.1.len y.2.2.1.cap, .bool y.2.2.2]⟩),
  (128, ⟨(Option Addr), fun y => .pointer y⟩),
  (133, ⟨(Sl × Int), fun y => .tuple #[.slice y.1.a y.1.len y.1.cap, .int .i64 y.2]⟩),
  (1000001, ⟨(Option Addr), fun y => .pointer y⟩),
  (1000002, ⟨Nat, fun y => .pointer (some ⟨y, 0, none⟩)⟩),
  (1000010, ⟨Int, fun y => .int .i8 y⟩),
  (1000011, ⟨Int, fun y => .int .i16 y⟩),
  (1000012, ⟨Int, fun y => .int .i32 y⟩),
  (1000013, ⟨Int, fun y => .int .i64 y⟩),
  (1000014, ⟨Int, fun y => .int .u8 y⟩),
  (1000015, ⟨Int, fun y => .int .u16 y⟩),
  (1000016, ⟨Int, fun y => .int .u32 y⟩),
  (1000017, ⟨Int, fun y => .int .u64 y⟩),
  (1000030, ⟨Bool, fun y => .bool y⟩),
  (1000031, ⟨ByteArray, fun y => .string y⟩),
  (1000032, ⟨Sl, fun y => .slice y.a y.len y.cap⟩),
  (1000033, ⟨(Option Nat), fun y => .map y⟩)]
@[reducible] def lookT : List (Nat × Ty) → Nat → Ty
  | [], _ => ⟨Value, fun y => y⟩
  | (k, x) :: r, i => match Nat.beq k i with | true => x | false => lookT r i
@[reducible] def E (t : TypeId) : Ty := lookT etab t
theorem mixed : Try.prog.follows .mixedOrders = true := by kernel_rfl
namespace C
@[reducible] def skeplaw06_StoreOnce (l : Sl) (again : Sl) (w : World) (K : Value → World → Prop) (KP : List PanicEntry → World → Prop) : Prop := Calls Try.prog 3 #[.slice l.a l.len l.cap, .slice again.a again.len again.cap] w (Ret K KP)
@[reducible] def skeplaw06_StoreSmall (l : Sl) (snap : Sl) (times : Int) (w : World) (K : Value → World → Prop) (KP : List PanicEntry → World → Prop) : Prop := Calls Try.prog 4 #[.slice l.a l.len l.cap, .slice snap.a snap.len snap.cap, .int .i64 times] w (Ret K KP)
@[reducible] def skeplaw06_StoreAgain (life : Sl) (times : Int) (w : World) (K : Value → World → Prop) (KP : List PanicEntry → World → Prop) : Prop := Calls Try.prog 5 #[.slice life.a life.len life.cap, .int .i64 times] w (Ret K KP)
@[reducible] def skeplaw06_StoreKeeps (life : Sl) (a : Int) (p2_ : Int) (w : World) (K : Value → World → Prop) (KP : List PanicEntry → World → Prop) : Prop := Calls Try.prog 6 #[.slice life.a life.len life.cap, .int .i64 a, .int .i64 p2_] w (Ret K KP)
@[reducible] def skeplaw06_StorePlays (script : Sl) (w : World) (K : Value → World → Prop) (KP : List PanicEntry → World → Prop) : Prop := Calls Try.prog 7 #[.slice script.a script.len script.cap] w (Ret K KP)
@[reducible] def skeplaw06_StoreBytes (a : Sl) (p1_ : Sl) (script : Sl) (w : World) (K : Value → World → Prop) (KP : List PanicEntry → World → Prop) : Prop := Calls Try.prog 8 #[.slice a.a a.len a.cap, .slice p1_.a p1_.len p1_.cap, .slice script.a script.len script.cap] w (Ret K KP)
@[reducible] def disk_New (w : World) (K : Value → World → Prop) (KP : List PanicEntry → World → Prop) : Prop := Calls Try.prog 9 #[] w (Ret K KP)
@[reducible] def store_Open (d : (Option Addr)) (w : World) (K : Value → World → Prop) (KP : List PanicEntry → World → Prop) : Prop := Calls Try.prog 10 #[.pointer d] w (Ret K KP)
@[reducible] def skeplaw06_awake (w : World) (K : Value → World → Prop) (KP : List PanicEntry → World → Prop) : Prop := Calls Try.prog 11 #[] w (Ret K KP)
@[reducible] def store_Store_Append (s : (Option Addr)) (n : Int) (p2_ : Sl) (w : World) (K : Value → World → Prop) (KP : List PanicEntry → World → Prop) : Prop := Calls Try.prog 12 #[.pointer s, .int .i64 n, .slice p2_.a p2_.len p2_.cap] w (Ret K KP)
@[reducible] def skeplaw00_CopyBytes (p0_ : Sl) (w : World) (K : Value → World → Prop) (KP : List PanicEntry → World → Prop) : Prop := Calls Try.prog 13 #[.slice p0_.a p0_.len p0_.cap] w (Ret K KP)
@[reducible] def disk_Disk_Read (d : (Option Addr)) (file : Int) (w : World) (K : Value → World → Prop) (KP : List PanicEntry → World → Prop) : Prop := Calls Try.prog 14 #[.pointer d, .int .i64 file] w (Ret K KP)
@[reducible] def store_Store_Last (s : (Option Addr)) (w : World) (K : Value → World → Prop) (KP : List PanicEntry → World → Prop) : Prop := Calls Try.prog 15 #[.pointer s] w (Ret K KP)
@[reducible] def skeplaw00_Place (v : Int) (n : Int) (w : World) (K : Value → World → Prop) (KP : List PanicEntry → World → Prop) : Prop := Calls Try.prog 16 #[.int .i64 v, .int .i64 n] w (Ret K KP)
@[reducible] def store_Store_Size (s : (Option Addr)) (w : World) (K : Value → World → Prop) (KP : List PanicEntry → World → Prop) : Prop := Calls Try.prog 17 #[.pointer s] w (Ret K KP)
@[reducible] def store_Store_Check (s : (Option Addr)) (snap : Sl) (w : World) (K : Value → World → Prop) (KP : List PanicEntry → World → Prop) : Prop := Calls Try.prog 18 #[.pointer s, .slice snap.a snap.len snap.cap] w (Ret K KP)
@[reducible] def skepref04_Record (p0_ : Sl) (w : World) (K : Value → World → Prop) (KP : List PanicEntry → World → Prop) : Prop := Calls Try.prog 19 #[.slice p0_.a p0_.len p0_.cap] w (Ret K KP)
@[reducible] def skepref06_Head (g : Int) (s : Int) (snap : Sl) (w : World) (K : Value → World → Prop) (KP : List PanicEntry → World → Prop) : Prop := Calls Try.prog 20 #[.int .i64 g, .int .i64 s, .slice snap.a snap.len snap.cap] w (Ret K KP)
@[reducible] def disk_Disk_Size (d : (Option Addr)) (file : Int) (w : World) (K : Value → World → Prop) (KP : List PanicEntry → World → Prop) : Prop := Calls Try.prog 21 #[.pointer d, .int .i64 file] w (Ret K KP)
@[reducible] def store_Store_From (s : (Option Addr)) (w : World) (K : Value → World → Prop) (KP : List PanicEntry → World → Prop) : Prop := Calls Try.prog 22 #[.pointer s] w (Ret K KP)
@[reducible] def skeplaw06_told (d : (Option Addr)) (w : World) (K : Value → World → Prop) (KP : List PanicEntry → World → Prop) : Prop := Calls Try.prog 23 #[.pointer d] w (Ret K KP)
@[reducible] def skeplaw06_same (a : Sl) (p1_ : Sl) (w : World) (K : Value → World → Prop) (KP : List PanicEntry → World → Prop) : Prop := Calls Try.prog 24 #[.slice a.a a.len a.cap, .slice p1_.a p1_.len p1_.cap] w (Ret K KP)
@[reducible] def store_Store_Sync (s : (Option Addr)) (w : World) (K : Value → World → Prop) (KP : List PanicEntry → World → Prop) : Prop := Calls Try.prog 25 #[.pointer s] w (Ret K KP)
@[reducible] def disk_Disk_Crash (d : (Option Addr)) (a : Int) (p2_ : Int) (w : World) (K : Value → World → Prop) (KP : List PanicEntry → World → Prop) : Prop := Calls Try.prog 26 #[.pointer d, .int .i64 a, .int .i64 p2_] w (Ret K KP)
@[reducible] def skeplaw06_open (d : (Option Addr)) (p1_ : (Option Addr)) (w : World) (K : Value → World → Prop) (KP : List PanicEntry → World → Prop) : Prop := Calls Try.prog 27 #[.pointer d, .pointer p1_] w (Ret K KP)
@[reducible] def skepref03_New (w : World) (K : Value → World → Prop) (KP : List PanicEntry → World → Prop) : Prop := Calls Try.prog 28 #[] w (Ret K KP)
@[reducible] def skeplaw06_On_do (o : (Option Addr)) (p1_ : S.skeplaw06_Op) (w : World) (K : Value → World → Prop) (KP : List PanicEntry → World → Prop) : Prop := Calls Try.prog 29 #[.pointer o, S.skeplaw06_Op.v p1_] w (Ret K KP)
@[reducible] def skeplaw06_On_alike (o : (Option Addr)) (w : World) (K : Value → World → Prop) (KP : List PanicEntry → World → Prop) : Prop := Calls Try.prog 30 #[.pointer o] w (Ret K KP)
@[reducible] def disk_Disk_Append (d : (Option Addr)) (file : Int) (p2_ : Sl) (w : World) (K : Value → World → Prop) (KP : List PanicEntry → World → Prop) : Prop := Calls Try.prog 31 #[.pointer d, .int .i64 file, .slice p2_.a p2_.len p2_.cap] w (Ret K KP)
@[reducible] def skepref03_Disk_Append (d : (Option Addr)) (file : Int) (p2_ : Sl) (w : World) (K : Value → World → Prop) (KP : List PanicEntry → World → Prop) : Prop := Calls Try.prog 32 #[.pointer d, .int .i64 file, .slice p2_.a p2_.len p2_.cap] w (Ret K KP)
@[reducible] def disk_Disk_Sync (d : (Option Addr)) (file : Int) (w : World) (K : Value → World → Prop) (KP : List PanicEntry → World → Prop) : Prop := Calls Try.prog 33 #[.pointer d, .int .i64 file] w (Ret K KP)
@[reducible] def skepref03_Disk_Sync (d : (Option Addr)) (file : Int) (w : World) (K : Value → World → Prop) (KP : List PanicEntry → World → Prop) : Prop := Calls Try.prog 34 #[.pointer d, .int .i64 file] w (Ret K KP)
@[reducible] def wal_Open (d : (Option Addr)) (file : Int) (w : World) (K : Value → World → Prop) (KP : List PanicEntry → World → Prop) : Prop := Calls Try.prog 35 #[.pointer d, .int .i64 file] w (Ret K KP)
@[reducible] def store_heads (l : Sl) (w : World) (K : Value → World → Prop) (KP : List PanicEntry → World → Prop) : Prop := Calls Try.prog 36 #[.slice l.a l.len l.cap] w (Ret K KP)
@[reducible] def wal_Log_Erase (l : (Option Addr)) (w : World) (K : Value → World → Prop) (KP : List PanicEntry → World → Prop) : Prop := Calls Try.prog 37 #[.pointer l] w (Ret K KP)
@[reducible] def wal_Log_Sync (l : (Option Addr)) (w : World) (K : Value → World → Prop) (KP : List PanicEntry → World → Prop) : Prop := Calls Try.prog 38 #[.pointer l] w (Ret K KP)
@[reducible] def wal_Log_Append (l : (Option Addr)) (p1_ : Sl) (w : World) (K : Value → World → Prop) (KP : List PanicEntry → World → Prop) : Prop := Calls Try.prog 39 #[.pointer l, .slice p1_.a p1_.len p1_.cap] w (Ret K KP)
@[reducible] def codec_PutNumber (p0_ : Sl) (v : Int) (w : World) (K : Value → World → Prop) (KP : List PanicEntry → World → Prop) : Prop := Calls Try.prog 40 #[.slice p0_.a p0_.len p0_.cap, .int .i64 v] w (Ret K KP)
@[reducible] def store_numbered (l : Sl) (w : World) (K : Value → World → Prop) (KP : List PanicEntry → World → Prop) : Prop := Calls Try.prog 41 #[.slice l.a l.len l.cap] w (Ret K KP)
@[reducible] def wal_Log_Size (l : (Option Addr)) (w : World) (K : Value → World → Prop) (KP : List PanicEntry → World → Prop) : Prop := Calls Try.prog 42 #[.pointer l] w (Ret K KP)
@[reducible] def disk_Disk_file (d : (Option Addr)) (n : Int) (w : World) (K : Value → World → Prop) (KP : List PanicEntry → World → Prop) : Prop := Calls Try.prog 43 #[.pointer d, .int .i64 n] w (Ret K KP)
@[reducible] def skepref04_Four (v : Int) (w : World) (K : Value → World → Prop) (KP : List PanicEntry → World → Prop) : Prop := Calls Try.prog 44 #[.int .u32 v] w (Ret K KP)
@[reducible] def skepref02_Of (p0_ : Sl) (w : World) (K : Value → World → Prop) (KP : List PanicEntry → World → Prop) : Prop := Calls Try.prog 45 #[.slice p0_.a p0_.len p0_.cap] w (Ret K KP)
@[reducible] def skepref05_Number (v : Int) (w : World) (K : Value → World → Prop) (KP : List PanicEntry → World → Prop) : Prop := Calls Try.prog 46 #[.int .i64 v] w (Ret K KP)
@[reducible] def disk_done_units (p0_ : S.disk_done) (w : World) (K : Value → World → Prop) (KP : List PanicEntry → World → Prop) : Prop := Calls Try.prog 47 #[S.disk_done.v p0_] w (Ret K KP)
@[reducible] def skepref06_Open (d : (Option Addr)) (w : World) (K : Value → World → Prop) (KP : List PanicEntry → World → Prop) : Prop := Calls Try.prog 48 #[.pointer d] w (Ret K KP)
@[reducible] def skepref06_Store_Append (t : (Option Addr)) (n : Int) (p2_ : Sl) (w : World) (K : Value → World → Prop) (KP : List PanicEntry → World → Prop) : Prop := Calls Try.prog 49 #[.pointer t, .int .i64 n, .slice p2_.a p2_.len p2_.cap] w (Ret K KP)
@[reducible] def skepref06_Store_Sync (t : (Option Addr)) (w : World) (K : Value → World → Prop) (KP : List PanicEntry → World → Prop) : Prop := Calls Try.prog 50 #[.pointer t] w (Ret K KP)
@[reducible] def skepref06_Store_Check (t : (Option Addr)) (snap : Sl) (w : World) (K : Value → World → Prop) (KP : List PanicEntry → World → Prop) : Prop := Calls Try.prog 51 #[.pointer t, .slice snap.a snap.len snap.cap] w (Ret K KP)
@[reducible] def skepref03_Disk_Crash (d : (Option Addr)) (a : Int) (p2_ : Int) (w : World) (K : Value → World → Prop) (KP : List PanicEntry → World → Prop) : Prop := Calls Try.prog 52 #[.pointer d, .int .i64 a, .int .i64 p2_] w (Ret K KP)
@[reducible] def skepref06_Store_Size (t : (Option Addr)) (w : World) (K : Value → World → Prop) (KP : List PanicEntry → World → Prop) : Prop := Calls Try.prog 53 #[.pointer t] w (Ret K KP)
@[reducible] def skepref03_Disk_Read (d : (Option Addr)) (file : Int) (w : World) (K : Value → World → Prop) (KP : List PanicEntry → World → Prop) : Prop := Calls Try.prog 54 #[.pointer d, .int .i64 file] w (Ret K KP)
@[reducible] def disk_Disk_Pending (d : (Option Addr)) (file : Int) (w : World) (K : Value → World → Prop) (KP : List PanicEntry → World → Prop) : Prop := Calls Try.prog 55 #[.pointer d, .int .i64 file] w (Ret K KP)
@[reducible] def skepref03_Disk_Pending (d : (Option Addr)) (file : Int) (w : World) (K : Value → World → Prop) (KP : List PanicEntry → World → Prop) : Prop := Calls Try.prog 56 #[.pointer d, .int .i64 file] w (Ret K KP)
@[reducible] def skepref03_Disk_Size (d : (Option Addr)) (file : Int) (w : World) (K : Value → World → Prop) (KP : List PanicEntry → World → Prop) : Prop := Calls Try.prog 57 #[.pointer d, .int .i64 file] w (Ret K KP)
@[reducible] def wal_Log_Records (l : (Option Addr)) (p1_ : Sl) (w : World) (K : Value → World → Prop) (KP : List PanicEntry → World → Prop) : Prop := Calls Try.prog 58 #[.pointer l, .slice p1_.a p1_.len p1_.cap] w (Ret K KP)
@[reducible] def disk_Disk_Cut (d : (Option Addr)) (file : Int) (size : Int) (w : World) (K : Value → World → Prop) (KP : List PanicEntry → World → Prop) : Prop := Calls Try.prog 59 #[.pointer d, .int .i64 file, .int .i64 size] w (Ret K KP)
@[reducible] def codec_GetNumber (p0_ : Sl) (p1_ : Int) (w : World) (K : Value → World → Prop) (KP : List PanicEntry → World → Prop) : Prop := Calls Try.prog 60 #[.slice p0_.a p0_.len p0_.cap, .int .i64 p1_] w (Ret K KP)
@[reducible] def wal_number (n : Int) (w : World) (K : Value → World → Prop) (KP : List PanicEntry → World → Prop) : Prop := Calls Try.prog 61 #[.int .u32 n] w (Ret K KP)
@[reducible] def crc_More (s : Int) (p1_ : Sl) (w : World) (K : Value → World → Prop) (KP : List PanicEntry → World → Prop) : Prop := Calls Try.prog 62 #[.int .u32 s, .slice p1_.a p1_.len p1_.cap] w (Ret K KP)
@[reducible] def crc_Of (p0_ : Sl) (w : World) (K : Value → World → Prop) (KP : List PanicEntry → World → Prop) : Prop := Calls Try.prog 63 #[.slice p0_.a p0_.len p0_.cap] w (Ret K KP)
@[reducible] def codec_number (p0_ : Sl) (v : Int) (w : World) (K : Value → World → Prop) (KP : List PanicEntry → World → Prop) : Prop := Calls Try.prog 64 #[.slice p0_.a p0_.len p0_.cap, .int .i64 v] w (Ret K KP)
@[reducible] def store_numbered_1 (yield : Value) (p1_ : (Option Addr)) (w : World) (K : Value → World → Prop) (KP : List PanicEntry → World → Prop) : Prop := Calls Try.prog 65 #[yield, .pointer p1_] w (Ret K KP)
@[reducible] def skepref02_More (s : Int) (p1_ : Sl) (w : World) (K : Value → World → Prop) (KP : List PanicEntry → World → Prop) : Prop := Calls Try.prog 66 #[.int .u32 s, .slice p1_.a p1_.len p1_.cap] w (Ret K KP)
@[reducible] def skepref06_log (d : (Option Addr)) (file : Int) (w : World) (K : Value → World → Prop) (KP : List PanicEntry → World → Prop) : Prop := Calls Try.prog 67 #[.pointer d, .int .i64 file] w (Ret K KP)
@[reducible] def skepref06_head (p0_ : Sl) (w : World) (K : Value → World → Prop) (KP : List PanicEntry → World → Prop) : Prop := Calls Try.prog 68 #[.slice p0_.a p0_.len p0_.cap] w (Ret K KP)
@[reducible] def skepref06_clear (d : (Option Addr)) (file : Int) (w : World) (K : Value → World → Prop) (KP : List PanicEntry → World → Prop) : Prop := Calls Try.prog 69 #[.pointer d, .int .i64 file] w (Ret K KP)
@[reducible] def skepref05_R_Number (r : (Option Addr)) (w : World) (K : Value → World → Prop) (KP : List PanicEntry → World → Prop) : Prop := Calls Try.prog 70 #[.pointer r] w (Ret K KP)
@[reducible] def skepref03_Disk_Cut (d : (Option Addr)) (file : Int) (size : Int) (w : World) (K : Value → World → Prop) (KP : List PanicEntry → World → Prop) : Prop := Calls Try.prog 71 #[.pointer d, .int .i64 file, .int .i64 size] w (Ret K KP)
@[reducible] def skepref03_with (f : S.skepref03_F) (n : Int) (w : World) (K : Value → World → Prop) (KP : List PanicEntry → World → Prop) : Prop := Calls Try.prog 72 #[S.skepref03_F.v f, .int .i64 n] w (Ret K KP)
@[reducible] def wal_Log_Records_1 (yield : Value) (p1_ : (Option Addr)) (p2_ : (Option Addr)) (w : World) (K : Value → World → Prop) (KP : List PanicEntry → World → Prop) : Prop := Calls Try.prog 73 #[yield, .pointer p1_, .pointer p2_] w (Ret K KP)
@[reducible] def wal_record (p0_ : Sl) (p1_ : Int) (w : World) (K : Value → World → Prop) (KP : List PanicEntry → World → Prop) : Prop := Calls Try.prog 74 #[.slice p0_.a p0_.len p0_.cap, .int .i64 p1_] w (Ret K KP)
@[reducible] def skepref02_step (r : Int) (p1_ : Int) (w : World) (K : Value → World → Prop) (KP : List PanicEntry → World → Prop) : Prop := Calls Try.prog 75 #[.int .u32 r, .int .u8 p1_] w (Ret K KP)
@[reducible] def skepref04_Records (p0_ : Sl) (w : World) (K : Value → World → Prop) (KP : List PanicEntry → World → Prop) : Prop := Calls Try.prog 76 #[.slice p0_.a p0_.len p0_.cap] w (Ret K KP)
@[reducible] def wal_told (p0_ : Sl) (w : World) (K : Value → World → Prop) (KP : List PanicEntry → World → Prop) : Prop := Calls Try.prog 77 #[.slice p0_.a p0_.len p0_.cap] w (Ret K KP)
@[reducible] def skepref04_four (p0_ : Sl) (w : World) (K : Value → World → Prop) (KP : List PanicEntry → World → Prop) : Prop := Calls Try.prog 78 #[.slice p0_.a p0_.len p0_.cap] w (Ret K KP)
end C
end Go.Proofs.Ytfgepillnemolaa
