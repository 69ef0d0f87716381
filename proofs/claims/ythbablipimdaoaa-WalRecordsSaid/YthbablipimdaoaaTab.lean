/- Printed by vc.py: the structures, the table of types, the calls of this seat. No conditions. -/
import Derived.Test.YthbablipimdaoaaProg
import Derived.Test.YthbablipimdaoaaEng
namespace Go.Proofs.Ythbablipimdaoaa
open Go.Eng
set_option linter.unusedVariables false
structure S.disk_file where
  sure : Sl
  now : Sl
  pending : Sl
@[reducible] def S.disk_file.v (s : S.disk_file) : Value := .agg #[.slice s.sure.a s.sure.len s.sure.cap, .slice s.now.a s.now.len s.now.cap, .slice s.pending.a s.pending.len s.pending.cap]
structure S.Ar63 where
  i0 : S.disk_file
  i1 : S.disk_file
@[reducible] def S.Ar63.v (s : S.Ar63) : Value := .agg #[.slice s.i0.sure.a s.i0.sure.len s.i0.sure.cap, .slice s.i0.now.a s.i0.now.len s.i0.now.cap, .slice s.i0.pending.a s.i0.pending.len s.i0.pending.cap, .slice s.i1.sure.a s.i1.sure.len s.i1.sure.cap, .slice s.i1.now.a s.i1.now.len s.i1.now.cap, .slice s.i1.pending.a s.i1.pending.len s.i1.pending.cap]
structure S.disk_Disk where
  f : S.Ar63
@[reducible] def S.disk_Disk.v (s : S.disk_Disk) : Value := .agg #[.slice s.f.i0.sure.a s.f.i0.sure.len s.f.i0.sure.cap, .slice s.f.i0.now.a s.f.i0.now.len s.f.i0.now.cap, .slice s.f.i0.pending.a s.f.i0.pending.len s.f.i0.pending.cap, .slice s.f.i1.sure.a s.f.i1.sure.len s.f.i1.sure.cap, .slice s.f.i1.now.a s.f.i1.now.len s.f.i1.now.cap, .slice s.f.i1.pending.a s.f.i1.pending.len s.f.i1.pending.cap]
structure S.wal_Log where
  d : (Option Addr)
  file : Int
@[reducible] def S.wal_Log.v (s : S.wal_Log) : Value := .agg #[.pointer s.d, .int .i64 s.file]
structure S.skepref04_R where
  At : Int
  B : Sl
@[reducible] def S.skepref04_R.v (s : S.skepref04_R) : Value := .agg #[.int .i64 s.At, .slice s.B.a s.B.len s.B.cap]
structure S.disk_done where
  cut : Bool
  size : Int
  b_ : Sl
@[reducible] def S.disk_done.v (s : S.disk_done) : Value := .agg #[.bool s.cut, .int .i64 s.size, .slice s.b_.a s.b_.len s.b_.cap]
def etab : List (Nat × Ty) := [(0, ⟨Unit, fun y => .tuple #[]⟩),
  (3, ⟨Int, fun y => .int .i64 y⟩),
  (4, ⟨Bool, fun y => .bool y⟩),
  (5, ⟨Int, fun y => .int .u8 y⟩),
  (22, ⟨Sl, fun y => .slice y.a y.len y.cap⟩),
  (24, ⟨(Option Addr), fun y => .pointer y⟩),
  (26, ⟨(Option Addr), fun y => .pointer y⟩),
  (27, ⟨Sl, fun y => .slice y.a y.len y.cap⟩),
  (28, ⟨Int, fun y => .int .i64 y⟩),
  (29, ⟨((Option Addr) × Sl × Int), fun y => .tuple #[.pointer y.1, .slice y.2.1.a y.2.1.len y.2.1.cap, .int .i64 y.2.2]⟩),
  (31, ⟨Sl, fun y => .slice y.a y.len y.cap⟩),
  (32, ⟨(Sl × Int), fun y => .tuple #[.slice y.1.a y.1.len y.1.cap, .int .i64 y.2]⟩),
  (35, ⟨Value, fun y => y⟩),
  (41, ⟨Value, fun y => y⟩),
  (48, ⟨Sl, fun y => .slice y.a y.len y.cap⟩),
  (60, ⟨Sl, fun y => .slice y.a y.len y.cap⟩),
  (62, ⟨S.disk_file, fun y => S.disk_file.v y⟩),
  (63, ⟨S.Ar63, fun y => S.Ar63.v y⟩),
  (70, ⟨Int, fun y => .int .u32 y⟩),
  (75, ⟨(Option Addr), fun y => .pointer y⟩),
  (78, ⟨S.disk_done, fun y => S.disk_done.v y⟩),
  (1000001, ⟨(Option Addr), fun y => .pointer y⟩),
  (1000002, ⟨Nat, fun y => .pointer (some ⟨y, 0, none⟩)⟩),
  (1000010, ⟨Int, fun y => .int .i8 y⟩),
  (1000011, ⟨Int, fun y => .int .i16 y⟩),
  (1000012, ⟨Int, fun y => .int .i32 y⟩),
  (1000013, ⟨Int, fun y => .int .i64 y⟩),
  (1000014, ⟨Int, fun y => .int .u8 y⟩),
  (1000015, ⟨Int, fun y => .int .u16 y⟩),
  (1000016, ⟨Int, fun y => .int .u32 y⟩),
  (1000017, ⟨Int, fun y => .int .u64 y⟩),
  (1000030, ⟨Bool, fun y => .bool y⟩),
  (1000031, ⟨ByteArray, fun y => .string y⟩),
  (1000032, ⟨Sl, fun y => .slice y.a y.len y.cap⟩),
  (1000033, ⟨(Option Nat), fun y => .map y⟩)]
@[reducible] def lookT : List (Nat × Ty) → Nat → Ty
  | [], _ => ⟨Value, fun y => y⟩
  | (k, x) :: r, i => match Nat.beq k i with | true => x | false => lookT r i
@[reducible] def E (t : TypeId) : Ty := lookT etab t
theorem mixed : Try.prog.follows .mixedOrders = true := by kernel_rfl
namespace C
@[reducible] def skeplaw04_WalRecords (p0_ : Sl) (most : Int) (w : World) (K : Value → World → Prop) (KP : List PanicEntry → World → Prop) : Prop := Calls Try.prog 3 #[.slice p0_.a p0_.len p0_.cap, .int .i64 most] w (Ret K KP)
@[reducible] def skeplaw04_WalWrites (l : Sl) (w : World) (K : Value → World → Prop) (KP : List PanicEntry → World → Prop) : Prop := Calls Try.prog 4 #[.slice l.a l.len l.cap] w (Ret K KP)
@[reducible] def skeplaw04_WalTurns (l : Sl) (p1_ : Int) (p2_ : Int) (w : World) (K : Value → World → Prop) (KP : List PanicEntry → World → Prop) : Prop := Calls Try.prog 5 #[.slice l.a l.len l.cap, .int .i64 p1_, .int .u8 p2_] w (Ret K KP)
@[reducible] def skeplaw04_WalReads (l : Sl) (more : Sl) (w : World) (K : Value → World → Prop) (KP : List PanicEntry → World → Prop) : Prop := Calls Try.prog 6 #[.slice l.a l.len l.cap, .slice more.a more.len more.cap] w (Ret K KP)
@[reducible] def skeplaw04_WalBytes (p0_ : Sl) (w : World) (K : Value → World → Prop) (KP : List PanicEntry → World → Prop) : Prop := Calls Try.prog 7 #[.slice p0_.a p0_.len p0_.cap] w (Ret K KP)
@[reducible] def skeplaw04_WalErases (l : Sl) (file : Int) (one : Sl) (w : World) (K : Value → World → Prop) (KP : List PanicEntry → World → Prop) : Prop := Calls Try.prog 8 #[.slice l.a l.len l.cap, .int .i64 file, .slice one.a one.len one.cap] w (Ret K KP)
@[reducible] def skeplaw04_WalTorn (sure : Sl) (more : Sl) (units : Int) (later : Sl) (w : World) (K : Value → World → Prop) (KP : List PanicEntry → World → Prop) : Prop := Calls Try.prog 9 #[.slice sure.a sure.len sure.cap, .slice more.a more.len more.cap, .int .i64 units, .slice later.a later.len later.cap] w (Ret K KP)
@[reducible] def skeplaw04_awake (w : World) (K : Value → World → Prop) (KP : List PanicEntry → World → Prop) : Prop := Calls Try.prog 10 #[] w (Ret K KP)
@[reducible] def disk_New (w : World) (K : Value → World → Prop) (KP : List PanicEntry → World → Prop) : Prop := Calls Try.prog 11 #[] w (Ret K KP)
@[reducible] def wal_Open (d : (Option Addr)) (file : Int) (w : World) (K : Value → World → Prop) (KP : List PanicEntry → World → Prop) : Prop := Calls Try.prog 12 #[.pointer d, .int .i64 file] w (Ret K KP)
@[reducible] def skepref04_Records (p0_ : Sl) (w : World) (K : Value → World → Prop) (KP : List PanicEntry → World → Prop) : Prop := Calls Try.prog 13 #[.slice p0_.a p0_.len p0_.cap] w (Ret K KP)
@[reducible] def wal_Log_Records (l : (Option Addr)) (p1_ : Sl) (w : World) (K : Value → World → Prop) (KP : List PanicEntry → World → Prop) : Prop := Calls Try.prog 14 #[.pointer l, .slice p1_.a p1_.len p1_.cap] w (Ret K KP)
@[reducible] def skeplaw00_CopyBytes (p0_ : Sl) (w : World) (K : Value → World → Prop) (KP : List PanicEntry → World → Prop) : Prop := Calls Try.prog 15 #[.slice p0_.a p0_.len p0_.cap] w (Ret K KP)
@[reducible] def skeplaw00_Place (v : Int) (n : Int) (w : World) (K : Value → World → Prop) (KP : List PanicEntry → World → Prop) : Prop := Calls Try.prog 16 #[.int .i64 v, .int .i64 n] w (Ret K KP)
@[reducible] def skeplaw04_WalRecords_1 (p0_ : Int) (p1_ : Sl) (p2_ : (Option Addr)) (p3_ : (Option Addr)) (p4_ : (Option Addr)) (p5_ : (Option Addr)) (w : World) (K : Value → World → Prop) (KP : List PanicEntry → World → Prop) : Prop := Calls Try.prog 17 #[.int .i64 p0_, .slice p1_.a p1_.len p1_.cap, .pointer p2_, .pointer p3_, .pointer p4_, .pointer p5_] w (Ret K KP)
@[reducible] def wal_Log_Append (l : (Option Addr)) (p1_ : Sl) (w : World) (K : Value → World → Prop) (KP : List PanicEntry → World → Prop) : Prop := Calls Try.prog 18 #[.pointer l, .slice p1_.a p1_.len p1_.cap] w (Ret K KP)
@[reducible] def skepref04_Record (p0_ : Sl) (w : World) (K : Value → World → Prop) (KP : List PanicEntry → World → Prop) : Prop := Calls Try.prog 19 #[.slice p0_.a p0_.len p0_.cap] w (Ret K KP)
@[reducible] def disk_Disk_Read (d : (Option Addr)) (file : Int) (w : World) (K : Value → World → Prop) (KP : List PanicEntry → World → Prop) : Prop := Calls Try.prog 20 #[.pointer d, .int .i64 file] w (Ret K KP)
@[reducible] def wal_Log_Size (l : (Option Addr)) (w : World) (K : Value → World → Prop) (KP : List PanicEntry → World → Prop) : Prop := Calls Try.prog 21 #[.pointer l] w (Ret K KP)
@[reducible] def skeplaw04_say (l : Sl) (w : World) (K : Value → World → Prop) (KP : List PanicEntry → World → Prop) : Prop := Calls Try.prog 22 #[.slice l.a l.len l.cap] w (Ret K KP)
@[reducible] def disk_Disk_Append (d : (Option Addr)) (file : Int) (p2_ : Sl) (w : World) (K : Value → World → Prop) (KP : List PanicEntry → World → Prop) : Prop := Calls Try.prog 23 #[.pointer d, .int .i64 file, .slice p2_.a p2_.len p2_.cap] w (Ret K KP)
@[reducible] def skeplaw04_same (a : Sl) (p1_ : Sl) (w : World) (K : Value → World → Prop) (KP : List PanicEntry → World → Prop) : Prop := Calls Try.prog 24 #[.slice a.a a.len a.cap, .slice p1_.a p1_.len p1_.cap] w (Ret K KP)
@[reducible] def disk_Disk_Size (d : (Option Addr)) (file : Int) (w : World) (K : Value → World → Prop) (KP : List PanicEntry → World → Prop) : Prop := Calls Try.prog 25 #[.pointer d, .int .i64 file] w (Ret K KP)
@[reducible] def skeplaw04_WalReads_1 (k : Int) (p1_ : Sl) (p2_ : (Option Addr)) (p3_ : (Option Addr)) (p4_ : (Option Addr)) (p5_ : (Option Addr)) (w : World) (K : Value → World → Prop) (KP : List PanicEntry → World → Prop) : Prop := Calls Try.prog 26 #[.int .i64 k, .slice p1_.a p1_.len p1_.cap, .pointer p2_, .pointer p3_, .pointer p4_, .pointer p5_] w (Ret K KP)
@[reducible] def skeplaw04_said (l : Sl) (w : World) (K : Value → World → Prop) (KP : List PanicEntry → World → Prop) : Prop := Calls Try.prog 27 #[.slice l.a l.len l.cap] w (Ret K KP)
@[reducible] def disk_Disk_Pending (d : (Option Addr)) (file : Int) (w : World) (K : Value → World → Prop) (KP : List PanicEntry → World → Prop) : Prop := Calls Try.prog 28 #[.pointer d, .int .i64 file] w (Ret K KP)
@[reducible] def wal_Log_Sync (l : (Option Addr)) (w : World) (K : Value → World → Prop) (KP : List PanicEntry → World → Prop) : Prop := Calls Try.prog 29 #[.pointer l] w (Ret K KP)
@[reducible] def wal_Log_Erase (l : (Option Addr)) (w : World) (K : Value → World → Prop) (KP : List PanicEntry → World → Prop) : Prop := Calls Try.prog 30 #[.pointer l] w (Ret K KP)
@[reducible] def disk_Disk_Crash (d : (Option Addr)) (a : Int) (p2_ : Int) (w : World) (K : Value → World → Prop) (KP : List PanicEntry → World → Prop) : Prop := Calls Try.prog 31 #[.pointer d, .int .i64 a, .int .i64 p2_] w (Ret K KP)
@[reducible] def disk_Disk_Cut (d : (Option Addr)) (file : Int) (size : Int) (w : World) (K : Value → World → Prop) (KP : List PanicEntry → World → Prop) : Prop := Calls Try.prog 32 #[.pointer d, .int .i64 file, .int .i64 size] w (Ret K KP)
@[reducible] def disk_Disk_Sync (d : (Option Addr)) (file : Int) (w : World) (K : Value → World → Prop) (KP : List PanicEntry → World → Prop) : Prop := Calls Try.prog 33 #[.pointer d, .int .i64 file] w (Ret K KP)
@[reducible] def skepref04_four (p0_ : Sl) (w : World) (K : Value → World → Prop) (KP : List PanicEntry → World → Prop) : Prop := Calls Try.prog 34 #[.slice p0_.a p0_.len p0_.cap] w (Ret K KP)
@[reducible] def skepref02_Of (p0_ : Sl) (w : World) (K : Value → World → Prop) (KP : List PanicEntry → World → Prop) : Prop := Calls Try.prog 35 #[.slice p0_.a p0_.len p0_.cap] w (Ret K KP)
@[reducible] def wal_Log_Records_1 (yield : Value) (p1_ : (Option Addr)) (p2_ : (Option Addr)) (w : World) (K : Value → World → Prop) (KP : List PanicEntry → World → Prop) : Prop := Calls Try.prog 36 #[yield, .pointer p1_, .pointer p2_] w (Ret K KP)
@[reducible] def wal_record (p0_ : Sl) (p1_ : Int) (w : World) (K : Value → World → Prop) (KP : List PanicEntry → World → Prop) : Prop := Calls Try.prog 37 #[.slice p0_.a p0_.len p0_.cap, .int .i64 p1_] w (Ret K KP)
@[reducible] def wal_number (n : Int) (w : World) (K : Value → World → Prop) (KP : List PanicEntry → World → Prop) : Prop := Calls Try.prog 38 #[.int .u32 n] w (Ret K KP)
@[reducible] def crc_More (s : Int) (p1_ : Sl) (w : World) (K : Value → World → Prop) (KP : List PanicEntry → World → Prop) : Prop := Calls Try.prog 39 #[.int .u32 s, .slice p1_.a p1_.len p1_.cap] w (Ret K KP)
@[reducible] def crc_Of (p0_ : Sl) (w : World) (K : Value → World → Prop) (KP : List PanicEntry → World → Prop) : Prop := Calls Try.prog 40 #[.slice p0_.a p0_.len p0_.cap] w (Ret K KP)
@[reducible] def skepref04_Four (v : Int) (w : World) (K : Value → World → Prop) (KP : List PanicEntry → World → Prop) : Prop := Calls Try.prog 41 #[.int .u32 v] w (Ret K KP)
@[reducible] def disk_Disk_file (d : (Option Addr)) (n : Int) (w : World) (K : Value → World → Prop) (KP : List PanicEntry → World → Prop) : Prop := Calls Try.prog 42 #[.pointer d, .int .i64 n] w (Ret K KP)
@[reducible] def disk_done_units (p0_ : S.disk_done) (w : World) (K : Value → World → Prop) (KP : List PanicEntry → World → Prop) : Prop := Calls Try.prog 43 #[S.disk_done.v p0_] w (Ret K KP)
@[reducible] def skepref02_More (s : Int) (p1_ : Sl) (w : World) (K : Value → World → Prop) (KP : List PanicEntry → World → Prop) : Prop := Calls Try.prog 44 #[.int .u32 s, .slice p1_.a p1_.len p1_.cap] w (Ret K KP)
@[reducible] def wal_told (p0_ : Sl) (w : World) (K : Value → World → Prop) (KP : List PanicEntry → World → Prop) : Prop := Calls Try.prog 45 #[.slice p0_.a p0_.len p0_.cap] w (Ret K KP)
@[reducible] def skepref02_step (r : Int) (p1_ : Int) (w : World) (K : Value → World → Prop) (KP : List PanicEntry → World → Prop) : Prop := Calls Try.prog 46 #[.int .u32 r, .int .u8 p1_] w (Ret K KP)
end C
end Go.Proofs.Ythbablipimdaoaa
