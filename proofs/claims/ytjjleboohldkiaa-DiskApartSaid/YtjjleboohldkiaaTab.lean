/- Printed by vc.py: the structures, the table of types, the calls of this seat. No conditions. -/
import Derived.Test.YtjjleboohldkiaaProg
import Derived.Test.YtjjleboohldkiaaEng
namespace Go.Proofs.Ytjjleboohldkiaa
open Go.Eng
set_option linter.unusedVariables false
structure S.skeplaw03_Op where
  Kind : Int
  File : Int
  N : Int
  M_ : Int
  B : Sl
@[reducible] def S.skeplaw03_Op.v (s : S.skeplaw03_Op) : Value := .agg #[.int .i64 s.Kind, .int .i64 s.File, .int .i64 s.N, .int .i64 s.M_, .slice s.B.a s.B.len s.B.cap]
structure S.disk_file where
  sure : Sl
  now : Sl
  pending : Sl
@[reducible] def S.disk_file.v (s : S.disk_file) : Value := .agg #[.slice s.sure.a s.sure.len s.sure.cap, .slice s.now.a s.now.len s.now.cap, .slice s.pending.a s.pending.len s.pending.cap]
structure S.Ar50 where
  i0 : S.disk_file
  i1 : S.disk_file
@[reducible] def S.Ar50.v (s : S.Ar50) : Value := .agg #[.slice s.i0.sure.a s.i0.sure.len s.i0.sure.cap, .slice s.i0.now.a s.i0.now.len s.i0.now.cap, .slice s.i0.pending.a s.i0.pending.len s.i0.pending.cap, .slice s.i1.sure.a s.i1.sure.len s.i1.sure.cap, .slice s.i1.now.a s.i1.now.len s.i1.now.cap, .slice s.i1.pending.a s.i1.pending.len s.i1.pending.cap]
structure S.disk_Disk where
  f : S.Ar50
@[reducible] def S.disk_Disk.v (s : S.disk_Disk) : Value := .agg #[.slice s.f.i0.sure.a s.f.i0.sure.len s.f.i0.sure.cap, .slice s.f.i0.now.a s.f.i0.now.len s.f.i0.now.cap, .slice s.f.i0.pending.a s.f.i0.pending.len s.f.i0.pending.cap, .slice s.f.i1.sure.a s.f.i1.sure.len s.f.i1.sure.cap, .slice s.f.i1.now.a s.f.i1.now.len s.f.i1.now.cap, .slice s.f.i1.pending.a s.f.i1.pending.len s.f.i1.pending.cap]
structure S.disk_done where
  cut : Bool
  size : Int
  b_ : Sl
@[reducible] def S.disk_done.v (s : S.disk_done) : Value := .agg #[.bool s.cut, .int .i64 s.size, .slice s.b_.a s.b_.len s.b_.cap]
structure S.skepref03_F where
  Sure : Sl
  Us : Sl
@[reducible] def S.skepref03_F.v (s : S.skepref03_F) : Value := .agg #[.slice s.Sure.a s.Sure.len s.Sure.cap, .slice s.Us.a s.Us.len s.Us.cap]
structure S.Ar62 where
  i0 : S.skepref03_F
  i1 : S.skepref03_F
@[reducible] def S.Ar62.v (s : S.Ar62) : Value := .agg #[.slice s.i0.Sure.a s.i0.Sure.len s.i0.Sure.cap, .slice s.i0.Us.a s.i0.Us.len s.i0.Us.cap, .slice s.i1.Sure.a s.i1.Sure.len s.i1.Sure.cap, .slice s.i1.Us.a s.i1.Us.len s.i1.Us.cap]
structure S.skepref03_Disk where
  Fs : S.Ar62
@[reducible] def S.skepref03_Disk.v (s : S.skepref03_Disk) : Value := .agg #[.slice s.Fs.i0.Sure.a s.Fs.i0.Sure.len s.Fs.i0.Sure.cap, .slice s.Fs.i0.Us.a s.Fs.i0.Us.len s.Fs.i0.Us.cap, .slice s.Fs.i1.Sure.a s.Fs.i1.Sure.len s.Fs.i1.Sure.cap, .slice s.Fs.i1.Us.a s.Fs.i1.Us.len s.Fs.i1.Us.cap]
structure S.skepref03_U where
  B : Int
  Cut : Bool
  N : Int
@[reducible] def S.skepref03_U.v (s : S.skepref03_U) : Value := .agg #[.int .u8 s.B, .bool s.Cut, .int .i64 s.N]
def etab : List (Nat × Ty) := [(3, ⟨Int, fun y => .int .i64 y⟩),
  (4, ⟨Bool, fun y => .bool y⟩),
  (5, ⟨Int, fun y => .int .u8 y⟩),
  (9, ⟨ByteArray, fun y => .string y⟩),
  (22, ⟨Sl, fun y => .slice y.a y.len y.cap⟩),
  (24, ⟨(Option Addr), fun y => .pointer y⟩),
  (26, ⟨Int, fun y => .int .i64 y⟩),
  (34, ⟨Sl, fun y => .slice y.a y.len y.cap⟩),
  (35, ⟨(Option Addr), fun y => .pointer y⟩),
  (38, ⟨S.skeplaw03_Op, fun y => S.skeplaw03_Op.v y⟩),
  (39, ⟨((Option Addr) × (Option Addr) × Bool), fun y => .tuple #[.pointer y.1, .pointer y.2.1, .bool y.2.2]⟩),
  (47, ⟨Sl, fun y => .slice y.a y.len y.cap⟩),
  (49, ⟨S.disk_file, fun y => S.disk_file.v y⟩),
  (50, ⟨S.Ar50, fun y => S.Ar50.v y⟩),
  (53, ⟨(Option Addr), fun y => .pointer y⟩),
  (56, ⟨S.disk_done, fun y => S.disk_done.v y⟩),
  (59, ⟨Sl, fun y => .slice y.a y.len y.cap⟩),
  (61, ⟨S.skepref03_F, fun y => S.skepref03_F.v y⟩),
  (62, ⟨S.Ar62, fun y => S.Ar62.v y⟩),
  (1000001, ⟨(Option Addr), fun y => .pointer y⟩),
  (1000002, ⟨Nat, fun y => .pointer (some ⟨y, 0, none⟩)⟩),
  (1000010, ⟨Int, fun y => .int .i8 y⟩),
  (1000011, ⟨Int, fun y => .int .i16 y⟩),
  (1000012, ⟨Int, fun y => .int .i32 y⟩),
  (1000013, ⟨Int, fun y => .int .i64 y⟩),
  (1000014, ⟨Int, fun y => .int .u8 y⟩),
  (1000015, ⟨Int, fun y => .int .u16 y⟩),
  (1000016, ⟨Int, fun y => .int .u32 y⟩),
  (1000017, ⟨Int, fun y => .int .u64 y⟩),
  (1000030, ⟨Bool, fun y => .bool y⟩),
  (1000031, ⟨ByteArray, fun y => .string y⟩),
  (1000032, ⟨Sl, fun y => .slice y.a y.len y.cap⟩),
  (1000033, ⟨(Option Nat), fun y => .map y⟩)]
@[reducible] def lookT : List (Nat × Ty) → Nat → Ty
  | [], _ => ⟨Value, fun y => y⟩
  | (k, x) :: r, i => match Nat.beq k i with | true => x | false => lookT r i
@[reducible] def E (t : TypeId) : Ty := lookT etab t
theorem mixed : Try.prog.follows .mixedOrders = true := by kernel_rfl
namespace C
@[reducible] def skeplaw03_DiskSure (first : Sl) (more : Sl) (a : Int) (p3_ : Int) (w : World) (K : Value → World → Prop) (KP : List PanicEntry → World → Prop) : Prop := Calls Try.prog 3 #[.slice first.a first.len first.cap, .slice more.a more.len more.cap, .int .i64 a, .int .i64 p3_] w (Ret K KP)
@[reducible] def skeplaw03_DiskPlays (script : Sl) (w : World) (K : Value → World → Prop) (KP : List PanicEntry → World → Prop) : Prop := Calls Try.prog 4 #[.slice script.a script.len script.cap] w (Ret K KP)
@[reducible] def skeplaw03_DiskApart (script : Sl) (more : Sl) (w : World) (K : Value → World → Prop) (KP : List PanicEntry → World → Prop) : Prop := Calls Try.prog 5 #[.slice script.a script.len script.cap, .slice more.a more.len more.cap] w (Ret K KP)
@[reducible] def skeplaw03_DiskFull (w : World) (K : Value → World → Prop) (KP : List PanicEntry → World → Prop) : Prop := Calls Try.prog 6 #[] w (Ret K KP)
@[reducible] def skeplaw03_DiskUnits (script : Sl) (w : World) (K : Value → World → Prop) (KP : List PanicEntry → World → Prop) : Prop := Calls Try.prog 7 #[.slice script.a script.len script.cap] w (Ret K KP)
@[reducible] def skeplaw03_awake (w : World) (K : Value → World → Prop) (KP : List PanicEntry → World → Prop) : Prop := Calls Try.prog 8 #[] w (Ret K KP)
@[reducible] def disk_New (w : World) (K : Value → World → Prop) (KP : List PanicEntry → World → Prop) : Prop := Calls Try.prog 9 #[] w (Ret K KP)
@[reducible] def disk_Disk_Append (d : (Option Addr)) (file : Int) (p2_ : Sl) (w : World) (K : Value → World → Prop) (KP : List PanicEntry → World → Prop) : Prop := Calls Try.prog 10 #[.pointer d, .int .i64 file, .slice p2_.a p2_.len p2_.cap] w (Ret K KP)
@[reducible] def skeplaw00_CopyBytes (p0_ : Sl) (w : World) (K : Value → World → Prop) (KP : List PanicEntry → World → Prop) : Prop := Calls Try.prog 11 #[.slice p0_.a p0_.len p0_.cap] w (Ret K KP)
@[reducible] def disk_Disk_Sync (d : (Option Addr)) (file : Int) (w : World) (K : Value → World → Prop) (KP : List PanicEntry → World → Prop) : Prop := Calls Try.prog 12 #[.pointer d, .int .i64 file] w (Ret K KP)
@[reducible] def disk_Disk_Crash (d : (Option Addr)) (a : Int) (p2_ : Int) (w : World) (K : Value → World → Prop) (KP : List PanicEntry → World → Prop) : Prop := Calls Try.prog 13 #[.pointer d, .int .i64 a, .int .i64 p2_] w (Ret K KP)
@[reducible] def disk_Disk_Read (d : (Option Addr)) (file : Int) (w : World) (K : Value → World → Prop) (KP : List PanicEntry → World → Prop) : Prop := Calls Try.prog 14 #[.pointer d, .int .i64 file] w (Ret K KP)
@[reducible] def disk_Disk_Pending (d : (Option Addr)) (file : Int) (w : World) (K : Value → World → Prop) (KP : List PanicEntry → World → Prop) : Prop := Calls Try.prog 15 #[.pointer d, .int .i64 file] w (Ret K KP)
@[reducible] def skepref03_New (w : World) (K : Value → World → Prop) (KP : List PanicEntry → World → Prop) : Prop := Calls Try.prog 16 #[] w (Ret K KP)
@[reducible] def skeplaw03_do (d : (Option Addr)) (p1_ : (Option Addr)) (p2_ : S.skeplaw03_Op) (w : World) (K : Value → World → Prop) (KP : List PanicEntry → World → Prop) : Prop := Calls Try.prog 17 #[.pointer d, .pointer p1_, S.skeplaw03_Op.v p2_] w (Ret K KP)
@[reducible] def skeplaw03_same (d : (Option Addr)) (p1_ : (Option Addr)) (w : World) (K : Value → World → Prop) (KP : List PanicEntry → World → Prop) : Prop := Calls Try.prog 18 #[.pointer d, .pointer p1_] w (Ret K KP)
@[reducible] def skeplaw00_Place (v : Int) (n : Int) (w : World) (K : Value → World → Prop) (KP : List PanicEntry → World → Prop) : Prop := Calls Try.prog 19 #[.int .i64 v, .int .i64 n] w (Ret K KP)
@[reducible] def disk_Disk_Cut (d : (Option Addr)) (file : Int) (size : Int) (w : World) (K : Value → World → Prop) (KP : List PanicEntry → World → Prop) : Prop := Calls Try.prog 20 #[.pointer d, .int .i64 file, .int .i64 size] w (Ret K KP)
@[reducible] def disk_Disk_Size (d : (Option Addr)) (file : Int) (w : World) (K : Value → World → Prop) (KP : List PanicEntry → World → Prop) : Prop := Calls Try.prog 21 #[.pointer d, .int .i64 file] w (Ret K KP)
@[reducible] def disk_Disk_file (d : (Option Addr)) (n : Int) (w : World) (K : Value → World → Prop) (KP : List PanicEntry → World → Prop) : Prop := Calls Try.prog 22 #[.pointer d, .int .i64 n] w (Ret K KP)
@[reducible] def disk_done_units (p0_ : S.disk_done) (w : World) (K : Value → World → Prop) (KP : List PanicEntry → World → Prop) : Prop := Calls Try.prog 23 #[S.disk_done.v p0_] w (Ret K KP)
@[reducible] def skepref03_Disk_Append (d : (Option Addr)) (file : Int) (p2_ : Sl) (w : World) (K : Value → World → Prop) (KP : List PanicEntry → World → Prop) : Prop := Calls Try.prog 24 #[.pointer d, .int .i64 file, .slice p2_.a p2_.len p2_.cap] w (Ret K KP)
@[reducible] def skepref03_Disk_Cut (d : (Option Addr)) (file : Int) (size : Int) (w : World) (K : Value → World → Prop) (KP : List PanicEntry → World → Prop) : Prop := Calls Try.prog 25 #[.pointer d, .int .i64 file, .int .i64 size] w (Ret K KP)
@[reducible] def skepref03_Disk_Sync (d : (Option Addr)) (file : Int) (w : World) (K : Value → World → Prop) (KP : List PanicEntry → World → Prop) : Prop := Calls Try.prog 26 #[.pointer d, .int .i64 file] w (Ret K KP)
@[reducible] def skepref03_Disk_Crash (d : (Option Addr)) (a : Int) (p2_ : Int) (w : World) (K : Value → World → Prop) (KP : List PanicEntry → World → Prop) : Prop := Calls Try.prog 27 #[.pointer d, .int .i64 a, .int .i64 p2_] w (Ret K KP)
@[reducible] def skepref03_Disk_Read (d : (Option Addr)) (file : Int) (w : World) (K : Value → World → Prop) (KP : List PanicEntry → World → Prop) : Prop := Calls Try.prog 28 #[.pointer d, .int .i64 file] w (Ret K KP)
@[reducible] def skepref03_Disk_Size (d : (Option Addr)) (file : Int) (w : World) (K : Value → World → Prop) (KP : List PanicEntry → World → Prop) : Prop := Calls Try.prog 29 #[.pointer d, .int .i64 file] w (Ret K KP)
@[reducible] def skepref03_Disk_Pending (d : (Option Addr)) (file : Int) (w : World) (K : Value → World → Prop) (KP : List PanicEntry → World → Prop) : Prop := Calls Try.prog 30 #[.pointer d, .int .i64 file] w (Ret K KP)
@[reducible] def skepref03_with (f : S.skepref03_F) (n : Int) (w : World) (K : Value → World → Prop) (KP : List PanicEntry → World → Prop) : Prop := Calls Try.prog 31 #[S.skepref03_F.v f, .int .i64 n] w (Ret K KP)
end C
end Go.Proofs.Ytjjleboohldkiaa
