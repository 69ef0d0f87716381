/- Printed by vc.py: the structures, the table of types, the calls of this seat. No conditions. -/
import Derived.Test.YtongkhanbpboaaaProg
import Derived.Test.YtongkhanbpboaaaEng
namespace Go.Proofs.Ytongkhanbpboaaa
open Go.Eng
set_option linter.unusedVariables false
structure S.skepref09_K where
  Unit : Int
  Accel : Int
  Speed : Int
@[reducible] def S.skepref09_K.v (s : S.skepref09_K) : Value := .agg #[.int .i64 s.Unit, .int .i64 s.Accel, .int .i64 s.Speed]
structure S.Ar41 where
  i0 : Int
  i1 : Int
@[reducible] def S.Ar41.v (s : S.Ar41) : Value := .agg #[.int .i64 s.i0, .int .i64 s.i1]
structure S.kinem_Kin where
  unit : Int
  accel : Int
  speed : Int
  runs : (List Value)
@[reducible] def S.kinem_Kin.v (s : S.kinem_Kin) : Value := .agg #[.int .i64 s.unit, .int .i64 s.accel, .int .i64 s.speed, (s.runs.getD 0 default), (s.runs.getD 1 default), (s.runs.getD 2 default), (s.runs.getD 3 default), (s.runs.getD 4 default), (s.runs.getD 5 default), (s.runs.getD 6 default), (s.runs.getD 7 default), (s.runs.getD 8 default), (s.runs.getD 9 default), (s.runs.getD 10 default), (s.runs.getD 11 default), (s.runs.getD 12 default), (s.runs.getD 13 default), (s.runs.getD 14 default), (s.runs.getD 15 default), (s.runs.getD 16 default), (s.runs.getD 17 default), (s.runs.getD 18 default), (s.runs.getD 19 default), (s.runs.getD 20 default), (s.runs.getD 21 default), (s.runs.getD 22 default), (s.runs.getD 23 default), (s.runs.getD 24 default), (s.runs.getD 25 default), (s.runs.getD 26 default), (s.runs.getD 27 default), (s.runs.getD 28 default), (s.runs.getD 29 default), (s.runs.getD 30 default), (s.runs.getD 31 default), (s.runs.getD 32 default), (s.runs.getD 33 default), (s.runs.getD 34 default), (s.runs.getD 35 default), (s.runs.getD 36 default), (s.runs.getD 37 default), (s.runs.getD 38 default), (s.runs.getD 39 default), (s.runs.getD 40 default), (s.runs.getD 41 default), (s.runs.getD 42 default), (s.runs.getD 43 default), (s.runs.getD 44 default), (s.runs.getD 45 default), (s.runs.getD 46 default), (s.runs.getD 47 default), (s.runs.getD 48 default), (s.runs.getD 49 default), (s.runs.getD 50 default), (s.runs.getD 51 default), (s.runs.getD 52 default), (s.runs.getD 53 default), (s.runs.getD 54 default), (s.runs.getD 55 default), (s.runs.getD 56 default), (s.runs.getD 57 default), (s.runs.getD 58 default), (s.runs.getD 59 default), (s.runs.getD 60 default), (s.runs.getD 61 default), (s.runs.getD 62 default), (s.runs.getD 63 default), (s.runs.getD 64 default), (s.runs.getD 65 default), (s.runs.getD 66 default), (s.runs.getD 67 default)]
def etab : List (Nat × Ty) := [(0, ⟨Unit, fun y => .tuple #[]⟩),
  (1, ⟨Value, fun y => y⟩),
  (2, ⟨Int, fun y => .int .i64 y⟩),
  (3, ⟨Int, fun y => .int .i64 y⟩),
  (4, ⟨Bool, fun y => .bool y⟩),
  (21, ⟨Int, fun y => .int .i32 y⟩),
  (22, ⟨(Option Addr), fun y => .pointer y⟩),
  (24, ⟨S.skepref09_K, fun y => S.skepref09_K.v y⟩),
  (25, ⟨((Option Addr) × S.skepref09_K × Bool), fun y => .tuple #[.pointer y.1, S.skepref09_K.v y.2.1, .bool y.2.2]⟩),
  (30, ⟨(Int × Int × Int), fun y => .tuple #[.int .i64 y.1, .int .i64 y.2.1, .int .i64 y.2.2]⟩),
  (33, ⟨Sl, fun y => .slice y.a y.len y.cap⟩),
  (37, ⟨(Int × Int), fun y => .tuple #[.int .i64 y.1, .int .i64 y.2]⟩),
  (39, ⟨Sl, fun y => .slice y.a y.len y.cap⟩),
  (41, ⟨S.Ar41, fun y => S.Ar41.v y⟩),
  (42, ⟨Int, fun y => .int .i64 y⟩),
  (43, ⟨((Option Addr) × Int), fun y => .tuple #[.pointer y.1, .int .i64 y.2]⟩),
  (49, ⟨Int, fun y => .int .u32 y⟩),
  (60, ⟨(List Value), fun y => .agg (y).toArray⟩),
  (65, ⟨Value, fun y => y⟩),
  (68, ⟨(Option Addr), fun y => .pointer y⟩),
  (70, ⟨Value, fun y => y⟩),
  (71, ⟨(Option Addr), fun y => .pointer y⟩),
  (72, ⟨(Option Addr), fun y => .pointer y⟩),
  (76, ⟨(Option Addr), fun y => .pointer y⟩),
  (79, ⟨(Option Addr), fun y => .pointer y⟩),
  (1000001, ⟨(Option Addr), fun y => .pointer y⟩),
  (1000002, ⟨Nat, fun y => .pointer (some ⟨y, 0, none⟩)⟩),
  (1000010, ⟨Int, fun y => .int .i8 y⟩),
  (1000011, ⟨Int, fun y => .int .i16 y⟩),
  (1000012, ⟨Int, fun y => .int .i32 y⟩),
  (1000013, ⟨Int, fun y => .int .i64 y⟩),
  (1000014, ⟨Int, fun y => .int .u8 y⟩),
  (1000015, ⟨Int, fun y => .int .u16 y⟩),
  (1000016, ⟨Int, fun y => .int .u32 y⟩),
  (1000017, ⟨Int, fun y => .int .u64 y⟩),
  (1000030, ⟨Bool, fun y => .bool y⟩),
  (1000031, ⟨ByteArray, fun y => .string y⟩),
  (1000032, ⟨Sl, fun y => .slice y.a y.len y.cap⟩),
  (1000033, ⟨(Option Nat), fun y => .map y⟩)]
@[reducible] def lookT : List (Nat × Ty) → Nat → Ty
  | [], _ => ⟨Value, fun y => y⟩
  | (k, x) :: r, i => match Nat.beq k i with | true => x | false => lookT r i
@[reducible] def E (t : TypeId) : Ty := lookT etab t
theorem mixed : Try.prog.follows .mixedOrders = true := by kernel_rfl
namespace C
@[reducible] def skeplaw09_KinemNews (u : Int) (a : Int) (v : Int) (s : Int) (w : World) (K : Value → World → Prop) (KP : List PanicEntry → World → Prop) : Prop := Calls Try.prog 3 #[.int .i64 u, .int .i64 a, .int .i64 v, .int .i64 s] w (Ret K KP)
@[reducible] def skeplaw09_KinemProfiles (u : Int) (a : Int) (v : Int) (n : Int) (t : Int) (w : World) (K : Value → World → Prop) (KP : List PanicEntry → World → Prop) : Prop := Calls Try.prog 4 #[.int .i64 u, .int .i64 a, .int .i64 v, .int .i64 n, .int .i64 t] w (Ret K KP)
@[reducible] def skeplaw09_KinemStops (u : Int) (a : Int) (v : Int) (n : Int) (t : Int) (w : World) (K : Value → World → Prop) (KP : List PanicEntry → World → Prop) : Prop := Calls Try.prog 5 #[.int .i64 u, .int .i64 a, .int .i64 v, .int .i64 n, .int .i64 t] w (Ret K KP)
@[reducible] def skeplaw09_KinemLaws (u : Int) (a : Int) (v : Int) (n : Int) (w : World) (K : Value → World → Prop) (KP : List PanicEntry → World → Prop) : Prop := Calls Try.prog 6 #[.int .i64 u, .int .i64 a, .int .i64 v, .int .i64 n] w (Ret K KP)
@[reducible] def skeplaw09_KinemFast (u : Int) (a : Int) (v : Int) (n : Int) (w : World) (K : Value → World → Prop) (KP : List PanicEntry → World → Prop) : Prop := Calls Try.prog 7 #[.int .i64 u, .int .i64 a, .int .i64 v, .int .i64 n] w (Ret K KP)
@[reducible] def skeplaw09_KinemStands (u : Int) (a : Int) (v : Int) (n : Int) (t : Int) (w : World) (K : Value → World → Prop) (KP : List PanicEntry → World → Prop) : Prop := Calls Try.prog 8 #[.int .i64 u, .int .i64 a, .int .i64 v, .int .i64 n, .int .i64 t] w (Ret K KP)
@[reducible] def skeplaw09_KinemLater (u : Int) (a : Int) (v : Int) (n : Int) (t : Int) (w : World) (K : Value → World → Prop) (KP : List PanicEntry → World → Prop) : Prop := Calls Try.prog 9 #[.int .i64 u, .int .i64 a, .int .i64 v, .int .i64 n, .int .i64 t] w (Ret K KP)
@[reducible] def skeplaw09_KinemWindows (u : Int) (a : Int) (v : Int) (n : Int) (length : Int) (w : World) (K : Value → World → Prop) (KP : List PanicEntry → World → Prop) : Prop := Calls Try.prog 10 #[.int .i64 u, .int .i64 a, .int .i64 v, .int .i64 n, .int .i64 length] w (Ret K KP)
@[reducible] def skeplaw09_KinemTakes (u : Int) (a : Int) (v : Int) (n : Int) (t : Int) (w : World) (K : Value → World → Prop) (KP : List PanicEntry → World → Prop) : Prop := Calls Try.prog 11 #[.int .i64 u, .int .i64 a, .int .i64 v, .int .i64 n, .int .i64 t] w (Ret K KP)
@[reducible] def skeplaw09_KinemCovers (u : Int) (a : Int) (v : Int) (n : Int) (length : Int) (w : World) (K : Value → World → Prop) (KP : List PanicEntry → World → Prop) : Prop := Calls Try.prog 12 #[.int .i64 u, .int .i64 a, .int .i64 v, .int .i64 n, .int .i64 length] w (Ret K KP)
@[reducible] def skeplaw09_made (u : Int) (a : Int) (v : Int) (w : World) (K : Value → World → Prop) (KP : List PanicEntry → World → Prop) : Prop := Calls Try.prog 13 #[.int .i64 u, .int .i64 a, .int .i64 v] w (Ret K KP)
@[reducible] def skeplaw09_awake (w : World) (K : Value → World → Prop) (KP : List PanicEntry → World → Prop) : Prop := Calls Try.prog 14 #[] w (Ret K KP)
@[reducible] def kinem_Kin_Brake (k : (Option Addr)) (s : Int) (w : World) (K : Value → World → Prop) (KP : List PanicEntry → World → Prop) : Prop := Calls Try.prog 15 #[.pointer k, .int .i64 s] w (Ret K KP)
@[reducible] def skepref09_K_Brake (k : S.skepref09_K) (s : Int) (w : World) (K : Value → World → Prop) (KP : List PanicEntry → World → Prop) : Prop := Calls Try.prog 16 #[S.skepref09_K.v k, .int .i64 s] w (Ret K KP)
@[reducible] def skeplaw09_few (u : Int) (a : Int) (v : Int) (w : World) (K : Value → World → Prop) (KP : List PanicEntry → World → Prop) : Prop := Calls Try.prog 17 #[.int .i64 u, .int .i64 a, .int .i64 v] w (Ret K KP)
@[reducible] def skeplaw00_SameInts (a : Sl) (p1_ : Sl) (w : World) (K : Value → World → Prop) (KP : List PanicEntry → World → Prop) : Prop := Calls Try.prog 18 #[.slice a.a a.len a.cap, .slice p1_.a p1_.len p1_.cap] w (Ret K KP)
@[reducible] def kinem_Kin_Profile (k : (Option Addr)) (n : Int) (w : World) (K : Value → World → Prop) (KP : List PanicEntry → World → Prop) : Prop := Calls Try.prog 19 #[.pointer k, .int .i64 n] w (Ret K KP)
@[reducible] def skepref09_K_Profile (k : S.skepref09_K) (n : Int) (w : World) (K : Value → World → Prop) (KP : List PanicEntry → World → Prop) : Prop := Calls Try.prog 20 #[S.skepref09_K.v k, .int .i64 n] w (Ret K KP)
@[reducible] def kinem_Kin_Time (k : (Option Addr)) (n : Int) (w : World) (K : Value → World → Prop) (KP : List PanicEntry → World → Prop) : Prop := Calls Try.prog 21 #[.pointer k, .int .i64 n] w (Ret K KP)
@[reducible] def skepref09_K_Time (k : S.skepref09_K) (n : Int) (w : World) (K : Value → World → Prop) (KP : List PanicEntry → World → Prop) : Prop := Calls Try.prog 22 #[S.skepref09_K.v k, .int .i64 n] w (Ret K KP)
@[reducible] def kinem_Kin_At (k : (Option Addr)) (n : Int) (t : Int) (w : World) (K : Value → World → Prop) (KP : List PanicEntry → World → Prop) : Prop := Calls Try.prog 23 #[.pointer k, .int .i64 n, .int .i64 t] w (Ret K KP)
@[reducible] def skepref09_K_At (k : S.skepref09_K) (n : Int) (t : Int) (w : World) (K : Value → World → Prop) (KP : List PanicEntry → World → Prop) : Prop := Calls Try.prog 24 #[S.skepref09_K.v k, .int .i64 n, .int .i64 t] w (Ret K KP)
@[reducible] def kinem_Kin_Speed (k : (Option Addr)) (n : Int) (t : Int) (w : World) (K : Value → World → Prop) (KP : List PanicEntry → World → Prop) : Prop := Calls Try.prog 25 #[.pointer k, .int .i64 n, .int .i64 t] w (Ret K KP)
@[reducible] def skepref09_K_Speed1 (k : S.skepref09_K) (n : Int) (t : Int) (w : World) (K : Value → World → Prop) (KP : List PanicEntry → World → Prop) : Prop := Calls Try.prog 26 #[S.skepref09_K.v k, .int .i64 n, .int .i64 t] w (Ret K KP)
@[reducible] def skeplaw00_Place (v : Int) (n : Int) (w : World) (K : Value → World → Prop) (KP : List PanicEntry → World → Prop) : Prop := Calls Try.prog 27 #[.int .i64 v, .int .i64 n] w (Ret K KP)
@[reducible] def kinem_Kin_Stop (k : (Option Addr)) (n : Int) (t : Int) (w : World) (K : Value → World → Prop) (KP : List PanicEntry → World → Prop) : Prop := Calls Try.prog 28 #[.pointer k, .int .i64 n, .int .i64 t] w (Ret K KP)
@[reducible] def skepref09_K_Stop (k : S.skepref09_K) (n : Int) (t : Int) (w : World) (K : Value → World → Prop) (KP : List PanicEntry → World → Prop) : Prop := Calls Try.prog 29 #[S.skepref09_K.v k, .int .i64 n, .int .i64 t] w (Ret K KP)
@[reducible] def kinem_Kin_Windows (k : (Option Addr)) (n : Int) (length : Int) (w : World) (K : Value → World → Prop) (KP : List PanicEntry → World → Prop) : Prop := Calls Try.prog 30 #[.pointer k, .int .i64 n, .int .i64 length] w (Ret K KP)
@[reducible] def skepref09_K_Windows (k : S.skepref09_K) (n : Int) (length : Int) (w : World) (K : Value → World → Prop) (KP : List PanicEntry → World → Prop) : Prop := Calls Try.prog 31 #[S.skepref09_K.v k, .int .i64 n, .int .i64 length] w (Ret K KP)
@[reducible] def kinem_New (unit : Int) (accel : Int) (speed : Int) (w : World) (K : Value → World → Prop) (KP : List PanicEntry → World → Prop) : Prop := Calls Try.prog 32 #[.int .i64 unit, .int .i64 accel, .int .i64 speed] w (Ret K KP)
@[reducible] def skepref09_May (k : S.skepref09_K) (w : World) (K : Value → World → Prop) (KP : List PanicEntry → World → Prop) : Prop := Calls Try.prog 33 #[S.skepref09_K.v k] w (Ret K KP)
@[reducible] def skepref09_K_brake (k : S.skepref09_K) (s : Int) (w : World) (K : Value → World → Prop) (KP : List PanicEntry → World → Prop) : Prop := Calls Try.prog 34 #[S.skepref09_K.v k, .int .i64 s] w (Ret K KP)
@[reducible] def kinem_Kin_places (k : (Option Addr)) (n : Int) (w : World) (K : Value → World → Prop) (KP : List PanicEntry → World → Prop) : Prop := Calls Try.prog 35 #[.pointer k, .int .i64 n] w (Ret K KP)
@[reducible] def skepref09_K_next (k : S.skepref09_K) (r : Int) (s : Int) (v : Int) (w : World) (K : Value → World → Prop) (KP : List PanicEntry → World → Prop) : Prop := Calls Try.prog 36 #[S.skepref09_K.v k, .int .i64 r, .int .i64 s, .int .i64 v] w (Ret K KP)
@[reducible] def kinem_Kin_steps (k : (Option Addr)) (place : Int) (speed : Int) (p3_ : Int) (falls : Bool) (w : World) (K : Value → World → Prop) (KP : List PanicEntry → World → Prop) : Prop := Calls Try.prog 37 #[.pointer k, .int .i64 place, .int .i64 speed, .int .i64 p3_, .bool falls] w (Ret K KP)
@[reducible] def sync_Once_Do (o : (Option Addr)) (f : Value) (w : World) (K : Value → World → Prop) (KP : List PanicEntry → World → Prop) : Prop := Calls Try.prog 38 #[.pointer o, f] w (Ret K KP)
@[reducible] def kinem_Kin_places_1 (p0_ : (Option Addr)) (p1_ : (Option Addr)) (p2_ : (Option Addr)) (w : World) (K : Value → World → Prop) (KP : List PanicEntry → World → Prop) : Prop := Calls Try.prog 39 #[.pointer p0_, .pointer p1_, .pointer p2_] w (Ret K KP)
@[reducible] def kinem_Kin_steps_1 (yield : Value) (p1_ : (Option Addr)) (p2_ : (Option Addr)) (p3_ : (Option Addr)) (p4_ : (Option Addr)) (p5_ : (Option Addr)) (w : World) (K : Value → World → Prop) (KP : List PanicEntry → World → Prop) : Prop := Calls Try.prog 40 #[yield, .pointer p1_, .pointer p2_, .pointer p3_, .pointer p4_, .pointer p5_] w (Ret K KP)
@[reducible] def kinem_Kin_next (k : (Option Addr)) (r : Int) (s : Int) (v : Int) (w : World) (K : Value → World → Prop) (KP : List PanicEntry → World → Prop) : Prop := Calls Try.prog 41 #[.pointer k, .int .i64 r, .int .i64 s, .int .i64 v] w (Ret K KP)
@[reducible] def sync_atomic_Bool_Load (p0_ : (Option Addr)) (w : World) (K : Value → World → Prop) (KP : List PanicEntry → World → Prop) : Prop := Calls Try.prog 42 #[.pointer p0_] w (Ret K KP)
@[reducible] def sync_Once_doSlow (o : (Option Addr)) (f : Value) (w : World) (K : Value → World → Prop) (KP : List PanicEntry → World → Prop) : Prop := Calls Try.prog 43 #[.pointer o, f] w (Ret K KP)
@[reducible] def sync_Mutex_Lock (m : (Option Addr)) (w : World) (K : Value → World → Prop) (KP : List PanicEntry → World → Prop) : Prop := Calls Try.prog 45 #[.pointer m] w (Ret K KP)
@[reducible] def sync_Mutex_Unlock (m : (Option Addr)) (w : World) (K : Value → World → Prop) (KP : List PanicEntry → World → Prop) : Prop := Calls Try.prog 46 #[.pointer m] w (Ret K KP)
@[reducible] def sync_atomic_Bool_Store (p0_ : (Option Addr)) (val : Bool) (w : World) (K : Value → World → Prop) (KP : List PanicEntry → World → Prop) : Prop := Calls Try.prog 47 #[.pointer p0_, .bool val] w (Ret K KP)
@[reducible] def internal_sync_Mutex_Lock (m : (Option Addr)) (w : World) (K : Value → World → Prop) (KP : List PanicEntry → World → Prop) : Prop := Calls Try.prog 48 #[.pointer m] w (Ret K KP)
@[reducible] def internal_sync_Mutex_Unlock (m : (Option Addr)) (w : World) (K : Value → World → Prop) (KP : List PanicEntry → World → Prop) : Prop := Calls Try.prog 49 #[.pointer m] w (Ret K KP)
@[reducible] def sync_atomic_b32 (p0_ : Bool) (w : World) (K : Value → World → Prop) (KP : List PanicEntry → World → Prop) : Prop := Calls Try.prog 51 #[.bool p0_] w (Ret K KP)
@[reducible] def internal_sync_Mutex_lockSlow (m : (Option Addr)) (w : World) (K : Value → World → Prop) (KP : List PanicEntry → World → Prop) : Prop := Calls Try.prog 56 #[.pointer m] w (Ret K KP)
@[reducible] def internal_sync_Mutex_unlockSlow (m : (Option Addr)) (new : Int) (w : World) (K : Value → World → Prop) (KP : List PanicEntry → World → Prop) : Prop := Calls Try.prog 59 #[.pointer m, .int .i32 new] w (Ret K KP)
end C
end Go.Proofs.Ytongkhanbpboaaa
