/- The engine: what an operation, a region, a function of the program comes to, as a predicate of typed values; each is shown to be sound. No conditions. -/
import Derived.Orders
import Derived.Laws.Tables
import Derived.RowKit3
import Derived.Below
import Derived.KernelRfl
import Derived.Handy
import Derived.RangeFuncSeq
import Derived.Laws.MakeOwn
import Derived.Laws.StructEq
import Derived.ChangeKeysEq
import Derived.Still
import Derived.OrdersIn
import Derived.Laws.BytesString
import Derived.RangeFuncLeaves
import Derived.Scope
namespace Go.Eng
open Go.RowKit
set_option linter.unusedVariables false

/-- The slots, and the calls that wait for the end. -/
structure Env where
  f : Nat → Value
  ms : List Deferred
@[reducible] def eset (e : Env) (d : Nat) (v : Value) : Env := ⟨fun i => cond (Nat.beq i d) v (e.f i), e.ms⟩
@[reducible] def eput (e : Env) (d : Option Nat) (v : Value) : Env := match d with | some d => eset e d v | none => e
@[reducible] def eop (e : Env) : Operand → Value
  | .tmp t => e.f t
  | .const v => v
  | .global g => .pointer (some ⟨g, 0, none⟩)
  | .func f => .func (.func f) #[] #[]

/-- How the values of a type are written: a type of Lean's, and what value each is. -/
structure Sl where
  a : Option Addr
  len : Nat
  cap : Nat
@[reducible] def Sl.v (s : Sl) : Value := .slice s.a s.len s.cap
structure Ty where
  α : Type
  val : α → Value

/-- A value lies at an address. -/
def World.has (w : World) (a : Addr) (cs : List Value) : Prop := ∀ i v, cs[i]? = some v → w.cell? (a.add i) = some v
def rd (w : World) (a : Addr) (v : Value) : Prop := match v with
  | .agg cs => World.has w a cs.toList
  | v => w.cell? a = some v
/-- A new row of cells. -/
def Alloc (w : World) (b : Nat) (t : TypeId) (cs : List Value) (w1 : World) : Prop := b = w.heap.size ∧ w1 = w.alloc (.cells cs.toArray t)
def putRow (w : World) (a : Addr) : Nat → List Value → World
  | _, [] => w
  | i, v :: r => putRow (w.setCell (a.add i) v) a (i + 1) r
def putAt (w : World) (a : Addr) (v : Value) : World := match v with
  | .agg cs => putRow w a 0 cs.toList
  | v => w.setCell a v
/-- The cells that a store wants: there, and not shared with a string. -/
def canPut (w : World) (a : Addr) (v : Value) : Prop := match v with
  | .agg cs => ∀ i, i < cs.size → (∃ c, w.cell? (a.add i) = some c) ∧ w.frozen? (a.add i) = false
  | _ => (∃ c, w.cell? a = some c) ∧ w.frozen? a = false

@[reducible] def withSome {α : Type} (q : Option α) (F : α → Prop) : Prop := match q with | some a => F a | none => False
@[reducible] def withAddr (v : Value) (F : Addr → Prop) : Prop := match v with | .pointer q => withSome q F | _ => False
@[reducible] def sizeB (P : Program) (t : TypeId) : Nat := match P.info? t with | some i => i.size | none => 0
@[reducible] def aggB (P : Program) (t : TypeId) : Bool := match P.underlying t with | some (.struct _) => true | some (.array _ _) => true | _ => false
/-- A value has the form of its type: an aggregate of the right size, or one cell. -/
@[reducible] def leafB (v : Value) : Bool := match v with | .agg _ => false | .tuple _ => false | _ => true
@[reducible] def okVal (g : Bool) (n : Nat) (v : Value) : Bool := match v with
  | .agg cs => cond g (Nat.beq cs.size n && cs.toList.all leafB) false
  | .tuple _ => false
  | _ => cond g false true
def shlI (k : IntKind) (x y : Int) : Int := k.wrap (x * 2 ^ (min y.toNat k.bits))
def shrI (k : IntKind) (x y : Int) : Int := x.fdiv (2 ^ (min y.toNat k.bits))
def andI (k : IntKind) (x y : Int) : Int := k.wrap (BitVec.ofInt k.bits x &&& BitVec.ofInt k.bits y).toNat
def orI (k : IntKind) (x y : Int) : Int := k.wrap (BitVec.ofInt k.bits x ||| BitVec.ofInt k.bits y).toNat
def xorI (k : IntKind) (x y : Int) : Int := k.wrap (BitVec.ofInt k.bits x ^^^ BitVec.ofInt k.bits y).toNat
def notI (k : IntKind) (x : Int) : Int := xorI k (if k.signed then -1 else k.max) x
def strEq (x y : ByteArray) : Bool := x.toList == y.toList
def bytesV (s : ByteArray) : List Value := s.data.toList.map fun b => .int .u8 b.toNat

/-- Of the blocks that were there, only those of l may have turned. -/
structure Kp (l : List Nat) (w w' : World) : Prop where
  os : w'.os = w.os
  tape : w'.tape = w.tape
  output : w'.output = w.output
  size : w.heap.size ≤ w'.heap.size
  block : ∀ k, k < w.heap.size → k ∉ l → w'.heap[k]? = w.heap[k]?
/-- What a call may end in. -/
@[reducible] def Ret (K : Value → World → Prop) (KP : List PanicEntry → World → Prop) : Ending → World → Prop := fun e w => match e with
  | .returned v => K v w
  | .panicked c => KP c w
  | .outgrown => False
@[reducible] def bodied (P : Program) (f : Nat) : Bool := match P.funcs[f]? with | some fn => fn.body.isSome && !(fn.name == "runtime.NumGoroutine") | none => false
def callV (P : Program) (f : Value) (args : List Value) (w : World) (R : Ending → World → Prop) : Prop := match f with
  | .func (.func f) a b => bodied P f = true ∧ Calls P f (a ++ args.toArray ++ b) w R
  | .func (.yield l) a _ => YieldAt Fence.wide 0 P l (a ++ args.toArray) w R
  | _ => False

section
variable (P : Program) (E : TypeId → Ty)

/-- A part of an aggregate. -/
@[reducible] def partV (t : TypeId) (cs : Array Value) (off : Nat) : Option Value :=
  cond (P.underlying t).isSome (cond (aggB P t) (some (.agg (cs.extract off (off + sizeB P t)))) cs[off]?) none
def eqFs (f : TypeId → Value → Value → Option Bool) (xs ys : Array Value) : List Field → Option Bool
  | [] => some true
  | g :: r => cond (g.name == "_") (eqFs f xs ys r) (match partV P g.type xs g.offset, partV P g.type ys g.offset with
    | some a, some b => match f g.type a b, eqFs f xs ys r with
      | some p, some q => some (p && q)
      | _, _ => none
    | _, _ => none)
def eqAs (f : TypeId → Value → Value → Option Bool) (xs ys : Array Value) (el : TypeId) : Nat → Nat → Option Bool
  | 0, _ => some true
  | n + 1, i => match partV P el xs (i * sizeB P el), partV P el ys (i * sizeB P el) with
    | some a, some b => match f el a b, eqAs f xs ys el n (i + 1) with
      | some p, some q => some (p && q)
      | _, _ => none
    | _, _ => none
/-- Are two flat values the same? -/
def eqL : Nat → TypeId → Value → Value → Option Bool
  | 0, _, _, _ => none
  | n + 1, t, x, y => match P.underlying t, x, y with
    | some .bool, .bool a, .bool b => some (a == b)
    | some (.int _), .int k a, .int j b => cond (decide (k = j)) (some (a == b)) none
    | some .string, .string a, .string b => some (strEq a b)
    | some (.struct fs), .agg xs, .agg ys => cond (P.stoodInHeld t) none (eqFs P (eqL n) xs ys fs.toList)
    | some (.array (m + 1) el), .agg xs, .agg ys => eqAs P (eqL n) xs ys el (m + 1) 0
    | _, _, _ => none

def isFn (v : Value) : Prop := v = .nilFunc ∨ ∃ f a b, v = .func f a b
def isNilF (v : Value) : Bool := match v with | .nilFunc => true | _ => false
@[reducible] def xbin2 (op : BinOp) (t : TypeId) (x y : Value) (K : Value → Prop) : Prop :=
  match x, y with
  | .int k a, .int j b => match op with
    | .shl => 0 ≤ b ∧ K (.int k (shlI k a b))
    | .shr => 0 ≤ b ∧ K (.int k (shrI k a b))
    | .add => cond (decide (k = j)) (K (.int k (k.wrap (a + b)))) False
    | .sub => cond (decide (k = j)) (K (.int k (k.wrap (a - b)))) False
    | .mul => cond (decide (k = j)) (K (.int k (k.wrap (a * b)))) False
    | .quo => cond (decide (k = j)) (b ≠ 0 ∧ K (.int k (k.wrap (a.tdiv b)))) False
    | .rem => cond (decide (k = j)) (b ≠ 0 ∧ K (.int k (a.tmod b))) False
    | .and => cond (decide (k = j)) (K (.int k (andI k a b))) False
    | .or => cond (decide (k = j)) (K (.int k (orI k a b))) False
    | .xor => cond (decide (k = j)) (K (.int k (xorI k a b))) False
    | .eql => cond (decide (k = j)) (K (.bool (a == b))) False
    | .neq => cond (decide (k = j)) (K (.bool (a != b))) False
    | .lss => cond (decide (k = j)) (K (.bool (decide (a < b)))) False
    | .leq => cond (decide (k = j)) (K (.bool (decide (a ≤ b)))) False
    | .gtr => cond (decide (k = j)) (K (.bool (decide (a > b)))) False
    | .geq => cond (decide (k = j)) (K (.bool (decide (a ≥ b)))) False
    | _ => False
  | .string a, .string b => match op with
    | .eql => K (.bool (strEq a b))
    | .neq => K (.bool (!strEq a b))
    | .add => a.size + b.size ≤ 9223372036854775807 ∧ K (.string (a ++ b))
    | _ => False
  | .bool a, .bool b => match P.underlying t, op with
    | some .bool, .eql => K (.bool (a == b))
    | some .bool, .neq => K (.bool (!(a == b)))
    | _, _ => False
  | .pointer q, .pointer none => match P.underlying t, op with
    | some (.pointer _), .eql => K (.bool q.isNone)
    | some (.pointer _), .neq => K (.bool (!q.isNone))
    | _, _ => False
  | .slice q _ _, .slice none _ _ => match P.underlying t, op with
    | some (.slice _), .eql => K (.bool q.isNone)
    | some (.slice _), .neq => K (.bool (!q.isNone))
    | _, _ => False
  | .map q, .map none => match P.underlying t, op with
    | some (.map _ _), .eql => K (.bool q.isNone)
    | some (.map _ _), .neq => K (.bool (!q.isNone))
    | _, _ => False
  | .agg a, .agg b => cond (P.eqGuardType P.depth t) False (match op, eqL P 8 t (.agg a) (.agg b) with
    | .eql, some c => K (.bool c)
    | .neq, some c => K (.bool (!c))
    | _, _ => False)
  | _, _ => False

@[reducible] def xbin (op : BinOp) (t : TypeId) (x y : Value) (K : Value → Prop) : Prop := match y with
  | .nilFunc => match P.underlying t, op with
    | some (.func _ _ _), .eql => isFn x ∧ K (.bool (isNilF x))
    | some (.func _ _ _), .neq => isFn x ∧ K (.bool (!isNilF x))
    | _, _ => False
  | z => xbin2 P op t x z K

@[reducible] def sBound (v : Option Value) (d : Nat) (hi : Nat) (F : Nat → Prop) : Prop := match v with
  | some (.int _ i) => (0 ≤ i ∧ i ≤ (hi : Int)) ∧ F i.toNat
  | some _ => False
  | none => F d
/-- x[l:h:m] of a slice. -/
@[reducible] def xslice (size : Nat) (q : Option Addr) (len cap : Nat) (l h m : Option Value) (F : Value → Prop) : Prop :=
  sBound m cap cap fun mm => (match h, m with
    | none, some _ => False
    | _, _ => sBound h len mm fun hh => sBound l 0 hh fun ll => F (.slice (if mm = ll then q else q.map (·.add (ll * size))) (hh - ll) (mm - ll)))
def byteAt (s : ByteArray) (i : Int) : Int := ((s.data[i.toNat]?).getD 0).toNat

/-- Operations that look at no memory. -/
@[reducible] def xpure (o : Oper) (e : Env) (K : Value → Prop) : Prop :=
  match o.op with
  | .move x => K (eop e x)
  | .assign x => K (eop e x)
  | .pick c a b => match eop e c with
    | .bool t => cond t (K (eop e a)) (K (eop e b))
    | _ => False
  | .build t ps => match P.built t (ps.toList.map fun p => (p.1, eop e p.2)) with
    | some cells => K (.agg cells)
    | none => False
  | .nilCheck x => match eop e x with
    | .pointer q => withSome q fun a => K (.pointer (some a))
    | .func (.func f) a b => K (.func (.func f) a b)
    | _ => False
  | .binOp op t x y _ => xbin P op t (eop e x) (eop e y) K
  | .unOp op _ x => match op, eop e x with
    | .not, .bool b => K (.bool (!b))
    | .neg, .int k n => K (.int k (k.wrap (0 - n)))
    | .xor, .int k n => K (.int k (notI k n))
    | _, _ => False
  | .convert s d x => match P.underlying s, P.underlying d, eop e x with
    | some (.int _), some (.int k), .int _ n => K (.int k (k.wrap n))
    | some .string, some .string, .string s => K (.string s)
    | _, _, _ => False
  | .makeInterface t x => match P.underlying t with
    | some (.interface _) => False
    | some _ => K (.iface t (eop e x))
    | none => False
  | .makeFunc f a b => K (.func f (a.toList.map (eop e)).toArray (b.toList.map (eop e)).toArray)
  | .slice t x l h m => match P.underlying t, eop e x with
    | some (.slice el), .slice q len cap => cond (P.underlying el).isSome (xslice (sizeB P el) q len cap (l.map (eop e)) (h.map (eop e)) (m.map (eop e)) K) False
    | some .string, .string s => match m with
      | none => sBound (h.map (eop e)) s.size s.size fun hh => sBound (l.map (eop e)) 0 hh fun ll => K (.string (s.extract ll hh))
      | some _ => False
    | _, _ => False
  | .fieldAddr t x i => match P.underlying t with
    | some (.struct fs) => match fs[i]? with
      | some f => cond (Nat.beq (sizeB P f.type) 0) False (withAddr (eop e x) fun a => K (.pointer (some (a.add f.offset))))
      | none => False
    | _ => False
  | .field t x i => match P.underlying t, eop e x with
    | some (.struct fs), .agg cs => match fs[i]? with
      | some f => match partV P f.type cs f.offset with
        | some v => K v
        | none => False
      | none => False
    | _, _ => False
  | .indexAddr t x i => match P.underlying t, eop e x, eop e i with
    | some (.slice el), .slice q len _, .int _ j => cond (P.underlying el).isSome ((0 ≤ j ∧ j < (len : Int)) ∧ withSome q fun a => K (.pointer (some (a.add (j.toNat * sizeB P el))))) False
    | some (.array n el), .pointer q, .int _ j => cond (P.underlying el).isSome ((0 ≤ j ∧ j < (n : Int)) ∧ withSome q fun a => K (.pointer (some (a.add (j.toNat * sizeB P el))))) False
    | _, _, _ => False
  | .index t x i => match P.underlying t, eop e x, eop e i with
    | some .string, .string s, .int _ j => (0 ≤ j ∧ j < (s.size : Int)) ∧ K (.int .u8 (byteAt s j))
    | some (.array n el), .agg cs, .int _ j => cond (P.underlying el).isSome ((0 ≤ j ∧ j < (n : Int)) ∧ ∃ y : (E o.type).α, partV P el cs (j.toNat * sizeB P el) = some ((E o.type).val y) ∧ K ((E o.type).val y)) False
    | _, _, _ => False
  | .extract x i => match eop e x with
    | .tuple vs => match vs[i]? with
      | some v => K v
      | none => False
    | _ => False
  | .typeAssert x _ t ok => match P.underlying t, eop e x with
    | some (.interface _), _ => False
    | some _, .iface u v => cond (Nat.beq u t) (K (cond ok (.tuple #[v, .bool true]) v)) (cond ok (match (P.info? t).bind (·.zero) with | some z => K (.tuple #[z, .bool false]) | none => False) False)
    | some _, .nilIface => cond ok (match (P.info? t).bind (·.zero) with | some z => K (.tuple #[z, .bool false]) | none => False) False
    | _, _ => False
  | .call c => match c.callee, c.argTypes.toList, c.args.toList.map (eop e) with
    | .builtin .len, [t], [.slice _ n _] => match P.underlying t with | some (.slice _) => K (.int .i64 n) | _ => False
    | .builtin .len, [t], [.string s] => match P.underlying t with | some .string => K (.int .i64 s.size) | _ => False
    | .builtin .cap, [t], [.slice _ _ n] => match P.underlying t with | some (.slice _) => K (.int .i64 n) | _ => False
    | .builtin .max, _, [.int k x, .int _ y] => K (.int k (if y > x then y else x))
    | .builtin .max, _, [.int k x, .int _ y, .int _ z] => K (.int k (if z > (if y > x then y else x) then z else (if y > x then y else x)))
    | .builtin .min, _, [.int k x, .int _ y] => K (.int k (if y < x then y else x))
    | .builtin .min, _, [.int k x, .int _ y, .int _ z] => K (.int k (if z < (if y < x then y else x) then z else (if y < x then y else x)))
    | _, _, _ => False
  | _ => False

/-- Operations that only look at memory: each gives its value and what must hold in another world for the same value. -/
@[reducible] def xread (o : Oper) (e : Env) (w : World) (K : Value → (World → Prop) → Prop) : Prop :=
  match o.op with
  | .load t x => cond (P.underlying t).isSome (withAddr (eop e x) fun a => ∃ y : (E t).α, (okVal (aggB P t) (sizeB P t) ((E t).val y) = true ∧ rd w a ((E t).val y)) ∧ K ((E t).val y) (fun w1 => rd w1 a ((E t).val y))) False
  | .convert s d x => match P.underlying s, P.underlying d, eop e x with
    | some (.slice b), some .string, .slice q len _ => match P.underlying b with
      | some (.int .u8) => ∃ s : ByteArray, (s.size = len ∧ (0 < len → withSome q fun a => World.has w a (bytesV s))) ∧ K (.string s) (fun w1 => 0 < len → withSome q fun a => World.has w1 a (bytesV s))
      | _ => False
    | _, _, _ => False
  | .lookup t x i ok => ∃ y : (E o.type).α, (Instr.lookup t (eop e x) (eop e i) ok).run P w = .ok ((E o.type).val y) w ∧ K ((E o.type).val y) (fun w1 => (Instr.lookup t (eop e x) (eop e i) ok).run P w1 = .ok ((E o.type).val y) w1)
  | .call c => match c.callee, c.args.toList.map (eop e) with
    | .builtin .len, [.map r] => ∃ n : Int, (Builtin.len_ c.argTypes o.type #[.map r]).run P w = .ok (.int .i64 n) w ∧ K (.int .i64 n) (fun w1 => (Builtin.len_ c.argTypes o.type #[.map r]).run P w1 = .ok (.int .i64 n) w1)
    | _, _ => False
  | _ => False

@[reducible] def builtS (t : TypeId) (len : Nat) (parts : List (Nat × Value)) : Option (TypeId × Array Value) := match P.underlying t with
  | some (.slice el) => match P.info? el with
    | some i => match i.zero with
      | some z => cond (Nat.ble (len * i.size) 16777216) ((Instr.fill (fun j => some (j * i.size, i.size)) (madeCells z.cells (len * i.size)) parts).map fun cs => (el, cs)) none
      | none => none
    | none => none
  | _ => none

def Drew (w w0 : World) : Prop := w0 = { w with drawn := w.drawn + 1 }
def Marked (w : World) (a : Addr) (w1 : World) : Prop := w1 = (match w.shape? a.block with | some (_, n) => w.freeze { block := a.block, off := n } 1 | none => w)
def AllocO (w : World) (b : Nat) (o : Obj) (w1 : World) : Prop := b = w.heap.size ∧ w1 = w.alloc o

/-- Operations that make or change memory, calls. -/
@[reducible] def xeff (o : Oper) (e : Env) (KP : List PanicEntry → World → Prop) (K : Value → World → Prop) (w : World) : Prop :=
  match o.op with
  | .alloc t => match (P.info? t).bind (·.zero) with
    | some z => ∀ b w1, Alloc w b t z.cells.toList w1 → K (.pointer (some ⟨b, 0, none⟩)) w1
    | none => False
  | .box t x => ∀ b w1, Alloc w b t (eop e x).cells.toList w1 → K (.pointer (some ⟨b, 0, none⟩)) w1
  | .buildSlice t len ps => match builtS P t len (ps.toList.map fun p => (p.1, eop e p.2)) with
    | some (el, cs) => ∀ b w1, Alloc w b el cs.toList w1 → K (.slice (some ⟨b, 0, none⟩) len len) w1
    | none => False
  | .makeSlice t l c => match P.underlying t, eop e l, eop e c with
    | some (.slice el), .int _ n, .int _ m => match P.info? el with
      | some i => match i.zero with
        | some z => (0 ≤ n ∧ n ≤ m ∧ (i.bytes : Int) * m ≤ 281474976710656 ∧ m ≤ 9223372036854775807) ∧ ∀ b w1, Alloc w b el (madeCells z.cells (m.toNat * i.size)).toList w1 → K (.slice (some ⟨b, 0, none⟩) n.toNat m.toNat) w1
        | none => False
      | none => False
    | _, _, _ => False
  | .makeMap t none => ∀ b w1, AllocO w b (.map #[] 0) w1 → K (.map (some b)) w1
  | .store t x v => cond ((P.underlying t).isSome && (aggB P t || Nat.beq (sizeB P t) 1)) (withAddr (eop e x) fun a => (okVal (aggB P t) (sizeB P t) (eop e v) = true ∧ canPut w a (eop e v)) ∧ ∀ w1, w1 = putAt w a (eop e v) → K undef w1) False
  | .convert s d x => match P.underlying s, P.underlying d, eop e x with
    | some .string, some (.slice el), .string s => match P.underlying el with
      | some (.int .u8) => ∃ q c w1, (Conv.stringToBytes el s).run P w = .ok (.slice q s.size c) w1 ∧ K (.slice q s.size c) w1
      | _ => False
    | some (.slice _), some (.slice el), .slice q n c => match P.underlying el with
      | some (.int .u8) => cond (Nat.beq s d) (withSome q fun a => ∀ w1, Marked w a w1 → K (.slice (some a) n c) w1) False
      | _ => False
    | _, _, _ => False
  | .mapUpdate t m k v => ∃ w1, (Instr.mapUpdate t (eop e m) (eop e k) (eop e v)).run P w = .ok () w1 ∧ K undef w1
  | .insert t m k v => ∃ w1, (Instr.mapUpdate t (eop e m) (eop e k) (eop e v)).run P w = .ok () w1 ∧ K undef w1
  | .panic x => match eop e x with
    | .iface t v => KP [{ v := .iface t v, recovered := false }] w
    | _ => False
  | .call c => match c.callee with
    | .value (.func f) => cond (bodied P f)
          (Calls P f (c.args.toList.map (eop e)).toArray w (Ret (fun v w1 => ∃ p : (E o.type).α, v = (E o.type).val p ∧ K ((E o.type).val p) w1) KP))
          (∃ p : (E o.type).α, ∃ w1, (callFunc f (c.args.toList.map (eop e)).toArray).run P w = .ok (.value ((E o.type).val p)) w1 ∧ K ((E o.type).val p) w1)
    | .value x => callV P (eop e x) (c.args.toList.map (eop e)) w (Ret (fun v w1 => ∃ p : (E o.type).α, v = (E o.type).val p ∧ K ((E o.type).val p) w1) KP)
    | .builtin .append => ∃ q n c' w1, (Builtin.append_ c.argTypes o.type (c.args.toList.map (eop e)).toArray).run P w = .ok (.slice q n c') w1 ∧ K (.slice q n c') w1
    | .builtin .copy => ∃ (n : Int) (w1 : World), (Builtin.copy_ c.argTypes o.type (c.args.toList.map (eop e)).toArray).run P w = .ok (.int .i64 n) w1 ∧ K (.int .i64 n) w1
    | .builtin .delete => ∃ w1, (Builtin.delete_ c.argTypes o.type (c.args.toList.map (eop e)).toArray).run P w = .ok (.tuple #[]) w1 ∧ K (.tuple #[]) w1
    | .builtin .clear => ∃ w1, (Builtin.clear_ c.argTypes o.type (c.args.toList.map (eop e)).toArray).run P w = .ok (.tuple #[]) w1 ∧ K (.tuple #[]) w1
    | _ => False
  | _ => False

/-- Which of the three an operation is. -/
inductive Kind where | pure | read | eff
@[reducible] def kindOf (o : Oper) : Kind := match o.op with
  | .move _ => .pure | .assign _ => .pure | .pick .. => .pure | .build .. => .pure | .nilCheck _ => .pure | .binOp .. => .pure | .unOp .. => .pure
  | .makeInterface .. => .pure | .makeFunc .. => .pure | .slice .. => .pure | .fieldAddr .. => .pure | .field .. => .pure | .indexAddr .. => .pure | .index .. => .pure
  | .extract .. => .pure | .typeAssert .. => .pure
  | .load .. => .read | .lookup .. => .read
  | .convert s d _ => match P.underlying s, P.underlying d with
    | some (.slice _), some .string => .read
    | some .string, some (.slice _) => .eff
    | some (.slice _), some (.slice _) => .eff
    | _, _ => .pure
  | .call c => match c.callee with
    | .builtin .len => match c.argTypes.toList with
      | [t] => match P.underlying t with | some (.map _ _) => .read | _ => .pure
      | _ => .pure
    | .builtin .cap => .pure | .builtin .max => .pure | .builtin .min => .pure
    | _ => .eff
  | _ => .eff
@[reducible] def xop (o : Oper) (e : Env) (KP : List PanicEntry → World → Prop) (K : Value → World → Prop) (w : World) : Prop :=
  match kindOf P o with
  | .pure => xpure P E o e fun v => K v w
  | .read => xread P E o e w fun v _ => K v w
  | .eff => xeff P E o e KP K w
end
end Go.Eng

namespace Go.Eng
open Go.RowKit
set_option linter.unusedVariables false
set_option linter.unusedSimpArgs false
section
variable {P : Program} {E : TypeId → Ty}

theorem under_run {t : TypeId} {d : TypeDesc} (h : P.underlying t = some d) (w : World) : (underlying t).run P w = .ok d w := run_underlying h w
theorem sizeOf_run {t : TypeId} {i : TypeInfo} (h : P.info? t = some i) (w : World) : (sizeOf t).run P w = .ok i.size w := by
  simp [sizeOf, typeInfo, h]
theorem info_of_under {t : TypeId} {d : TypeDesc} (h : P.underlying t = some d) : ∃ i, P.info? t = some i := by
  cases hi : P.info? t with
  | some i => exact ⟨i, rfl⟩
  | none => simp [Program.underlying, hi] at h

theorem upon_of_run {o : Oper} {a : Act} {w w1 : World} {v : Value} {next : Act → World → Prop} {Q : Exit → Act → World → Prop} {r : Result Next}
    (h : r = .ok (.value v) w1) (hn : next (a.put o.dst v) w1) : o.upon P a next Q r := by subst h; exact hn

/-- Cells loaded one by one. -/
theorem loadCells_run (w : World) (ad : Addr) : ∀ (cs : List Value) (i : Nat) (acc : Array Value), (∀ j v, cs[j]? = some v → w.cell? (ad.add (i + j)) = some v) →
    (loadCellsFrom ad i cs.length acc).run P w = .ok (acc ++ cs.toArray) w
  | [], i, acc, _ => by simp [loadCellsFrom]
  | c :: cs, i, acc, h => by
    have h0 := h 0 c rfl
    have hr := loadCells_run w ad cs (i + 1) (acc.push c) (fun j v hj => by rw [show i + 1 + j = i + (j + 1) from by omega]; exact h (j + 1) v hj)
    simp only [Nat.add_zero] at h0
    simp [loadCellsFrom, load, Sem.run, h0, hr]
theorem loadVar_run (w : World) (t : TypeId) (ad : Addr) (v : Value) (d : TypeDesc) (hu : P.underlying t = some d) (hv : okVal (aggB P t) (sizeB P t) v = true) (h : rd w ad v) :
    (loadVar t ad).run P w = .ok v w := by
  obtain ⟨i, hi⟩ := info_of_under hu
  have hs : sizeB P t = i.size := by simp [sizeB, hi]
  unfold loadVar isAgg
  simp only [Sem.run_bind, under_run hu, Result.andThen_ok]
  have key : (∃ cs, v = .agg cs ∧ cs.size = i.size ∧ aggB P t = true) ∨ (aggB P t = false ∧ ∀ cs, v ≠ .agg cs) := by
    unfold okVal at hv
    split at hv
    · rename_i cs
      cases hg : aggB P t
      · simp [hg] at hv
      · simp [hg] at hv; exact .inl ⟨cs, rfl, by rw [hv.1, hs], rfl⟩
    · simp at hv
    · rename_i h1 h2
      cases hg : aggB P t
      · exact .inr ⟨rfl, fun cs e => h1 cs e⟩
      · simp [hg] at hv
  rcases key with ⟨cs, rfl, hsz, hg⟩ | ⟨hg, hna⟩
  · have hl : (loadCells ad i.size).run P w = .ok cs w := by
      have := loadCells_run (P := P) w ad cs.toList 0 #[] (fun j v hj => by rw [Nat.zero_add]; exact h j v hj)
      simpa [loadCells, hsz] using this
    have hg' : (match d with | .struct _ | .array _ _ => true | _ => false) = true := by
      unfold aggB at hg; rw [hu] at hg; cases d <;> simp_all
    cases d <;> simp at hg' <;> simp [sizeOf_run hi, hl]
  · have hc : w.cell? ad = some v := by unfold rd at h; split at h; exact absurd rfl (hna _); exact h
    have hg' : (match d with | .struct _ | .array _ _ => true | _ => false) = false := by
      unfold aggB at hg; rw [hu] at hg; cases d <;> simp_all
    cases d <;> simp at hg' <;> simp [load, Sem.run, hc]

/-- Cells stored one by one. -/
theorem frozen_set (w : World) (a b : Addr) (v : Value) : (w.setCell a v).frozen? b = w.frozen? b := by
  simp only [World.frozen?, World.setCell, Array.getElem?_modify]
  by_cases h : a.block = b.block
  · simp only [h, if_true]
    cases w.heap[b.block]? with
    | none => rfl
    | some o => cases o <;> rfl
  · simp [h]
theorem add_zero' (a : Addr) : a.add 0 = a := by simp [Addr.add]
theorem cellSome_set (w : World) (a b : Addr) (v : Value) (h : ∃ c, w.cell? b = some c) : ∃ c, (w.setCell a v).cell? b = some c := by
  obtain ⟨c, hc⟩ := h
  simp only [World.cell?, World.setCell, Array.getElem?_modify] at *
  by_cases hb : a.block = b.block
  · simp only [hb, if_true]
    cases hh : w.heap[b.block]? with
    | none => rw [hh] at hc; cases hc
    | some o =>
      rw [hh] at hc
      cases o <;> simp at hc
      rename_i cs t fr
      simp only [Option.map_some]
      by_cases hs : b.spot = none
      · simp [hs] at hc ⊢
        obtain ⟨hlt, _⟩ := Array.getElem?_eq_some_iff.1 hc
        cases ha : a.spot with
        | none => exact ⟨_, by rw [Array.getElem?_eq_getElem (by simpa using hlt)]⟩
        | some s => exact ⟨c, by simpa using hc⟩
      · simp [hs] at hc
  · exact ⟨c, by rw [if_neg hb]; exact hc⟩
theorem storeCells_run (ad : Addr) : ∀ (cs : List Value) (w : World) (i : Nat), (∀ v ∈ cs, leafB v = true) →
    (∀ j, j < cs.length → (∃ c, w.cell? (ad.add (i + j)) = some c) ∧ w.frozen? (ad.add (i + j)) = false) →
    (storeCells ad cs i).run P w = .ok () (putRow w ad i cs)
  | [], w, i, _, _ => by simp [storeCells, putRow]
  | c :: cs, w, i, h1, h => by
    obtain ⟨⟨c0, hc0⟩, hf0⟩ := h 0 (by simp)
    simp only [Nat.add_zero] at hc0 hf0
    have hr := storeCells_run ad cs (w.setCell (ad.add i) c) (i + 1) (fun v hv => h1 v (List.mem_cons_of_mem _ hv)) (fun j hj => by
      have := h (j + 1) (by simpa using hj)
      rw [show i + 1 + j = i + (j + 1) from by omega]
      exact ⟨cellSome_set _ _ _ _ this.1, by rw [frozen_set]; exact this.2⟩)
    have hs : (store (ad.add i) c).run P w = .ok () (w.setCell (ad.add i) c) := by
      have hc := h1 c (List.mem_cons_self ..)
      unfold store
      cases c <;> simp [Sem.run, hc0, hf0, leafB] at hc ⊢
    simp [storeCells, hs, hr, putRow]

theorem storeVar_run (w : World) (t : TypeId) (ad : Addr) (v : Value) (hi : ∃ i, P.info? t = some i) (hv : okVal (aggB P t) (sizeB P t) v = true) (h1 : aggB P t = false → sizeB P t = 1) (h : canPut w ad v) :
    (storeVar t ad v).run P w = .ok () (putAt w ad v) := by
  obtain ⟨i, hi⟩ := hi
  have hs : sizeB P t = i.size := by simp [sizeB, hi]
  rw [hs] at hv h1
  unfold storeVar
  cases v
  case agg cs =>
    cases hg : aggB P t
    · simp [okVal, hg] at hv
    · simp [okVal, hg] at hv
      have := storeCells_run (P := P) ad cs.toList w 0 (fun v hv' => by obtain ⟨i, hi, rfl⟩ := List.getElem_of_mem hv'; exact hv.2 i (by simpa using hi)) (fun j hj => by rw [Nat.zero_add]; exact h j (by simpa using hj))
      simp [sizeOf_run hi, Value.cells, hv.1, putAt, this]
  case tuple cs => simp [okVal] at hv
  all_goals
    cases hg : aggB P t
    · have h1' := h1 hg
      obtain ⟨⟨c0, hc0⟩, hf0⟩ := h
      simp [sizeOf_run hi, Value.cells, h1', putAt, storeCells, store, Sem.run, hc0, hf0, add_zero']
    · simp [okVal, hg] at hv
end
end Go.Eng

namespace Go.Eng
open Go.RowKit
set_option linter.unusedVariables false
set_option linter.unusedSimpArgs false
section
variable {P : Program} {E : TypeId → Ty}

theorem int_cond {k j : IntKind} {X : Prop} (h : cond (decide (k = j)) X False) : k = j ∧ X := by
  by_cases e : k = j
  · simpa [e] using h
  · simp [e] at h
theorem eqGuard_int (op : BinOp) (t : TypeId) (x y : Operand) (k j : IntKind) (a b : Int) (w : World) : (eqGuard op t x y (.int k a) (.int j b)).run P w = .ok () w := by
  cases op <;> simp [eqGuard]
theorem eqGuard_str (op : BinOp) (t : TypeId) (x y : Operand) (a b : ByteArray) (w : World) : (eqGuard op t x y (.string a) (.string b)).run P w = .ok () w := by
  cases op <;> simp [eqGuard]
theorem eqGuard_bool (op : BinOp) (t : TypeId) (x y : Operand) (a b : Bool) (w : World) : (eqGuard op t x y (.bool a) (.bool b)).run P w = .ok () w := by
  cases op <;> simp [eqGuard]
theorem eqGuard_ptr (op : BinOp) (t : TypeId) (x y : Operand) (a b : Option Addr) (w : World) : (eqGuard op t x y (.pointer a) (.pointer b)).run P w = .ok () w := by
  cases op <;> simp [eqGuard]
theorem eqGuard_slice (op : BinOp) (t : TypeId) (x y : Operand) (a b : Option Addr) (i j k l : Nat) (w : World) : (eqGuard op t x y (.slice a i j) (.slice b k l)).run P w = .ok () w := by
  cases op <;> simp [eqGuard]
theorem eqGuard_map (op : BinOp) (t : TypeId) (x y : Operand) (a b : Option Nat) (w : World) : (eqGuard op t x y (.map a) (.map b)).run P w = .ok () w := by
  cases op <;> simp [eqGuard]

theorem eqIn_bool (d : Nat) {t : TypeId} (a b : Bool) (w : World) (h : P.underlying t = some .bool) : (Op.equalIn (d + 1) t (.bool a) (.bool b)).run P w = .ok (a == b) w := by
  simp [Op.equalIn, under_run h]
theorem eq_bool {t : TypeId} (a b : Bool) (w : World) (h : P.underlying t = some .bool) : (Op.equal t (.bool a) (.bool b)).run P w = .ok (a == b) w := eqIn_bool 9999 a b w h
theorem eqIn_ptr (d : Nat) {t e : TypeId} (q : Option Addr) (w : World) (h : P.underlying t = some (.pointer e)) : (Op.equalIn (d + 1) t (.pointer q) (.pointer none)).run P w = .ok q.isNone w := by
  cases q <;> simp [Op.equalIn, under_run h]
theorem eq_ptr {t e : TypeId} (q : Option Addr) (w : World) (h : P.underlying t = some (.pointer e)) : (Op.equal t (.pointer q) (.pointer none)).run P w = .ok q.isNone w := eqIn_ptr 9999 q w h
theorem eqIn_slice (d : Nat) {t e : TypeId} (q : Option Addr) (i j k l : Nat) (w : World) (h : P.underlying t = some (.slice e)) : (Op.equalIn (d + 1) t (.slice q i j) (.slice none k l)).run P w = .ok q.isNone w := by
  cases q <;> simp [Op.equalIn, under_run h]
theorem eq_slice {t e : TypeId} (q : Option Addr) (i j k l : Nat) (w : World) (h : P.underlying t = some (.slice e)) : (Op.equal t (.slice q i j) (.slice none k l)).run P w = .ok q.isNone w := eqIn_slice 9999 q i j k l w h
theorem eqIn_fn (d : Nat) {t : TypeId} {e1 e2 : Array TypeId} {e3 : Bool} (f : Value) (w : World) (hf : isFn f) (h : P.underlying t = some (.func e1 e2 e3)) : (Op.equalIn (d + 1) t f .nilFunc).run P w = .ok (isNilF f) w := by
  rcases hf with rfl | ⟨f, a, b, rfl⟩ <;> simp [Op.equalIn, under_run h, isNilF]
theorem eqIn_map (d : Nat) {t e f : TypeId} (q : Option Nat) (w : World) (h : P.underlying t = some (.map e f)) : (Op.equalIn (d + 1) t (.map q) (.map none)).run P w = .ok q.isNone w := by
  cases q <;> simp [Op.equalIn, under_run h]
theorem eq_map {t e f : TypeId} (q : Option Nat) (w : World) (h : P.underlying t = some (.map e f)) : (Op.equal t (.map q) (.map none)).run P w = .ok q.isNone w := eqIn_map 9999 q w h

theorem some_cond {α : Type} {o : Option α} {X : Prop} (h : cond o.isSome X False) : (∃ d, o = some d) ∧ X := by
  cases o with
  | none => exact h.elim
  | some d => exact ⟨⟨d, rfl⟩, h⟩
theorem size_of_info {t : TypeId} {d : TypeDesc} (h : P.underlying t = some d) (w : World) : (sizeOf t).run P w = .ok (sizeB P t) w := by
  obtain ⟨i, hi⟩ := info_of_under h
  rw [sizeOf_run hi]
  simp [sizeB, hi]
theorem isAgg_run {t : TypeId} {d : TypeDesc} (hd : P.underlying t = some d) (w : World) : (isAgg t).run P w = .ok (aggB P t) w := by
  unfold isAgg aggB
  simp only [Sem.run_bind, under_run hd, Result.andThen_ok, hd]
  cases d <;> simp
theorem part_run {t : TypeId} {cs : Array Value} {off : Nat} {v : Value} (h : partV P t cs off = some v) (w : World) : (part t cs off).run P w = .ok v w := by
  unfold partV at h
  cases hd : P.underlying t with
  | none => simp [hd] at h
  | some d =>
    simp only [hd, Option.isSome_some, cond_true] at h
    cases hg : aggB P t
    · rw [hg] at h; simp at h; simp [part, isAgg_run hd, hg, h]
    · rw [hg] at h; simp at h; simp [part, isAgg_run hd, hg, size_of_info hd, h]
theorem eqFs_sound {n d : Nat} (hf : ∀ t x y b w, eqL P n t x y = some b → (Op.equalIn d t x y).run P w = .ok b w) (xs ys : Array Value) (w : World) :
    ∀ (fs : List Field) (b : Bool), eqFs P (eqL P n) xs ys fs = some b → (Op.eqFields d xs ys fs).run P w = .ok b w
  | [], b, h => by simp [eqFs] at h; subst h; simp [Op.eqFields]
  | g :: r, b, h => by
    unfold eqFs at h
    by_cases hn : g.name = "_"
    · rw [beq_iff_eq.2 hn] at h
      simp [Op.eqFields, hn, eqFs_sound hf xs ys w r b h]
    · rw [beq_eq_false_iff_ne.2 hn] at h
      simp only [cond_false] at h
      split at h
      · rename_i p q hp hq
        split at h
        · rename_i x y hx hy
          cases h
          have h1 := hf _ _ _ _ w hx
          have h2 := eqFs_sound hf xs ys w r y hy
          cases x <;> simp [Op.eqFields, hn, part_run hp, part_run hq, h1, h2]
        · cases h
      · cases h
theorem eqAs_sound {n d : Nat} (hf : ∀ t x y b w, eqL P n t x y = some b → (Op.equalIn d t x y).run P w = .ok b w) (xs ys : Array Value) (el : TypeId) (w : World) (hc : P.cellsOf el = sizeB P el) :
    ∀ (m i : Nat) (b : Bool), eqAs P (eqL P n) xs ys el m i = some b → (Op.eqItems d el (P.cellsOf el) xs ys (List.range' i m)).run P w = .ok b w
  | 0, i, b, h => by simp [eqAs] at h; subst h; simp [Op.eqItems]
  | m + 1, i, b, h => by
    unfold eqAs at h
    rw [List.range'_succ]
    split at h
    · rename_i p q hp hq
      split at h
      · rename_i x y hx hy
        cases h
        have h1 := hf _ _ _ _ w hx
        have h2 := eqAs_sound hf xs ys el w hc m (i + 1) y hy
        rw [← hc] at hp hq
        cases x <;> simp [Op.eqItems, part_run hp, part_run hq, h1, h2]
      · cases h
    · cases h
theorem eqL_sound : ∀ (n d : Nat) (t : TypeId) (x y : Value) (b : Bool) (w : World), eqL P n t x y = some b → (Op.equalIn (d + n) t x y).run P w = .ok b w
  | 0, _, _, _, _, _, _, h => by simp [eqL] at h
  | n + 1, d, t, x, y, b, w, h => by
    unfold eqL at h
    show (Op.equalIn (d + n + 1) t x y).run P w = .ok b w
    split at h
    · rename_i hu; cases h; simp [Op.equalIn, under_run hu]
    · rename_i k a k1 k2 b1 hu
      by_cases e : a = k2
      · subst e; simp at h; cases h; simp [Op.equalIn, under_run hu]
      · simp [e] at h
    · rename_i a1 b1 hu; cases h; simp only [Op.equalIn, Sem.run_bind, under_run hu, Result.andThen_ok]; simp [strEq, beq_toListBytes]
    · rename_i fs xs ys hu
      cases hs : P.stoodInHeld t
      · rw [hs] at h
        have hfs : P.fieldsOf t = fs := by simp [Program.fieldsOf, hu]
        rw [run_equalIn_struct w (d + n) t xs ys (by rw [hfs]; exact hu) hs, hfs]
        exact eqFs_sound (fun t x y b w h => eqL_sound n d t x y b w h) xs ys w _ _ h
      · rw [hs] at h; cases h
    · rename_i m el xs ys hu
      have hel : ∃ d, P.underlying el = some d := by
        unfold eqAs partV at h
        cases hel : P.underlying el with
        | some d => exact ⟨d, rfl⟩
        | none => simp [hel] at h
      obtain ⟨de, hde⟩ := hel
      obtain ⟨ie, hie⟩ := info_of_under hde
      have hc : P.cellsOf el = sizeB P el := by simp [Program.cellsOf, sizeB, hie]
      rw [run_equalIn_array w (d + n) xs ys hu hie, List.range_eq_range']
      exact eqAs_sound (fun t x y b w h => eqL_sound n d t x y b w h) xs ys el w hc (m + 1) 0 b h
    · cases h

theorem xbin2_sound {op : BinOp} {t : TypeId} {x y : Operand} {X Y : Value} {K : Value → Prop} (h : xbin2 P op t X Y K) :
    ∃ v, K v ∧ ∀ w, (do eqGuard op t x y X Y; binOp op t X Y : Sem Value).run P w = .ok v w := by
  unfold xbin2 at h
  split at h
  · rename_i k a j b
    simp only [Sem.run_bind, eqGuard_int, Result.andThen_ok]
    split at h
    · obtain ⟨h0, h⟩ := h
      exact ⟨_, h, fun w => by simp [binOp, Op.shift, show ¬ b < 0 from by omega, shlI]⟩
    · obtain ⟨h0, h⟩ := h
      exact ⟨_, h, fun w => by simp [binOp, Op.shift, show ¬ b < 0 from by omega, shrI]⟩
    · obtain ⟨rfl, h'⟩ := int_cond h
      exact ⟨_, h', fun w => by simp [binOp, Op.intArith]⟩
    · obtain ⟨rfl, h'⟩ := int_cond h
      exact ⟨_, h', fun w => by simp [binOp, Op.intArith]⟩
    · obtain ⟨rfl, h'⟩ := int_cond h
      exact ⟨_, h', fun w => by simp [binOp, Op.intArith]⟩
    · obtain ⟨rfl, h0, h'⟩ := int_cond h
      exact ⟨_, h', fun w => by simp [binOp, Op.intDiv, h0]⟩
    · obtain ⟨rfl, h0, h'⟩ := int_cond h
      exact ⟨_, h', fun w => by simp [binOp, Op.intDiv, h0]⟩
    · obtain ⟨rfl, h'⟩ := int_cond h
      exact ⟨_, h', fun w => by simp only [binOp]; simp [Op.intBits]; rfl⟩
    · obtain ⟨rfl, h'⟩ := int_cond h
      exact ⟨_, h', fun w => by simp only [binOp]; simp [Op.intBits]; rfl⟩
    · obtain ⟨rfl, h'⟩ := int_cond h
      exact ⟨_, h', fun w => by simp only [binOp]; simp [Op.intBits]; rfl⟩
    all_goals first
      | (obtain ⟨rfl, h'⟩ := int_cond h
         exact ⟨_, h', fun w => by simp only [binOp]; simp [Op.intCmp]⟩)
      | exact h.elim
  · simp only [Sem.run_bind, eqGuard_str, Result.andThen_ok]
    split at h
    · exact ⟨_, h, fun w => by simp [binOp, Op.stringOp, strEq]⟩
    · exact ⟨_, h, fun w => by simp [binOp, Op.stringOp, strEq]⟩
    · rename_i a b _
      obtain ⟨h0, h⟩ := h
      exact ⟨_, h, fun w => by
        have : ¬ ((a.size + b.size : Nat) : Int) > IntKind.i64.max := by
          have : IntKind.i64.max = 9223372036854775807 := by decide
          omega
        simp only [binOp, Op.stringOp]
        rw [if_neg this]
        rfl⟩
    · exact h.elim
  · simp only [Sem.run_bind, eqGuard_bool, Result.andThen_ok]
    split at h
    · rename_i hu
      exact ⟨_, h, fun w => by simp only [binOp]; simp [eq_bool _ _ w hu]⟩
    · rename_i hu
      exact ⟨_, h, fun w => by simp only [binOp]; simp [eq_bool _ _ w hu]⟩
    · exact h.elim
  · rename_i q
    simp only [Sem.run_bind, eqGuard_ptr, Result.andThen_ok]
    split at h
    · rename_i hu
      exact ⟨_, h, fun w => by simp only [binOp]; simp [eq_ptr _ w hu]⟩
    · rename_i hu
      exact ⟨_, h, fun w => by simp only [binOp]; simp [eq_ptr _ w hu]⟩
    · exact h.elim
  · rename_i q n c n' c'
    simp only [Sem.run_bind, eqGuard_slice, Result.andThen_ok]
    split at h
    · rename_i hu
      exact ⟨_, h, fun w => by simp only [binOp]; simp [eq_slice _ _ _ _ _ w hu]⟩
    · rename_i hu
      exact ⟨_, h, fun w => by simp only [binOp]; simp [eq_slice _ _ _ _ _ w hu]⟩
    · exact h.elim
  · rename_i q
    simp only [Sem.run_bind, eqGuard_map, Result.andThen_ok]
    split at h
    · rename_i hu
      exact ⟨_, h, fun w => by simp only [binOp]; simp [eq_map _ w hu]⟩
    · rename_i hu
      exact ⟨_, h, fun w => by simp only [binOp]; simp [eq_map _ w hu]⟩
    · exact h.elim
  · rename_i a b
    cases hg : P.eqGuardType P.depth t
    · rw [hg] at h
      have hgd : ∀ w, (eqGuard op t x y (.agg a) (.agg b)).run P w = .ok () w := fun w => by
        cases op <;> simp [eqGuard, hg]
      simp only [Sem.run_bind, hgd, Result.andThen_ok]
      have hr : ∀ c w, eqL P 8 t (.agg a) (.agg b) = some c → (Op.equal t (.agg a) (.agg b)).run P w = .ok c w := fun c w hc => eqL_sound 8 9992 t _ _ c w hc
      simp only [cond_false] at h
      split at h
      · rename_i c hc
        exact ⟨_, h, fun w => by simp only [binOp]; simp [hr _ w hc]⟩
      · rename_i c hc
        exact ⟨_, h, fun w => by simp only [binOp]; simp [hr _ w hc]⟩
      · exact h.elim
    · rw [hg] at h; exact h.elim
  · exact h.elim
theorem xbin_sound {op : BinOp} {t : TypeId} {x y : Operand} {X Y : Value} {K : Value → Prop} (h : xbin P op t X Y K) :
    ∃ v, K v ∧ ∀ w, (do eqGuard op t x y X Y; binOp op t X Y : Sem Value).run P w = .ok v w := by
  unfold xbin at h
  split at h
  · have hgd : ∀ w, isFn X → (eqGuard op t x y X .nilFunc).run P w = .ok () w := fun w hf => by
      rcases hf with rfl | ⟨f, a, b, rfl⟩ <;> cases op <;> simp [eqGuard]
    have hr : ∀ w e1 e2 e3, isFn X → P.underlying t = some (.func e1 e2 e3) → (Op.equal t X .nilFunc).run P w = .ok (isNilF X) w := fun w e1 e2 e3 hf hu => eqIn_fn 9999 X w hf hu
    split at h
    · rename_i hu
      obtain ⟨hf, h⟩ := h
      exact ⟨_, h, fun w => by
        simp only [Sem.run_bind, hgd w hf, Result.andThen_ok]
        have := hr w _ _ _ hf hu
        rcases hf with rfl | ⟨f, a, b, rfl⟩ <;> simp only [binOp] <;> simp [this]⟩
    · rename_i hu
      obtain ⟨hf, h⟩ := h
      exact ⟨_, h, fun w => by
        simp only [Sem.run_bind, hgd w hf, Result.andThen_ok]
        have := hr w _ _ _ hf hu
        rcases hf with rfl | ⟨f, a, b, rfl⟩ <;> simp only [binOp] <;> simp [this]⟩
    · exact h.elim
  · exact xbin2_sound h
end
end Go.Eng

namespace Go.Eng
open Go.RowKit
set_option linter.unusedVariables false
set_option linter.unusedSimpArgs false
section
variable {P : Program} {ops : Array Oper} {Q : Exit → Act → World → Prop}

/-- Any frame, in a round of a range over a function or not. -/
def wideR (r : Option Nat) : Fence := { Fence.wide with round := r }
theorem wideR_fn (r : Option Nat) (f : FuncId) : (wideR r).fn f := trivial
theorem wideR_depth (r : Option Nat) : (wideR r).depth.isSome = true → 1 ≤ 0 := fun h => by cases h
theorem callsIn_of {r : Option Nat} {f : FuncId} {args : Array Value} {w : World} {R : Ending → World → Prop} (h : Calls P f args w R) : CallsIn (wideR r) 0 P f args w R := callsIn_wide.2 h
theorem calls_of {r : Option Nat} {f : FuncId} {args : Array Value} {w : World} {R : Ending → World → Prop} (h : CallsIn (wideR r) 0 P f args w R) : Calls P f args w R := (callsIn_wide (n := 0)).1 h
/-- A step of a region. -/
abbrev wpOpR (r : Option Nat) (P : Program) (ops : Array Oper) (Q : Exit → Act → World → Prop) := wpOpIn (wideR r) 0 P ops Q

/-- The operations in one order; an operation that is not loud keeps the world; behind a loud one the facts of those that it need not wait for are asked again. -/
def wpSeq (rd : Option Nat) (P : Program) (ops : Array Oper) (Q : Exit → Act → World → Prop) (cl : Nat → Nat) (loud : Nat → Bool) : List (Nat × (World → Prop)) → List Nat → Act → World → Prop
  | _, [], a, w => Q .normal a w
  | S, i :: r, a, w => if loud i then wpOpR rd P ops Q i (fun a' w' => (∀ x ∈ S, (cl i).testBit x.1 = false → x.2 w') ∧ wpSeq rd P ops Q cl loud S r a' w') a w
    else ∃ o v, ops[i]? = some o ∧ YieldsAt P ops w o v a ∧ wpSeq rd P ops Q cl loud ((i, fun w' => YieldsAt P ops w' o v a) :: S) r (a.put o.dst v) w

variable {cl : Nat → Nat} {loud : Nat → Bool} {rd : Option Nat}

theorem wpSeq_less : ∀ (r : List Nat) (S T : List (Nat × (World → Prop))) (a : Act) (w : World), (∀ x ∈ T, ∃ y ∈ S, y.1 = x.1 ∧ ∀ w, y.2 w → x.2 w) →
    wpSeq rd P ops Q cl loud S r a w → wpSeq rd P ops Q cl loud T r a w
  | [], S, T, a, w, _, h => h
  | i :: r, S, T, a, w, hs, h => by
    unfold wpSeq at h ⊢
    split
    · rename_i hl
      rw [if_pos hl] at h
      refine wpOpIn_mono (fun a' w' h' => ⟨fun x hx hb => ?_, wpSeq_less r S T a' w' hs h'.2⟩) h
      obtain ⟨y, hy, he, hi⟩ := hs x hx
      exact hi _ (h'.1 y hy (by rw [he]; exact hb))
    · rename_i hl
      rw [if_neg hl] at h
      obtain ⟨o, v, ho, hy, h⟩ := h
      refine ⟨o, v, ho, hy, wpSeq_less r _ _ _ w ?_ h⟩
      intro x hx
      rcases List.mem_cons.1 hx with rfl | hx
      · exact ⟨_, List.mem_cons_self .., rfl, fun _ h => h⟩
      · obtain ⟨y, hy, he, hi⟩ := hs x hx
        exact ⟨y, List.mem_cons_of_mem _ hy, he, hi⟩

theorem YieldsAt.put {o o' : Oper} {a : Act} {v u : Value} {w : World} (hs : ∀ cs b, o.op ≠ .select cs b) (h : ∀ d, o'.dst = some d → d ∉ o.looksAt ops) :
    YieldsAt P ops w o v (a.put o'.dst u) ↔ YieldsAt P ops w o v a := by
  have h1 := execOp_put o hs a o'.dst u h
  have h2 := wanted_put o a o'.dst u h
  exact ⟨fun hy => hy.of_same h1.symm h2.symm, fun hy => hy.of_same h1 h2⟩

/-- A step with another operation's result laid first. -/
theorem wpOp_before {j : Nat} {oi oj : Oper} {v : Value} (hj : ops[j]? = some oj) (hap : oi.apart ops oj = true)
    (hsi : ∀ cs b, oi.op ≠ .select cs b) (hsj : ∀ cs b, oj.op ≠ .select cs b) (hdj : ∀ c, oj.op ≠ .defer c)
    (hQ : ∀ c a w, Q (.panic c) (a.put oi.dst v) w → Q (.panic c) a w) {K : Act → World → Prop} {a : Act} {w : World}
    (h : wpOpR rd P ops Q j K (a.put oi.dst v) w) :
    wpOpR rd P ops Q j (fun a' w' => (∀ w1, YieldsAt P ops w1 oi v a ↔ YieldsAt P ops w1 oi v a') ∧ K (a'.put oi.dst v) w') a w := by
  obtain ⟨h1, h2, h3⟩ := Oper.apart_spec hap
  have keep : ∀ u w1, YieldsAt P ops w1 oi v a ↔ YieldsAt P ops w1 oi v (a.put oj.dst u) := fun u w1 => (YieldsAt.put hsi h3).symm
  have keepD : ∀ d u w1, YieldsAt P ops w1 oi v a ↔ YieldsAt P ops w1 oi v (({ a with defers := d :: a.defers } : Act).put oj.dst u) := fun d u w1 => by
    rw [YieldsAt.put hsi h3]; exact Iff.rfl
  unfold wpOpR wpOpIn at *
  simp only [hj] at *
  rw [wanted_put oj a oi.dst v h1] at h
  split
  · rename_i hw
    simp only [hw, if_true] at h
    refine ⟨fun _ _ => trivial, ?_⟩
    have h := h.2
    rw [Oper.semAt_eq _ _ _ hdj, execOp_put oj hsj a oi.dst v h1] at h
    rw [Oper.semAt_eq _ _ _ hdj]
    generalize (execOp a.eval oj).run P w = r at *
    cases r with
    | ok n w' =>
      cases n <;> simp only [Oper.uponIn] at h ⊢
      case value u => exact ⟨keep u, by rw [← Act.put_comm a v u h2]; exact h⟩
      case skip => exact ⟨keep _, by rw [← Act.put_comm a v undef h2]; exact h⟩
      case defer d =>
        refine ⟨keepD d _, ?_⟩
        rw [← Act.put_comm _ v undef h2, ← Act.put_defers]
        exact h
      case enter f args =>
        refine ⟨h.1, CallsIn.mono h.2 fun e w'' he => ?_⟩
        cases e with
        | returned u => exact ⟨keep u, by rw [← Act.put_comm a v u h2]; exact he⟩
        | panicked c => exact hQ _ _ _ he
        | outgrown => exact he
      case row row args => exact ⟨h.1, RowsIn.mono h.2 fun u w'' he => ⟨keep u, by rw [← Act.put_comm a v u h2]; exact he⟩⟩
      case round l f tmps assign body =>
        refine ⟨h.1, RoundIn.mono h.2 fun e w'' he => ?_⟩
        cases e with
        | returned u => exact ⟨keep u, by rw [← Act.put_comm a v u h2]; exact he⟩
        | panicked c => exact hQ _ _ _ he
        | outgrown => exact he
    | halt x w' =>
      cases x <;> simp only [Oper.uponIn] at h ⊢
      case panic u => exact hQ _ _ _ h
  · rename_i hw
    simp only [hw] at h
    exact ⟨fun _ _ => trivial, keep _, by rw [← Act.put_comm a v undef h2]; exact h.2⟩

/-- One operation is drawn to the front: it is not loud. -/
theorem pull_quiet (hsel : ∀ (j : Nat) (o : Oper) cs b, ops[j]? = some o → o.op ≠ .select cs b) {i : Nat} (hl : loud i = false) :
    ∀ (qs rest : List Nat) (S : List (Nat × (World → Prop))) (a : Act) (w : World),
      (∀ q ∈ qs, loud q = false ∧ ∀ oq oi, ops[q]? = some oq → ops[i]? = some oi → oq.apart ops oi = true) →
      wpSeq rd P ops Q cl loud S (qs ++ i :: rest) a w → ∃ o v, ops[i]? = some o ∧ YieldsAt P ops w o v a ∧ wpSeq rd P ops Q cl loud S (qs ++ rest) (a.put o.dst v) w
  | [], rest, S, a, w, _, h => by
    simp only [List.nil_append] at h ⊢
    unfold wpSeq at h
    rw [if_neg (by simp [hl])] at h
    obtain ⟨o, v, ho, hy, h⟩ := h
    exact ⟨o, v, ho, hy, wpSeq_less rest _ _ _ w (fun x hx => ⟨x, List.mem_cons_of_mem _ hx, rfl, fun _ h => h⟩) h⟩
  | q :: qs, rest, S, a, w, hq, h => by
    obtain ⟨hlq, hap⟩ := hq q (List.mem_cons_self ..)
    simp only [List.cons_append] at h ⊢
    unfold wpSeq at h
    rw [if_neg (by simp [hlq])] at h
    obtain ⟨oq, vq, hoq, hyq, h⟩ := h
    obtain ⟨o, v, ho, hy, h⟩ := pull_quiet hsel hl qs rest _ _ w (fun x hx => hq x (List.mem_cons_of_mem _ hx)) h
    obtain ⟨h1, h2, h3⟩ := Oper.apart_spec (hap oq o hoq ho)
    refine ⟨o, v, ho, (YieldsAt.put (fun cs b => hsel i o cs b ho) h1).1 hy, ?_⟩
    unfold wpSeq
    rw [if_neg (by simp [hlq])]
    refine ⟨oq, vq, hoq, (YieldsAt.put (fun cs b => hsel q oq cs b hoq) h3).2 hyq, ?_⟩
    rw [← Act.put_comm a vq v h2]
    refine wpSeq_less _ _ _ _ w ?_ h
    intro x hx
    rcases List.mem_cons.1 hx with rfl | hx
    · exact ⟨_, List.mem_cons_self .., rfl, fun w1 h => (YieldsAt.put (fun cs b => hsel q oq cs b hoq) h3).2 h⟩
    · exact ⟨x, List.mem_cons_of_mem _ hx, rfl, fun _ h => h⟩

/-- One operation is drawn to the front: it is loud. -/
theorem pull_loud (hsel : ∀ (j : Nat) (o : Oper) cs b, ops[j]? = some o → o.op ≠ .select cs b) (hdef : ∀ (j : Nat) (o : Oper) c, ops[j]? = some o → o.op ≠ .defer c) (hQ : ∀ c a w (o : Oper) v, o ∈ ops → Q (.panic c) (a.put o.dst v) w → Q (.panic c) a w) {i : Nat} (hl : loud i = true)
    (hi : ∃ o, ops[i]? = some o) :
    ∀ (qs rest : List Nat) (S : List (Nat × (World → Prop))) (a : Act) (w : World),
      (∀ q ∈ qs, loud q = false ∧ (cl i).testBit q = false ∧ ∀ oq oi, ops[q]? = some oq → ops[i]? = some oi → oq.apart ops oi = true) →
      wpSeq rd P ops Q cl loud S (qs ++ i :: rest) a w →
      wpOpR rd P ops Q i (fun a' w' => (∀ x ∈ S, (cl i).testBit x.1 = false → x.2 w') ∧ wpSeq rd P ops Q cl loud S (qs ++ rest) a' w') a w
  | [], rest, S, a, w, _, h => by
    simp only [List.nil_append] at h ⊢
    unfold wpSeq at h
    rw [if_pos hl] at h
    exact h
  | q :: qs, rest, S, a, w, hq, h => by
    obtain ⟨hlq, hcl, hap⟩ := hq q (List.mem_cons_self ..)
    obtain ⟨oi, hoi⟩ := hi
    simp only [List.cons_append] at h ⊢
    unfold wpSeq at h
    rw [if_neg (by simp [hlq])] at h
    obtain ⟨oq, vq, hoq, hyq, h⟩ := h
    have h' := pull_loud hsel hdef hQ hl ⟨oi, hoi⟩ qs rest _ _ w (fun x hx => hq x (List.mem_cons_of_mem _ hx)) h
    have h'' := wpOp_before hoi (hap oq oi hoq hoi) (fun cs b => hsel q oq cs b hoq) (fun cs b => hsel i oi cs b hoi) (fun c => hdef i oi c hoi) (fun c a w h => hQ c a w oq _ (Array.mem_of_getElem? hoq) h) h'
    refine wpOpIn_mono (fun a' w' ⟨hk, hf, hr⟩ => ⟨fun x hx hb => hf x (List.mem_cons_of_mem _ hx) hb, ?_⟩) h''
    unfold wpSeq
    rw [if_neg (by simp [hlq])]
    have hnow : YieldsAt P ops w' oq vq a := hf _ (List.mem_cons_self ..) hcl
    refine ⟨oq, vq, hoq, (hk w').1 hnow, wpSeq_less _ _ _ _ w' ?_ hr⟩
    intro x hx
    rcases List.mem_cons.1 hx with rfl | hx
    · exact ⟨_, List.mem_cons_self .., rfl, fun w1 h => (hk w1).1 h⟩
    · exact ⟨x, List.mem_cons_of_mem _ hx, rfl, fun _ h => h⟩

theorem wpOp_of_yields (hdef : ∀ (j : Nat) (o : Oper) c, ops[j]? = some o → o.op ≠ .defer c) {i : Nat} {o : Oper} {v : Value} {a : Act} {w : World} {K : Act → World → Prop} (hi : ops[i]? = some o) (hy : YieldsAt P ops w o v a) (h : K (a.put o.dst v) w) : wpOpR rd P ops Q i K a w := by
  unfold wpOpR wpOpIn
  simp only [hi]
  rcases hy with ⟨hw, hr⟩ | ⟨hw, rfl⟩
  · rw [if_pos hw]
    refine ⟨fun _ _ => trivial, ?_⟩
    rw [Oper.semAt_eq _ _ _ (fun c => hdef i o c hi)]
    rcases hr with hv | ⟨hv, rfl⟩ | ⟨f, args, hv, hc⟩
    · rw [hv]; exact h
    · rw [hv]; exact h
    · rw [hv]
      refine ⟨wideR_depth rd, callsIn_of (hc.mono fun e w'' ⟨he, hw'⟩ => ?_)⟩
      subst he; subst hw'; exact h
  · rw [if_neg (by rw [hw]; simp)]
    exact ⟨fun _ _ => trivial, h⟩

/-- What a plan must be: 'order' has each operation once, behind all that it waits for; what comes behind a loud one waits for it, straight or through others (cl); what comes behind another and does not wait for it is apart from it. -/
def planOk (ops : Array Oper) (cl : Nat → Nat) (loud : Nat → Bool) (order : List Nat) : Bool :=
  Region.noSelect ops && (ops.toList.all fun o => match o.op with | .defer _ => false | _ => true) && (List.range ops.size).all (fun i => order.contains i) && order.all (fun i => Nat.blt i ops.size) && nodupB order && go [] order && (List.range ops.size).all (fun i => clOk i)
where
  nodupB : List Nat → Bool
    | [] => true
    | x :: r => !r.contains x && nodupB r
  /-- the rows ahead, the rows to come -/
  go : List Nat → List Nat → Bool
    | _, [] => true
    | pre, i :: r => (match ops[i]? with
      | none => false
      | some o => (o.after.toList.all fun e => !Region.binds .any e || (pre.contains e.on && Nat.blt e.on i)) &&
        pre.all fun q => (cl i).testBit q || (!loud q && match ops[q]? with
          | some oq => oq.apart ops o
          | none => false)) && go (i :: pre) r
  clOk (i : Nat) : Bool := match ops[i]? with
    | none => false
    | some o => (List.range ops.size).all fun q => !(cl i).testBit q || o.after.toList.any fun e => Region.binds .any e && (Nat.beq e.on q || (cl e.on).testBit q)

structure Plan (ops : Array Oper) (cl : Nat → Nat) (loud : Nat → Bool) (order : List Nat) : Prop where
  sel : ∀ (j : Nat) (o : Oper) cs b, ops[j]? = some o → o.op ≠ .select cs b
  dfr : ∀ (j : Nat) (o : Oper) c, ops[j]? = some o → o.op ≠ .defer c
  all : ∀ i, i < ops.size → i ∈ order
  lt : ∀ i ∈ order, i < ops.size
  nodup : order.Nodup
  after : ∀ pre i r, order = pre ++ i :: r → ∃ o, ops[i]? = some o ∧ (∀ e ∈ o.after, Region.binds .any e = true → e.on ∈ pre ∧ e.on < i) ∧
    ∀ q ∈ pre, (cl i).testBit q = true ∨ (loud q = false ∧ ∃ oq, ops[q]? = some oq ∧ oq.apart ops o = true)
  cl : ∀ i o, ops[i]? = some o → ∀ q, q < ops.size → (cl i).testBit q = true → ∃ e ∈ o.after, Region.binds .any e = true ∧ (e.on = q ∨ (cl e.on).testBit q = true)

theorem nodupB_spec : ∀ l : List Nat, planOk.nodupB l = true → l.Nodup
  | [], _ => List.nodup_nil
  | x :: r, h => by
    simp only [planOk.nodupB, Bool.and_eq_true, Bool.not_eq_true', List.contains_eq_mem, decide_eq_false_iff_not] at h
    exact List.nodup_cons.2 ⟨h.1, nodupB_spec r h.2⟩
theorem go_spec {loud : Nat → Bool} {cl : Nat → Nat} : ∀ (l pre : List Nat), planOk.go ops cl loud pre l = true → ∀ p i r, l = p ++ i :: r → ∃ o, ops[i]? = some o ∧
    (∀ e ∈ o.after, Region.binds .any e = true → (e.on ∈ pre ∨ e.on ∈ p) ∧ e.on < i) ∧
    ∀ q, (q ∈ pre ∨ q ∈ p) → (cl i).testBit q = true ∨ (loud q = false ∧ ∃ oq, ops[q]? = some oq ∧ oq.apart ops o = true)
  | [], _, _, p, i, r, e => by cases p <;> cases e
  | j :: l, pre, h, p, i, r, e => by
    simp only [planOk.go, Bool.and_eq_true] at h
    obtain ⟨h, hr⟩ := h
    cases p with
    | nil =>
      cases e
      cases ho : ops[j]? with
      | none => simp [ho] at h
      | some o =>
        simp only [ho, Bool.and_eq_true, List.all_eq_true, Bool.or_eq_true, Bool.not_eq_true', List.contains_eq_mem, decide_eq_true_eq] at h
        refine ⟨o, rfl, fun e he hb => ?_, fun q hq => ?_⟩
        · have := h.1 e (by simpa using he)
          rcases this with h0 | h0
          · rw [hb] at h0; cases h0
          · exact ⟨.inl h0.1, by have := h0.2; simp [Nat.blt] at this; omega⟩
        · rcases hq with hq | hq
          · rcases h.2 q hq with h0 | h0
            · exact .inl h0
            · right
              refine ⟨h0.1, ?_⟩
              have h1 := h0.2
              cases hoq : ops[q]? with
              | none => simp [hoq] at h1
              | some oq => simp only [hoq] at h1; exact ⟨oq, rfl, h1⟩
          · cases hq
    | cons x p =>
      cases e
      obtain ⟨o, ho, h1, h2⟩ := go_spec _ _ hr p i r rfl
      refine ⟨o, ho, fun e he hb => ?_, fun q hq => h2 q ?_⟩
      · obtain ⟨h3, h4⟩ := h1 e he hb
        refine ⟨?_, h4⟩
        rcases h3 with h3 | h3
        · rcases List.mem_cons.1 h3 with rfl | h3
          · exact .inr (List.mem_cons_self ..)
          · exact .inl h3
        · exact .inr (List.mem_cons_of_mem _ h3)
      · rcases hq with hq | hq
        · exact .inl (List.mem_cons_of_mem _ hq)
        · rcases List.mem_cons.1 hq with rfl | hq
          · exact .inl (List.mem_cons_self ..)
          · exact .inr hq
theorem plan_of {order : List Nat} (h : planOk ops cl loud order = true) : Plan ops cl loud order := by
  simp only [planOk, Bool.and_eq_true] at h
  obtain ⟨⟨⟨⟨⟨⟨h1, h0⟩, h2⟩, h3⟩, h4⟩, h5⟩, h6⟩ := h
  refine ⟨Region.noSelect_spec h1, fun j o c ho e => (by have := List.all_eq_true.1 h0 o (by have := Array.mem_of_getElem? ho; simpa using this); rw [e] at this; cases this), fun i hi => ?_, fun i hi => ?_, nodupB_spec _ h4, fun pre i r e => ?_, fun i o ho q hq hb => ?_⟩
  · have := List.all_eq_true.1 h2 i (List.mem_range.2 hi)
    simpa using this
  · have := List.all_eq_true.1 h3 i hi
    simp [Nat.blt] at this
    omega
  · obtain ⟨o, ho, ha, hq⟩ := go_spec order [] h5 pre i r e
    exact ⟨o, ho, fun e he hb => ⟨(ha e he hb).1.resolve_left (by simp), (ha e he hb).2⟩, fun q hq' => hq q (.inr hq')⟩
  · have := List.all_eq_true.1 h6 i (List.mem_range.2 (Array.getElem?_eq_some_iff.1 ho).1)
    simp only [planOk.clOk, ho, List.all_eq_true, List.mem_range, Bool.or_eq_true, Bool.not_eq_true', List.any_eq_true, Bool.and_eq_true] at this
    rcases this q hq with h0 | ⟨e, he, hb', h0⟩
    · rw [hb] at h0; cases h0
    · exact ⟨e, by simpa using he, hb', h0.imp (fun h => Nat.eq_of_beq_eq_true h) id⟩

/-- What is listed has all that it waits for listed. -/
def Down (ops : Array Oper) (listed : Array Bool) : Prop := ∀ i o, ops[i]? = some o → listed.getD i true = true → ∀ e ∈ o.after, Region.binds .any e = true → listed.getD e.on true = true

theorem cl_listed {order : List Nat} (pl : Plan ops cl loud order) {listed : Array Bool} (hsz : listed.size = ops.size) (hd : Down ops listed) :
    ∀ (n i : Nat) (o : Oper), i < n → ops[i]? = some o → (∀ e ∈ o.after, Region.binds .any e = true → listed.getD e.on true = true) → ∀ q, q < ops.size → (cl i).testBit q = true → listed.getD q true = true := by
  intro n
  induction n with
  | zero => intro i o h; omega
  | succ n ih =>
    intro i o hi ho hall q hq hb
    obtain ⟨e, he, hbe, h0⟩ := pl.cl i o ho q hq hb
    rcases h0 with rfl | h0
    · exact hall e he hbe
    · have hlt : e.on < i := by
        have hio := pl.all i (Array.getElem?_eq_some_iff.1 ho).1
        obtain ⟨pre, r, e'⟩ := List.append_of_mem hio
        obtain ⟨o', ho', ha, _⟩ := pl.after pre i r e'
        rw [ho] at ho'; cases ho'
        exact (ha e he hbe).2
      have hlo : e.on < ops.size := Nat.lt_trans hlt (Array.getElem?_eq_some_iff.1 ho).1
      exact ih e.on _ (by omega) (Array.getElem?_eq_getElem hlo) (fun e' he' hb' => hd e.on _ (Array.getElem?_eq_getElem hlo) (hall e he hbe) e' he' hb') q hq h0

theorem getD_lt {listed : Array Bool} {i : Nat} (h : i < listed.size) (a b : Bool) : listed.getD i a = listed.getD i b := by
  simp [Array.getD, h]
theorem filter_split (p : Nat → Bool) : ∀ (l : List Nat), l.Nodup → ∀ i ∈ l, p i = true → ∃ pre r, l = pre ++ i :: r ∧ l.filter p = pre.filter p ++ i :: r.filter p ∧
    l.filter (fun x => p x && x != i) = pre.filter p ++ r.filter p
  | [], _, i, h, _ => by cases h
  | x :: l, hn, i, h, hp => by
    obtain ⟨hx, hn⟩ := List.nodup_cons.1 hn
    by_cases e : x = i
    · subst e
      refine ⟨[], l, rfl, by simp [hp], ?_⟩
      simp only [List.filter_nil, List.nil_append]
      rw [List.filter_cons_of_neg (by simp)]
      apply List.filter_congr
      intro y hy
      have : y ≠ x := fun e => hx (e ▸ hy)
      simp [this]
    · have hi : i ∈ l := (List.mem_cons.1 h).resolve_left (Ne.symm e)
      obtain ⟨pre, r, h1, h2, h3⟩ := filter_split p l hn i hi hp
      refine ⟨x :: pre, r, by rw [h1]; rfl, ?_, ?_⟩
      · by_cases hpx : p x = true
        · rw [List.filter_cons_of_pos hpx, List.filter_cons_of_pos hpx, h2]; rfl
        · rw [List.filter_cons_of_neg hpx, List.filter_cons_of_neg hpx, h2]
      · by_cases hpx : p x = true
        · rw [List.filter_cons_of_pos (by simp [hpx, e]), List.filter_cons_of_pos hpx, h3]; rfl
        · rw [List.filter_cons_of_neg (by simp [hpx]), List.filter_cons_of_neg hpx, h3]

theorem wpAny_of_seq' {order : List Nat} (pl : Plan ops cl loud order) (hQ : ∀ c a w (o : Oper) v, o ∈ ops → Q (.panic c) (a.put o.dst v) w → Q (.panic c) a w) :
    ∀ (fuel : Nat) (listed : Array Bool) (a : Act) (w : World), listed.size = ops.size → Down ops listed → (order.filter fun i => !listed.getD i true).length = fuel →
      wpSeq rd P ops Q cl loud [] (order.filter fun i => !listed.getD i true) a w → wpAnyIn (wideR rd) 0 P .any ops Q fuel listed a w
  | 0, listed, a, w, hsz, hd, hlen, h => by
    have hnil := List.length_eq_zero_iff.1 hlen
    rw [hnil] at h
    refine ⟨?_, h⟩
    apply List.eq_nil_iff_forall_not_mem.2
    intro i hi
    obtain ⟨hun, o, ho, _⟩ := mem_ready.1 hi
    have : i ∈ order.filter fun i => !listed.getD i true := List.mem_filter.2 ⟨pl.all i (Array.getElem?_eq_some_iff.1 ho).1, by simp only [hun]; rfl⟩
    rw [hnil] at this
    cases this
  | fuel + 1, listed, a, w, hsz, hd, hlen, h => by
    refine ⟨fun hr => ?_, fun i hi => ?_⟩
    · -- the first of those that are left is ready
      exfalso
      cases hl : order.filter fun i => !listed.getD i true with
      | nil => rw [hl] at hlen; cases hlen
      | cons i r =>
        have him : i ∈ order.filter fun i => !listed.getD i true := by rw [hl]; exact List.mem_cons_self ..
        obtain ⟨hio, hun⟩ := List.mem_filter.1 him
        obtain ⟨pre, rr, he, hf, _⟩ := filter_split (fun i => !listed.getD i true) order pl.nodup i hio hun
        rw [hl] at hf
        have hpre : pre.filter (fun i => !listed.getD i true) = [] := by
          cases hp : pre.filter (fun i => !listed.getD i true) with
          | nil => rfl
          | cons x xs =>
            rw [hp] at hf
            simp only [List.cons_append, List.cons.injEq] at hf
            have hx : x ∈ pre := (List.mem_filter.1 (by rw [hp]; exact List.mem_cons_self .. : x ∈ pre.filter _)).1
            have hnd := pl.nodup
            rw [he] at hnd
            have := (List.nodup_append.1 hnd).2.2 x hx i (List.mem_cons_self ..)
            exact absurd hf.1.symm this
        obtain ⟨o, ho, ha, _⟩ := pl.after pre i rr he
        have : i ∈ Region.ready .any ops listed := by
          rw [mem_ready]
          refine ⟨by simpa using hun, o, ho, fun e he' hb => ?_⟩
          have hm := (ha e he' hb).1
          have hlt : e.on < ops.size := Nat.lt_trans (ha e he' hb).2 (Array.getElem?_eq_some_iff.1 ho).1
          have := List.filter_eq_nil_iff.1 hpre e.on hm
          rw [getD_lt (by omega) false true]
          simpa using this
        rw [hr] at this
        cases this
    · obtain ⟨hun, o, ho, hall⟩ := mem_ready.1 hi
      have hilt := (Array.getElem?_eq_some_iff.1 ho).1
      have hio := pl.all i hilt
      obtain ⟨pre, rr, he, hf, hf'⟩ := filter_split (fun i => !listed.getD i true) order pl.nodup i hio (by simp only [hun]; rfl)
      rw [hf] at h hlen
      obtain ⟨o', ho', _, hq⟩ := pl.after pre i rr he
      rw [ho] at ho'; cases ho'
      have hall' : ∀ e ∈ o.after, Region.binds .any e = true → listed.getD e.on true = true := fun e he hb => by
        have := hall e he hb
        by_cases hs : e.on < listed.size
        · rw [getD_lt hs true false]; exact this
        · simp [Array.getD, hs]
      have hcl := cl_listed pl hsz hd (i + 1) i o (Nat.lt_succ_self _) ho hall'
      have hqs : ∀ q ∈ pre.filter (fun i => !listed.getD i true), (loud q = false ∧ (cl i).testBit q = false ∧ ∀ oq oi, ops[q]? = some oq → ops[i]? = some oi → oq.apart ops oi = true) := by
        intro q hqm
        obtain ⟨hqp, hqu⟩ := List.mem_filter.1 hqm
        have hqlt := pl.lt q (by rw [he]; exact List.mem_append_left _ hqp)
        have hno : (cl i).testBit q = false := by
          cases hb : (cl i).testBit q with
          | false => rfl
          | true => have := hcl q hqlt hb; rw [this] at hqu; cases hqu
        rcases hq q hqp with h0 | ⟨h0, oq, hoq, hap⟩
        · rw [hno] at h0; cases h0
        · refine ⟨h0, hno, fun oq' oi' h1 h2 => ?_⟩
          rw [hoq] at h1; rw [ho] at h2; cases h1; cases h2; exact hap
      have hnew : (order.filter fun k => !(listed.setIfInBounds i true).getD k true) = pre.filter (fun i => !listed.getD i true) ++ rr.filter (fun i => !listed.getD i true) := by
        rw [← hf']
        apply List.filter_congr
        intro k hk
        by_cases e : k = i
        · subst e; simp [hsz, hilt]
        · rw [getD_set_ne true (Ne.symm e)]; simp [e]
      have hd' : Down ops (listed.setIfInBounds i true) := by
        intro k ok hok hk e he' hb
        have up : ∀ j, listed.getD j true = true → (listed.setIfInBounds i true).getD j true = true := fun j hj => by
          by_cases e : j = i
          · subst e; simp [hsz, hilt]
          · rw [getD_set_ne true (Ne.symm e)]; exact hj
        by_cases ek : k = i
        · subst ek
          rw [ho] at hok; cases hok
          exact up _ (hall' e he' hb)
        · rw [getD_set_ne true (Ne.symm ek)] at hk
          exact up _ (hd k ok hok hk e he' hb)
      have hlen' : (order.filter fun k => !(listed.setIfInBounds i true).getD k true).length = fuel := by
        rw [hnew, List.length_append]
        rw [List.length_append, List.length_cons] at hlen
        omega
      have next : ∀ a' w', wpSeq rd P ops Q cl loud [] (pre.filter (fun i => !listed.getD i true) ++ rr.filter (fun i => !listed.getD i true)) a' w' → wpAnyIn (wideR rd) 0 P .any ops Q fuel (listed.setIfInBounds i true) a' w' := fun a' w' h' =>
        wpAny_of_seq' pl hQ fuel _ a' w' (by simpa using hsz) hd' hlen' (by rw [hnew]; exact h')
      cases hl : loud i
      · obtain ⟨o', v, ho', hy, h'⟩ := pull_quiet pl.sel hl _ _ _ a w (fun q hq => ⟨(hqs q hq).1, (hqs q hq).2.2⟩) h
        exact wpOp_of_yields pl.dfr ho' hy (next _ _ h')
      · have h' := pull_loud pl.sel pl.dfr hQ hl ⟨o, ho⟩ _ _ _ a w hqs h
        exact wpOpIn_mono (fun a' w' h => next a' w' h.2) h'

/-- A region that draws: by one order. -/
theorem wp_draw {id : Nat} {order : List Nat} {a : Act} {w : World} (hm : P.follows .mixedOrders = true) (hp : planOk ops cl loud order = true)
    (hQ : ∀ c a w (o : Oper) v, o ∈ ops → Q (.panic c) (a.put o.dst v) w → Q (.panic c) a w)
    (h : wpSeq rd P ops Q cl loud [] order a { w with drawn := w.drawn + 1 }) : (Code.region id ops true).wpIn (wideR rd) 0 P Q a w := by
  have pl := plan_of hp
  have hrep : ∀ i, i ∈ order → (Array.replicate ops.size false).getD i true = false := fun i hi => by
    have := pl.lt i hi
    simp [Array.getD, this]
  have hfil : (order.filter fun i => !(Array.replicate ops.size false).getD i true) = order := by
    apply List.filter_eq_self.2
    intro i hi
    rw [hrep i hi]; rfl
  have hlen : order.length = ops.size := by
    have h1 : order.Perm (List.range ops.size) := (List.perm_ext_iff_of_nodup pl.nodup List.nodup_range).2 fun i => ⟨fun h => List.mem_range.2 (pl.lt i h), fun h => pl.all i (List.mem_range.1 h)⟩
    have := h1.length_eq
    simpa using this
  refine wpIn_region_any hm (wpAny_of_seq' pl hQ ops.size _ a _ (by simp) ?_ (by rw [hfil]; exact hlen) (by rw [hfil]; exact h))
  intro i o ho hl
  have hilt := (Array.getElem?_eq_some_iff.1 ho).1
  simp [Array.getD, hilt] at hl
/-- An order that forks: where more than one loud operation is ready, each may come first. -/
inductive Tree where
  | done
  | quiet (i : Nat) (r : Tree)
  | loud (i : Nat) (r : Tree)
  | fork (i : Nat) (r t : Tree)

def wpTree (rd : Option Nat) (P : Program) (ops : Array Oper) (Q : Exit → Act → World → Prop) (cl : Nat → Nat) : List (Nat × (World → Prop)) → Tree → Act → World → Prop
  | _, .done, a, w => Q .normal a w
  | S, .quiet i r, a, w => ∃ o v, ops[i]? = some o ∧ YieldsAt P ops w o v a ∧ wpTree rd P ops Q cl ((i, fun w' => YieldsAt P ops w' o v a) :: S) r (a.put o.dst v) w
  | S, .loud i r, a, w => wpOpR rd P ops Q i (fun a' w' => (∀ x ∈ S, (cl i).testBit x.1 = false → x.2 w') ∧ wpTree rd P ops Q cl S r a' w') a w
  | S, .fork i r t, a, w => wpOpR rd P ops Q i (fun a' w' => (∀ x ∈ S, (cl i).testBit x.1 = false → x.2 w') ∧ wpTree rd P ops Q cl S r a' w') a w ∧ wpTree rd P ops Q cl S t a w

theorem wpTree_less : ∀ (r : Tree) (S T : List (Nat × (World → Prop))) (a : Act) (w : World), (∀ x ∈ T, ∃ y ∈ S, y.1 = x.1 ∧ ∀ w, y.2 w → x.2 w) →
    wpTree rd P ops Q cl S r a w → wpTree rd P ops Q cl T r a w
  | .done, S, T, a, w, _, h => h
  | .quiet i r, S, T, a, w, hs, h => by
    unfold wpTree at h ⊢
    obtain ⟨o, v, ho, hy, h⟩ := h
    refine ⟨o, v, ho, hy, wpTree_less r _ _ _ w ?_ h⟩
    intro x hx
    rcases List.mem_cons.1 hx with rfl | hx
    · exact ⟨_, List.mem_cons_self .., rfl, fun _ h => h⟩
    · obtain ⟨y, hy, he, hi⟩ := hs x hx
      exact ⟨y, List.mem_cons_of_mem _ hy, he, hi⟩
  | .loud i r, S, T, a, w, hs, h => by
    unfold wpTree at h ⊢
    refine wpOpIn_mono (fun a' w' h' => ⟨fun x hx hb => ?_, wpTree_less r S T a' w' hs h'.2⟩) h
    obtain ⟨y, hy, he, hi⟩ := hs x hx
    exact hi _ (h'.1 y hy (by rw [he]; exact hb))
  | .fork i r t, S, T, a, w, hs, h => by
    unfold wpTree at h ⊢
    refine ⟨wpOpIn_mono (fun a' w' h' => ⟨fun x hx hb => ?_, wpTree_less r S T a' w' hs h'.2⟩) h.1, wpTree_less t S T a w hs h.2⟩
    obtain ⟨y, hy, he, hi⟩ := hs x hx
    exact hi _ (h'.1 y hy (by rw [he]; exact hb))

/-- Operations that are ready. -/
def RdyT (ops : Array Oper) (E : Nat → Prop) (i : Nat) : Prop := ¬ E i ∧ ∃ o, ops[i]? = some o ∧ ∀ e ∈ o.after, Region.binds .any e = true → E e.on
def addT (i : Nat) (E : Nat → Prop) : Nat → Prop := fun k => k = i ∨ E k
theorem addT_comm (i j : Nat) (E : Nat → Prop) : addT i (addT j E) = addT j (addT i E) := by
  funext k; apply propext; simp only [addT]; constructor <;> rintro (h | h | h) <;> simp [h]
theorem RdyT.up {E : Nat → Prop} {i j : Nat} (h : RdyT ops E i) (hij : i ≠ j) : RdyT ops (addT j E) i := by
  obtain ⟨h1, o, h2, h3⟩ := h
  exact ⟨fun h => by rcases h with h | h; exact hij h; exact h1 h, o, h2, fun e he hb => .inr (h3 e he hb)⟩

/-- A forking order that has all. -/
inductive TreeOk (ops : Array Oper) (cl : Nat → Nat) (loud : Nat → Bool) : (Nat → Prop) → List Nat → Tree → Prop
  | done {E : Nat → Prop} (h : ∀ i, i < ops.size → E i) : TreeOk ops cl loud E [] .done
  | quiet {E : Nat → Prop} {i : Nat} {r : Tree} (hr : RdyT ops E i) (hl : loud i = false)
      (hq : ∀ k, k < ops.size → k ≠ i → ¬ E k → (cl k).testBit i = true ∨ ∀ oi ok, ops[i]? = some oi → ops[k]? = some ok → oi.apart ops ok = true)
      (h : TreeOk ops cl loud (addT i E) [] r) : TreeOk ops cl loud E [] (.quiet i r)
  | loud {E : Nat → Prop} {acc : List Nat} {i : Nat} {r : Tree} (hr : RdyT ops E i) (hl : loud i = true) (hall : ∀ k, RdyT ops E k → k = i ∨ k ∈ acc)
      (h : TreeOk ops cl loud (addT i E) [] r) : TreeOk ops cl loud E acc (.loud i r)
  | fork {E : Nat → Prop} {acc : List Nat} {i : Nat} {r t : Tree} (hr : RdyT ops E i) (hl : loud i = true)
      (h : TreeOk ops cl loud (addT i E) [] r) (ht : TreeOk ops cl loud E (i :: acc) t) : TreeOk ops cl loud E acc (.fork i r t)

theorem tree_pull (hsel : ∀ (j : Nat) (o : Oper) cs b, ops[j]? = some o → o.op ≠ .select cs b) (hdef : ∀ (j : Nat) (o : Oper) c, ops[j]? = some o → o.op ≠ .defer c)
    (hQ : ∀ c a w (o : Oper) v, o ∈ ops → Q (.panic c) (a.put o.dst v) w → Q (.panic c) a w) {i : Nat} :
    ∀ (t : Tree) (E : Nat → Prop) (acc : List Nat) (S : List (Nat × (World → Prop))) (a : Act) (w : World), RdyT ops E i → (∀ q, q < ops.size → ¬ E q → (cl i).testBit q = false) → i ∉ acc → TreeOk ops cl loud E acc t → wpTree rd P ops Q cl S t a w →
      if loud i then wpOpR rd P ops Q i (fun a' w' => (∀ x ∈ S, (cl i).testBit x.1 = false → x.2 w') ∧ ∃ t', TreeOk ops cl loud (addT i E) [] t' ∧ wpTree rd P ops Q cl S t' a' w') a w
      else ∃ o v, ops[i]? = some o ∧ YieldsAt P ops w o v a ∧ ∃ t', TreeOk ops cl loud (addT i E) [] t' ∧ wpTree rd P ops Q cl S t' (a.put o.dst v) w
  | .done, E, acc, S, a, w, hr, hcl, ha, hk, h => by
    cases hk with
    | done hE =>
      obtain ⟨h1, o, h2, _⟩ := hr
      exact absurd (hE i (Array.getElem?_eq_some_iff.1 h2).1) h1
  | .loud j r, E, acc, S, a, w, hr, hcl, ha, hk, h => by
    cases hk with
    | loud hrj hlj hall hk =>
      have e := (hall i hr).resolve_right ha
      subst e
      rw [if_pos hlj]
      unfold wpTree at h
      exact wpOpIn_mono (fun a' w' h' => ⟨h'.1, r, hk, h'.2⟩) h
  | .fork j r t, E, acc, S, a, w, hr, hcl, ha, hk, h => by
    cases hk with
    | fork hrj hlj hk ht =>
      unfold wpTree at h
      by_cases e : i = j
      · subst e
        rw [if_pos hlj]
        exact wpOpIn_mono (fun a' w' h' => ⟨h'.1, r, hk, h'.2⟩) h.1
      · exact tree_pull hsel hdef hQ t E (j :: acc) S a w hr hcl (fun h => by rcases List.mem_cons.1 h with h | h; exact e h; exact ha h) ht h.2
  | .quiet j r, E, acc, S, a, w, hr, hcl, ha, hk, h => by
    cases hk with
    | quiet hrj hlj hq hk =>
      unfold wpTree at h
      obtain ⟨oj, vj, hoj, hyj, h⟩ := h
      by_cases e : i = j
      · subst e
        rw [if_neg (by simp [hlj])]
        exact ⟨oj, vj, hoj, hyj, r, hk, wpTree_less r _ _ _ w (fun x hx => ⟨x, List.mem_cons_of_mem _ hx, rfl, fun _ h => h⟩) h⟩
      · obtain ⟨hni, oi, hoi, hai⟩ := hr
        have hi : i < ops.size := (Array.getElem?_eq_some_iff.1 hoi).1
        have hj : j < ops.size := (Array.getElem?_eq_some_iff.1 hoj).1
        have hb : (cl i).testBit j = false := hcl j hj hrj.1
        have hap : oj.apart ops oi = true := by
          rcases hq i hi e hni with h0 | h0
          · rw [hb] at h0; cases h0
          · exact h0 oj oi hoj hoi
        have hk' : ∀ t', TreeOk ops cl loud (addT i (addT j E)) [] t' → TreeOk ops cl loud (addT i E) [] (.quiet j t') := fun t' ht' =>
          .quiet (hrj.up (Ne.symm e)) hlj (fun k hk1 hk2 hk3 => hq k hk1 hk2 fun h => hk3 (.inr h)) (by rw [addT_comm]; exact ht')
        have ih := tree_pull hsel hdef hQ (i := i) r (addT j E) [] _ _ w (RdyT.up ⟨hni, oi, hoi, hai⟩ e) (fun q hq1 hq2 => hcl q hq1 fun h => hq2 (.inr h)) (by simp) hk h
        cases hl : loud i
        · rw [hl] at ih
          simp only [Bool.false_eq_true, if_false] at ih ⊢
          obtain ⟨o, v, ho, hy, t', ht', h⟩ := ih
          rw [hoi] at ho; cases ho
          obtain ⟨h1, h2, h3⟩ := Oper.apart_spec hap
          refine ⟨oi, v, hoi, (YieldsAt.put (fun cs b => hsel i oi cs b hoi) h1).1 hy, .quiet j t', hk' t' ht', ?_⟩
          unfold wpTree
          refine ⟨oj, vj, hoj, (YieldsAt.put (fun cs b => hsel j oj cs b hoj) h3).2 hyj, ?_⟩
          rw [← Act.put_comm a vj v h2]
          refine wpTree_less _ _ _ _ w ?_ h
          intro x hx
          rcases List.mem_cons.1 hx with rfl | hx
          · exact ⟨_, List.mem_cons_self .., rfl, fun w1 h => (YieldsAt.put (fun cs b => hsel j oj cs b hoj) h3).2 h⟩
          · exact ⟨x, List.mem_cons_of_mem _ hx, rfl, fun _ h => h⟩
        · rw [hl] at ih
          simp only [if_true] at ih ⊢
          have h'' := wpOp_before hoi hap (fun cs b => hsel j oj cs b hoj) (fun cs b => hsel i oi cs b hoi) (fun c => hdef i oi c hoi) (fun c a w h => hQ c a w oj _ (Array.mem_of_getElem? hoj) h) ih
          refine wpOpIn_mono (fun a' w' ⟨hk0, hf, t', ht', hr'⟩ => ⟨fun x hx hb' => hf x (List.mem_cons_of_mem _ hx) hb', .quiet j t', hk' t' ht', ?_⟩) h''
          unfold wpTree
          have hnow : YieldsAt P ops w' oj vj a := hf _ (List.mem_cons_self ..) hb
          refine ⟨oj, vj, hoj, (hk0 w').1 hnow, wpTree_less _ _ _ _ w' ?_ hr'⟩
          intro x hx
          rcases List.mem_cons.1 hx with rfl | hx
          · exact ⟨_, List.mem_cons_self .., rfl, fun w1 h => (hk0 w1).1 h⟩
          · exact ⟨x, List.mem_cons_of_mem _ hx, rfl, fun _ h => h⟩

/-- What the operations of a region wait for, straight or through others. -/
structure ClOk (ops : Array Oper) (cl : Nat → Nat) : Prop where
  sel : ∀ (j : Nat) (o : Oper) cs b, ops[j]? = some o → o.op ≠ .select cs b
  dfr : ∀ (j : Nat) (o : Oper) c, ops[j]? = some o → o.op ≠ .defer c
  back : ∀ i o, ops[i]? = some o → ∀ e ∈ o.after, Region.binds .any e = true → e.on < i
  cl : ∀ i o, ops[i]? = some o → ∀ q, q < ops.size → (cl i).testBit q = true → ∃ e ∈ o.after, Region.binds .any e = true ∧ (e.on = q ∨ (cl e.on).testBit q = true)

theorem clOk_listed (pl : ClOk ops cl) {E : Nat → Prop} (hd : ∀ i o, ops[i]? = some o → E i → ∀ e ∈ o.after, Region.binds .any e = true → E e.on) :
    ∀ (n i : Nat) (o : Oper), i < n → ops[i]? = some o → (∀ e ∈ o.after, Region.binds .any e = true → E e.on) → ∀ q, q < ops.size → (cl i).testBit q = true → E q := by
  intro n
  induction n with
  | zero => intro i o h; omega
  | succ n ih =>
    intro i o hi ho hall q hq hb
    obtain ⟨e, he, hbe, h0⟩ := pl.cl i o ho q hq hb
    rcases h0 with rfl | h0
    · exact hall e he hbe
    · have hlt : e.on < i := pl.back i o ho e he hbe
      have hlo : e.on < ops.size := Nat.lt_trans hlt (Array.getElem?_eq_some_iff.1 ho).1
      exact ih e.on _ (by omega) (Array.getElem?_eq_getElem hlo) (fun e' he' hb' => hd e.on _ (Array.getElem?_eq_getElem hlo) (hall e he hbe) e' he' hb') q hq h0

theorem wpAny_of_tree (pl : ClOk ops cl) (hQ : ∀ c a w (o : Oper) v, o ∈ ops → Q (.panic c) (a.put o.dst v) w → Q (.panic c) a w) :
    ∀ (fuel : Nat) (listed : Array Bool) (t : Tree) (a : Act) (w : World), listed.size = ops.size → Down ops listed → ((List.range ops.size).filter fun i => !listed.getD i true).length = fuel →
      TreeOk ops cl loud (fun i => listed.getD i true = true) [] t → wpTree rd P ops Q cl [] t a w → wpAnyIn (wideR rd) 0 P .any ops Q fuel listed a w
  | 0, listed, t, a, w, hsz, hd, hlen, hk, h => by
    have hnil := List.length_eq_zero_iff.1 hlen
    have hall : ∀ i, i < ops.size → listed.getD i true = true := fun i hi => by
      have := List.filter_eq_nil_iff.1 hnil i (List.mem_range.2 hi)
      simpa using this
    have hno : ∀ {i}, ¬ RdyT ops (fun i => listed.getD i true = true) i := fun {i} hr => by
      obtain ⟨h1, o, h2, _⟩ := hr
      exact h1 (hall i (Array.getElem?_eq_some_iff.1 h2).1)
    refine ⟨?_, ?_⟩
    · apply List.eq_nil_iff_forall_not_mem.2
      intro i hi
      obtain ⟨hun, o, ho, _⟩ := mem_ready.1 hi
      rw [hall i (Array.getElem?_eq_some_iff.1 ho).1] at hun
      cases hun
    · cases hk with
      | done _ => exact h
      | quiet hr => exact (hno hr).elim
      | loud hr => exact (hno hr).elim
      | fork hr => exact (hno hr).elim
  | fuel + 1, listed, t, a, w, hsz, hd, hlen, hk, h => by
    have inn : ∀ i, i < ops.size → listed.getD i true = listed.getD i false := fun i hi => getD_lt (by omega) true false
    have rdy : ∀ i, RdyT ops (fun i => listed.getD i true = true) i → i ∈ Region.ready .any ops listed := by
      rintro i ⟨h1, o, h2, h3⟩
      rw [mem_ready]
      refine ⟨by simpa using h1, o, h2, fun e he hb => ?_⟩
      have := pl.back i o h2 e he hb
      rw [← inn e.on (by have := (Array.getElem?_eq_some_iff.1 h2).1; omega)]
      exact h3 e he hb
    refine ⟨fun hr => ?_, fun i hi => ?_⟩
    · have no : ∀ {i}, ¬ RdyT ops (fun i => listed.getD i true = true) i := fun {i} h => by
        have := rdy i h
        rw [hr] at this
        cases this
      cases hk with
      | done _ => exact h
      | quiet hr => exact (no hr).elim
      | loud hr => exact (no hr).elim
      | fork hr => exact (no hr).elim
    · obtain ⟨hun, o, ho, hall⟩ := mem_ready.1 hi
      have hilt := (Array.getElem?_eq_some_iff.1 ho).1
      have hall' : ∀ e ∈ o.after, Region.binds .any e = true → listed.getD e.on true = true := fun e he hb => by
        have := hall e he hb
        by_cases hs : e.on < listed.size
        · rw [getD_lt hs true false]; exact this
        · simp [Array.getD, hs]
      have hri : RdyT ops (fun i => listed.getD i true = true) i := ⟨by simp only [hun]; simp, o, ho, hall'⟩
      have hcl : ∀ q, q < ops.size → ¬ (listed.getD q true = true) → (cl i).testBit q = false := fun q hq hn => by
        cases hb : (cl i).testBit q with
        | false => rfl
        | true => exact absurd (clOk_listed (E := fun i => listed.getD i true = true) pl hd (i + 1) i o (Nat.lt_succ_self _) ho hall' q hq hb) hn
      have hE : (fun k => (listed.setIfInBounds i true).getD k true = true) = addT i (fun i => listed.getD i true = true) := by
        funext k
        apply propext
        by_cases e : k = i
        · subst e; simp [hsz, hilt, addT]
        · simp only [addT, e, false_or]
          rw [getD_set_ne true (Ne.symm e)]
      obtain ⟨pre, rr, he, hf, hf'⟩ := filter_split (fun i => !listed.getD i true) (List.range ops.size) List.nodup_range i (List.mem_range.2 hilt) (by simp only [hun]; rfl)
      have hd' : Down ops (listed.setIfInBounds i true) := by
        intro k ok hok hk e he' hb
        have up : ∀ j, listed.getD j true = true → (listed.setIfInBounds i true).getD j true = true := fun j hj => by
          by_cases e : j = i
          · subst e; simp [hsz, hilt]
          · rw [getD_set_ne true (Ne.symm e)]; exact hj
        by_cases ek : k = i
        · subst ek
          rw [ho] at hok; cases hok
          exact up _ (hall' e he' hb)
        · rw [getD_set_ne true (Ne.symm ek)] at hk
          exact up _ (hd k ok hok hk e he' hb)
      have hlen' : ((List.range ops.size).filter fun k => !(listed.setIfInBounds i true).getD k true).length = fuel := by
        have : ((List.range ops.size).filter fun k => !(listed.setIfInBounds i true).getD k true) = pre.filter (fun i => !listed.getD i true) ++ rr.filter (fun i => !listed.getD i true) := by
          rw [← hf']
          apply List.filter_congr
          intro k hk
          by_cases e : k = i
          · subst e; simp [hsz, hilt]
          · rw [getD_set_ne true (Ne.symm e)]; simp [e]
        rw [this, List.length_append]
        rw [hf, List.length_append, List.length_cons] at hlen
        omega
      have next : ∀ t' a' w', TreeOk ops cl loud (addT i (fun i => listed.getD i true = true)) [] t' → wpTree rd P ops Q cl [] t' a' w' → wpAnyIn (wideR rd) 0 P .any ops Q fuel (listed.setIfInBounds i true) a' w' := fun t' a' w' ht' h' =>
        wpAny_of_tree pl hQ fuel _ t' a' w' (by simpa using hsz) hd' hlen' (by rw [hE]; exact ht') h'
      have h' := tree_pull pl.sel pl.dfr hQ t _ [] [] a w hri hcl (by simp) hk h
      cases hl : loud i
      · rw [hl] at h'
        simp only [Bool.false_eq_true, if_false] at h'
        obtain ⟨o', v, ho', hy, t', ht', h'⟩ := h'
        exact wpOp_of_yields pl.dfr ho' hy (next _ _ _ ht' h')
      · rw [hl] at h'
        simp only [if_true] at h'
        exact wpOpIn_mono (fun a' w' h => by obtain ⟨_, t', ht', h⟩ := h; exact next _ _ _ ht' h) h'

/-- The check of a forking order. -/
def treeOk (ops : Array Oper) (cl : Nat → Nat) (loud : Nat → Bool) (t : Tree) : Bool :=
  Region.noSelect ops && (ops.toList.all fun o => match o.op with | .defer _ => false | _ => true) && (List.range ops.size).all (fun i => backOk i && planOk.clOk ops cl i) && go [] [] t
where
  backOk (i : Nat) : Bool := match ops[i]? with
    | none => false
    | some o => o.after.toList.all fun e => !Region.binds .any e || Nat.blt e.on i
  rdy (E : List Nat) (i : Nat) : Bool := !E.contains i && match ops[i]? with
    | none => false
    | some o => o.after.toList.all fun e => !Region.binds .any e || E.contains e.on
  go : List Nat → List Nat → Tree → Bool
    | E, acc, .done => acc.isEmpty && (List.range ops.size).all fun i => E.contains i
    | E, acc, .quiet i r => acc.isEmpty && rdy E i && !loud i && ((List.range ops.size).all fun k => Nat.beq k i || E.contains k || (cl k).testBit i || (match ops[i]?, ops[k]? with | some oi, some ok => oi.apart ops ok | _, _ => true)) && go (i :: E) [] r
    | E, acc, .loud i r => rdy E i && loud i && ((List.range ops.size).all fun k => !rdy E k || Nat.beq k i || acc.contains k) && go (i :: E) [] r
    | E, acc, .fork i r t => rdy E i && loud i && go (i :: E) [] r && go E (i :: acc) t

theorem treeRdy_spec {E : List Nat} {i : Nat} : treeOk.rdy ops E i = true ↔ RdyT ops (fun k => k ∈ E) i := by
  unfold treeOk.rdy RdyT
  cases ho : ops[i]? with
  | none => simp
  | some o =>
    simp only [Bool.and_eq_true, Bool.not_eq_true', List.contains_eq_mem, decide_eq_false_iff_not, List.all_eq_true, Bool.or_eq_true, decide_eq_true_eq, Option.some.injEq, exists_eq_left']
    constructor
    · rintro ⟨h1, h2⟩
      exact ⟨h1, fun e he hb => (h2 e (by simpa using he)).resolve_left (by rw [hb]; simp)⟩
    · rintro ⟨h1, h2⟩
      refine ⟨h1, fun e he => ?_⟩
      cases hb : Region.binds .any e
      · exact .inl rfl
      · exact .inr (h2 e (by simpa using he) hb)
theorem treeGo_spec : ∀ (t : Tree) (E acc : List Nat), treeOk.go ops cl loud E acc t = true → TreeOk ops cl loud (fun k => k ∈ E) acc t := by
  have ha : ∀ (i : Nat) (E : List Nat), (fun k => k ∈ i :: E) = addT i (fun k => k ∈ E) := fun i E => by funext k; simp [addT]
  intro t
  induction t with
  | done =>
    intro E acc h
    simp only [treeOk.go, Bool.and_eq_true, List.isEmpty_iff, List.all_eq_true, List.mem_range, List.contains_eq_mem, decide_eq_true_eq] at h
    obtain ⟨rfl, h⟩ := h
    exact .done h
  | quiet i r ih =>
    intro E acc h
    simp only [treeOk.go, Bool.and_eq_true, List.isEmpty_iff, List.all_eq_true, List.mem_range, List.contains_eq_mem, decide_eq_true_eq, Bool.or_eq_true, Bool.not_eq_true'] at h
    obtain ⟨⟨⟨⟨rfl, h1⟩, h2⟩, h3⟩, h4⟩ := h
    refine .quiet (treeRdy_spec.1 h1) h2 (fun k hk hne hE => ?_) (by rw [← ha]; exact ih _ _ h4)
    rcases h3 k hk with ((h | h) | h) | h
    · exact absurd (Nat.eq_of_beq_eq_true h) hne
    · exact absurd h hE
    · exact .inl h
    · right
      intro oi ok h1 h2
      rw [h1, h2] at h
      exact h
  | loud i r ih =>
    intro E acc h
    simp only [treeOk.go, Bool.and_eq_true, List.all_eq_true, List.mem_range, List.contains_eq_mem, decide_eq_true_eq, Bool.or_eq_true, Bool.not_eq_true'] at h
    obtain ⟨⟨⟨h1, h2⟩, h3⟩, h4⟩ := h
    refine .loud (treeRdy_spec.1 h1) h2 (fun k hk => ?_) (by rw [← ha]; exact ih _ _ h4)
    obtain ⟨o, ho, _⟩ := hk.2
    rcases h3 k (Array.getElem?_eq_some_iff.1 ho).1 with (h | h) | h
    · rw [treeRdy_spec.2 hk] at h; cases h
    · exact .inl (Nat.eq_of_beq_eq_true h)
    · exact .inr h
  | fork i r t ih ih2 =>
    intro E acc h
    simp only [treeOk.go, Bool.and_eq_true] at h
    obtain ⟨⟨⟨h1, h2⟩, h3⟩, h4⟩ := h
    exact .fork (treeRdy_spec.1 h1) h2 (by rw [← ha]; exact ih _ _ h3) (ih2 _ _ h4)
theorem clOk_of {t : Tree} (h : treeOk ops cl loud t = true) : ClOk ops cl ∧ TreeOk ops cl loud (fun k => k ∈ ([] : List Nat)) [] t := by
  simp only [treeOk, Bool.and_eq_true, List.all_eq_true, List.mem_range] at h
  obtain ⟨⟨⟨h1, h0⟩, h2⟩, h3⟩ := h
  refine ⟨⟨Region.noSelect_spec h1, fun j o c ho e => (by have := h0 o (by have := Array.mem_of_getElem? ho; simpa using this); rw [e] at this; cases this), fun i o ho e he hb => ?_, fun i o ho q hq hb => ?_⟩, treeGo_spec _ _ _ h3⟩
  · have := (h2 i (Array.getElem?_eq_some_iff.1 ho).1).1
    simp only [treeOk.backOk, ho, List.all_eq_true, Bool.or_eq_true, Bool.not_eq_true'] at this
    rcases this e (by simpa using he) with h | h
    · rw [hb] at h; cases h
    · simp [Nat.blt] at h; omega
  · have := (h2 i (Array.getElem?_eq_some_iff.1 ho).1).2
    simp only [planOk.clOk, ho, List.all_eq_true, List.mem_range, Bool.or_eq_true, Bool.not_eq_true', List.any_eq_true, Bool.and_eq_true] at this
    rcases this q hq with h0 | ⟨e, he, hb', h0⟩
    · rw [hb] at h0; cases h0
    · exact ⟨e, by simpa using he, hb', h0.imp (fun h => Nat.eq_of_beq_eq_true h) id⟩

/-- Only what is in the region counts. -/
theorem treeOk_low {E : Nat → Prop} {acc : List Nat} {t : Tree} (h : TreeOk ops cl loud E acc t) : ∀ {E' : Nat → Prop}, (∀ i, i < ops.size → (E i ↔ E' i)) → (∀ i o, ops[i]? = some o → ∀ e ∈ o.after, Region.binds .any e = true → e.on < i) → TreeOk ops cl loud E' acc t := by
  have rd : ∀ {E E' : Nat → Prop} {i}, (∀ i, i < ops.size → (E i ↔ E' i)) → (∀ i o, ops[i]? = some o → ∀ e ∈ o.after, Region.binds .any e = true → e.on < i) → RdyT ops E i → RdyT ops E' i := by
    rintro E E' i he hb ⟨h1, o, h2, h3⟩
    have hi := (Array.getElem?_eq_some_iff.1 h2).1
    refine ⟨fun h => h1 ((he i hi).2 h), o, h2, fun e hm hbe => (he e.on ?_).1 (h3 e hm hbe)⟩
    have := hb i o h2 e hm hbe
    omega
  have ad : ∀ {E E' : Nat → Prop} {j}, (∀ i, i < ops.size → (E i ↔ E' i)) → ∀ i, i < ops.size → (addT j E i ↔ addT j E' i) := fun he i hi => by
    simp only [addT, he i hi]
  have sy : ∀ {E E' : Nat → Prop}, (∀ i, i < ops.size → (E i ↔ E' i)) → ∀ i, i < ops.size → (E' i ↔ E i) := fun he i hi => (he i hi).symm
  induction h with
  | done h => intro E' he hb; exact .done fun i hi => (he i hi).1 (h i hi)
  | quiet hr hl hq h ih =>
    intro E' he hb
    exact .quiet (rd he hb hr) hl (fun k h1 h2 h3 => hq k h1 h2 fun h => h3 ((he k h1).1 h)) (ih (ad he) hb)
  | loud hr hl hall h ih =>
    intro E' he hb
    exact .loud (rd he hb hr) hl (fun k hk => hall k (rd (sy he) hb hk)) (ih (ad he) hb)
  | fork hr hl h ht ih1 ih2 =>
    intro E' he hb
    exact .fork (rd he hb hr) hl (ih1 (ad he) hb) (ih2 he hb)

/-- A region that draws: by an order that forks. -/
theorem wp_drawT {id : Nat} {t : Tree} {a : Act} {w : World} (hm : P.follows .mixedOrders = true) (hp : treeOk ops cl loud t = true)
    (hQ : ∀ c a w (o : Oper) v, o ∈ ops → Q (.panic c) (a.put o.dst v) w → Q (.panic c) a w)
    (h : wpTree rd P ops Q cl [] t a { w with drawn := w.drawn + 1 }) : (Code.region id ops true).wpIn (wideR rd) 0 P Q a w := by
  obtain ⟨pl, hk⟩ := clOk_of hp
  have hrep : ∀ i, i < ops.size → (Array.replicate ops.size false).getD i true = false := fun i this => by
    simp [Array.getD, this]
  have hfil : ((List.range ops.size).filter fun i => !(Array.replicate ops.size false).getD i true) = List.range ops.size := by
    apply List.filter_eq_self.2
    intro i hi
    rw [hrep i (List.mem_range.1 hi)]; rfl
  have hlen : ((List.range ops.size).filter fun i => !(Array.replicate ops.size false).getD i true).length = ops.size := by rw [hfil]; simp
  have hE : ∀ i, i < ops.size → ¬ ((Array.replicate ops.size false).getD i true = true) := fun i hi => by rw [hrep i hi]; simp
  refine wpIn_region_any hm (wpAny_of_tree (loud := loud) pl hQ ops.size _ t a _ (by simp) ?_ hlen ?_ h)
  · intro i o ho hl
    have hilt := (Array.getElem?_eq_some_iff.1 ho).1
    simp [Array.getD, hilt] at hl
  · exact treeOk_low hk (fun i hi => ⟨fun h => (by cases h), fun h => absurd h (hE i hi)⟩) pl.back
end
end Go.Eng

namespace Go.Eng
open Go.RowKit
set_option linter.unusedVariables false
set_option linter.unusedSimpArgs false
section
variable {P : Program} {E : TypeId → Ty} {rd : Option Nat}

theorem map_list {α β : Type} (f : α → β) (a : Array α) : (a.toList.map f).toArray = a.map f := by apply Array.ext'; simp
theorem of_toList {α β : Type} {f : α → β} {a : Array α} {l : List β} (h : a.toList.map f = l) : a.map f = l.toArray := by rw [← map_list, h]
/-- (Nothing is asked of a program.) -/
structure Okp (P : Program) : Prop where
  mk ::


theorem of_raw {o : Oper} {a : Act} {w : World} {K : Value → World → Prop} {next : Act → World → Prop} {Q : Exit → Act → World → Prop} {ρ : Operand → Value}
    (h : ∃ v w1, (execOp ρ o).run P w = .ok (.value v) w1 ∧ K v w1) (hn : ∀ v w', K v w' → next (a.put o.dst v) w') : o.uponIn (wideR rd) 0 P a next Q ((execOp ρ o).run P w) := by
  obtain ⟨v, w1, hr, hK⟩ := h
  rw [hr]
  exact hn _ _ hK
theorem of_val {o : Oper} {a : Act} {w w1 : World} {v : Value} {K : Value → World → Prop} {next : Act → World → Prop} {Q : Exit → Act → World → Prop} {ρ : Operand → Value}
    (hr : (execOp ρ o).run P w = .ok (.value v) w1) (h : K v w1) (hn : ∀ v w', K v w' → next (a.put o.dst v) w') : o.uponIn (wideR rd) 0 P a next Q ((execOp ρ o).run P w) :=
  of_raw ⟨v, w1, hr, h⟩ hn
theorem withSome_spec {α : Type} {q : Option α} {F : α → Prop} (h : withSome q F) : ∃ a, q = some a ∧ F a := by
  cases q with
  | none => exact h.elim
  | some a => exact ⟨a, rfl, h⟩
theorem withAddr_spec {v : Value} {F : Addr → Prop} (h : withAddr v F) : ∃ a, v = .pointer (some a) ∧ F a := by
  unfold withAddr at h
  split at h
  · obtain ⟨a, rfl, h'⟩ := withSome_spec h; exact ⟨a, rfl, h'⟩
  · exact h.elim
theorem zero_run {t : TypeId} {z : Value} (h : (P.info? t).bind (·.zero) = some z) (w : World) : (zeroValue t).run P w = .ok z w := by
  cases hi : P.info? t with
  | none => simp [hi] at h
  | some i => simp [hi] at h; simp [zeroValue, typeInfo, hi, h]
theorem newVar_run (w : World) (t : TypeId) (v : Value) : (newVar t v).run P w = .ok ⟨w.heap.size, 0, none⟩ (w.alloc (.cells v.cells t)) := rfl
theorem bodied_run {f : Nat} (h : bodied P f = true) (args : Array Value) (w : World) : (callFunc f args).run P w = .ok (.enter f args) w := by
  unfold bodied at h
  split at h
  · rename_i fn hf
    simp only [Bool.and_eq_true, Bool.not_eq_true', beq_eq_false_iff_ne, ne_eq] at h
    obtain ⟨h1, h2⟩ := h
    obtain ⟨c, hc⟩ := Option.isSome_iff_exists.1 h1
    simp [callFunc, hf, h2, hc]
  · cases h
theorem push_all (cs : List UInt8) : ∀ s : ByteArray, (cs.foldl (fun s b => s.push b) s).data = s.data ++ cs.toArray := by
  induction cs with
  | nil => intro s; simp
  | cons c cs ih => intro s; rw [List.foldl_cons, ih]; simp [ByteArray.push]
theorem toS_run (w : World) (q : Option Addr) (len cap : Nat) (s : ByteArray) (hs : s.size = len) (h : 0 < len → withSome q fun a => World.has w a (bytesV s)) :
    (Conv.bytesToString (.slice q len cap)).run P w = .ok (.string s) w := by
  cases q with
  | none =>
    have h0 : len = 0 := by
      rcases Nat.eq_zero_or_pos len with h0 | h0
      · exact h0
      · exact (h h0).elim
    have : s = ByteArray.empty := by
      have hz : s.data.size = 0 := by rw [h0] at hs; exact hs
      cases s with
      | mk d => simp at hz; subst hz; rfl
    subst this
    simp [Conv.bytesToString]
  | some a =>
    have hl : (loadCells a len).run P w = .ok ((s.data.toList.map fun b => (b.toNat : Int)).map (Value.int .u8)).toArray w := by
      have h' : World.has w a (bytesV s) := by
        rcases Nat.eq_zero_or_pos len with h0 | h0
        · intro i v hv
          have hz : s.data.size = 0 := by rw [h0] at hs; exact hs
          have : bytesV s = [] := by simp [bytesV, Array.eq_empty_of_size_eq_zero hz]
          rw [this] at hv; simp at hv
        · exact h h0
      have hn : (bytesV s).length = len := by simp [bytesV, ← hs]
      have := loadCells_run (P := P) w a (bytesV s) 0 #[] (fun j v hj => by rw [Nat.zero_add]; exact h' j v hj)
      rw [hn] at this
      simpa [loadCells, bytesV, Function.comp_def] using this
    rw [run_bytesToString w a len cap _ hl, List.foldl_map]
    congr 1
    congr 1
    have : (List.foldl (fun (x : ByteArray) (y : UInt8) => x.push (UInt8.ofNat ((y.toNat : Int)).toNat)) ByteArray.empty s.data.toList) = List.foldl (fun x y => x.push y) ByteArray.empty s.data.toList := by
      congr 1
      funext x y
      simp
    rw [this]
    cases s with
    | mk d =>
      have := push_all d.toList ByteArray.empty
      cases hh : List.foldl (fun x y => ByteArray.push x y) ByteArray.empty d.toList with
      | mk d2 => rw [hh] at this; simp at this; rw [this]
theorem sBound_run {v : Option Value} {d hi : Nat} {F : Nat → Prop} (h : sBound v d hi F) (c : BoundsCode) : ∃ n, F n ∧ ∀ w, (match v with | some x => Instr.sliceBound x hi c | none => pure d : Sem Nat).run P w = .ok n w := by
  unfold sBound at h
  split at h
  · rename_i i
    obtain ⟨⟨h0, h1⟩, hF⟩ := h
    exact ⟨_, hF, fun w => by simp [Instr.sliceBound, asIntOf, h0, h1]⟩
  · exact h.elim
  · exact ⟨_, h, fun w => by simp⟩
theorem xslice_run {t el : TypeId} (ht : P.underlying t = some (.slice el)) (hel : ∃ d, P.underlying el = some d) {q : Option Addr} {len cap : Nat} {l h m : Option Value} {F : Value → Prop}
    (hx : xslice (sizeB P el) q len cap l h m F) : ∃ v, F v ∧ ∀ w, (Instr.sliceAt t (.slice q len cap) l h m).run P w = .ok v w := by
  obtain ⟨d, hd⟩ := hel
  unfold xslice at hx
  obtain ⟨mm, hx, hm⟩ := sBound_run (P := P) hx .slice3Acap
  have hno : m.isSome → h.isSome := by
    intro hm
    cases m <;> cases h <;> simp at hm hx ⊢
  have hx' : sBound h len mm fun hh => sBound l 0 hh fun ll => F (.slice (if mm = ll then q else q.map (·.add (ll * sizeB P el))) (hh - ll) (mm - ll)) := by
    cases m <;> cases h <;> simp at hx ⊢ <;> exact hx
  obtain ⟨hh, hx, hhr⟩ := sBound_run (P := P) hx' (if m.isSome then .slice3B else .sliceAcap)
  obtain ⟨ll, hF, hl⟩ := sBound_run (P := P) hx (if m.isSome then .slice3C else .sliceB)
  refine ⟨_, hF, fun w => ?_⟩
  cases m <;> cases h <;> cases l <;> simp at hno hm hhr hl <;> simp [Instr.sliceAt, Instr.slice, Instr.sliceBounds, under_run ht, size_of_info hd, hm, hhr, hl]
theorem sslice_run {t : TypeId} (ht : P.underlying t = some .string) {s : ByteArray} {l h : Option Value} {F : Value → Prop}
    (hx : sBound h s.size s.size fun hh => sBound l 0 hh fun ll => F (.string (s.extract ll hh))) : ∃ v, F v ∧ ∀ w, (Instr.sliceAt t (.string s) l h none).run P w = .ok v w := by
  obtain ⟨hh, hx, hhr⟩ := sBound_run (P := P) hx .sliceAlen
  obtain ⟨ll, hF, hl⟩ := sBound_run (P := P) hx .sliceB
  refine ⟨_, hF, fun w => ?_⟩
  cases h <;> cases l <;> simp at hhr hl <;> simp [Instr.sliceAt, Instr.slice, Instr.sliceBounds, under_run ht, hhr, hl]

set_option maxHeartbeats 1000000 in
theorem xpure_sound {o : Oper} {e : Env} {K : Value → Prop} (h : xpure P E o e K) : ∃ v, K v ∧ ∀ w, (execOp (eop e) o).run P w = .ok (.value v) w := by
  obtain ⟨dst, op, ty, pos, after, guard⟩ := o
  unfold xpure at h
  cases op <;> simp only at h
  case move x => exact ⟨_, h, fun w => by simp [execOp]⟩
  case assign x => exact ⟨_, h, fun w => by simp [execOp]⟩
  case pick c x y =>
    split at h
    · rename_i t ht
      cases t
      · exact ⟨_, h, fun w => by simp [execOp, ht, asBool]⟩
      · exact ⟨_, h, fun w => by simp [execOp, ht, asBool]⟩
    · exact h.elim
  case build t ps =>
    split at h
    · rename_i cells hc
      refine ⟨_, h, fun w => ?_⟩
      have := run_build (P := P) w t (ps.map fun p => (p.1, eop e p.2)) cells (by simpa using hc)
      simp [execOp, this]
    · exact h.elim
  case nilCheck x =>
    split at h
    · rename_i q hq
      obtain ⟨ad, rfl, hK⟩ := withSome_spec h
      exact ⟨_, hK, fun w => by simp [execOp, hq]⟩
    · rename_i f a b hq
      exact ⟨_, h, fun w => by simp [execOp, hq]⟩
    · exact h.elim
  case binOp op t x y u =>
    obtain ⟨v, hK, hr⟩ := xbin_sound (x := x) (y := y) h
    refine ⟨v, hK, fun w => ?_⟩
    have := hr w
    simp only [execOp, Sem.run_bind] at this ⊢
    rw [this]
    simp
  case unOp op t x =>
    split at h
    · rename_i b hb
      exact ⟨_, h, fun w => by simp [execOp, Op.unary, hb]⟩
    · rename_i k n hb
      exact ⟨_, h, fun w => by simp [execOp, Op.unary, hb, Op.intArith]⟩
    · rename_i k n hb
      refine ⟨.int k (notI k n), h, fun w => ?_⟩
      simp only [execOp, Op.unary, hb, Op.intBits]
      simp
      rfl
    · exact h.elim
  case convert s d x =>
    split at h
    · rename_i k1 k2 k3 n h1 h2 h3
      exact ⟨_, h, fun w => by simp [execOp, convert, under_run h1, under_run h2, h3, Conv.intToInt]⟩
    · rename_i s h1 h2 h3
      exact ⟨_, h, fun w => by simp [execOp, convert, under_run h1, under_run h2, h3]⟩
    · exact h.elim
  case makeInterface t x =>
    split at h
    · exact h.elim
    · rename_i d hd hu
      exact ⟨_, h, fun w => by cases d <;> simp_all [execOp, Instr.makeInterface, under_run hu]⟩
    · exact h.elim
  case makeFunc f x y => exact ⟨_, h, fun w => by simp only [execOp, Instr.makeFunc, map_list]; rfl⟩
  case slice t x l hh m =>
    split at h
    · rename_i el q len cap hu hv
      obtain ⟨hd, h⟩ := some_cond h
      obtain ⟨v, hK, hr⟩ := xslice_run hu hd h
      exact ⟨_, hK, fun w => by simp [execOp, hv, hr]⟩
    · rename_i s hu hv
      cases m with
      | none =>
        obtain ⟨v, hK, hr⟩ := sslice_run hu h
        exact ⟨_, hK, fun w => by simp [execOp, hv, hr]⟩
      | some m => exact h.elim
    · exact h.elim
  case fieldAddr t x i =>
    split at h
    · rename_i fs hu
      split at h
      · rename_i f hf
        cases hz : Nat.beq (sizeB P f.type) 0
        · rw [hz] at h
          obtain ⟨ad, hx, hK⟩ := withAddr_spec h
          refine ⟨_, hK, fun w => ?_⟩
          have hi : ∃ i, P.info? f.type = some i := by
            cases hi : P.info? f.type with
            | some i => exact ⟨i, rfl⟩
            | none => simp [sizeB, hi] at hz
          obtain ⟨i, hi⟩ := hi
          have hs : sizeB P f.type = i.size := by simp [sizeB, hi]
          have h0 : i.size ≠ 0 := by rw [hs] at hz; exact fun e => by rw [e] at hz; cases hz
          simp [execOp, Instr.fieldAt, under_run hu, hf, hx, Instr.sureAddr, fieldPlace, sizeOf_run hi, h0]
        · rw [hz] at h; exact h.elim
      · exact h.elim
    · exact h.elim
  case field t x i =>
    split at h
    · rename_i fs cs hu hv
      split at h
      · rename_i f hf
        split at h
        · rename_i v hv2
          exact ⟨_, h, fun w => by simp [execOp, Instr.field, under_run hu, hf, hv, asAgg, part_run hv2]⟩
        · exact h.elim
      · exact h.elim
    · exact h.elim
  case indexAddr t x i =>
    split at h
    · rename_i el q len cap k j hu hv hj
      obtain ⟨⟨d, hd⟩, ⟨h0, h1⟩, h⟩ := some_cond h
      obtain ⟨ad, rfl, hK⟩ := withSome_spec h
      exact ⟨_, hK, fun w => by simp [execOp, Instr.indexAt, hv, hj, asIntOf, under_run hu, h0, h1, size_of_info hd]⟩
    · rename_i n el q k j hu hv hj
      obtain ⟨⟨d, hd⟩, ⟨h0, h1⟩, h⟩ := some_cond h
      obtain ⟨ad, rfl, hK⟩ := withSome_spec h
      exact ⟨_, hK, fun w => by simp [execOp, Instr.indexAt, hv, hj, asIntOf, under_run hu, h0, h1, size_of_info hd, Instr.sureAddr]⟩
    · exact h.elim
  case index t x i =>
    split at h
    · rename_i s k j hu hv hj
      obtain ⟨⟨h0, h1⟩, h⟩ := h
      refine ⟨_, h, fun w => ?_⟩
      have hlt : j.toNat < s.data.size := by have : s.size = s.data.size := rfl; omega
      have hg : s[j.toNat]? = some (s.data[j.toNat]'hlt) := by
        rw [getElem?_pos s j.toNat (by exact hlt)]
        rfl
      simp only [execOp, Instr.index, hv, hj, asIntOf, Sem.run_bind, under_run hu, Result.andThen_ok, Sem.run_pure, h0, if_true, hg]
      simp [byteAt, Array.getElem?_eq_getElem hlt]
    · rename_i n el cs k j hu hv hj
      obtain ⟨⟨d, hd⟩, ⟨h0, h1⟩, y, hp, hK⟩ := some_cond h
      exact ⟨_, hK, fun w => by simp [execOp, Instr.index, hv, hj, asIntOf, under_run hu, h0, h1, size_of_info hd, part_run hp]⟩
    · exact h.elim
  case extract x i =>
    split at h
    · rename_i vs hv
      split at h
      · rename_i v hv2
        exact ⟨_, h, fun w => by simp [execOp, Instr.extract, hv, hv2]⟩
      · exact h.elim
    · exact h.elim
  case typeAssert x xt t okB =>
    split at h
    · exact h.elim
    · rename_i d u v hd hu hx
      by_cases e' : u = t
      · subst e'
        simp at h
        cases okB <;> refine ⟨_, h, fun w => ?_⟩ <;> cases d <;> simp_all [execOp, Instr.typeAssert, under_run hu]
      · have : Nat.beq u t = false := by cases hb : Nat.beq u t with | false => rfl | true => exact absurd (Nat.eq_of_beq_eq_true hb) e'
        rw [this] at h
        cases okB
        · exact h.elim
        · simp only [cond_true, cond_false] at h
          split at h
          · rename_i z hz
            refine ⟨_, h, fun w => ?_⟩
            cases d <;> simp_all [execOp, Instr.typeAssert, under_run hu, zero_run hz]
          · exact h.elim
    · rename_i d hd hu hx
      cases okB
      · exact h.elim
      · simp only [cond_true] at h
        split at h
        · rename_i z hz
          refine ⟨_, h, fun w => ?_⟩
          cases d <;> simp_all [execOp, Instr.typeAssert, under_run hu, zero_run hz]
        · exact h.elim
    · exact h.elim
  case call c =>
    split at h
    · rename_i t q n cap hcal ht hv
      have hv' := of_toList hv
      have ht' : c.argTypes = #[t] := by apply Array.ext'; rw [ht]
      split at h
      · rename_i el hu
        exact ⟨_, h, fun w => by simp [execOp, resolve, hcal, invoke, builtin, Builtin.len_, hv', ht', under_run hu, goInt]⟩
      · exact h.elim
    · rename_i t s hcal ht hv
      have hv' := of_toList hv
      have ht' : c.argTypes = #[t] := by apply Array.ext'; rw [ht]
      split at h
      · rename_i hu
        exact ⟨_, h, fun w => by simp [execOp, resolve, hcal, invoke, builtin, Builtin.len_, hv', ht', under_run hu, goInt]⟩
      · exact h.elim
    · rename_i t q n cap hcal ht hv
      have hv' := of_toList hv
      have ht' : c.argTypes = #[t] := by apply Array.ext'; rw [ht]
      split at h
      · rename_i el hu
        exact ⟨_, h, fun w => by simp [execOp, resolve, hcal, invoke, builtin, Builtin.cap_, hv', ht', under_run hu, goInt]⟩
      · exact h.elim
    · rename_i hcal hv
      have hv' := of_toList hv
      exact ⟨_, h, fun w => by simp [execOp, resolve, hcal, invoke, builtin, Builtin.max_, Builtin.max2, hv']⟩
    · rename_i hcal hv
      have hv' := of_toList hv
      exact ⟨_, h, fun w => by simp [execOp, resolve, hcal, invoke, builtin, Builtin.max_, Builtin.max2, hv']⟩
    · rename_i hcal hv
      have hv' := of_toList hv
      exact ⟨_, h, fun w => by simp [execOp, resolve, hcal, invoke, builtin, Builtin.min_, Builtin.min2, hv']⟩
    · rename_i hcal hv
      have hv' := of_toList hv
      exact ⟨_, h, fun w => by simp [execOp, resolve, hcal, invoke, builtin, Builtin.min_, Builtin.min2, hv']⟩
    · exact h.elim
  all_goals exact h.elim
end
end Go.Eng

namespace Go.Eng
open Go.RowKit
set_option linter.unusedVariables false
set_option linter.unusedSimpArgs false
set_option maxHeartbeats 1000000
section
variable {P : Program} {E : TypeId → Ty} {rd : Option Nat}

theorem xread_sound {o : Oper} {e : Env} {w : World} {K : Value → (World → Prop) → Prop} (h : xread P E o e w K) :
    ∃ v φ, K v φ ∧ (execOp (eop e) o).run P w = .ok (.value v) w ∧ ∀ w1, φ w1 → (execOp (eop e) o).run P w1 = .ok (.value v) w1 := by
  obtain ⟨dst, op, ty, pos, after, guard⟩ := o
  unfold xread at h
  cases op <;> simp only at h
  case load t x =>
    obtain ⟨⟨d, hu⟩, h⟩ := some_cond h
    obtain ⟨ad, hx, y, ⟨h1, h2⟩, hK⟩ := withAddr_spec h
    have key : ∀ w1, rd w1 ad ((E t).val y) → (execOp (eop e) ⟨dst, .load t x, ty, pos, after, guard⟩).run P w1 = .ok (.value ((E t).val y)) w1 := fun w1 h2 => by
      simp [execOp, Instr.loadAt, hx, Instr.sureAddr, loadVar_run w1 t ad _ d hu h1 h2]
    exact ⟨_, _, hK, key w h2, key⟩
  case convert src d x =>
    split at h
    · rename_i b q len cap h1 h2 h3
      split at h
      · rename_i hb
        obtain ⟨s, ⟨hs, hl⟩, hK⟩ := h
        have key : ∀ w1, (0 < len → withSome q fun a => World.has w1 a (bytesV s)) → (execOp (eop e) ⟨dst, .convert src d x, ty, pos, after, guard⟩).run P w1 = .ok (.value (.string s)) w1 := fun w1 hl => by
          simp only [execOp, h3, Sem.run_bind, run_convert_bytes_string w1 src d b q len cap h1 hb h2, toS_run w1 q len cap s hs hl]
          simp
        exact ⟨_, _, hK, key w hl, key⟩
      · exact h.elim
    · exact h.elim
  case lookup t x i ok =>
    obtain ⟨y, hr, hK⟩ := h
    exact ⟨_, _, hK, by simp [execOp, hr], fun w1 h1 => by simp [execOp, h1]⟩
  case call c =>
    split at h
    · rename_i r hcal hv
      have hv' := of_toList hv
      obtain ⟨n, hr, hK⟩ := h
      exact ⟨_, _, hK, by simp [execOp, resolve, hcal, invoke, builtin, hv', hr], fun w1 h1 => by simp [execOp, resolve, hcal, invoke, builtin, hv', h1]⟩
    · exact h.elim
  all_goals exact h.elim

theorem xeff_sound (ok : Okp P) {o : Oper} {e : Env} {a : Act} {w : World} {KP : List PanicEntry → World → Prop} {K : Value → World → Prop} {next : Act → World → Prop} {Q : Exit → Act → World → Prop}
    (ha : ∀ x, a.eval x = eop e x) (h : xeff P E o e KP K w) (hn : ∀ v w', K v w' → next (a.put o.dst v) w') (hp : ∀ c w', KP c w' → Q (.panic c) a w') : o.uponIn (wideR rd) 0 P a next Q ((execOp (eop e) o).run P w) := by
  obtain ⟨dst, op, ty, pos, after, guard⟩ := o
  unfold xeff at h
  cases op <;> simp only at h hn
  case alloc t =>
    split at h
    · rename_i z hz
      exact of_val (by simp [execOp, Instr.alloc, zero_run hz, newVar_run]) (h _ _ ⟨rfl, rfl⟩) hn
    · exact h.elim
  case box t x => exact of_val (by simp [execOp, Instr.box, newVar_run]) (h _ _ ⟨rfl, rfl⟩) hn
  case buildSlice t len ps =>
    split at h
    · rename_i el cs hb
      unfold builtS at hb
      split at hb
      · rename_i el' hu
        split at hb
        · rename_i i hi
          split at hb
          · rename_i z hz
            cases hle : Nat.ble (len * i.size) 16777216
            · rw [hle] at hb; cases hb
            · rw [hle] at hb
              simp only [cond_true, Option.map_eq_some_iff] at hb
              obtain ⟨cs', hf, he⟩ := hb
              cases he
              have hle' : ¬ len * i.size > 2 ^ 24 := by have := Nat.le_of_ble_eq_true hle; omega
              refine of_val ?_ (h _ _ ⟨rfl, rfl⟩) hn
              have hps : (ps.map fun p => (p.1, eop e p.2)).toList = ps.toList.map fun p => (p.1, eop e p.2) := by simp
              by_cases h0 : len * i.size = 0
              · have hm : (Array.range (len * i.size)).map (fun j => (#[] : Array Value)[j % (#[] : Array Value).size]!) = madeCells z.cells (len * i.size) := by
                  rw [h0]; simp [madeCells, Array.range_zero']
                simp only [execOp, Instr.buildSlice, Sem.run_bind, under_run hu, Result.andThen_ok, sizeOf_run hi, if_neg hle', if_pos h0, Sem.run_pure, hm, hps, hf]
                rfl
              · have hm : (Array.range (len * i.size)).map (fun j => z.cells[j % z.cells.size]!) = madeCells z.cells (len * i.size) := rfl
                have hz' : (zeroValue el).run P w = .ok z w := by simp [zeroValue, typeInfo, hi, hz]
                simp only [execOp, Instr.buildSlice, Sem.run_bind, under_run hu, Result.andThen_ok, sizeOf_run hi, if_neg hle', if_neg h0, Sem.run_pure, hz', hm, hps, hf]
                rfl
          · cases hb
        · cases hb
      · cases hb
    · exact h.elim
  case makeSlice t l c =>
    split at h
    · rename_i el k1 n k2 m hu hl hc
      split at h
      · rename_i i hi
        split at h
        · rename_i z hz
          obtain ⟨⟨h0, h1, h2, h3⟩, h⟩ := h
          refine of_val ?_ (h _ _ ⟨rfl, rfl⟩) hn
          have := run_make (P := P) w t el i z hu hi hz k1 k2 n m h0 h1 h2 h3
          simp [execOp, hl, hc, this]
        · exact h.elim
      · exact h.elim
    · exact h.elim
  case makeMap t r =>
    cases r with
    | none => exact of_val (by simp [execOp, Instr.makeMap, newObj, Sem.run]) (h _ _ ⟨rfl, rfl⟩) hn
    | some r => exact h.elim
  case store t x v =>
    obtain ⟨⟨d, hu⟩, hs1, h⟩ : (∃ d, P.underlying t = some d) ∧ (aggB P t = false → sizeB P t = 1) ∧ _ := by
      cases hu : P.underlying t with
      | none => rw [hu] at h; exact h.elim
      | some d =>
        rw [hu] at h
        cases hs : (aggB P t || Nat.beq (sizeB P t) 1)
        · rw [hs] at h; exact h.elim
        · rw [hs] at h
          exact ⟨⟨d, rfl⟩, fun hg => by rw [hg] at hs; exact Nat.eq_of_beq_eq_true hs, h⟩
    obtain ⟨ad, hx, ⟨h1, h2⟩, hK⟩ := withAddr_spec h
    have hi := info_of_under hu
    have hr := storeVar_run (P := P) w t ad (eop e v) hi h1 hs1 h2
    have : (execOp (eop e) ⟨dst, .store t x v, ty, pos, after, guard⟩).run P w = .ok .skip (putAt w ad (eop e v)) := by
      simp [execOp, Instr.storeAt, hx, Instr.sureAddr, hr]
    rw [this]
    exact hn _ _ (hK _ rfl)
  case convert src d x =>
    split at h
    · rename_i el s h1 h2 h3
      split at h
      · rename_i h4
        obtain ⟨q, c, w1, hr, hK⟩ := h
        exact of_val (by simp [execOp, h3, convert, under_run h1, under_run h2, under_run h4, hr]) hK hn
      · exact h.elim
    · rename_i el q n c h1 h2 h3
      split at h
      · rename_i h4
        cases hsd : Nat.beq src d
        · rw [hsd] at h; exact h.elim
        · rw [hsd] at h
          have hsd' := Nat.eq_of_beq_eq_true hsd
          obtain ⟨ad, rfl, h⟩ := withSome_spec h
          refine of_val ?_ (h _ rfl) hn
          have hm : (markStringish ad).run P w = .ok () (match w.shape? ad.block with | some (_, n) => w.freeze { block := ad.block, off := n } 1 | none => w) := by
            simp only [markStringish, shape, freeze]
            cases hsh : w.shape? ad.block with
            | none => simp [Sem.run, hsh]
            | some p => obtain ⟨t, n⟩ := p; simp [Sem.run, hsh]
          have hbq : (src == d) = true := by simp [hsd']
          simp [execOp, h3, convert, under_run h1, under_run h2, under_run h4, hsd', hm]
          all_goals rfl
      · exact h.elim
    · exact h.elim
  case mapUpdate t m k v =>
    obtain ⟨w1, hr, hK⟩ := h
    have : (execOp (eop e) ⟨dst, .mapUpdate t m k v, ty, pos, after, guard⟩).run P w = .ok .skip w1 := by simp [execOp, hr]
    rw [this]
    exact hn _ _ hK
  case insert t m k v =>
    obtain ⟨w1, hr, hK⟩ := h
    have : (execOp (eop e) ⟨dst, .insert t m k v, ty, pos, after, guard⟩).run P w = .ok .skip w1 := by simp [execOp, hr]
    rw [this]
    exact hn _ _ hK
  case panic x =>
    split at h
    · rename_i t v hv
      have : (execOp (eop e) ⟨dst, .panic x, ty, pos, after, guard⟩).run P w = .halt (.panic (.iface t v)) w := by
        simp [execOp, Instr.panic, hv, goPanic, Sem.run]
      rw [this]
      exact hp _ _ h
    · exact h.elim
  case call c =>
    have post : ∀ (f : Nat) (args : Array Value), Calls P f args w (Ret (fun v w1 => ∃ p : (E ty).α, v = (E ty).val p ∧ K ((E ty).val p) w1) KP) →
        Oper.uponIn (wideR rd) 0 P ⟨dst, .call c, ty, pos, after, guard⟩ a next Q (.ok (.enter f args) w) := fun f args hc => by
      rw [Oper.uponIn_enter]
      refine ⟨wideR_depth rd, callsIn_of (hc.mono fun e' w' he => ?_)⟩
      cases e' with
      | returned v => obtain ⟨p, rfl, hK⟩ := he; exact hn _ _ hK
      | panicked ch => exact hp _ _ he
      | outgrown => exact he.elim
    split at h
    · rename_i f' hcal
      cases hb : bodied P f'
      · rw [hb] at h
        obtain ⟨p, w1, hr, hK⟩ := h
        refine of_val ?_ hK hn
        rw [map_list] at hr
        have hr2 : (callFunc f' (c.args.map (eop e))).run P w = .ok (.value ((E ty).val p)) w1 := hr
        simp only [execOp, resolve, hcal, eop, Deferred.ofValue, invoke, Sem.run_bind, Sem.run_pure, Result.andThen_ok, Array.empty_append, Array.append_empty]
        exact hr2
      · rw [hb] at h
        have : (execOp (eop e) ⟨dst, .call c, ty, pos, after, guard⟩).run P w = .ok (.enter f' (c.args.toList.map (eop e)).toArray) w := by
          simp [execOp, resolve, hcal, eop, Deferred.ofValue, invoke, bodied_run hb, map_list]
        rw [this]
        exact post _ _ h
    · rename_i f hnf hcal
      unfold callV at h
      split at h
      · rename_i v f' fi ca hf
        obtain ⟨hb, hc⟩ := h
        have : (execOp (eop e) ⟨dst, .call c, ty, pos, after, guard⟩).run P w = .ok (.enter f' (fi ++ (c.args.toList.map (eop e)).toArray ++ ca)) w := by
          simp [execOp, resolve, hcal, hf, Deferred.ofValue, invoke, bodied_run hb, map_list]
        rw [this]
        exact post _ _ hc
      · rename_i v l fi ca hf
        obtain ⟨fn, tmps, assign, body, hy, hr⟩ := h
        have : (execOp (eop e) ⟨dst, .call c, ty, pos, after, guard⟩).run P w = .ok (.round l fn tmps assign body) w := by
          rw [map_list] at hy
          simp [execOp, resolve, hcal, hf, Deferred.ofValue, invoke, hy]
        rw [this, Oper.uponIn_round]
        refine ⟨wideR_depth rd, RoundIn.mono (F := wideR rd) hr fun e' w' he => ?_⟩
        cases e' with
        | returned v => obtain ⟨p, rfl, hK⟩ := he; exact hn _ _ hK
        | panicked ch => exact hp _ _ he
        | outgrown => exact he.elim
      · exact h.elim
    · rename_i hcal
      obtain ⟨q, n, c', w1, hr, hK⟩ := h
      rw [map_list] at hr
      exact of_val (by simp [execOp, resolve, hcal, invoke, builtin, hr]) hK hn
    · rename_i hcal
      obtain ⟨n, w1, hr, hK⟩ := h
      rw [map_list] at hr
      exact of_val (by simp [execOp, resolve, hcal, invoke, builtin, hr]) hK hn
    · rename_i hcal
      obtain ⟨w1, hr, hK⟩ := h
      rw [map_list] at hr
      exact of_val (by simp [execOp, resolve, hcal, invoke, builtin, hr]) hK hn
    · rename_i hcal
      obtain ⟨w1, hr, hK⟩ := h
      rw [map_list] at hr
      exact of_val (by simp [execOp, resolve, hcal, invoke, builtin, hr]) hK hn
    · exact h.elim
  all_goals exact h.elim

theorem xop_nodefer {o : Oper} {e : Env} {w : World} {KP : List PanicEntry → World → Prop} {K : Value → World → Prop} (h : xop P E o e KP K w) : ∀ c, o.op ≠ .defer c := by
  intro c hc
  unfold xop kindOf at h
  rw [hc] at h
  simp only at h
  unfold xeff at h
  rw [hc] at h
  exact h
theorem xop_sound (ok : Okp P) {o : Oper} {e : Env} {a : Act} {w : World} {KP : List PanicEntry → World → Prop} {K : Value → World → Prop} {next : Act → World → Prop} {Q : Exit → Act → World → Prop}
    (ha : ∀ x, a.eval x = eop e x) (h : xop P E o e KP K w) (hn : ∀ v w', K v w' → next (a.put o.dst v) w') (hp : ∀ c w', KP c w' → Q (.panic c) a w') : o.wpIn (wideR rd) 0 P a w next Q := by
  refine ⟨fun _ _ => trivial, ?_⟩
  rw [Oper.semAt_eq _ _ _ (xop_nodefer h), show a.eval = eop e from funext ha]
  unfold xop at h
  split at h
  · obtain ⟨v, hK, hr⟩ := xpure_sound h
    exact of_val (hr w) hK hn
  · obtain ⟨v, φ, hK, hr, _⟩ := xread_sound h
    exact of_val hr hK hn
  · exact xeff_sound ok ha h hn hp
end
end Go.Eng

namespace Go.Eng
open Go.RowKit
set_option linter.unusedVariables false
set_option linter.unusedSimpArgs false
section
variable (P : Program) (E : TypeId → Ty)

@[reducible] def LI : List (Nat × TypeId) → Type
  | [] => World → Prop
  | (_, t) :: r => (E t).α → LI r
@[reducible] def LM : List (Nat × TypeId) → Type
  | [] => World → Nat
  | (_, t) :: r => (E t).α → LM r
@[reducible] def exI : (sl : List (Nat × TypeId)) → LI E sl → Env → World → Prop
  | [], I, _, w => I w
  | (s, t) :: r, I, e, w => ∃ x : (E t).α, e.f s = (E t).val x ∧ exI r (I x) e w
@[reducible] def exM (m : Nat) : (sl : List (Nat × TypeId)) → LI E sl → LM E sl → Env → World → Prop
  | [], I, M, _, w => I w ∧ M w < m
  | (s, t) :: r, I, M, e, w => ∃ x : (E t).α, e.f s = (E t).val x ∧ exM m r (I x) (M x) e w
@[reducible] def allI : (sl : List (Nat × TypeId)) → LI E sl → Env → (Env → World → Prop) → Prop
  | [], I, e0, F => ∀ w, I w → F e0 w
  | (s, t) :: r, I, e0, F => ∀ x : (E t).α, allI r (I x) (eset e0 s ((E t).val x)) F
@[reducible] def allM : (sl : List (Nat × TypeId)) → LI E sl → LM E sl → Env → (Env → World → Nat → Prop) → Prop
  | [], I, M, e0, F => ∀ w, I w → F e0 w (M w)
  | (s, t) :: r, I, M, e0, F => ∀ x : (E t).α, allM r (I x) (M x) (eset e0 s ((E t).val x)) F

/-- What the printer lays down: the slots of a loop (by the first region in it), the slots of a cut (by the first region behind it), the order of a region that draws, and what each of its operations waits for; the slots of the results, if something waits for the end. -/
structure Tab where
  loop : Nat → List (Nat × TypeId)
  mods : Nat → List Nat
  cut : Nat → Option (List (Nat × TypeId))
  cutMods : Nat → List Nat
  order : Nat → List Nat
  cl : Nat → Nat → Nat
  rs : List Nat
  tree : Nat → Option Tree := fun _ => none

@[reducible] def xguard (ops : Array Oper) (o : Oper) (e : Env) (run skip : Env → Prop) : Prop := match o.guard with
  | none => run e
  | some (j, want) => match (ops[j]?).bind (·.dst) with
    | some d => match e.f d with
      | .bool t => cond t (cond want (run (eset e d (.bool true))) (skip (eset e d (.bool true)))) (cond want (skip (eset e d (.bool false))) (run (eset e d (.bool false))))
      | _ => skip e
    | none => skip e
@[reducible] def xops (ops : Array Oper) (kp : Env → List PanicEntry → World → Prop) (N : Env → World → Prop) : List Nat → Env → World → Prop
  | [], e, w => N e w
  | i :: r, e, w => match ops[i]? with
    | some o => match o.op, o.guard with
      | .defer c, none => match c.callee with
        | .value f => match eop e f with
          | .func (.func g) fi ca => xops ops kp N r (eput ⟨e.f, { target := .fn (.func g) ca, args := fi ++ (c.args.toList.map (eop e)).toArray } :: e.ms⟩ o.dst undef) w
          | _ => False
        | _ => False
      | _, _ => xguard ops o e (fun e1 => xop P E o e1 (kp e1) (fun v w1 => xops ops kp N r (eput e1 o.dst v) w1) w) (fun e1 => xops ops kp N r (eput e1 o.dst undef) w)
    | none => False
@[reducible] def asserts (c : Nat) (w : World) (X : Prop) : List (Nat × (World → Prop)) → Prop
  | [] => X
  | (j, φ) :: S => cond (c.testBit j) (asserts c w X S) (φ w ∧ asserts c w X S)
@[reducible] def xdraw (ops : Array Oper) (cl : Nat → Nat) (kp : Env → List PanicEntry → World → Prop) (N : Env → World → Prop) : List (Nat × (World → Prop)) → List Nat → Env → World → Prop
  | _, [], e, w => N e w
  | S, i :: r, e, w => match ops[i]? with
    | some o => match kindOf P o with
      | .pure => xguard ops o e (fun e1 => xpure P E o e1 fun v => xdraw ops cl kp N S r (eput e1 o.dst v) w) (fun e1 => xdraw ops cl kp N S r (eput e1 o.dst undef) w)
      | .read => xguard ops o e (fun e1 => xread P E o e1 w fun v φ => xdraw ops cl kp N ((i, φ) :: S) r (eput e1 o.dst v) w) (fun e1 => xdraw ops cl kp N S r (eput e1 o.dst undef) w)
      | .eff => xguard ops o e (fun e1 => xeff P E o e1 (kp e1) (fun v w1 => asserts (cl i) w1 (xdraw ops cl kp N S r (eput e1 o.dst v) w1) S) w) (fun e1 => asserts (cl i) w (xdraw ops cl kp N S r (eput e1 o.dst undef) w) S)
    | none => False
@[reducible] def xloud (ops : Array Oper) (cl : Nat → Nat) (kp : Env → List PanicEntry → World → Prop) (K : Env → World → Prop) (S : List (Nat × (World → Prop))) (i : Nat) (e : Env) (w : World) : Prop := match ops[i]? with
  | some o => match kindOf P o with
    | .eff => xguard ops o e (fun e1 => xeff P E o e1 (kp e1) (fun v w1 => asserts (cl i) w1 (K (eput e1 o.dst v) w1) S) w) (fun e1 => asserts (cl i) w (K (eput e1 o.dst undef) w) S)
    | _ => False
  | none => False
@[reducible] def xdrawT (ops : Array Oper) (cl : Nat → Nat) (kp : Env → List PanicEntry → World → Prop) (N : Env → World → Prop) : List (Nat × (World → Prop)) → Tree → Env → World → Prop
  | _, .done, e, w => N e w
  | S, .quiet i r, e, w => match ops[i]? with
    | some o => match kindOf P o with
      | .pure => xguard ops o e (fun e1 => xpure P E o e1 fun v => xdrawT ops cl kp N S r (eput e1 o.dst v) w) (fun e1 => xdrawT ops cl kp N S r (eput e1 o.dst undef) w)
      | .read => xguard ops o e (fun e1 => xread P E o e1 w fun v φ => xdrawT ops cl kp N ((i, φ) :: S) r (eput e1 o.dst v) w) (fun e1 => xdrawT ops cl kp N S r (eput e1 o.dst undef) w)
      | .eff => False
    | none => False
  | S, .loud i r, e, w => xloud P E ops cl kp (xdrawT ops cl kp N S r) S i e w
  | S, .fork i r t, e, w => xloud P E ops cl kp (xdrawT ops cl kp N S r) S i e w ∧ xdrawT ops cl kp N S t e w
@[reducible] def loudB (ops : Array Oper) (i : Nat) : Bool := match ops[i]? with | some o => (match kindOf P o with | .eff => true | _ => false) | none => true

@[reducible] def lookN {α : Type} : List (Nat × α) → α → Nat → α
  | [], d, _ => d
  | (k, x) :: r, d, i => cond (Nat.beq k i) x (lookN r d i)
@[reducible] def nthN : List Nat → Nat → Nat
  | [], _ => 0
  | x :: _, 0 => x
  | _ :: r, i + 1 => nthN r i
@[reducible] def mkTab (loops : List (Nat × List (Nat × TypeId))) (mods : List (Nat × List Nat)) (cuts : List (Nat × List (Nat × TypeId))) (cutMods : List (Nat × List Nat)) (orders cls : List (Nat × List Nat)) (rs : List Nat) (trees : List (Nat × Option Tree)) : Tab :=
  ⟨lookN loops [], lookN mods [], lookN (cuts.map fun p => (p.1, some p.2)) none, lookN cutMods [], lookN orders [], (fun id i => nthN (lookN cls [] id) i), rs, lookN trees none⟩
@[reducible] def memB : List Nat → Nat → Bool
  | [], _ => false
  | x :: r, i => cond (Nat.beq x i) true (memB r i)
/-- Slots that a piece of text does not write stay as they were. -/
@[reducible] def keepE (m : List Nat) (e e0 : Env) : Env := ⟨fun i => cond (memB m i) (e0.f i) (e.f i), e.ms⟩
def noDefer (ops : Array Oper) : Bool := ops.all fun o => match o.op with | .defer _ => false | _ => true
def calmC : Code → Bool
  | .region _ ops _ => noDefer ops
  | .seq a b => calmC a && calmC b
  | .cond _ a b => calmC a && calmC b
  | .block _ b => calmC b
  | .loop b => calmC b
  | .scope b => calmC b
  | .rangeFunc .. => false
  | _ => true
def writesIn (m : List Nat) : Code → Bool
  | .region _ ops _ => (ops.all fun o => match o.dst with | some d => memB m d | none => true) && noDefer ops
  | .seq a b => writesIn m a && writesIn m b
  | .cond _ a b => writesIn m a && writesIn m b
  | .block _ b => writesIn m b
  | .loop b => writesIn m b
  | .scope b => writesIn m b
  | .rangeFunc .. => false
  | _ => true
@[reducible] def firstR : Code → Nat
  | .region id _ _ => id
  | .seq a _ => firstR a
  | .block _ b => firstR b
  | .loop b => firstR b
  | .scope b => firstR b
  | _ => 1000000

/-- What a frame does on its way out with what waits for its end. -/
@[reducible] def xleave : List Deferred → FrameMode → World → (FrameMode → World → Prop) → Prop
  | [], u, w, F => F u w
  | d :: r, u, w, F => match d.target with
    | .collected D => w.heap[D]? = some (.deferred (some [])) ∧ ∀ w1, w1 = w.putObj D (.deferred none) → xleave r u w1 F
    | .fn (.func f) ca => bodied P f = true ∧ CallsDIn Fence.wide 0 P f (d.args ++ ca) u w fun e u' w' => match e with
      | .returned _ => settle u' ≠ .run ∧ xleave r (settle u') w' F
      | .panicked c => xleave r (raised u' c) w' F
      | .outgrown => False
    | _ => False
@[reducible] def markD (D : Nat) : Deferred := { target := .collected D, args := #[] }
/-- A range over a function has begun. -/
structure RFstart (w : World) (D L : Nat) (lr : LoopState → Option Code → Obj) (w1 : World) : Prop where
  d : D = w.heap.size
  l : L = w.heap.size + 1
  sz : w1.heap.size = w.heap.size + 2
  dAt : w1.heap[D]? = some (.deferred (some []))
  lAt : w1.heap[L]? = some (lr .ready none)
  kp : Kp [] w w1
@[reducible] def finR (L : Nat) (lr : LoopState → Option Code → Obj) (RR : Value → World → Prop) (jump : Option Code) (w : World) : Prop :=
  w.heap[L]? = some (lr .busy none) ∧ ∀ w3, w3 = w.putObj L (lr (cond jump.isNone .ready .done) jump) → RR (.bool jump.isNone) w3
@[reducible] def setArgs : List Nat → List Value → Env → Env
  | t :: ts, v :: vs, e => setArgs ts vs (eset e t v)
  | _, _, e => e

@[reducible] def allArgs : List (Nat × TypeId) → List Value → Env → (List Value → Env → Prop) → Prop
  | [], acc, e, F => F acc.reverse e
  | (s, t) :: r, acc, e, F => ∀ x : (E t).α, allArgs r ((E t).val x :: acc) (eset e s ((E t).val x)) F
def callF (v : Value) (args : List Value) (w : World) (R : Ending → World → Prop) : Prop := match v with
  | .func (.func g) a b => bodied P g = true ∧ Calls P g (a ++ args.toArray ++ b) w R
  | _ => False
@[reducible] def xcode (T : Tab) : Code → Env → World → (Env → World → Prop) → (Nat → Env → World → Prop) → (Env → World → Prop) → (Env → List PanicEntry → World → Prop) → Prop
  | .skip, e, w, N, _, _, _ => N e w
  | .label _, e, w, N, _, _, _ => N e w
  | .region id ops draw, e, w, N, _, _, kp => cond draw (∀ w0, Drew w w0 → match T.tree id with
      | none => xdraw P E ops (T.cl id) kp N [] (T.order id) e w0
      | some t => xdrawT P E ops (T.cl id) kp N [] t e w0) (xops P E ops kp N (List.range ops.size) e w)
  | .seq a b, e, w, N, X, R, kp => match T.cut (firstR b) with
    | none => xcode T a e w (fun e w => xcode T b e w N X R kp) X R kp
    | some sl => ∃ J : LI E sl, xcode T a e w (fun e1 w1 => exI E sl J e1 w1) X R kp ∧ ∀ e0, allI E sl J (keepE (T.cutMods (firstR b)) e e0) fun e1 w1 => xcode T b e1 w1 N X R kp
  | .cond c a b, e, w, N, X, R, kp => match eop e c with
    | .bool t => cond t (xcode T a e w N X R kp) (xcode T b e w N X R kp)
    | _ => False
  | .block id b, e, w, N, X, R, kp => xcode T b e w N (fun i e w => cond (Nat.beq i id) (N e w) (X i e w)) R kp
  | .scope b, e, w, N, X, R, kp => xcode T b e w N X R kp
  | .loop b, e, w, _, X, R, kp => ∃ (I : LI E (T.loop (firstR b))) (M : LM E (T.loop (firstR b))), exI E (T.loop (firstR b)) I e w ∧
      ∀ e0, allM E (T.loop (firstR b)) I M (keepE (T.mods (firstR b)) e e0) fun e1 w1 m => xcode T b e1 w1 (fun e2 w2 => exM E m (T.loop (firstR b)) I M e2 w2) X R kp
  | .exit id, e, w, _, X, _, _ => X id e w
  | .ret, e, w, _, _, R, _ => R e w
  | .rangeFunc f ps assign body, e, w, N, X, R, kp => ∀ (D L : Nat) (lr : LoopState → Option Code → Obj) (w1 : World), RFstart w D L lr w1 →
        ∀ y : Value, allArgs E (T.loop (1000000 + firstR body)) [] ⟨e.f, []⟩ (fun args e0 => ∀ (W : World) (RR : Value → World → Prop), W.heap[L]? = some (lr .ready none) →
            xcode T assign e0 W (fun e1 W1 => W1.heap[L]? = some (lr .ready none) ∧ ∀ W2, W2 = W1.putObj L (lr .busy none) →
              xcode T body e1 W2 (fun _ W3 => finR L lr RR none W3) (fun id _ W3 => finR L lr RR (some (.exit id)) W3) (fun _ W3 => finR L lr RR (some .ret) W3) (fun _ _ _ => False))
              (fun _ _ _ => False) (fun _ _ => False) (fun _ _ _ => False) →
            callV P y args W (Ret RR fun _ _ => False)) →
        callF P (eop e f) [y] w1 (Ret (fun _ w2 => ∃ st jump, w2.heap[L]? = some (lr st jump) ∧ st ≠ .busy ∧ ∀ w3, w3 = w2.putObj L (lr .exhausted jump) → match jump with
          | none => N ⟨e.f, markD D :: e.ms⟩ w3
          | some (.exit id) => X id ⟨e.f, markD D :: e.ms⟩ w3
          | some .ret => R ⟨e.f, markD D :: e.ms⟩ w3
          | _ => False) (kp ⟨e.f, markD D :: e.ms⟩))
  | _, _, _, _, _, _, _ => False
def ckCode (T : Tab) (n : Nat) : Code → Bool
  | .region id ops draw => (ops.all fun o => match o.dst with | some d => Nat.blt d n | none => true) && (!draw || ((match T.tree id with
      | none => planOk ops (T.cl id) (loudB P ops) (T.order id)
      | some t => treeOk ops (T.cl id) (loudB P ops) t) && ops.all fun o => match o.dst with | some d => !memB T.rs d | none => true))
  | .seq a b => ckCode T n a && ckCode T n b && (match T.cut (firstR b) with | none => true | some _ => writesIn (T.cutMods (firstR b)) a)
  | .cond _ a b => ckCode T n a && ckCode T n b
  | .block _ b => ckCode T n b
  | .scope b => ckCode T n b
  | .loop b => ckCode T n b && writesIn (T.mods (firstR b)) b
  | .rangeFunc _ ps a b => ckCode T n a && ckCode T n b && calmC a && calmC b && (ps.all fun t => Nat.blt t n) && ps.toList == (T.loop (1000000 + firstR b)).map (·.1)
  | _ => true

@[reducible] def finish (vs : List Value) : Value := match vs with | [v] => v | vs => .tuple vs.toArray
@[reducible] def xres (K : Value → World → Prop) : List ResultVar → List Value → Env → World → Prop
  | [], acc, _, w => K (finish acc.reverse) w
  | .tmp t :: r, acc, e, w => xres K r (e.f t :: acc) e w
  | .cell a t :: r, acc, e, w => cond (P.underlying t).isSome (withAddr (e.f a) fun ad => ∃ y : (E t).α, (okVal (aggB P t) (sizeB P t) ((E t).val y) = true ∧ rd w ad ((E t).val y)) ∧ xres K r ((E t).val y :: acc) e w) False
@[reducible] def xendF (R : World → Prop) (KP : List PanicEntry → World → Prop) (u : FrameMode) (w : World) : Prop := match u with
  | .returning => R w
  | .panicking c => KP c w
  | .run => False
@[reducible] def xend (K : Value → World → Prop) (KP : List PanicEntry → World → Prop) (rs : List ResultVar) (e : Env) : FrameMode → World → Prop := xendF (fun w => xres P E K rs [] e w) KP

/-- The predicate of a function. -/
@[reducible] def xfun (T : Tab) (c : Code) (rs : List ResultVar) (args : List Value) (w : World) (K : Value → World → Prop) (KP : List PanicEntry → World → Prop) : Prop :=
  xcode P E T c ⟨fun i => args.getD i undef, []⟩ w (fun e w => xleave P e.ms .returning w (xend P E K KP rs e)) (fun _ _ _ => False) (fun e w => xleave P e.ms .returning w (xend P E K KP rs e))
    (fun e c w => xleave P e.ms (.panicking c) w (xend P E K KP rs e))
end

section
variable {P : Program} {E : TypeId → Ty} {rd : Option Nat}

structure Agr (n : Nat) (a : Act) (e : Env) : Prop where
  size : a.tmps.size = n
  val : ∀ t, a.tmps.getD t undef = e.f t
  dfr : a.defers = e.ms
theorem Agr.eval {n : Nat} {a : Act} {e : Env} (h : Agr n a e) (x : Operand) : a.eval x = eop e x := by
  cases x with
  | tmp t => exact h.val t
  | const v => rfl
  | global g => rfl
  | func f => rfl
theorem beq_refl' (i : Nat) : Nat.beq i i = true := Nat.beq_refl i
theorem beq_ne {i d : Nat} (h : i ≠ d) : Nat.beq i d = false := by
  cases hb : Nat.beq i d with
  | false => rfl
  | true => exact absurd (Nat.eq_of_beq_eq_true hb) h
theorem put_ds {a : Act} {d : Option Tmp} {v : Value} : (a.put d v).defers = a.defers := by cases d <;> rfl
theorem eput_ms {e : Env} {d : Option Tmp} {v : Value} : (eput e d v).ms = e.ms := by cases d <;> rfl
theorem Agr.put {n : Nat} {a : Act} {e : Env} (h : Agr n a e) {d : Option Tmp} (hd : ∀ k, d = some k → k < n) (v : Value) : Agr n (a.put d v) (eput e d v) := by
  cases d with
  | none => exact h
  | some d =>
    refine ⟨by simp [Act.put, h.size], fun t => ?_, by rw [put_ds, eput_ms]; exact h.dfr⟩
    have hlt := hd d rfl
    rw [← h.size] at hlt
    by_cases ht : t = d
    · subst ht
      have : (eput e (some t) v).f t = v := by show cond (Nat.beq t t) v (e.f t) = v; rw [beq_refl']; rfl
      rw [this]; simp [Act.put, hlt]
    · have h0 := h.val t
      have : (eput e (some d) v).f t = e.f t := by show cond (Nat.beq t d) v (e.f t) = e.f t; rw [beq_ne ht]; rfl
      rw [this, ← h0]
      simp [Act.put, Array.getElem?_setIfInBounds_ne (Ne.symm ht)]
theorem eset_self {e : Env} {d : Nat} {v : Value} (h : e.f d = v) : eset e d v = e := by
  cases e with
  | mk f ms =>
    unfold eset
    congr 1
    funext i
    by_cases hi : i = d
    · subst hi; rw [beq_refl']; exact h.symm
    · rw [beq_ne hi]; rfl
theorem Agr.yielded {n : Nat} {a : Act} {e : Env} (h : Agr n a e) {ops : Array Oper} {j d : Nat} (hj : (ops[j]?).bind (·.dst) = some d) :
    yielded ops a.tmps j = match e.f d with | .bool b => some b | _ => none := by
  unfold Go.yielded
  rw [hj]
  simp only [Option.bind_some]
  have hv := h.val d
  simp only [Array.getD_eq_getD_getElem?] at hv
  cases ht : a.tmps[d]? with
  | none => rw [ht] at hv; rw [← hv]; rfl
  | some v => rw [ht] at hv; rw [← hv]; cases v <;> rfl

/-- A guard. -/
theorem guard_sound {n : Nat} {a : Act} {e : Env} (h : Agr n a e) {ops : Array Oper} {o : Oper} {run skip : Env → Prop} (hx : xguard ops o e run skip) :
    (Region.wanted o (yielded ops a.tmps) = true ∧ run e) ∨ (Region.wanted o (yielded ops a.tmps) = false ∧ skip e) := by
  unfold xguard at hx
  unfold Region.wanted
  split at hx
  · rename_i hg; rw [hg]; exact .inl ⟨rfl, hx⟩
  · rename_i j want hg
    rw [hg]
    split at hx
    · rename_i d hd
      simp only
      rw [h.yielded hd]
      split at hx
      · rename_i t ht
        try rw [ht]
        have hs : eset e d (.bool t) = e := eset_self ht
        cases t <;> cases want <;> simp only [cond_true, cond_false] at hx <;> rw [hs] at hx
        · exact .inl ⟨rfl, hx⟩
        · exact .inr ⟨rfl, hx⟩
        · exact .inr ⟨rfl, hx⟩
        · exact .inl ⟨rfl, hx⟩
      · rename_i hn
        refine .inr ⟨?_, hx⟩
        cases hv : e.f d <;> first | (simp; done) | exact absurd hv (hn _)
    · rename_i hd
      refine .inr ⟨?_, hx⟩
      have : Go.yielded ops a.tmps j = none := by unfold Go.yielded; rw [hd]; rfl
      show (Go.yielded ops a.tmps j == some want) = false
      rw [this]
      rfl

theorem wpOp_of_xop (ok : Okp P) {n : Nat} {ops : Array Oper} {o : Oper} {i : Nat} (hi : ops[i]? = some o) {e : Env} {a : Act} {w : World} {kp : Env → List PanicEntry → World → Prop} {K : Env → Value → World → Prop} {next : Act → World → Prop} {Q : Exit → Act → World → Prop} {skip : Env → Prop}
    (ha : Agr n a e) (h : xguard ops o e (fun e1 => xop P E o e1 (kp e1) (K e1) w) skip) (hn : ∀ v w', K e v w' → next (a.put o.dst v) w') (hs : skip e → next (a.put o.dst undef) w)
    (hp : ∀ c w', kp e c w' → Q (.panic c) a w') : wpOpR rd P ops Q i next a w := by
  unfold wpOpR wpOpIn
  rw [hi]
  simp only
  rcases guard_sound ha h with ⟨hw, hx⟩ | ⟨hw, hx⟩
  · rw [if_pos hw]
    exact xop_sound ok ha.eval hx hn hp
  · rw [if_neg (by rw [hw]; simp)]
    exact ⟨fun _ _ => trivial, hs hx⟩

/-- What is not written stays (none: what waits for the end). -/
def Marks (ms : List Deferred) : Prop := ∀ d ∈ ms, ∃ D, d.target = .collected D
abbrev big : Nat := 4294967295
structure Fx (W : Option Nat → Prop) (e0 e : Env) : Prop where
  slot : ∀ t, ¬ W (some t) → e.f t = e0.f t
  ms : ¬ W none → e.ms = e0.ms
  mks : ¬ W (some big) → Marks e0.ms → Marks e.ms
theorem Fx.refl (W : Option Nat → Prop) (e : Env) : Fx W e e := ⟨fun _ _ => rfl, fun _ => rfl, fun _ h => h⟩
theorem Fx.trans {W : Option Nat → Prop} {e0 e1 e2 : Env} (h : Fx W e0 e1) (k : Fx W e1 e2) : Fx W e0 e2 := ⟨fun t ht => (k.1 t ht).trans (h.1 t ht), fun hn => (k.2 hn).trans (h.2 hn), fun hn hm => k.3 hn (h.3 hn hm)⟩
theorem Fx.mono {W W' : Option Nat → Prop} {e0 e1 : Env} (h : Fx W e0 e1) (hw : ∀ t, W t → W' t) : Fx W' e0 e1 := ⟨fun t ht => h.1 t fun h => ht (hw _ h), fun hn => h.2 fun h => hn (hw _ h), fun hn => h.3 fun h => hn (hw _ h)⟩
theorem Fx.put {W : Option Nat → Prop} {e0 e : Env} (h : Fx W e0 e) {d : Option Nat} {v : Value} (hd : ∀ k, d = some k → W (some k)) : Fx W e0 (eput e d v) := by
  refine ⟨fun t ht => ?_, fun hn => by rw [eput_ms]; exact h.2 hn, fun hn hm => by rw [eput_ms]; exact h.3 hn hm⟩
  cases d with
  | none => exact h.1 t ht
  | some d =>
    have : t ≠ d := fun e => ht (e ▸ hd d rfl)
    show cond (Nat.beq t d) v (e.f t) = _
    rw [beq_ne this]
    exact h.1 t ht
/-- The frame's slots, the deferred calls as they were; then what the ways out want. -/
def Qx (n : Nat) (rs : List Nat) (W : Option Nat → Prop) (e0 : Env) (N : Env → World → Prop) (X : Nat → Env → World → Prop) (R : Env → World → Prop) (kp : Env → List PanicEntry → World → Prop) : Exit → Act → World → Prop
  | .normal, a, w => ∃ e, Agr n a e ∧ Fx W e0 e ∧ N e w
  | .exit id, a, w => ∃ e, Agr n a e ∧ Fx W e0 e ∧ X id e w
  | .ret, a, w => ∃ e, Agr n a e ∧ Fx W e0 e ∧ R e w
  | .panic c, a, w => ∃ e, (∀ t ∈ rs, a.tmps.getD t undef = e.f t) ∧ a.defers = e.ms ∧ ((¬ W (some big) → Marks e0.ms → Marks e.ms) ∧ (¬ W none → e.ms = e0.ms)) ∧ kp e c w
  | _, _, _ => False
theorem Qx.step {n : Nat} {rs : List Nat} {W W' : Option Nat → Prop} {e0 e1 : Env} {N : Env → World → Prop} {X : Nat → Env → World → Prop} {R : Env → World → Prop} {kp : Env → List PanicEntry → World → Prop} (hf : Fx W' e0 e1) (hw : ∀ t, W t → W' t) {e : Exit} {a : Act} {w : World}
    (h : Qx n rs W e1 N X R kp e a w) : Qx n rs W' e0 N X R kp e a w := by
  cases e with
  | normal => obtain ⟨e, h1, h3, h4⟩ := h; exact ⟨e, h1, hf.trans (h3.mono hw), h4⟩
  | exit id => obtain ⟨e, h1, h3, h4⟩ := h; exact ⟨e, h1, hf.trans (h3.mono hw), h4⟩
  | ret => obtain ⟨e, h1, h3, h4⟩ := h; exact ⟨e, h1, hf.trans (h3.mono hw), h4⟩
  | panic c => obtain ⟨e, h1, h2, h3, h4⟩ := h; exact ⟨e, h1, h2, ⟨fun hn hm => h3.1 (fun h => hn (hw _ h)) (hf.3 hn hm), fun hn => (h3.2 (fun h => hn (hw _ h))).trans (hf.2 hn)⟩, h4⟩
  | goto l => exact h
  | outgrown => exact h

theorem Agr.rs {n : Nat} {a : Act} {e : Env} (h : Agr n a e) (rs : List Nat) : ∀ t ∈ rs, a.tmps.getD t undef = e.f t := fun t _ => h.val t
theorem xops_sound (ok : Okp P) {n : Nat} {rs : List Nat} {ops : Array Oper} {N : Env → World → Prop} {X : Nat → Env → World → Prop} {R : Env → World → Prop} {kp : Env → List PanicEntry → World → Prop}
    {W : Option Nat → Prop} {e0 : Env} (hd : ∀ o ∈ ops, ∀ k, o.dst = some k → k < n) (hW : ∀ o ∈ ops, ∀ k, o.dst = some k → W (some k)) (hdf : ∀ o ∈ ops, ∀ c, o.op = .defer c → rd = none ∧ W none ∧ W (some big)) :
    ∀ (l : List Nat) (e : Env) (a : Act) (w : World), Agr n a e → Fx W e0 e → xops P E ops kp N l e w → wpOpsIn (wideR rd) 0 P ops (Qx n rs W e0 N X R kp) l a w
  | [], e, a, w, ha, hf, h => ⟨e, ha, hf, h⟩
  | i :: r, e, a, w, ha, hf, h => by
    rw [wpOpsIn_cons]
    unfold xops at h
    split at h
    · rename_i o ho
      have hom := Array.mem_of_getElem? ho
      have hdo := hd o hom
      have hWo := hW o hom
      split at h
      · rename_i c hop hg
        split at h
        · rename_i f hcal
          split at h
          · rename_i g fi ca hfv
            obtain ⟨hr0, hWn, hWb⟩ := hdf o hom c hop
            unfold wpOpIn
            rw [ho]
            simp only
            have hw : Region.wanted o (yielded ops a.tmps) = true := by unfold Region.wanted; rw [hg]
            rw [if_pos hw]
            refine ⟨fun _ _ => trivial, ?_⟩
            have hev : a.eval = eop e := funext ha.eval
            have hargs : (c.args.toList.map (eop e)).toArray = c.args.map (eop e) := map_list _ _
            have hrun : (o.semAt (wideR rd).round a.eval).run P w = .ok (.defer { target := .fn (.func g) ca, args := fi ++ (c.args.toList.map (eop e)).toArray }) w := by
              rw [show (wideR rd).round = none from hr0, Oper.semAt_none, hev]
              unfold execOp
              rw [hop]
              simp [resolve, hcal, hfv, Deferred.ofValue, hargs]
            rw [hrun]
            refine xops_sound ok hd hW hdf r _ _ w (Agr.put (a := { tmps := a.tmps, defers := { target := .fn (.func g) ca, args := fi ++ (c.args.toList.map (eop e)).toArray } :: a.defers }) (e := ⟨e.f, { target := .fn (.func g) ca, args := fi ++ (c.args.toList.map (eop e)).toArray } :: e.ms⟩) ⟨ha.size, ha.val, by simp [ha.dfr]⟩ hdo undef) (Fx.put (e := ⟨e.f, { target := .fn (.func g) ca, args := fi ++ (c.args.toList.map (eop e)).toArray } :: e.ms⟩) ⟨hf.1, fun hn => absurd hWn hn, fun hn => absurd hWb hn⟩ hWo) h
          · exact h.elim
        · exact h.elim
      · exact wpOp_of_xop (K := fun e1 v w1 => xops P E ops kp N r (eput e1 o.dst v) w1) (skip := fun e1 => xops P E ops kp N r (eput e1 o.dst undef) w) ok ho ha h
          (fun v w' hK => xops_sound ok hd hW hdf r _ _ w' (ha.put hdo v) (hf.put hWo) hK)
          (fun hs => xops_sound ok hd hW hdf r _ _ w (ha.put hdo undef) (hf.put hWo) hs) (fun c w' hk => ⟨e, ha.rs rs, ha.dfr, ⟨hf.3, hf.2⟩, hk⟩)
    · exact h.elim

theorem asserts_spec {c : Nat} {w : World} {X : Prop} : ∀ {S : List (Nat × (World → Prop))}, asserts c w X S → X ∧ ∀ x ∈ S, c.testBit x.1 = false → x.2 w
  | [], h => ⟨h, fun x hx => by cases hx⟩
  | (j, φ) :: S, h => by
    unfold asserts at h
    cases hb : c.testBit j
    · rw [hb] at h
      obtain ⟨h1, h2⟩ := asserts_spec h.2
      exact ⟨h1, fun x hx hx' => by
        rcases List.mem_cons.1 hx with rfl | hx
        · exact h.1
        · exact h2 x hx hx'⟩
    · rw [hb] at h
      obtain ⟨h1, h2⟩ := asserts_spec h
      exact ⟨h1, fun x hx hx' => by
        rcases List.mem_cons.1 hx with rfl | hx
        · rw [hb] at hx'; cases hx'
        · exact h2 x hx hx'⟩
theorem xdraw_sound (ok : Okp P) {n : Nat} {rs : List Nat} {ops : Array Oper} {cl : Nat → Nat} {N : Env → World → Prop} {X : Nat → Env → World → Prop} {R : Env → World → Prop} {kp : Env → List PanicEntry → World → Prop}
    {W : Option Nat → Prop} {e0 : Env} (hd : ∀ o ∈ ops, ∀ k, o.dst = some k → k < n) (hW : ∀ o ∈ ops, ∀ k, o.dst = some k → W (some k)) : ∀ (l : List Nat) (S S' : List (Nat × (World → Prop))) (e : Env) (a : Act) (w : World), Agr n a e → Fx W e0 e →
      (∀ x ∈ S', (∀ w, x.2 w) ∨ ∃ y ∈ S, y.1 = x.1 ∧ ∀ w, y.2 w → x.2 w) → xdraw P E ops cl kp N S l e w → wpSeq rd P ops (Qx n rs W e0 N X R kp) cl (loudB P ops) S' l a w
  | [], S, S', e, a, w, ha, hf, hS, h => ⟨e, ha, hf, h⟩
  | i :: r, S, S', e, a, w, ha, hf, hS, h => by
    unfold xdraw at h
    split at h
    · rename_i o ho
      have hdo := hd o (Array.mem_of_getElem? ho)
      have hWo := hW o (Array.mem_of_getElem? ho)
      have hev : a.eval = eop e := funext ha.eval
      unfold wpSeq
      split at h
      · rename_i hk
        have hl : loudB P ops i = false := by simp [loudB, ho, hk]
        rw [if_neg (by simp [hl])]
        rcases guard_sound ha h with ⟨hw, hx⟩ | ⟨hw, hx⟩
        · obtain ⟨v, hK, hr⟩ := xpure_sound hx
          have hr' : ∀ w1, YieldsAt P ops w1 o v a := fun w1 => .inl ⟨hw, .inl (by rw [hev]; exact hr w1)⟩
          refine ⟨o, v, ho, hr' w, xdraw_sound ok hd hW r S _ _ _ w (ha.put hdo v) (hf.put hWo) ?_ hK⟩
          intro x hx
          rcases List.mem_cons.1 hx with rfl | hx
          · exact .inl hr'
          · exact hS x hx
        · have hr' : ∀ w1, YieldsAt P ops w1 o undef a := fun w1 => .inr ⟨hw, rfl⟩
          refine ⟨o, undef, ho, hr' w, xdraw_sound ok hd hW r S _ _ _ w (ha.put hdo undef) (hf.put hWo) ?_ hx⟩
          intro x hx
          rcases List.mem_cons.1 hx with rfl | hx
          · exact .inl hr'
          · exact hS x hx
      · rename_i hk
        have hl : loudB P ops i = false := by simp [loudB, ho, hk]
        rw [if_neg (by simp [hl])]
        rcases guard_sound ha h with ⟨hw, hx⟩ | ⟨hw, hx⟩
        · obtain ⟨v, φ, hK, hr, hφ⟩ := xread_sound hx
          refine ⟨o, v, ho, .inl ⟨hw, .inl (by rw [hev]; exact hr)⟩, xdraw_sound ok hd hW r ((i, φ) :: S) _ _ _ w (ha.put hdo v) (hf.put hWo) ?_ hK⟩
          intro x hx
          rcases List.mem_cons.1 hx with rfl | hx
          · exact .inr ⟨_, List.mem_cons_self .., rfl, fun w1 h1 => .inl ⟨hw, .inl (by rw [hev]; exact hφ w1 h1)⟩⟩
          · rcases hS x hx with h0 | ⟨y, hy, h0⟩
            · exact .inl h0
            · exact .inr ⟨y, List.mem_cons_of_mem _ hy, h0⟩
        · have hr' : ∀ w1, YieldsAt P ops w1 o undef a := fun w1 => .inr ⟨hw, rfl⟩
          refine ⟨o, undef, ho, hr' w, xdraw_sound ok hd hW r S _ _ _ w (ha.put hdo undef) (hf.put hWo) ?_ hx⟩
          intro x hx
          rcases List.mem_cons.1 hx with rfl | hx
          · exact .inl hr'
          · exact hS x hx
      · rename_i hk
        have hl : loudB P ops i = true := by simp [loudB, ho, hk]
        rw [if_pos hl]
        have fin : ∀ v w1, asserts (cl i) w1 (xdraw P E ops cl kp N S r (eput e o.dst v) w1) S →
            (∀ x ∈ S', (cl i).testBit x.1 = false → x.2 w1) ∧ wpSeq rd P ops (Qx n rs W e0 N X R kp) cl (loudB P ops) S' r (a.put o.dst v) w1 := fun v w1 h => by
          obtain ⟨h1, h2⟩ := asserts_spec h
          refine ⟨fun x hx hb => ?_, xdraw_sound ok hd hW r S S' _ _ w1 (ha.put hdo v) (hf.put hWo) hS h1⟩
          rcases hS x hx with h0 | ⟨y, hy, he, h0⟩
          · exact h0 _
          · exact h0 _ (h2 y hy (by rw [he]; exact hb))
        unfold wpOpR wpOpIn
        rw [ho]
        simp only
        rcases guard_sound ha h with ⟨hw, hx⟩ | ⟨hw, hx⟩
        · rw [if_pos hw]
          have hnd : ∀ c, o.op ≠ .defer c := by
            intro c hc
            unfold xeff at hx
            rw [hc] at hx
            exact hx
          refine ⟨fun _ _ => trivial, ?_⟩
          rw [Oper.semAt_eq _ _ _ hnd, hev]
          exact xeff_sound ok ha.eval hx fin (fun c w' hk => ⟨e, ha.rs rs, ha.dfr, ⟨hf.3, hf.2⟩, hk⟩)
        · rw [if_neg (by rw [hw]; simp)]
          exact ⟨fun _ _ => trivial, fin _ _ hx⟩
    · exact h.elim

theorem xloud_sound (ok : Okp P) {n : Nat} {rs : List Nat} {ops : Array Oper} {cl : Nat → Nat} {N : Env → World → Prop} {X : Nat → Env → World → Prop} {R : Env → World → Prop} {kp : Env → List PanicEntry → World → Prop}
    {W : Option Nat → Prop} {e0 : Env} (hd : ∀ o ∈ ops, ∀ k, o.dst = some k → k < n) (hW : ∀ o ∈ ops, ∀ k, o.dst = some k → W (some k)) {K : Env → World → Prop} {Z : Act → World → Prop} {i : Nat} {S S' : List (Nat × (World → Prop))} {e : Env} {a : Act} {w : World} (ha : Agr n a e) (hf : Fx W e0 e)
    (hS : ∀ x ∈ S', (∀ w, x.2 w) ∨ ∃ y ∈ S, y.1 = x.1 ∧ ∀ w, y.2 w → x.2 w) (hZ : ∀ (e : Env) (a : Act) (w : World), Agr n a e → Fx W e0 e → K e w → Z a w)
    (h : xloud P E ops cl kp K S i e w) : wpOpR rd P ops (Qx n rs W e0 N X R kp) i (fun a' w' => (∀ x ∈ S', (cl i).testBit x.1 = false → x.2 w') ∧ Z a' w') a w := by
  unfold xloud at h
  split at h
  · rename_i o ho
    have hdo := hd o (Array.mem_of_getElem? ho)
    have hWo := hW o (Array.mem_of_getElem? ho)
    have hev : a.eval = eop e := funext ha.eval
    split at h
    · rename_i hk
      have fin : ∀ v w1, asserts (cl i) w1 (K (eput e o.dst v) w1) S →
          (∀ x ∈ S', (cl i).testBit x.1 = false → x.2 w1) ∧ Z (a.put o.dst v) w1 := fun v w1 h => by
        obtain ⟨h1, h2⟩ := asserts_spec h
        refine ⟨fun x hx hb => ?_, hZ _ _ w1 (ha.put hdo v) (hf.put hWo) h1⟩
        rcases hS x hx with h0 | ⟨y, hy, he, h0⟩
        · exact h0 _
        · exact h0 _ (h2 y hy (by rw [he]; exact hb))
      unfold wpOpR wpOpIn
      rw [ho]
      simp only
      rcases guard_sound ha h with ⟨hw, hx⟩ | ⟨hw, hx⟩
      · rw [if_pos hw]
        have hnd : ∀ c, o.op ≠ .defer c := by
          intro c hc
          unfold xeff at hx
          rw [hc] at hx
          exact hx
        refine ⟨fun _ _ => trivial, ?_⟩
        rw [Oper.semAt_eq _ _ _ hnd, hev]
        exact xeff_sound ok ha.eval hx fin (fun c w' hk => ⟨e, ha.rs rs, ha.dfr, ⟨hf.3, hf.2⟩, hk⟩)
      · rw [if_neg (by rw [hw]; simp)]
        exact ⟨fun _ _ => trivial, fin _ _ hx⟩
    · exact h.elim
  · exact h.elim
theorem xdrawT_sound (ok : Okp P) {n : Nat} {rs : List Nat} {ops : Array Oper} {cl : Nat → Nat} {N : Env → World → Prop} {X : Nat → Env → World → Prop} {R : Env → World → Prop} {kp : Env → List PanicEntry → World → Prop}
    {W : Option Nat → Prop} {e0 : Env} (hd : ∀ o ∈ ops, ∀ k, o.dst = some k → k < n) (hW : ∀ o ∈ ops, ∀ k, o.dst = some k → W (some k)) : ∀ (t : Tree) (S S' : List (Nat × (World → Prop))) (e : Env) (a : Act) (w : World), Agr n a e → Fx W e0 e →
      (∀ x ∈ S', (∀ w, x.2 w) ∨ ∃ y ∈ S, y.1 = x.1 ∧ ∀ w, y.2 w → x.2 w) → xdrawT P E ops cl kp N S t e w → wpTree rd P ops (Qx n rs W e0 N X R kp) cl S' t a w
  | .done, S, S', e, a, w, ha, hf, hS, h => ⟨e, ha, hf, h⟩
  | .loud i r, S, S', e, a, w, ha, hf, hS, h => by
    unfold wpTree
    unfold xdrawT at h
    exact xloud_sound ok hd hW ha hf hS (fun e a w ha hf h => xdrawT_sound ok hd hW r S S' e a w ha hf hS h) h
  | .fork i r t, S, S', e, a, w, ha, hf, hS, h => by
    unfold wpTree
    unfold xdrawT at h
    exact ⟨xloud_sound ok hd hW ha hf hS (fun e a w ha hf h => xdrawT_sound ok hd hW r S S' e a w ha hf hS h) h.1, xdrawT_sound ok hd hW t S S' e a w ha hf hS h.2⟩
  | .quiet i r, S, S', e, a, w, ha, hf, hS, h => by
    unfold xdrawT at h
    split at h
    · rename_i o ho
      have hdo := hd o (Array.mem_of_getElem? ho)
      have hWo := hW o (Array.mem_of_getElem? ho)
      have hev : a.eval = eop e := funext ha.eval
      unfold wpTree
      split at h
      · rename_i hk
        rcases guard_sound ha h with ⟨hw, hx⟩ | ⟨hw, hx⟩
        · obtain ⟨v, hK, hr⟩ := xpure_sound hx
          have hr' : ∀ w1, YieldsAt P ops w1 o v a := fun w1 => .inl ⟨hw, .inl (by rw [hev]; exact hr w1)⟩
          refine ⟨o, v, ho, hr' w, xdrawT_sound ok hd hW r S _ _ _ w (ha.put hdo v) (hf.put hWo) ?_ hK⟩
          intro x hx
          rcases List.mem_cons.1 hx with rfl | hx
          · exact .inl hr'
          · exact hS x hx
        · have hr' : ∀ w1, YieldsAt P ops w1 o undef a := fun w1 => .inr ⟨hw, rfl⟩
          refine ⟨o, undef, ho, hr' w, xdrawT_sound ok hd hW r S _ _ _ w (ha.put hdo undef) (hf.put hWo) ?_ hx⟩
          intro x hx
          rcases List.mem_cons.1 hx with rfl | hx
          · exact .inl hr'
          · exact hS x hx
      · rename_i hk
        rcases guard_sound ha h with ⟨hw, hx⟩ | ⟨hw, hx⟩
        · obtain ⟨v, φ, hK, hr, hφ⟩ := xread_sound hx
          refine ⟨o, v, ho, .inl ⟨hw, .inl (by rw [hev]; exact hr)⟩, xdrawT_sound ok hd hW r ((i, φ) :: S) _ _ _ w (ha.put hdo v) (hf.put hWo) ?_ hK⟩
          intro x hx
          rcases List.mem_cons.1 hx with rfl | hx
          · exact .inr ⟨_, List.mem_cons_self .., rfl, fun w1 h1 => .inl ⟨hw, .inl (by rw [hev]; exact hφ w1 h1)⟩⟩
          · rcases hS x hx with h0 | ⟨y, hy, h0⟩
            · exact .inl h0
            · exact .inr ⟨y, List.mem_cons_of_mem _ hy, h0⟩
        · have hr' : ∀ w1, YieldsAt P ops w1 o undef a := fun w1 => .inr ⟨hw, rfl⟩
          refine ⟨o, undef, ho, hr' w, xdrawT_sound ok hd hW r S _ _ _ w (ha.put hdo undef) (hf.put hWo) ?_ hx⟩
          intro x hx
          rcases List.mem_cons.1 hx with rfl | hx
          · exact .inl hr'
          · exact hS x hx
      · exact h.elim
    · exact h.elim

theorem all_of_ex {F : Env → World → Prop} : ∀ (sl : List (Nat × TypeId)) (I : LI E sl) (e : Env) (w : World), exI E sl I e w → allI E sl I e F → F e w
  | [], I, e, w, h, k => k w h
  | (s, t) :: r, I, e, w, ⟨x, hx, h⟩, k => by
    have := k x
    rw [eset_self hx] at this
    exact all_of_ex r (I x) e w h this
theorem all_of_exM {m : Nat} {F : Env → World → Nat → Prop} : ∀ (sl : List (Nat × TypeId)) (I : LI E sl) (M : LM E sl) (e : Env) (w : World), exM E m sl I M e w → allM E sl I M e F → ∃ m', m' < m ∧ F e w m'
  | [], I, M, e, w, h, k => ⟨_, h.2, k w h.1⟩
  | (s, t) :: r, I, M, e, w, ⟨x, hx, h⟩, k => by
    have := k x
    rw [eset_self hx] at this
    exact all_of_exM r (I x) (M x) e w h this
theorem exM_of_exI : ∀ (sl : List (Nat × TypeId)) (I : LI E sl) (M : LM E sl) (e : Env) (w : World), exI E sl I e w → ∃ m, exM E m sl I M e w
  | [], I, M, e, w, h => ⟨M w + 1, h, Nat.lt_succ_self _⟩
  | (s, t) :: r, I, M, e, w, ⟨x, hx, h⟩ => by
    obtain ⟨m, hm⟩ := exM_of_exI r (I x) (M x) e w h
    exact ⟨m, x, hx, hm⟩

/-- A loop, by a number that goes down. -/
theorem wp_loop_n {F : Fence} {n : Nat} {c : Code} {Q : Exit → Act → World → Prop} {a : Act} {w : World} (I : Nat → Act → World → Prop) (m : Nat) (h₀ : I m a w)
    (round : ∀ m a w, I m a w → c.wpIn F n P (Exit.then (fun a' w' => ∃ m', m' < m ∧ I m' a' w') Q) a w) : (Code.loop c).wpIn F n P Q a w := by
  intro b k cs hro hb hr
  have key : ∀ j m a w, m = j → I m a w →
      ∃ e a' w', Q e a' w' ∧ ArrivesIn (Machine.fenced P F) P (lone (b.atR a (.code c :: .inLoop c :: k)) cs w) b k cs e a' w' := by
    intro j
    induction j using Nat.strongRecOn with
    | _ j ih =>
      intro m a w hn hI
      obtain ⟨e, a₁, w₁, hq, harr⟩ := round m a w hI b (.inLoop c :: k) cs hro hb hr
      cases e with
      | normal =>
        obtain ⟨m', hlt, hI₁⟩ := hq
        obtain ⟨e₂, a₂, w₂, hq₂, harr₂⟩ := ih m' (hn ▸ hlt) m' a₁ w₁ rfl hI₁
        exact ⟨e₂, a₂, w₂, hq₂, .of_steps (StepsIn.trans harr (.one (fenced_calm hb hr rfl) stepR_inLoop)) harr₂⟩
      | exit id => exact ⟨_, a₁, w₁, hq, .pass (x := .inLoop c) rfl (fun _ _ => .inl (by simp)) harr⟩
      | goto l => exact ⟨_, a₁, w₁, hq, .pass (x := .inLoop c) rfl (fun _ _ => .inl (by simp)) harr⟩
      | ret => exact ⟨_, a₁, w₁, hq, .pass (x := .inLoop c) rfl (fun _ _ => .inl (by simp)) harr⟩
      | panic ch => exact ⟨_, a₁, w₁, hq, .pass (x := .inLoop c) rfl (fun _ _ => .inl (by simp)) harr⟩
      | outgrown => exact ⟨_, a₁, w₁, hq, .pass (x := .inLoop c) rfl (fun _ _ => .inl (by simp)) harr⟩
  obtain ⟨e, a', w', hq, harr⟩ := key _ m a w rfl h₀
  exact ⟨e, a', w', hq, .of_steps (.one (fenced_calm hb hr rfl) stepR_loop) harr⟩

section scopes
variable {b : Frame} {a : Act} {k : List Item} {cs : List Frame} {w : World}
theorem stepR_scope {c : Code} : step P (lone (b.atR a (.code (.scope c) :: k)) cs w) = .next (lone (b.atR a (.code c :: .inScope c :: k)) cs w) :=
  step_lone_go (by simp [stepG, stepG.exec, Frame.atR])
theorem stepR_inScope {c : Code} : step P (lone (b.atR a (.inScope c :: k)) cs w) = .next (lone (b.atR a k) cs w) :=
  step_lone_go (by simp [stepG, stepG.exec, Frame.atR])
end scopes
theorem wpIn_scope {F : Fence} {n : Nat} {c : Code} {Q : Exit → Act → World → Prop} {a : Act} {w : World} (h : c.wpIn F n P Q a w) (hg : ∀ l a w, ¬ Q (.goto l) a w) : (Code.scope c).wpIn F n P Q a w := by
  intro b k cs hro hb hr
  obtain ⟨e, a₁, w₁, hq, harr⟩ := h b (.inScope c :: k) cs hro hb hr
  have s0 : StepsIn (Machine.fenced P F) P (lone (b.atR a (.code (.scope c) :: k)) cs w) (lone (b.atR a (.code c :: .inScope c :: k)) cs w) := .one (fenced_calm hb hr rfl) stepR_scope
  cases e with
  | normal => exact ⟨.normal, a₁, w₁, hq, StepsIn.trans s0 (StepsIn.trans harr (.one (fenced_calm hb hr rfl) stepR_inScope))⟩
  | goto l => exact absurd hq (hg _ _ _)
  | exit id =>
    have hx : exitTo id (.inScope c :: k) = exitTo id k := by simp [exitTo]
    exact ⟨.exit id, a₁, w₁, hq, fun k' hk => StepsIn.trans s0 (harr.1 k' (by rw [hx]; exact hk)), fun hr' hk => let ⟨k₁, h1, h2⟩ := harr.2 hr' (by rw [hx]; exact hk); ⟨k₁, h1, StepsIn.trans s0 h2⟩⟩
  | ret => exact ⟨_, a₁, w₁, hq, .of_steps s0 harr⟩
  | panic ch => exact ⟨_, a₁, w₁, hq, .of_steps s0 harr⟩
  | outgrown => exact ⟨_, a₁, w₁, hq, .of_steps (b := b) (k := k) (cs := cs) (e := .outgrown) s0 harr⟩

theorem memB_spec {m : List Nat} {t : Nat} : memB m t = true ↔ t ∈ m := by
  induction m with
  | nil => simp [memB]
  | cons x r ih =>
    unfold memB
    by_cases h : x = t
    · subst h; simp [beq_refl']
    · rw [beq_ne h]; simp [ih, Ne.symm h]
/-- The slots that a text writes; none: what waits for the end. -/
def Wr : Code → Option Nat → Prop
  | .region _ ops _, t => (∃ k, t = some k ∧ ∃ o ∈ ops, o.dst = some k) ∨ ((t = none ∨ t = some big) ∧ noDefer ops = false)
  | .seq a b, t => Wr a t ∨ Wr b t
  | .cond _ a b, t => Wr a t ∨ Wr b t
  | .block _ b, t => Wr b t
  | .loop b, t => Wr b t
  | .scope b, t => Wr b t
  | .rangeFunc .., t => t = none
  | _, _ => False
theorem writesIn_spec {m : List Nat} : ∀ (c : Code), writesIn m c = true → ∀ t, Wr c t → ∃ k, t = some k ∧ k ∈ m
  | .region id ops d, h, t, hw => by
    simp only [writesIn, Bool.and_eq_true, Array.all_eq_true_iff_forall_mem] at h
    rcases hw with ⟨k, rfl, o, ho, hd⟩ | ⟨_, hn⟩
    · have := h.1 o ho
      rw [hd] at this
      exact ⟨k, rfl, memB_spec.1 this⟩
    · rw [hn] at h; cases h.2
  | .seq a b, h, t, hw => by
    simp only [writesIn, Bool.and_eq_true] at h
    exact hw.elim (writesIn_spec a h.1 t) (writesIn_spec b h.2 t)
  | .cond _ a b, h, t, hw => by
    simp only [writesIn, Bool.and_eq_true] at h
    exact hw.elim (writesIn_spec a h.1 t) (writesIn_spec b h.2 t)
  | .block _ b, h, t, hw => writesIn_spec b h t hw
  | .loop b, h, t, hw => writesIn_spec b h t hw
  | .scope b, h, t, hw => writesIn_spec b h t hw
theorem keepE_of {m : List Nat} {e e1 : Env} {W : Option Nat → Prop} (h : Fx W e e1) (hw : ∀ t, W t → ∃ k, t = some k ∧ k ∈ m) : keepE m e e1 = e1 := by
  cases e1 with
  | mk f1 ms1 =>
    have hms : ms1 = e.ms := h.2 fun hn => by obtain ⟨k, hk, _⟩ := hw _ hn; cases hk
    unfold keepE
    rw [hms]
    congr 1
    funext i
    cases hb : memB m i
    · exact (h.1 i (fun hm => by obtain ⟨k, hk, hk2⟩ := hw _ hm; cases hk; rw [memB_spec.2 hk2] at hb; cases hb)).symm
    · rfl
theorem noDefer_spec {ops : Array Oper} (h : noDefer ops = true) : ∀ o ∈ ops, ∀ c, o.op ≠ .defer c := by
  intro o ho c e
  have := Array.all_eq_true_iff_forall_mem.1 h o ho
  rw [e] at this
  cases this

/-- No text that defers a call. -/
def noDeferC (n : Nat) : Code → Bool
  | .region _ ops _ => noDefer ops && (ops.all fun o => match o.dst with | some d => Nat.blt d n | none => true)
  | .seq a b => noDeferC n a && noDeferC n b
  | .cond _ a b => noDeferC n a && noDeferC n b
  | .block _ b => noDeferC n b
  | .loop b => noDeferC n b
  | .scope b => noDeferC n b
  | _ => true
theorem noDeferC_spec {n : Nat} (hn : Nat.ble n big = true) : ∀ (c : Code), noDeferC n c = true → ¬ Wr c (some big)
  | .region id ops d, h, hw => by
    simp only [noDeferC, Bool.and_eq_true, Array.all_eq_true_iff_forall_mem] at h
    rcases hw with ⟨k, hk, o, ho, hd⟩ | ⟨_, hn⟩
    · cases hk
      have := h.2 o ho
      rw [hd] at this
      simp only [Nat.blt, Nat.ble_eq] at this
      have h2 := Nat.le_of_ble_eq_true hn
      omega
    · rw [hn] at h; cases h.1
  | .seq a b, h, hw => by
    simp only [noDeferC, Bool.and_eq_true] at h
    exact hw.elim (noDeferC_spec hn a h.1) (noDeferC_spec hn b h.2)
  | .cond _ a b, h, hw => by
    simp only [noDeferC, Bool.and_eq_true] at h
    exact hw.elim (noDeferC_spec hn a h.1) (noDeferC_spec hn b h.2)
  | .block _ b, h, hw => noDeferC_spec hn b h hw
  | .loop b, h, hw => noDeferC_spec hn b h hw
  | .scope b, h, hw => noDeferC_spec hn b h hw
  | .rangeFunc .., h, hw => by cases hw
theorem calmC_spec : ∀ (c : Code), calmC c = true → ¬ Wr c none
  | .region id ops d, h, hw => by
    rcases hw with ⟨k, hk, _⟩ | ⟨_, hn⟩
    · cases hk
    · rw [calmC, hn] at h; cases h
  | .seq a b, h, hw => by
    simp only [calmC, Bool.and_eq_true] at h
    exact hw.elim (calmC_spec a h.1) (calmC_spec b h.2)
  | .cond _ a b, h, hw => by
    simp only [calmC, Bool.and_eq_true] at h
    exact hw.elim (calmC_spec a h.1) (calmC_spec b h.2)
  | .block _ b, h, hw => calmC_spec b h hw
  | .loop b, h, hw => calmC_spec b h hw
  | .scope b, h, hw => calmC_spec b h hw
  | .rangeFunc .., h, hw => by cases h
theorem setArgs_sound {n : Nat} : ∀ (ts : List Nat) (vs : List Value) (tmps : Array Value) (e : Env), (∀ t ∈ ts, t < n) → Agr n { tmps := tmps, defers := [] } e →
    Agr n { tmps := (ts.zip vs).foldl (fun t (p, v) => t.setIfInBounds p v) tmps, defers := [] } (setArgs ts vs e)
  | [], vs, tmps, e, _, h => by simpa [setArgs] using h
  | t :: ts, [], tmps, e, _, h => by simpa [setArgs] using h
  | t :: ts, v :: vs, tmps, e, hn, h => by
    have h1 : Agr n { tmps := tmps.setIfInBounds t v, defers := [] } (eset e t v) := h.put (d := some t) (fun k hk => by cases hk; exact hn t (List.mem_cons_self ..)) v
    simpa [setArgs] using setArgs_sound ts vs _ _ (fun x hx => hn x (List.mem_cons_of_mem _ hx)) h1
theorem allArgs_of {F : List Value → Env → Prop} : ∀ (sl : List (Nat × TypeId)) (acc : List Value) (e : Env), (∀ vs, vs.length = sl.length → F (acc.reverse ++ vs) (setArgs (sl.map (·.1)) vs e)) → allArgs E sl acc e F
  | [], acc, e, h => by simpa [setArgs] using h [] rfl
  | (s, t) :: r, acc, e, h => fun x => allArgs_of r _ _ fun vs hv => by simpa [setArgs] using h ((E t).val x :: vs) (by simp [hv])
theorem foldl_zip (ps : Array Nat) (args : List Value) (tmps : Array Value) :
    (ps.zip args.toArray).foldl (fun t (p, v) => t.setIfInBounds p v) tmps = (ps.toList.zip args).foldl (fun t (p, v) => t.setIfInBounds p v) tmps := by
  rw [← Array.foldl_toList]
  simp

theorem xcode_sound (ok : Okp P) (hm : P.follows .mixedOrders = true) {T : Tab} {n : Nat} :
    ∀ (c : Code) (rd : Option Nat), ckCode P T n c = true → (rd = none ∨ calmC c = true) → ∀ (e : Env) (w : World) (N : Env → World → Prop) (X : Nat → Env → World → Prop) (R : Env → World → Prop) (kp : Env → List PanicEntry → World → Prop) (a : Act),
      Agr n a e → xcode P E T c e w N X R kp → c.wpIn (wideR rd) 0 P (Qx n T.rs (Wr c) e N X R kp) a w := by
  intro c
  induction c with
  | skip => intro rd hc _ e w N X R kp a ha h; exact wpIn_skip ⟨e, ha, Fx.refl _ _, h⟩
  | label l => intro rd hc _ e w N X R kp a ha h; exact wpIn_label ⟨e, ha, Fx.refl _ _, h⟩
  | region id ops draw =>
    intro rd hc hcalm e w N X R kp a ha h
    simp only [ckCode, Bool.and_eq_true, Array.all_eq_true_iff_forall_mem, Bool.or_eq_true, Bool.not_eq_true'] at hc
    have hd : ∀ o ∈ ops, ∀ k, o.dst = some k → k < n := fun o ho k hk => by
      have := hc.1 o ho
      rw [hk] at this
      simp only [Nat.blt, Nat.ble_eq] at this
      exact this
    have hW : ∀ o ∈ ops, ∀ k, o.dst = some k → Wr (.region id ops draw) (some k) := fun o ho k hk => .inl ⟨k, rfl, o, ho, hk⟩
    have hdf : ∀ o ∈ ops, ∀ c, o.op = .defer c → rd = none ∧ Wr (.region id ops draw) none ∧ Wr (.region id ops draw) (some big) := fun o ho c e => by
      cases hn : noDefer ops
      · refine ⟨hcalm.resolve_right ?_, .inr ⟨.inl rfl, hn⟩, .inr ⟨.inr rfl, hn⟩⟩
        simp [calmC, hn]
      · exact absurd e (noDefer_spec hn o ho c)
    unfold xcode at h
    cases draw
    · exact wpIn_region (xops_sound ok hd hW hdf _ e a w ha (Fx.refl _ _) h)
    · have hp := hc.2.resolve_left (by simp)
      have kpd : ∀ (c : List PanicEntry) (a : Act) (w : World) (o : Oper) (v : Value), o ∈ ops → Qx n T.rs (Wr (.region id ops true)) e N X R kp (.panic c) (a.put o.dst v) w → Qx n T.rs (Wr (.region id ops true)) e N X R kp (.panic c) a w := by
        intro c a w o v ho h
        obtain ⟨e1, h1, h2, h2', h3⟩ := h
        refine ⟨e1, fun t ht => ?_, by rw [← h2, put_ds], h2', h3⟩
        rw [← h1 t ht]
        cases hdst : o.dst with
        | none => rfl
        | some d =>
          have := hp.2 o ho
          rw [hdst] at this
          have hne : d ≠ t := fun e => by subst e; simp [memB_spec.2 ht] at this
          simp [Act.put, Array.getElem?_setIfInBounds_ne hne]
      have h := h _ rfl
      have hp1 := hp.1
      cases ht : T.tree id with
      | none =>
        rw [ht] at h hp1
        exact wp_draw hm hp1 kpd (xdraw_sound ok hd hW _ [] [] e a _ ha (Fx.refl _ _) (fun x hx => by cases hx) h)
      | some t =>
        rw [ht] at h hp1
        exact wp_drawT hm hp1 kpd (xdrawT_sound ok hd hW _ [] [] e a _ ha (Fx.refl _ _) (fun x hx => by cases hx) h)
  | seq x y ihx ihy =>
    intro rd hc hcalm e w N X R kp a ha h
    simp only [ckCode, Bool.and_eq_true] at hc
    have hcx : rd = none ∨ calmC x = true := hcalm.imp id fun h => by simp only [calmC, Bool.and_eq_true] at h; exact h.1
    have hcy : rd = none ∨ calmC y = true := hcalm.imp id fun h => by simp only [calmC, Bool.and_eq_true] at h; exact h.2
    have hl : ∀ t, Wr x t → Wr (.seq x y) t := fun t h => .inl h
    have hr : ∀ t, Wr y t → Wr (.seq x y) t := fun t h => .inr h
    unfold xcode at h
    split at h
    · refine wpIn_seq (wpIn_mono (ihx rd hc.1.1 hcx e w _ X R kp a ha h) fun e' a' w' hq => ?_)
      cases e' with
      | normal =>
        obtain ⟨e1, ha1, hf1, h1⟩ := hq
        exact wpIn_mono (ihy rd hc.1.2 hcy e1 w' N X R kp a' ha1 h1) fun e2 a2 w2 hq2 => hq2.step (hf1.mono hl) hr
      | _ => exact Qx.step (Fx.refl _ _) hl hq
    · rename_i sl hcut
      obtain ⟨J, h1, h2⟩ := h
      have hwr := hc.2
      rw [hcut] at hwr
      refine wpIn_seq (wpIn_mono (ihx rd hc.1.1 hcx e w _ X R kp a ha h1) fun e' a' w' hq => ?_)
      cases e' with
      | normal =>
        obtain ⟨e1, ha1, hf1, h1⟩ := hq
        have hk : keepE (T.cutMods (firstR y)) e e1 = e1 := keepE_of hf1 (writesIn_spec x hwr)
        have h3 := h2 e1
        rw [hk] at h3
        exact wpIn_mono (ihy rd hc.1.2 hcy e1 w' N X R kp a' ha1 (all_of_ex sl J e1 w' h1 h3)) fun e2 a2 w2 hq2 => hq2.step (hf1.mono hl) hr
      | _ => exact Qx.step (Fx.refl _ _) hl hq
  | cond c x y ihx ihy =>
    intro rd hc hcalm e w N X R kp a ha h
    simp only [ckCode, Bool.and_eq_true] at hc
    have hcx : rd = none ∨ calmC x = true := hcalm.imp id fun h => by simp only [calmC, Bool.and_eq_true] at h; exact h.1
    have hcy : rd = none ∨ calmC y = true := hcalm.imp id fun h => by simp only [calmC, Bool.and_eq_true] at h; exact h.2
    unfold xcode at h
    split at h
    · rename_i t ht
      have hev := (ha.eval c).trans ht
      cases t
      · exact wpIn_cond_false hev (wpIn_mono (ihy rd hc.2 hcy e w N X R kp a ha h) fun _ _ _ hq => hq.step (Fx.refl _ _) (fun t h => .inr h))
      · exact wpIn_cond_true hev (wpIn_mono (ihx rd hc.1 hcx e w N X R kp a ha h) fun _ _ _ hq => hq.step (Fx.refl _ _) (fun t h => .inl h))
    · exact h.elim
  | block id x ih =>
    intro rd hc hcalm e w N X R kp a ha h
    unfold xcode at h
    refine wpIn_block (wpIn_mono (ih rd hc hcalm e w N _ R kp a ha h) fun e' a' w' hq => ?_)
    cases e' with
    | exit id' =>
      obtain ⟨e1, ha1, hd1, h1⟩ := hq
      show if id' = id then Qx n T.rs (Wr x) e N X R kp .normal a' w' else Qx n T.rs (Wr x) e N X R kp (.exit id') a' w'
      by_cases hid : id' = id
      · subst hid
        rw [beq_refl'] at h1
        rw [if_pos rfl]
        exact ⟨e1, ha1, hd1, h1⟩
      · rw [beq_ne hid] at h1
        rw [if_neg hid]
        exact ⟨e1, ha1, hd1, h1⟩
    | _ => exact hq
  | scope x ih =>
    intro rd hc hcalm e w N X R kp a ha h
    unfold xcode at h
    exact wpIn_scope (ih rd hc hcalm e w N X R kp a ha h) (fun l a w h => h)
  | loop x ih =>
    intro rd hc hcalm e w N X R kp a ha h
    simp only [ckCode, Bool.and_eq_true] at hc
    unfold xcode at h
    obtain ⟨I, M, h0, hr⟩ := h
    obtain ⟨m, hm0⟩ := exM_of_exI _ I M e w h0
    refine wp_loop_n (fun m a w => ∃ e1, Agr n a e1 ∧ Fx (Wr x) e e1 ∧ exM E m _ I M e1 w) m ⟨e, ha, Fx.refl _ _, hm0⟩ ?_
    intro m a w ⟨e1, ha1, hf1, h1⟩
    have hk : keepE (T.mods (firstR x)) e e1 = e1 := keepE_of hf1 (writesIn_spec x hc.2)
    have h3 := hr e1
    rw [hk] at h3
    obtain ⟨m', hlt, h2⟩ := all_of_exM _ I M e1 w h1 h3
    refine wpIn_mono (ih rd hc.1 hcalm e1 w _ X R kp a ha1 h2) fun e' a' w' hq => ?_
    cases e' with
    | normal => obtain ⟨e2, ha2, hf2, h3⟩ := hq; exact ⟨m', hlt, e2, ha2, hf1.trans hf2, h3⟩
    | exit id => exact Qx.step hf1 (fun t h => h) hq
    | ret => exact Qx.step hf1 (fun t h => h) hq
    | panic c => exact Qx.step hf1 (fun t h => h) hq
    | goto l => exact hq
    | outgrown => exact hq
  | exit id => intro rd hc _ e w N X R kp a ha h; exact wpIn_exit ⟨e, ha, Fx.refl _ _, h⟩
  | ret => intro rd hc _ e w N X R kp a ha h; exact wpIn_ret ⟨e, ha, Fx.refl _ _, h⟩
  | rangeFunc f ps assign body iha ihb =>
    intro rd hc hcalm e w N X R kp a ha h
    obtain rfl : rd = none := hcalm.resolve_right (by simp [calmC])
    simp only [ckCode, Bool.and_eq_true] at hc
    obtain ⟨⟨⟨⟨⟨hca, hcb⟩, hka⟩, hkb⟩, hps⟩, hpl⟩ := hc
    have hpl' : ps.toList = (T.loop (1000000 + firstR body)).map (·.1) := by simpa using hpl
    have hps' : ∀ t ∈ ps.toList, t < n := fun t ht => by
      have := Array.all_eq_true_iff_forall_mem.1 hps t (by simpa using ht)
      simp only [Nat.blt, Nat.ble_eq] at this
      exact this
    unfold xcode at h
    · refine wpIn_rangeFunc fun fn _ => ?_
      obtain ⟨rec, hrec⟩ : ∃ rec : LoopState → Option Code → Loop, rec = fun st pe => { state := st, pending := pe, fn, tmps := a.tmps, params := ps, assign, body, defers := w.heap.size } := ⟨_, rfl⟩
      obtain ⟨W1, hW1⟩ : ∃ W1, (w.alloc (.deferred (some []))).alloc (.loop (rec .ready none)) = W1 := ⟨_, rfl⟩
      have hL1 : W1.heap[w.heap.size + 1]? = some (.loop (rec .ready none)) := by
        rw [← hW1]; have := World.alloc_heap_new (w.alloc (.deferred (some []))) (.loop (rec .ready none)); rwa [World.size_alloc] at this
      have hK1 : W1.heap[w.heap.size]? = some (.deferred (some [])) := by
        rw [← hW1]; exact (Below.heap_alloc _ _ _ (by simp)).trans (World.alloc_heap_new w _)
      have hst : RFstart w w.heap.size (w.heap.size + 1) (fun st pe => .loop (rec st pe)) W1 := by
        refine ⟨rfl, rfl, by rw [← hW1]; simp, hK1, hL1, ?_⟩
        rw [← hW1]
        exact ⟨rfl, rfl, rfl, by simp; omega, fun k hk _ => (Below.heap_alloc _ _ _ (by simp; omega)).trans (Below.heap_alloc _ _ _ hk)⟩
      have h1 := h _ _ _ _ hst (.func (.yield (w.heap.size + 1)) #[] #[]) (allArgs_of _ _ _ fun args hlen W RR hLW hround => by
        -- a round
        rw [← hpl'] at hround
        simp only [List.reverse_nil, List.nil_append]
        show YieldAt Fence.wide 0 P (w.heap.size + 1) (#[] ++ args.toArray) W (Ret RR fun _ _ => False)
        have hargs : (#[] ++ args.toArray : Array Value) = args.toArray := by simp
        have hlen' : args.length = ps.size := by have := congrArg List.length hpl'; simp at this; omega
        have hy := run_yield (P := P) (args := #[] ++ args.toArray) hLW (by rw [hargs, hrec]; simpa using hlen')
        rw [hrec] at hy
        refine ⟨fn, _, assign, body, hy, roundIn_of_wpIn (F := Fence.wide) trivial ?_⟩
        simp only
        rw [hargs, foldl_zip]
        have hagr := setArgs_sound (n := n) ps.toList args a.tmps ⟨e.f, []⟩ hps' ⟨ha.size, ha.val, rfl⟩
        refine wpIn_mono (iha (some (w.heap.size + 1)) hca (.inr hka) _ W _ _ _ _ _ hagr hround) fun e1 a1 W1 hq => ?_
        cases e1 with
        | normal =>
          obtain ⟨e1, ha1, _, hl1, hbody⟩ := hq
          refine ⟨_, run_beginRound hl1 (by rw [hrec]), ?_⟩
          have h2 := hbody _ rfl
          have hb2 : ({ rec .ready none with state := .busy } : Loop) = rec .busy none := by rw [hrec]
          rw [hb2]
          have fin : ∀ (jump : Option Code) (W3 : World), finR (w.heap.size + 1) (fun st pe => .loop (rec st pe)) RR jump W3 →
              ∃ v w', (Instr.endRound (w.heap.size + 1) jump).run P W3 = .ok v w' ∧ (Ret RR fun _ _ => False) (.returned v) w' := fun jump W3 hf => by
            refine ⟨_, _, run_endRound (P := P) jump hf.1, ?_⟩
            have : ({ rec .busy none with state := if jump.isNone then .ready else .done, pending := jump } : Loop) = rec (cond jump.isNone .ready .done) jump := by rw [hrec]; cases jump <;> rfl
            rw [this]
            exact hf.2 _ rfl
          refine wpIn_mono (ihb (some (w.heap.size + 1)) hcb (.inr hkb) e1 _ _ _ _ _ a1 ha1 h2) fun e3 a3 W3 hq3 => ?_
          cases e3 with
          | normal => obtain ⟨_, _, _, hf⟩ := hq3; exact fin none W3 hf
          | exit id => obtain ⟨_, _, _, hf⟩ := hq3; exact fin (some (.exit id)) W3 hf
          | ret => obtain ⟨_, _, _, hf⟩ := hq3; exact fin (some .ret) W3 hf
          | panic c => obtain ⟨_, _, _, _, hf⟩ := hq3; exact hf.elim
          | goto l => exact hq3.elim
          | outgrown => exact hq3.elim
        | exit id => obtain ⟨_, _, _, hf⟩ := hq; exact hf.elim
        | ret => obtain ⟨_, _, _, hf⟩ := hq; exact hf.elim
        | panic c => obtain ⟨_, _, _, _, hf⟩ := hq; exact hf.elim
        | goto l => exact hq.elim
        | outgrown => exact hq.elim)
      unfold callF at h1
      split at h1
      case h_2 => exact h1.elim
      rename_i g fi ca hfv
      obtain ⟨hbg, hcall⟩ := h1
      refine ⟨w.heap.size + 1, [{ target := .collected w.heap.size, args := #[] }], W1, { target := .fn (.func g) ca, args := fi ++ #[.func (.yield (w.heap.size + 1)) #[] #[]] }, W1, g,
        fi ++ #[.func (.yield (w.heap.size + 1)) #[] #[]] ++ ca, W1, ?_, ?_, fun _ _ => trivial, ?_, wideR_depth none, ?_⟩
      · rw [← hW1, hrec]; exact run_enterLoop_outer _ _ _ _ _
      · have : a.eval f = .func (.func g) fi ca := (ha.eval f).trans hfv
        simp only [resolve, this, Deferred.ofValue, Sem.run_pure]
        simp [Act.eval]
      · simp only [invoke]; exact bodied_run hbg _ _
      · refine callsIn_of (hcall.mono fun e' w2 he => ?_)
        have hagr : Agr n { a with defers := [{ target := .collected w.heap.size, args := #[] }] ++ a.defers } ⟨e.f, markD w.heap.size :: e.ms⟩ := ⟨ha.size, ha.val, by simp [ha.dfr]⟩
        have hfx : Fx (Wr (.rangeFunc f ps assign body)) e ⟨e.f, markD w.heap.size :: e.ms⟩ := ⟨fun _ _ => rfl, fun hn => absurd rfl hn, fun _ hm d hd => by rcases List.mem_cons.1 hd with rfl | hd; exact ⟨_, rfl⟩; exact hm d hd⟩
        cases e' with
        | returned v =>
          obtain ⟨st, jump, hl, hne, hk⟩ := he
          have hend := run_endLoop (P := P) hl (by rw [hrec]; exact hne)
          have h1 : ({ rec st jump with state := .exhausted } : Loop) = rec .exhausted jump := by rw [hrec]
          have h2 : (rec st jump).pending = jump := by rw [hrec]
          rw [h1, h2] at hend
          refine ⟨jump, _, hend, ?_⟩
          have hk := hk _ rfl
          cases jump with
          | none => exact ⟨_, hagr, hfx, hk⟩
          | some c =>
            cases c with
            | exit id => exact wpIn_exit ⟨_, hagr, hfx, hk⟩
            | ret => exact wpIn_ret ⟨_, hagr, hfx, hk⟩
            | _ => exact hk.elim
        | panicked c => exact ⟨_, hagr.rs _, hagr.dfr, ⟨hfx.3, hfx.2⟩, he⟩
        | outgrown => exact he.elim
  | goto => intro rd hc _ e w N X R kp a ha h; exact h.elim
  | refuse => intro rd hc _ e w N X R kp a ha h; exact h.elim

def resF (tmps : Array Value) : ResultVar → Sem Value
  | .tmp t => pure (tmps.getD t undef)
  | .cell a t => do loadVar t (← asAddr (tmps.getD a undef))
@[reducible] def rslots : List ResultVar → List Nat
  | [] => []
  | .tmp t :: r => t :: rslots r
  | .cell a _ :: r => a :: rslots r
theorem results_run {K : Value → World → Prop} {a : Act} {e : Env} (w : World) : ∀ (rs : List ResultVar) (acc : List Value), (∀ t ∈ rslots rs, a.tmps.getD t undef = e.f t) → xres P E K rs acc e w →
    ∃ vs, (rs.mapM (resF a.tmps)).run P w = .ok vs w ∧ K (finish (acc.reverse ++ vs)) w
  | [], acc, ha, h => ⟨[], by simp, by simpa using h⟩
  | .tmp t :: r, acc, ha, h => by
    obtain ⟨vs, hr, hK⟩ := results_run w r _ (fun t ht => ha t (List.mem_cons_of_mem _ ht)) h
    refine ⟨e.f t :: vs, ?_, by simpa using hK⟩
    rw [List.mapM_cons, ← ha t (List.mem_cons_self ..)]
    simp only [Sem.run_bind, resF, Sem.run_pure, Result.andThen_ok, hr]
  | .cell ad t :: r, acc, ha, h => by
    obtain ⟨⟨d, hu⟩, h⟩ := some_cond h
    obtain ⟨b, hb, y, ⟨h1, h2⟩, h⟩ := withAddr_spec h
    obtain ⟨vs, hr, hK⟩ := results_run w r _ (fun t ht => ha t (List.mem_cons_of_mem _ ht)) h
    refine ⟨(E t).val y :: vs, ?_, by simpa using hK⟩
    rw [List.mapM_cons]
    have := ha ad (List.mem_cons_self ..)
    have hone : (resF a.tmps (.cell ad t)).run P w = .ok ((E t).val y) w := by
      simp only [resF, this, hb, asAddr, Sem.run_bind, Sem.run_pure, Result.andThen_ok, loadVar_run w t b _ d hu h1 h2]
    simp only [Sem.run_bind, Sem.run_pure, Result.andThen_ok, hone, hr]
theorem finish_eq (vs : List Value) : (if h : vs.toArray.size = 1 then vs.toArray[0] else .tuple vs.toArray) = finish vs := by
  match vs with
  | [] => rfl
  | [v] => rfl
  | v :: u :: r => simp [finish]

/-- A frame on its way out. -/
theorem leave_sound {fn : Func} {rs : List ResultVar} (hrs : fn.results = rs.toArray) {a : Act} {e : Env} (ha : ∀ t ∈ rslots rs, a.tmps.getD t undef = e.f t) {K : Value → World → Prop} {KP : List PanicEntry → World → Prop} :
    ∀ (ds : List Deferred) (u : FrameMode) (w : World), u ≠ .run → xleave P ds u w (xend P E K KP rs e) → LeavesInM Fence.wide 0 P fn a.tmps (Ret K KP) ds u w
  | [], u, w, hu, h => by
    cases u with
    | run => exact absurd rfl hu
    | returning =>
      obtain ⟨vs, hr, hK⟩ := results_run (E := E) w rs [] ha h
      have hres : results fn a.tmps = (do let vs ← fn.results.mapM (resF a.tmps); pure (if h : vs.size = 1 then vs[0] else .tuple vs)) := rfl
      refine ⟨finish vs, ?_, by simpa using hK⟩
      rw [hres, hrs]
      simp only [List.mapM_toArray, Sem.run_bind, Sem.run_map, hr, Result.andThen_ok, Sem.run_pure, finish_eq]
    | panicking c => exact h
  | d :: ds, u, w, hu, h => by
    refine ⟨hu, ?_⟩
    unfold xleave at h
    split at h
    · rename_i D hd
      refine .inl ⟨D, _, hd, run_takeDeferred h.1, leave_sound hrs ha ds u _ hu (h.2 _ rfl)⟩
    · rename_i f ca hd
      obtain ⟨hb, hc⟩ := h
      refine .inr ⟨(fun h => by cases h), .func f, ca, f, d.args ++ ca, hd, by rw [hd]; simp only [invoke]; exact bodied_run hb _ _, fun _ _ => trivial, hc.1, fun c cs hm hr => ?_⟩
      obtain ⟨e1, u1, w1, fr, hR, rest⟩ := hc.2 c cs hm hr
      refine ⟨e1, u1, w1, fr, ?_, rest⟩
      cases e1 with
      | returned v =>
        exact leave_sound hrs ha ds (settle u1) w1 hR.1 hR.2
      | panicked c => exact leave_sound hrs ha ds (raised u1 c) w1 (by unfold raised; split <;> simp) hR
      | outgrown => exact hR.elim
    · exact h.elim

/-- A frame that panics, with nothing but marks. -/
theorem leave_marks {fn : Func} {rs : List ResultVar} {a : Act} {e : Env} {K : Value → World → Prop} {KP : List PanicEntry → World → Prop} {c : List PanicEntry} :
    ∀ (ds : List Deferred) (c : List PanicEntry) (w : World), Marks ds → xleave P ds (.panicking c) w (xend P E K KP rs e) → LeavesInM Fence.wide 0 P fn a.tmps (Ret K KP) ds (.panicking c) w
  | [], c, w, _, h => h
  | d :: ds, c, w, hm, h => by
    refine ⟨by simp, ?_⟩
    obtain ⟨D, hD⟩ := hm d (List.mem_cons_self ..)
    unfold xleave at h
    rw [hD] at h
    exact .inl ⟨D, _, hD, run_takeDeferred h.1, leave_marks (c := c) ds c _ (fun x hx => hm x (List.mem_cons_of_mem _ hx)) (h.2 _ rfl)⟩

/-- A call, by the predicate of its function. -/
theorem xcall (ok : Okp P) (hm : P.follows .mixedOrders = true) {T : Tab} {f : Nat} {fn : Func} {c : Code} {rs : List ResultVar} (hf : P.funcs[f]? = some fn) (hb : fn.body = some c) (hrs : fn.results = rs.toArray)
    (args : List Value) (hn : Nat.ble args.length fn.ntmps = true) (hc : ckCode P T fn.ntmps c = true) (hT : T.rs = rslots rs ∨ (Nat.ble fn.ntmps big && noDeferC fn.ntmps c) = true) {w : World} {K : Value → World → Prop} {KP : List PanicEntry → World → Prop}
    (h : xfun P E T c rs args w K KP) : Calls P f args.toArray w (Ret K KP) := by
  have hn' : args.length ≤ fn.ntmps := Nat.le_of_ble_eq_true hn
  refine callsIn_wide.1 (callsIn_of_wp_marks (F := Fence.wide) (n := 0) hf hb trivial (wpIn_mono (xcode_sound (E := E) (n := fn.ntmps) ok hm c none hc (.inl rfl) _ w _ _ _ _ _ ⟨?_, fun t => ?_, rfl⟩ h) fun e a w' hq => ?_))
  · simp; omega
  · by_cases ht : t < args.length
    · simp [Array.getElem?_append, ht]
    · by_cases h2 : t - args.length < fn.ntmps - args.length
      · simp [Array.getElem?_append, ht, h2]
      · simp [Array.getElem?_append, ht, h2]
  · cases e with
    | normal =>
      obtain ⟨e1, ha, _, h1⟩ := hq
      have := leave_sound (E := E) hrs (ha.rs _) e1.ms .returning w' (by simp) h1
      rw [← ha.dfr] at this
      exact this
    | ret =>
      obtain ⟨e1, ha, _, h1⟩ := hq
      have := leave_sound (E := E) hrs (ha.rs _) e1.ms .returning w' (by simp) h1
      rw [← ha.dfr] at this
      exact this
    | panic ch =>
      obtain ⟨e1, ha, hd, hms, h1⟩ := hq
      rcases hT with hT | hcalm
      · have := leave_sound (E := E) hrs (by rw [hT] at ha; exact ha) e1.ms (.panicking ch) w' (by simp) h1
        rw [← hd] at this
        exact this
      · simp only [Bool.and_eq_true] at hcalm
        have h0 : Marks e1.ms := hms.1 (noDeferC_spec hcalm.1 c hcalm.2) (fun d hd => by cases hd)
        have := leave_marks (E := E) (fn := fn) (a := a) (c := ch) e1.ms ch w' h0 h1
        rw [← hd] at this
        exact this
    | exit id => obtain ⟨_, _, _, h⟩ := hq; exact h
    | goto l => exact hq
    | outgrown => exact hq
/-- The like, entered as a deferred call: a function that defers nothing. -/
theorem xcallD (ok : Okp P) (hm : P.follows .mixedOrders = true) {T : Tab} {f : Nat} {fn : Func} {c : Code} {rs : List ResultVar} (hf : P.funcs[f]? = some fn) (hb : fn.body = some c) (hrs : fn.results = rs.toArray)
    (args : List Value) (hn : Nat.ble args.length fn.ntmps = true) (hc : ckCode P T fn.ntmps c = true) (hcalm : calmC c = true) {u : FrameMode} {w : World} {K : Value → World → Prop} {KP : List PanicEntry → World → Prop}
    (h : xfun P E T c rs args w K KP) : CallsDIn Fence.wide 0 P f args.toArray u w fun e u' w' => u' = u ∧ Ret K KP e w' := by
  have hn' : args.length ≤ fn.ntmps := Nat.le_of_ble_eq_true hn
  refine callsDIn_of_wp (F := Fence.wide) (n := 0) hf hb trivial (wpIn_mono (xcode_sound (E := E) (n := fn.ntmps) ok hm c none hc (.inl rfl) _ w _ _ _ _ _ ⟨?_, fun t => ?_, rfl⟩ h) fun e a w' hq => ?_)
  · simp; omega
  · by_cases ht : t < args.length
    · simp [Array.getElem?_append, ht]
    · by_cases h2 : t - args.length < fn.ntmps - args.length
      · simp [Array.getElem?_append, ht, h2]
      · simp [Array.getElem?_append, ht, h2]
  · have out : ∀ e1 : Env, Agr fn.ntmps a e1 → e1.ms = [] → xleave P e1.ms .returning w' (xend P E K KP rs e1) → a.defers = [] ∧ ∃ v, (results fn a.tmps).run P w' = .ok v w' ∧ Ret K KP (.returned v) w' := fun e1 ha hms h1 => by
      rw [hms] at h1
      obtain ⟨vs, hr, hK⟩ := results_run (E := E) w' rs [] (ha.rs _) h1
      refine ⟨by rw [ha.dfr, hms], finish vs, ?_, by simpa using hK⟩
      have hres : results fn a.tmps = (do let vs ← fn.results.mapM (resF a.tmps); pure (if h : vs.size = 1 then vs[0] else .tuple vs)) := rfl
      rw [hres, hrs]
      simp only [List.mapM_toArray, Sem.run_bind, Sem.run_map, hr, Result.andThen_ok, Sem.run_pure, finish_eq]
    cases e with
    | normal =>
      obtain ⟨e1, ha, hfx, h1⟩ := hq
      exact out e1 ha (hfx.2 (calmC_spec c hcalm)) h1
    | ret =>
      obtain ⟨e1, ha, hfx, h1⟩ := hq
      exact out e1 ha (hfx.2 (calmC_spec c hcalm)) h1
    | panic ch =>
      obtain ⟨e1, ha, hd, hms, h1⟩ := hq
      have h0 : e1.ms = [] := hms.2 (calmC_spec c hcalm)
      rw [h0] at h1
      exact ⟨by rw [hd, h0], h1⟩
    | exit id => obtain ⟨_, _, _, h⟩ := hq; exact h
    | goto l => exact hq
    | outgrown => exact hq
end

section
variable {P : Program}
/-- A call that is known to end in a value: what is known of it is enough. -/
theorem use {f : Nat} {args : Array Value} {w : World} {K K' : Value → World → Prop} {KP : List PanicEntry → World → Prop} (h : Calls P f args w (Ret K fun _ _ => False)) (k : ∀ v w', K v w' → K' v w') : Calls P f args w (Ret K' KP) :=
  h.mono fun e w' he => by
    cases e with
    | returned v => exact k v w' he
    | panicked c => exact he.elim
    | outgrown => exact he.elim
theorem use2 {f : Nat} {args : Array Value} {w : World} {K K' : Value → World → Prop} {KP KP' : List PanicEntry → World → Prop} (h : Calls P f args w (Ret K KP)) (k : ∀ v w', K v w' → K' v w') (kp : ∀ c w', KP c w' → KP' c w') : Calls P f args w (Ret K' KP') :=
  h.mono fun e w' he => by
    cases e with
    | returned v => exact k v w' he
    | panicked c => exact kp c w' he
    | outgrown => exact he.elim
theorem cond_i {t : Bool} {X Y : Prop} (h : t = true → X) (k : t = false → Y) : cond t X Y := by
  cases t
  · exact k rfl
  · exact h rfl
theorem cond_d {p : Prop} [Decidable p] {X Y : Prop} (h : p → X) (k : ¬ p → Y) : cond (decide p) X Y :=
  cond_i (fun e => h (of_decide_eq_true e)) (fun e => k (of_decide_eq_false e))
theorem cond_e {a b : Int} {X Y : Prop} (h : a = b → X) (k : a ≠ b → Y) : cond (a == b) X Y :=
  cond_i (fun e => h (by simpa using e)) (fun e => k (by simpa using e))
theorem cond_n {a b : Int} {X Y : Prop} (h : a ≠ b → X) (k : a = b → Y) : cond (a != b) X Y :=
  cond_i (fun e => h (by simpa using e)) (fun e => k (by simpa using e))
end
end Go.Eng
