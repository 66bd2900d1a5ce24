/- Part 0 of the proof: own text. -/
import Derived.Below
import Derived.Orders
import Derived.Tactics
import Derived.Laws.FloatArith
import Derived.Laws.MakeOwn
import Derived.Laws.Externs
import Derived.Laws.Rows
import Derived.Laws.Slices
import Derived.Laws.Small
import Derived.Laws.Unary
import Derived.Laws.Concat
import Derived.Laws.Strings
import Derived.Laws.Runes
import Derived.Laws.BytesString
import Derived.Lib.BufferRead
set_option linter.all false
set_option maxHeartbeats 20000000
namespace Go.AM
class Lay where
  T : World → Prop
  keep : ∀ {w w' : World}, T w → Go.RowKit.Below w.heap.size w w' → T w'

inductive Ct where
  | ints (k : IntKind) (l : List Int)
  | vals (l : List Value)
def Ct.cells : Ct → List Value
  | .ints k l => l.map (.int k)
  | .vals l => l
def Ct.len : Ct → Nat
  | .ints _ l => l.length
  | .vals l => l.length

inductive AV where
  | v (x : Value)
  | pt (x : Value)
  | rd (k : IntKind) (l : List Int)
  | ref (key off : Nat)
  | ow (key : Nat)
  | al (key lo n : Nat)
  | ows (key n : Nat)
  | tup (l : List AV)
  | dead

abbrev Env := Nat → Option AV
abbrev Mem := Nat → Option (Ct × Bool)
structure St where
  e : Env
  m : Mem

def lk {α : Type} : List (Nat × α) → Nat → Option α
  | [], _ => none
  | (j, x) :: r, k => if k = j then some x else lk r k

inductive TK where
  | int (k : IntKind) | bool | str | float (k : FloatKind) | arr (n : Nat) (e : TypeId) | slice (e : TypeId) | struct (fs : List (Nat × TypeId)) | other
inductive LK where
  | int (k : IntKind) | bool | str
structure TI where
  kind : TK
  size : Nat
  bytes : Nat
  agg : Bool
  zero : List Value
  leaf : List LK := []
abbrev Ty := TypeId → Option TI

inductive DV where
  | v (x : Value)
  | sl (k : IntKind) (l : List Int)
inductive RV where
  | v (x : Value)
  | fresh (k : IntKind) (l : List Int)
  | view (k : IntKind) (l : List Int)
  | cells (n : Nat) (l : List Value)
inductive Res where
  | one (r : RV)
  | many (l : List RV)
abbrev Cs := List DV → Option (Prop × Res)
inductive Fk where
  | body | ext
abbrev Gam := List (Nat × Fk × Cs)

def vcells : Value → List Value
  | .agg cs => cs.toList
  | v => [v]

def Oc : List Value → Bool
  | [] => true
  | .agg _ :: _ => false
  | .tuple _ :: _ => false
  | _ :: r => Oc r

def toInts (k : IntKind) : List Value → Option (List Int)
  | [] => some []
  | .int k' n :: r => if k' = k then (toInts k r).map (n :: ·) else none
  | _ :: _ => none

def opd (s : St) : Operand → AV
  | .tmp t => (s.e t).getD .dead
  | .const v => .v v
  | .func f => .v (.func (.func f) #[] #[])
  | _ => .dead

def Ct.intsOf (k : IntKind) : Ct → Option (List Int)
  | .ints k' l => if k' = k then some l else none
  | .vals l => toInts k l

def slInts (s : St) (k : IntKind) : AV → Option (List Int)
  | .rd k' l => if k' = k then some l else none
  | .ow key => (s.m key).bind fun c => c.1.intsOf k
  | .al key lo n => (s.m key).bind fun c => (c.1.intsOf k).map fun l => (l.drop lo).take n
  | .v (.slice none 0 0) => some []
  | _ => none
def slLen (s : St) : AV → Option Nat
  | .rd _ l => some l.length
  | .ow key => (s.m key).map fun c => c.1.len
  | .al _ _ n => some n
  | .v (.slice none 0 0) => some 0
  | _ => none

def bt (s : ByteArray) (i : Int) : Int := ((s.data.toList.getD i.toNat 0).toNat : Int)
def pow2 (k : IntKind) : Int := match k with | .i8 | .u8 => 256 | .i16 | .u16 => 65536 | .i32 | .u32 => 4294967296 | .i64 | .u64 => 18446744073709551616
def sgn (k : IntKind) : Bool := match k with | .i8 | .i16 | .i32 | .i64 => true | _ => false
def inR (k : IntKind) (n : Int) : Prop := match k with
  | .i8 => -128 ≤ n ∧ n ≤ 127 | .i16 => -32768 ≤ n ∧ n ≤ 32767 | .i32 => -2147483648 ≤ n ∧ n ≤ 2147483647
  | .i64 => -9223372036854775808 ≤ n ∧ n ≤ 9223372036854775807
  | .u8 => 0 ≤ n ∧ n ≤ 255 | .u16 => 0 ≤ n ∧ n ≤ 65535 | .u32 => 0 ≤ n ∧ n ≤ 4294967295 | .u64 => 0 ≤ n ∧ n ≤ 18446744073709551615

def arr (k : IntKind) (n : Int) : Prop × Value := if sgn k then (inR k n, .int k n) else (True, .int k (n % pow2 k))
def bits (op : BinOp) (k : IntKind) (a b : Int) : Int := match op with
  | .and => k.wrap ((BitVec.ofInt k.bits a &&& BitVec.ofInt k.bits b).toNat)
  | .or => k.wrap ((BitVec.ofInt k.bits a ||| BitVec.ofInt k.bits b).toNat)
  | .xor => k.wrap ((BitVec.ofInt k.bits a ^^^ BitVec.ofInt k.bits b).toNat)
  | _ => k.wrap ((BitVec.ofInt k.bits a &&& ~~~ BitVec.ofInt k.bits b).toNat)

def fits : List LK → List Value → Bool
  | [], [] => true
  | .int k :: r, .int k' _ :: r' => (k == k') && fits r r'
  | .bool :: r, .bool _ :: r' => fits r r'
  | .str :: r, .string _ :: r' => fits r r'
  | _, _ => false
def leafEq : List Value → List Value → Option Bool
  | [], [] => some true
  | .int k a :: r, .int k' b :: r' => if k = k' then (leafEq r r').map fun t => (a == b) && t else none
  | .bool a :: r, .bool b :: r' => (leafEq r r').map fun t => (a == b) && t
  | .string a :: r, .string b :: r' => (leafEq r r').map fun t => (a == b) && t
  | _, _ => none

def fbin (op : BinOp) (k : FloatKind) (x y : Nat) : Option Value := match op with
  | .eql => some (.bool (k.format.order x y == some .eq))
  | .neq => some (.bool (k.format.order x y != some .eq))
  | .lss => some (.bool (k.format.order x y == some .lt))
  | .leq => some (.bool (k.format.order x y == some .lt || k.format.order x y == some .eq))
  | .gtr => some (.bool (k.format.order x y == some .gt))
  | .geq => some (.bool (k.format.order x y == some .gt || k.format.order x y == some .eq))
  | .add => (floatBits .add k x y).map (.float k)
  | .sub => (floatBits .sub k x y).map (.float k)
  | .mul => (floatBits .mul k x y).map (.float k)
  | .quo => (floatBits .quo k x y).map (.float k)
  | _ => none
def bin (op : BinOp) (x y : Value) : Option (Prop × Value) :=
  match x, y with
  | .int k a, .int k' b =>
    match op with
    | .shl => some (0 ≤ b ∧ (sgn k = true → inR k (a * 2 ^ (min b.toNat k.bits))), .int k (if sgn k then a * 2 ^ (min b.toNat k.bits) else (a * 2 ^ (min b.toNat k.bits)) % pow2 k))
    | .shr => some (0 ≤ b, .int k (a / 2 ^ (min b.toNat k.bits)))
    | _ =>
    if k = k' then
      match op with
      | .add => some (arr k (a + b))
      | .sub => some (arr k (a - b))
      | .mul => some (arr k (a * b))
      | .quo => some (b ≠ 0 ∧ inR k (a.tdiv b), .int k (a.tdiv b))
      | .rem => some (b ≠ 0, .int k (a.tmod b))
      | .eql => some (True, .bool (a == b))
      | .neq => some (True, .bool (a != b))
      | .lss => some (True, .bool (decide (a < b)))
      | .leq => some (True, .bool (decide (a ≤ b)))
      | .gtr => some (True, .bool (decide (a > b)))
      | .geq => some (True, .bool (decide (a ≥ b)))
      | .and => some (True, .int k (bits .and k a b))
      | .or => some (True, .int k (bits .or k a b))
      | .xor => some (True, .int k (bits .xor k a b))
      | .andNot => some (True, .int k (bits .andNot k a b))
      | _ => none
    else none
  | .string a, .string b =>
    match op with
    | .add => some (a.size + b.size ≤ 9223372036854775807, .string (a ++ b))
    | .eql => some (True, .bool (a.toList == b.toList))
    | .neq => some (True, .bool (!(a.toList == b.toList)))
    | .lss => some (True, .bool (Op.bytesLess a.toList b.toList))
    | _ => none
  | .bool a, .bool b =>
    match op with
    | .eql => some (True, .bool (a == b))
    | .neq => some (True, .bool (!(a == b)))
    | _ => none
  | .float k a, .float k' b => if k = k' then (fbin op k a b).map fun v => (True, v) else none
  | _, _ => none

def un (op : UnOp) (x : Value) : Option (Prop × Value) :=
  match op, x with
  | .not, .bool b => some (True, .bool (!b))
  | .neg, .int k n => some (arr k (0 - n))
  | .xor, .int k n => if sgn k then none else some (True, .int k (bits .xor k k.max n))
  | _, _ => none

def conv (k : IntKind) (x : Value) : Option (Prop × Value) :=
  match x with
  | .int _ n => some (arr k n)
  | .float s b => (floatToIntVal s b k).map fun n => (True, .int k n)
  | _ => none
def convF (k : FloatKind) (x : Value) : Option Value :=
  match x with
  | .int _ n => some (.float k (floatOfInt k n))
  | .float s b => (floatToFloatBits s b k).map (.float k)
  | _ => none

def ldAt (c : Ct) (off size : Nat) (agg : Bool) : Option (Prop × Value) :=
  match c with
  | .vals l => if agg then some (off + size ≤ l.length, .agg ((l.drop off).take size).toArray) else some (off < l.length, l.getD off (.tuple #[]))
  | .ints k l => if agg then none else some (off < l.length, .int k (l.getD off 0))
def setL (l : List Value) (off : Nat) : List Value → List Value
  | [] => l
  | x :: r => setL (l.set off x) (off + 1) r
def stAt (c : Ct) (off : Nat) (xs : List Value) : Option (Prop × Ct) :=
  match c with
  | .vals l => some (off + xs.length ≤ l.length, .vals (setL l off xs))
  | .ints k l => match xs with
    | [.int k' n] => if k' = k then some (off < l.length, .ints k (l.set off n)) else none
    | _ => none

structure Out where
  pre : Prop
  av : AV
  mem : List (Nat × Ct × Bool)

def intOf : AV → Option Int
  | .v (.int _ n) => some n
  | _ => none
def valOf : AV → Option Value
  | .v x => some x
  | _ => none

def lo? (s : St) : Option Operand → Option Int
  | none => some 0
  | some x => intOf (opd s x)
def hi? (s : St) (n : Nat) : Option Operand → Option Int
  | none => some n
  | some x => intOf (opd s x)

def fillParts (place : Nat → Option (Nat × Nat)) (s : St) : List (Nat × Operand) → List Value → Option (List Value)
  | [], cs => some cs
  | (i, x) :: r, cs => match place i, valOf (opd s x) with
    | some (off, size), some v => if (vcells v).length = size ∧ off + size ≤ cs.length then fillParts place s r (setL cs off (vcells v)) else none
    | _, _ => none

def plainV : Value → Bool
  | .slice (some _) _ _ => false
  | _ => true
def dvOf (s : St) : AV → Option DV
  | .v x => if plainV x = true then some (.v x) else none
  | .rd k l => some (.sl k l)
  | .ow key => (s.m key).bind fun c => match c.1 with
    | .ints k l => some (.sl k l)
    | .vals _ => none
  | .al key lo n => (s.m key).bind fun c => match c.1 with
    | .ints k l => some (.sl k ((l.drop lo).take n))
    | .vals l => (toInts .u64 ((l.drop lo).take n)).map fun l => .sl .u64 l
  | _ => none
def dvs (s : St) : List Operand → Option (List DV)
  | [] => some []
  | x :: r => match dvOf s (opd s x), dvs s r with
    | some d, some ds => some (d :: ds)
    | _, _ => none
def keyOf : AV → Option Nat
  | .ow key => some key
  | .al key _ _ => some key
  | _ => none
def RV.isView : RV → Bool
  | .view _ _ => true
  | _ => false
def RV.isFresh : RV → Bool
  | .fresh _ _ => true
  | .cells _ _ => true
  | _ => false
def outRV (key : Nat) : RV → AV
  | .v x => .v x
  | .fresh _ _ => .ow key
  | .view k l => .rd k l
  | .cells n _ => .ows key n
def outMem (key : Nat) : RV → List (Nat × Ct × Bool)
  | .fresh k l => [(key, .ints k l, false)]
  | .cells _ l => [(key, .vals l, false)]
  | _ => []
def outAVs (key : Nat) : Nat → List RV → List AV
  | _, [] => []
  | i, r :: rs => outRV (key + i) r :: outAVs key (i + 1) rs
def outMems (key : Nat) : Nat → List RV → List (Nat × Ct × Bool)
  | _, [] => []
  | i, r :: rs => outMem (key + i) r ++ outMems key (i + 1) rs
def freezes (s : St) : List Operand → List (Nat × Ct × Bool)
  | [] => []
  | x :: r => match (keyOf (opd s x)).bind fun k => (s.m k).map fun c => (k, c.1, true) with
    | some e => e :: freezes s r
    | none => freezes s r

def pickAV (c : Bool) (x y : AV) : AV := match x, y with
  | .v (.bool x), .v (.bool y) => .v (.bool (if c then x else y))
  | x, y => if c then x else y

def slTy (ty : Ty) (t : TypeId) : Bool := match ty t with
  | some i => match i.kind with
    | .slice el => match ty el with
      | some ei => ei.size == 1
      | none => false
    | _ => false
  | none => false
def strTy (ty : Ty) (t : TypeId) : Bool := match ty t with
  | some i => match i.kind with
    | .str => true
    | _ => false
  | none => false
def boolOk (ty : Ty) (t : TypeId) (v : Value) : Bool := match v with
  | .bool _ => match ty t with
    | some i => match i.kind with
      | .bool => true
      | _ => false
    | none => false
  | _ => true
def places (ty : Ty) (fs : List (Nat × TypeId)) (j : Nat) : Option (Nat × Nat) := (fs[j]?).bind fun p => (ty p.2).map fun fi => (p.1, fi.size)
def bracket (s : St) (n : Nat) (lo hi : Option Operand) : Option (Int × Int) := match lo? s lo, hi? s n hi with
  | some l, some h => some (l, h)
  | _, _ => none

def stBuild (ty : Ty) (s : St) (t : TypeId) (parts : List (Nat × Operand)) : Option Out :=
  (ty t).bind fun i => match i.kind with
    | .struct fs => (fillParts (places ty fs) s parts i.zero).map fun cs => ⟨True, .v (.agg cs.toArray), []⟩
    | .arr _ e => (ty e).bind fun ei => (fillParts (fun j => some (j * ei.size, ei.size)) s parts i.zero).map fun cs => ⟨True, .v (.agg cs.toArray), []⟩
    | _ => none
def stCells (n sz : Nat) (zero : List Value) : List Value := (List.range (n * sz)).map fun i => zero.getD (i % sz) default
def stBuildSlice (ty : Ty) (s : St) (d : Nat) (t : TypeId) (n : Nat) (parts : List (Nat × Operand)) : Option Out :=
  (ty t).bind fun i => match i.kind with
    | .slice e => (ty e).bind fun ei => match ei.kind with
      | .int k => if n ≤ 1000 then (fillParts (fun j => some (j, 1)) s parts (List.replicate n (.int k 0))).bind fun cs => (toInts k cs).map fun l => ⟨True, .ow (16 * d), [(16 * d, .ints k l, false)]⟩ else none
      | .struct _ => if 1 ≤ n ∧ 1 ≤ ei.size ∧ n * ei.size ≤ 1000 then (fillParts (fun j => some (j * ei.size, ei.size)) s parts (stCells n ei.size ei.zero)).bind fun cs => if Oc cs = true then some ⟨True, .ows (16 * d) n, [(16 * d, .vals cs, false)]⟩ else none else none
      | _ => none
    | _ => none
def stLoad (ty : Ty) (s : St) (t : TypeId) (x : AV) : Option Out :=
  (ty t).bind fun i => match x with
    | .ref key off => (s.m key).bind fun c => (ldAt c.1 off i.size i.agg).map fun pv => ⟨pv.1, .v pv.2, []⟩
    | .pt v => if i.agg = false then some ⟨True, .v v, []⟩ else none
    | _ => none
def stBin (ty : Ty) (o : BinOp) (t : TypeId) (x y : AV) : Option Out :=
  match x, y with
    | .v (.agg a), .v (.agg b) => (ty t).bind fun i => if i.leaf ≠ [] ∧ fits i.leaf a.toList = true ∧ fits i.leaf b.toList = true then
        match o with
        | .eql => (leafEq a.toList b.toList).map fun t => ⟨True, .v (.bool t), []⟩
        | .neq => (leafEq a.toList b.toList).map fun t => ⟨True, .v (.bool (!t)), []⟩
        | _ => none
      else none
    | .v a, .v b => if boolOk ty t a = true then (bin o a b).map fun pv => ⟨pv.1, .v pv.2, []⟩ else none
    | _, _ => none
def stUn (o : UnOp) (x : AV) : Option Out :=
  match x with
    | .v a => (un o a).map fun pv => ⟨pv.1, .v pv.2, []⟩
    | _ => none
def strOf (l : List Int) : ByteArray := l.foldl (fun r n => r.push (UInt8.ofNat n.toNat)) ByteArray.empty
def dvBytes (s : St) (x : AV) : Option (List Int) := match x with
  | .v (.slice none 0 0) => some []
  | x => match dvOf s x with
    | some (.sl .u8 l) => some l
    | _ => none
def byteSl (ty : Ty) (t : TypeId) : Bool := match ty t with
  | some i => match i.kind with
    | .slice el => match ty el with
      | some ei => match ei.kind with
        | .int .u8 => true
        | _ => false
      | none => false
    | _ => false
  | none => false
def stConv (ty : Ty) (s : St) (t0 t : TypeId) (x : AV) : Option Out :=
  (ty t0).bind fun _ => (ty t).bind fun i => match i.kind, x with
    | .int k, .v a => (conv k a).map fun pv => ⟨pv.1, .v pv.2, []⟩
    | .float k, .v a => (convF k a).map fun v => ⟨True, .v v, []⟩
    | .str, .v (.int _ n) => some ⟨True, .v (.string (Utf8.encode n)), []⟩
    | .str, x => if byteSl ty t0 = true then (dvBytes s x).map fun l => ⟨True, .v (.string (strOf l)), []⟩ else none
    | _, _ => none
def stMake (ty : Ty) (d : Nat) (t : TypeId) (l c : AV) : Option Out :=
  (ty t).bind fun i => match i.kind with
    | .slice e => (ty e).bind fun ei => if 1 ≤ ei.bytes then match ei.kind, l, c with
      | .int k, .v (.int .i64 n), .v (.int .i64 m) => some ⟨n = m ∧ 0 ≤ n ∧ n * ei.bytes ≤ 140737488355328, .ow (16 * d), [(16 * d, .ints k (List.replicate n.toNat 0), false)]⟩
      | _, _, _ => none
      else none
    | _ => none
def stSlice (ty : Ty) (s : St) (t : TypeId) (x : AV) (lo hi : Option Operand) : Option Out :=
  match x with
    | .v (.string b) => if strTy ty t = true then (bracket s b.size lo hi).map fun lh => ⟨0 ≤ lh.1 ∧ lh.1 ≤ lh.2 ∧ lh.2 ≤ (b.size : Int), .v (.string (b.extract lh.1.toNat lh.2.toNat)), []⟩ else none
    | .rd k ns => if slTy ty t = true then (bracket s ns.length lo hi).map fun lh => ⟨0 ≤ lh.1 ∧ lh.1 ≤ lh.2 ∧ lh.2 ≤ (ns.length : Int), .rd k ((ns.take lh.2.toNat).drop lh.1.toNat), []⟩ else none
    | .ow key => if slTy ty t = true then (s.m key).bind fun c => (bracket s c.1.len lo hi).map fun lh => ⟨0 ≤ lh.1 ∧ lh.1 ≤ lh.2 ∧ lh.2 ≤ (c.1.len : Int), .al key lh.1.toNat (lh.2.toNat - lh.1.toNat), []⟩ else none
    | .al key o n => if slTy ty t = true then (bracket s n lo hi).map fun lh => ⟨0 ≤ lh.1 ∧ lh.1 ≤ lh.2 ∧ lh.2 ≤ (n : Int), .al key (o + lh.1.toNat) (lh.2.toNat - lh.1.toNat), []⟩ else none
    | .v (.slice none 0 0) => if slTy ty t = true then (bracket s 0 lo hi).map fun lh => ⟨lh.1 = 0 ∧ lh.2 = 0, .v (.slice none 0 0), []⟩ else none
    | .ref key off => (ty t).bind fun i => match i.kind with
      | .arr n e => (ty e).bind fun ei => if ei.size = 1 ∧ n ≤ 1000000 then (s.m key).bind fun c => (bracket s n lo hi).map fun lh => ⟨(0 ≤ lh.1 ∧ lh.1 ≤ lh.2 ∧ lh.2 ≤ (n : Int)) ∧ off + n ≤ c.1.len, .al key (off + lh.1.toNat) (lh.2.toNat - lh.1.toNat), []⟩ else none
      | _ => none
    | _ => none
def stFieldAddr (ty : Ty) (t : TypeId) (x : AV) (f : Nat) : Option Out :=
  (ty t).bind fun i => match i.kind, x with
    | .struct fs, .ref key off => (fs[f]?).map fun p => ⟨True, .ref key (off + p.1), []⟩
    | _, _ => none
def stField (ty : Ty) (t : TypeId) (x : AV) (f : Nat) : Option Out :=
  (ty t).bind fun i => match i.kind, x with
    | .struct fs, .v (.agg cs) => (fs[f]?).bind fun p => (ty p.2).bind fun fi => (ldAt (.vals cs.toList) p.1 fi.size fi.agg).map fun pv => ⟨pv.1, .v pv.2, []⟩
    | _, _ => none
def stIndexAddr (ty : Ty) (s : St) (t : TypeId) (x i : AV) : Option Out :=
  (intOf i).bind fun j => match x with
      | .rd k l => if slTy ty t = true then some ⟨0 ≤ j ∧ j < l.length, .pt (.int k (l.getD j.toNat 0)), []⟩ else none
      | .ow key => if slTy ty t = true then (s.m key).map fun c => ⟨0 ≤ j ∧ j < c.1.len, .ref key j.toNat, []⟩ else none
      | .al key lo n => if slTy ty t = true then some ⟨0 ≤ j ∧ j < n, .ref key (lo + j.toNat), []⟩ else none
      | .ows key n => (ty t).bind fun ti => match ti.kind with
        | .slice e => (ty e).map fun ei => ⟨0 ≤ j ∧ j < n, .ref key (j.toNat * ei.size), []⟩
        | _ => none
      | .ref key off => (ty t).bind fun ti => match ti.kind with
        | .arr n e => (ty e).map fun ei => ⟨0 ≤ j ∧ j < n, .ref key (off + j.toNat * ei.size), []⟩
        | _ => none
      | _ => none
def stIndex (ty : Ty) (t : TypeId) (x i : AV) : Option Out :=
  (intOf i).bind fun j => match x with
    | .v (.string b) => if strTy ty t = true then some ⟨0 ≤ j ∧ j < b.size, .v (.int .u8 (bt b j)), []⟩ else none
    | .v (.agg cs) => (ty t).bind fun ti => match ti.kind with
      | .arr n e => (ty e).bind fun ei => (ldAt (.vals cs.toList) (j.toNat * ei.size) ei.size ei.agg).map fun pv => ⟨(0 ≤ j ∧ j < n) ∧ pv.1, .v pv.2, []⟩
      | _ => none
    | _ => none
def stExtract (x : AV) (i : Nat) : Option Out :=
  match x with
    | .tup l => (l[i]?).map fun a => ⟨True, a, []⟩
    | _ => none
def stLen (ty : Ty) (s : St) (t : TypeId) (x : AV) : Option Out :=
  match x with
    | .v (.string b) => if strTy ty t = true then some ⟨True, .v (.int .i64 b.size), []⟩ else none
    | a => if slTy ty t = true then (slLen s a).map fun (n : Nat) => ⟨True, .v (.int .i64 (n : Int)), []⟩ else none
def stMax (x y : AV) : Option Out := match x, y with
    | .v (.int k a), .v (.int _ b) => some ⟨True, .v (.int k (max a b)), []⟩
    | _, _ => none
def stMin (x y : AV) : Option Out := match x, y with
    | .v (.int k a), .v (.int _ b) => some ⟨True, .v (.int k (min a b)), []⟩
    | _, _ => none
def bindRes (s : St) (d : Nat) (args : List Operand) (p : Prop) : Res → Out
  | .one r => ⟨p, outRV (16 * d) r, outMem (16 * d) r ++ (if r.isView then freezes s args else [])⟩
  | .many rs => ⟨p ∧ ¬ (rs.any RV.isView = true ∧ rs.any RV.isFresh = true), .tup (outAVs (16 * d) 0 rs), outMems (16 * d) 0 rs ++ (if rs.any RV.isView then freezes s args else [])⟩
def stCall (Γ : Gam) (s : St) (d f : Nat) (args : List Operand) : Option Out :=
  (lk Γ f).bind fun fs => (dvs s args).bind fun ds => (fs.2 ds).map fun pr => bindRes s d args pr.1 pr.2

def aStep (ty : Ty) (Γ : Gam) (s : St) (d : Nat) (op : Op) : Option Out :=
  match op with
  | .move x => some ⟨True, opd s x, []⟩
  | .assign x => some ⟨True, opd s x, []⟩
  | .pick c a b => match opd s c with
    | .v (.bool c) => some ⟨True, pickAV c (opd s a) (opd s b), []⟩
    | _ => none
  | .alloc t => (ty t).map fun i => ⟨True, .ref (16 * d) 0, [(16 * d, .vals i.zero, false)]⟩
  | .box _ x => (valOf (opd s x)).bind fun v => if Oc (vcells v) = true then some ⟨True, .ref (16 * d) 0, [(16 * d, .vals (vcells v), false)]⟩ else none
  | .build t parts => stBuild ty s t parts.toList
  | .buildSlice t n parts => stBuildSlice ty s d t n parts.toList
  | .load t x => stLoad ty s t (opd s x)
  | .binOp o t x y _ => stBin ty o t (opd s x) (opd s y)
  | .unOp o _ x => stUn o (opd s x)
  | .convert t0 t x => stConv ty s t0 t (opd s x)
  | .makeSlice t l c => stMake ty d t (opd s l) (opd s c)
  | .slice t x lo hi none => stSlice ty s t (opd s x) lo hi
  | .fieldAddr t x f => stFieldAddr ty t (opd s x) f
  | .field t x f => stField ty t (opd s x) f
  | .indexAddr t x i => stIndexAddr ty s t (opd s x) (opd s i)
  | .index t x i => stIndex ty t (opd s x) (opd s i)
  | .extract x i => stExtract (opd s x) i
  | .call ⟨.builtin .len, ⟨[x]⟩, ⟨[t]⟩⟩ => stLen ty s t (opd s x)
  | .call ⟨.builtin .max, ⟨[x, y]⟩, _⟩ => stMax (opd s x) (opd s y)
  | .call ⟨.builtin .min, ⟨[x, y]⟩, _⟩ => stMin (opd s x) (opd s y)
  | .call ⟨.value (.func f), args, _⟩ => stCall Γ s d f args.toList
  | _ => none

inductive Ex where
  | normal
  | exit (id : Nat)
  | ret

def Chk (p k : Prop) : Prop := p ∧ k
def Brk (c : Bool) (a b : Prop) : Prop := (c = true → a) ∧ (c = false → b)
def bindO (o : Option Out) (k : AV → List (Nat × Ct × Bool) → Prop) : Prop :=
  match o with
  | some out => Chk out.pre (k out.av out.mem)
  | none => False
def bindS (o : Option (Nat × Prop × Ct)) (k : Nat → Ct → Prop) : Prop :=
  match o with
  | some (key, p, c) => Chk p (k key c)
  | none => False
def aStore (ty : Ty) (s : St) (t : TypeId) (x y : Operand) : Option (Nat × Prop × Ct) :=
  match opd s x, valOf (opd s y) with
  | .ref key off, some v => match s.m key with
    | some (c, false) => if Oc (vcells v) = true ∧ (ty t).map (·.size) = some (vcells v).length then (stAt c off (vcells v)).map fun (p, c') => (key, p, c') else none
    | _ => none
  | _, _ => none
def slotOf (all : List Oper) (j : Nat) : Nat := ((all[j]?).bind (·.dst)).getD 0
inductive GR where
  | no | tt (t : Bool) | off | bad
def aGuard (all : List Oper) (s : St) (g : Option (Nat × Bool)) : GR :=
  match g with
  | none => .no
  | some (j, b) => match (all[j]?).bind (·.dst) with
    | some sl => match s.e sl with
      | some (.v (.bool c)) => .tt (c == b)
      | some (.v (.tuple _)) => .off
      | _ => .bad
    | none => .bad
def skipE (d : Option Tmp) (env : List (Nat × AV)) : List (Nat × AV) :=
  match d with
  | some d => (d, .v undef) :: env
  | none => env
def Bg (g : GR) (a : Prop) (b c d : Prop) : Prop :=
  match g with
  | .no => a
  | .off => d
  | .tt t => Brk t b c
  | .bad => False
def gset (all : List Oper) (g : Option (Nat × Bool)) (t : Bool) : List (Nat × AV) :=
  match g with
  | some (j, b) => [(slotOf all j, .v (.bool (if t then b else !b)))]
  | none => []
def Fr (mem : Mem) (d : Nat) : List (Nat × Ct × Bool) → Prop
  | [] => True
  | (k, _, fr) :: r => (fr = true ∨ (16 * d ≤ k ∧ k < 16 * d + 16 ∧ mem k = none)) ∧ Fr mem d r
end Go.AM
namespace Go.AM
variable [Lay]
open Go.RowKit (Below)

def Apart (β : Nat → Option Nat) (m : Mem) (b : Nat) : Prop := ∀ key c, m key = some (c, false) → β key ≠ some b

def bsz (w : World) (b : Nat) : Nat := match w.heap[b]? with
  | some (.cells arr _ _) => arr.size
  | _ => 0
def CapOk (w : World) (β : Nat → Option Nat) (key lo cap : Nat) : Prop := cap ≤ maxLen ∧ ∀ b, β key = some b → lo + cap ≤ bsz w b
def RepS (V : Nat → Prop) (β : Nat → Option Nat) (m : Mem) (w : World) : AV → Value → Prop
  | .v x, v => v = x
  | .pt x, v => ∃ ad : Addr, v = .pointer (some ad) ∧ w.cell? ad = some x ∧ Apart β m ad.block
  | .rd k l, v => ∃ A cap, v = .slice A l.length cap ∧ l.length ≤ cap ∧ cap ≤ maxLen ∧ (l ≠ [] → ∃ ad : Addr, A = some ad ∧ (V ad.block ∧ Apart β m ad.block) ∧ ∀ i, i < l.length → w.cell? (ad.add i) = some (.int k (l.getD i 0)))
  | .ref key off, v => (m key).isSome = true ∧ ∃ b, β key = some b ∧ v = .pointer (some ⟨b, off, none⟩)
  | .ow key, v => ∃ c fr cap, m key = some (c, fr) ∧ CapOk w β key 0 cap ∧ c.len ≤ cap ∧ ((β key = none ∧ c.len = 0 ∧ v = .slice none 0 0) ∨ ∃ b, β key = some b ∧ v = .slice (some ⟨b, 0, none⟩) c.len cap)
  | .al key lo n, v => (∃ c fr, m key = some (c, fr) ∧ lo + n ≤ c.len) ∧ ∃ A cap, v = .slice A n cap ∧ n ≤ cap ∧ CapOk w β key lo cap ∧ (0 < n ∨ lo = 0 → (β key = none ∧ A = none ∧ n = 0 ∧ cap = 0) ∨ ∃ b, β key = some b ∧ A = some ⟨b, lo, none⟩)
  | .ows key n, v => ∃ c fr cap b, m key = some (c, fr) ∧ β key = some b ∧ n ≤ cap ∧ cap ≤ maxLen ∧ v = .slice (some ⟨b, 0, none⟩) n cap
  | .tup _, _ => False
  | .dead, _ => True

def RepL (V : Nat → Prop) (β : Nat → Option Nat) (m : Mem) (w : World) : List AV → List Value → Prop
  | [], [] => True
  | a :: as, v :: vs => RepS V β m w a v ∧ RepL V β m w as vs
  | _, _ => False

def RepA (V : Nat → Prop) (β : Nat → Option Nat) (m : Mem) (w : World) : AV → Value → Prop
  | .tup l, v => ∃ vs : List Value, v = .tuple vs.toArray ∧ RepL V β m w l vs
  | a, v => RepS V β m w a v

def MemOk (B : Nat) (β : Nat → Option Nat) (m : Mem) (w : World) : Prop :=
  ∀ key c fr, m key = some (c, fr) → Oc c.cells = true ∧ ((β key = none ∧ c.len = 0) ∨
    ∃ b arr T rest, β key = some b ∧ B ≤ b ∧ w.heap[b]? = some (.cells arr T (0, 0)) ∧ arr.toList = c.cells ++ rest)
def Inj (β : Nat → Option Nat) (m : Mem) : Prop := ∀ k k' b, (m k).isSome = true → (m k').isSome = true → β k = some b → β k' = some b → k = k'

structure RepB (V : Nat → Prop) (β : Nat → Option Nat) (w0 : World) (N : Nat) (e : Env) (m : Mem) (a : Act) (w : World) : Prop where
  fresh : (∀ b, w0.heap.size ≤ b → V b) ∧ Lay.T w0
  below : Below w0.heap.size w0 w
  size : a.tmps.size = N
  defers : a.defers = []
  mem : MemOk w0.heap.size β m w
  inj : Inj β m
  slots : ∀ k av, e k = some av → ∃ v, a.tmps[k]? = some v ∧ RepA V β m w av v
def Rep (V : Nat → Prop) (w0 : World) (N : Nat) (e : Env) (m : Mem) (a : Act) (w : World) : Prop := ∃ β, RepB V β w0 N e m a w

theorem Ct.length_cells (c : Ct) : c.cells.length = c.len := by cases c <;> simp [Ct.cells, Ct.len]

structure Ext (w w' : World) : Prop where
  os : w'.os = w.os
  tape : w'.tape = w.tape
  output : w'.output = w.output
  size : w.heap.size ≤ w'.heap.size
  block : ∀ k, k < w.heap.size → w'.heap[k]? = w.heap[k]?
theorem Ext.refl (w : World) : Ext w w := ⟨rfl, rfl, rfl, Nat.le_refl _, fun _ _ => rfl⟩
theorem Ext.of_below {w w' : World} (h : Below w.heap.size w w') : Ext w w' := ⟨h.os, h.tape, h.output, h.size, h.block⟩
theorem Ext.alloc (w : World) (o : Obj) : Ext w (w.alloc o) := ⟨rfl, rfl, rfl, by simp, fun k hk => heap_alloc_old w o k hk⟩
theorem Ext.drew (w : World) : Ext w w.drew := ⟨rfl, rfl, rfl, Nat.le_refl _, fun _ _ => rfl⟩
theorem Ext.cell {w w' : World} (h : Ext w w') {a : Addr} {v : Value} (hc : w.cell? a = some v) : w'.cell? a = some v :=
  (World.cell?_of_block (w := w) (h.block a.block (World.block_lt_of_cell? w a hc))).trans hc
theorem Ext.heap {w w' : World} (h : Ext w w') {b : Nat} {o : Obj} (hb : w.heap[b]? = some o) : w'.heap[b]? = some o :=
  (h.block b (Array.getElem?_eq_some_iff.1 hb).1).trans hb
theorem Ext.below {w0 w w' : World} (h : Ext w w') (hb : Below w0.heap.size w0 w) : Below w0.heap.size w0 w' :=
  hb.trans ⟨h.os, h.tape, h.output, h.size, fun k hk => h.block k (Nat.lt_of_lt_of_le hk hb.size)⟩

theorem bsz_ext {w w' : World} (h : Ext w w') (b : Nat) : bsz w b ≤ bsz w' b := by
  by_cases hb : b < w.heap.size
  · unfold bsz; rw [h.block b hb]; exact Nat.le_refl _
  · have : w.heap[b]? = none := Array.getElem?_eq_none (by omega)
    simp [bsz, this]
theorem CapOk.mono {w w' : World} {β β' : Nat → Option Nat} {key key' lo cap : Nat} (h : CapOk w β key lo cap) (hβ : β' key' = β key) (hw : ∀ b, β key = some b → bsz w b ≤ bsz w' b) : CapOk w' β' key' lo cap :=
  ⟨h.1, fun b hb => Nat.le_trans (h.2 b (hβ ▸ hb)) (hw b (hβ ▸ hb))⟩
theorem RepS.ext {V : Nat → Prop} {β m} {w w' : World} (h : Ext w w') : ∀ {av v}, RepS V β m w av v → RepS V β m w' av v := by
  intro av v hr
  cases av with
  | v x => exact hr
  | pt x => obtain ⟨ad, h1, h2, h3⟩ := hr; exact ⟨ad, h1, h.cell h2, h3⟩
  | rd k l => obtain ⟨A, cap, h1, h2, h3, h4⟩ := hr; exact ⟨A, cap, h1, h2, h3, fun hl => by obtain ⟨ad, e, hap, hc⟩ := h4 hl; exact ⟨ad, e, hap, fun i hi => h.cell (hc i hi)⟩⟩
  | ref key off => exact hr
  | ow key => obtain ⟨c, fr, cap, h1, h2, h3⟩ := hr; exact ⟨c, fr, cap, h1, h2.mono rfl (fun b _ => bsz_ext h b), h3⟩
  | al key lo n => obtain ⟨h0, A, cap, h1, h2, h3, h4⟩ := hr; exact ⟨h0, A, cap, h1, h2, h3.mono rfl (fun b _ => bsz_ext h b), h4⟩
  | ows key n => exact hr
  | tup l => exact hr
  | dead => trivial
theorem RepL.ext {V : Nat → Prop} {β m} {w w' : World} (h : Ext w w') : ∀ {l vs}, RepL V β m w l vs → RepL V β m w' l vs
  | [], [], _ => trivial
  | _ :: _, _ :: _, ⟨h1, h2⟩ => ⟨h1.ext h, RepL.ext h h2⟩
  | [], _ :: _, h => h
  | _ :: _, [], h => h
theorem RepA.ext {V : Nat → Prop} {β m} {w w' : World} (h : Ext w w') {av v} (hr : RepA V β m w av v) : RepA V β m w' av v := by
  cases av with
  | tup l => obtain ⟨vs, e, hl⟩ := hr; exact ⟨vs, e, RepL.ext h hl⟩
  | v x => exact hr
  | pt x => exact RepS.ext (V := V) h (av := .pt x) hr
  | rd k l => exact RepS.ext (V := V) h (av := .rd k l) hr
  | ref key off => exact RepS.ext (V := V) h (av := .ref key off) hr
  | ow key => exact RepS.ext (V := V) h (av := .ow key) hr
  | al key lo n => exact RepS.ext (V := V) h (av := .al key lo n) hr
  | ows key n => exact RepS.ext (V := V) h (av := .ows key n) hr
  | dead => trivial
theorem MemOk.ext {B β m} {w w' : World} (h : Ext w w') (hm : MemOk B β m w) : MemOk B β m w' := fun key c fr hk => by
  obtain ⟨ho, hb⟩ := hm key c fr hk
  refine ⟨ho, ?_⟩
  rcases hb with hb | ⟨b, arr, T, rest, h1, h2, h3, h4⟩
  · exact .inl hb
  · exact .inr ⟨b, arr, T, rest, h1, h2, h.heap h3, h4⟩

theorem RepS.keys {V : Nat → Prop} {β β' m m'} {w : World} (hb : ∀ key, (m key).isSome = true → β' key = β key) (hm : ∀ key c fr, m key = some (c, fr) → ∃ c' fr', m' key = some (c', fr') ∧ c'.len = c.len)
    (hap : ∀ b, b < w.heap.size → Apart β m b → Apart β' m' b) : ∀ {av v}, RepS V β m w av v → RepS V β' m' w av v := by
  intro av v hr
  have hs : ∀ key, (m key).isSome = true → (m' key).isSome = true := fun key h => by
    obtain ⟨⟨c, fr⟩, hc⟩ := Option.isSome_iff_exists.1 h
    obtain ⟨c', fr', hc', _⟩ := hm key c fr hc
    simp [hc']
  cases av with
  | v x => exact hr
  | pt x => obtain ⟨ad, h1, h2, h3⟩ := hr; exact ⟨ad, h1, h2, hap _ (World.block_lt_of_cell? w ad h2) h3⟩
  | rd k l =>
    obtain ⟨A, cap, h1, h2, h3, h4⟩ := hr
    refine ⟨A, cap, h1, h2, h3, fun hl => ?_⟩
    obtain ⟨ad, e, hp, hc⟩ := h4 hl
    refine ⟨ad, e, ⟨hp.1, hap _ ?_ hp.2⟩, hc⟩
    have h0 := World.block_lt_of_cell? w _ (hc 0 (List.length_pos_iff.2 hl))
    unfold Addr.add at h0
    split at h0 <;> simpa using h0
  | ref key off => obtain ⟨h0, b, h1, h2⟩ := hr; exact ⟨hs _ h0, b, (hb _ h0).trans h1, h2⟩
  | ow key =>
    obtain ⟨c, fr, cap, h1, h2, h3, h4⟩ := hr
    obtain ⟨c', fr', h1', hl⟩ := hm key c fr h1
    have hbk := hb key (by simp [h1])
    exact ⟨c', fr', cap, h1', h2.mono hbk (fun b _ => Nat.le_refl _), hl ▸ h3, by rw [hbk, hl]; exact h4⟩
  | al key lo n =>
    obtain ⟨⟨c, fr, h0, hl⟩, A, cap, h1, h2, h3, h4⟩ := hr
    obtain ⟨c', fr', h0', hl'⟩ := hm key c fr h0
    exact ⟨⟨c', fr', h0', by omega⟩, A, cap, h1, h2, h3.mono (hb key (by simp [h0])) (fun b _ => Nat.le_refl _), fun hn => by rw [hb key (by simp [h0])]; exact h4 hn⟩
  | ows key n =>
    obtain ⟨c, fr, cap, b, h0, h1, h2, h3, h4⟩ := hr
    obtain ⟨c', fr', h0', _⟩ := hm key c fr h0
    exact ⟨c', fr', cap, b, h0', (hb key (by simp [h0])).trans h1, h2, h3, h4⟩
  | tup l => exact hr
  | dead => trivial
theorem RepL.keys {V : Nat → Prop} {β β' m m'} {w : World} (hb : ∀ key, (m key).isSome = true → β' key = β key) (hm : ∀ key c fr, m key = some (c, fr) → ∃ c' fr', m' key = some (c', fr') ∧ c'.len = c.len)
    (hap : ∀ b, b < w.heap.size → Apart β m b → Apart β' m' b) : ∀ {l vs}, RepL V β m w l vs → RepL V β' m' w l vs
  | [], [], _ => trivial
  | _ :: _, _ :: _, ⟨h1, h2⟩ => ⟨h1.keys hb hm hap, RepL.keys hb hm hap h2⟩
  | [], _ :: _, h => h
  | _ :: _, [], h => h
theorem RepA.of_S {V : Nat → Prop} {β m w av v} (h : RepS V β m w av v) : RepA V β m w av v := by
  cases av with
  | tup l => exact h.elim
  | _ => exact h
theorem RepA.keys {V : Nat → Prop} {β β' m m'} {w : World} (hb : ∀ key, (m key).isSome = true → β' key = β key) (hm : ∀ key c fr, m key = some (c, fr) → ∃ c' fr', m' key = some (c', fr') ∧ c'.len = c.len)
    (hap : ∀ b, b < w.heap.size → Apart β m b → Apart β' m' b) {av v} (hr : RepA V β m w av v) : RepA V β' m' w av v := by
  cases av with
  | tup l => obtain ⟨vs, e, hl⟩ := hr; exact ⟨vs, e, RepL.keys hb hm hap hl⟩
  | v x => exact hr
  | pt x => exact RepS.keys (V := V) hb hm hap (av := .pt x) hr
  | rd k l => exact RepS.keys (V := V) hb hm hap (av := .rd k l) hr
  | ref key off => exact RepS.keys (V := V) hb hm hap (av := .ref key off) hr
  | ow key => exact RepS.keys (V := V) hb hm hap (av := .ow key) hr
  | al key lo n => exact RepS.keys (V := V) hb hm hap (av := .al key lo n) hr
  | ows key n => exact RepS.keys (V := V) hb hm hap (av := .ows key n) hr
  | dead => trivial

section
variable {V : Nat → Prop} {β : Nat → Option Nat} {w0 w w' : World} {N : Nat} {e : Env} {m : Mem} {a : Act}
theorem RepB.opd (h : RepB V β w0 N e m a w) (x : Operand) : RepA V β m w (opd ⟨e, m⟩ x) (a.eval x) := by
  cases x with
  | tmp t =>
    simp only [AM.opd, Act.eval]
    cases he : e t with
    | none => exact trivial
    | some av =>
      obtain ⟨v, hv, hr⟩ := h.slots t av he
      have : a.tmps.getD t undef = v := by simp [hv]
      rw [this]
      exact hr
  | const v => rfl
  | global g => exact trivial
  | func f => rfl
theorem RepB.ext (h : RepB V β w0 N e m a w) (hx : Ext w w') : RepB V β w0 N e m a w' :=
  ⟨h.fresh, hx.below h.below, h.size, h.defers, h.mem.ext hx, h.inj, fun k av he => by obtain ⟨v, hv, hr⟩ := h.slots k av he; exact ⟨v, hv, hr.ext hx⟩⟩
theorem lk_cons (d : Nat) {α : Type} (x : α) (l : List (Nat × α)) (k : Nat) : lk ((d, x) :: l) k = if k = d then some x else lk l k := rfl
theorem RepB.put {env : List (Nat × AV)} (h : RepB V β w0 N (lk env) m a w) {d : Nat} (hd : d < N) {av : AV} {v : Value} (hv : RepA V β m w av v) :
    RepB V β w0 N (lk ((d, av) :: env)) m (a.put (some d) v) w := by
  refine ⟨h.fresh, h.below, by simp [Act.put, h.size], h.defers, h.mem, h.inj, fun k av' he => ?_⟩
  rw [lk_cons] at he
  by_cases hk : k = d
  · subst hk
    simp only [if_true] at he
    cases he
    exact ⟨v, by simp [Act.put, h.size, hd], hv⟩
  · rw [if_neg hk] at he
    obtain ⟨u, hu, hr⟩ := h.slots k av' he
    exact ⟨u, by simp only [Act.put]; rw [Array.getElem?_setIfInBounds_ne (by omega)]; exact hu, hr⟩
def addβ (adds : List (Nat × Ct × Option Nat)) (β : Nat → Option Nat) (key : Nat) : Option Nat :=
  match lk adds key with
  | some (_, bo) => bo
  | none => β key
def addm (adds : List (Nat × Ct × Option Nat)) (m : Mem) : Mem := fun key =>
  match lk adds key with
  | some (c, _) => some (c, false)
  | none => m key
theorem RepB.adds (h : RepB V β w0 N e m a w) (hx : Ext w w') (adds : List (Nat × Ct × Option Nat)) (hf : ∀ key x, lk adds key = some x → m key = none)
    (hok : ∀ key c bo, lk adds key = some (c, bo) → Oc c.cells = true ∧ ((bo = none ∧ c.len = 0) ∨
      ∃ b arr T rest, bo = some b ∧ w.heap.size ≤ b ∧ w'.heap[b]? = some (.cells arr T (0, 0)) ∧ arr.toList = c.cells ++ rest))
    (hi : ∀ k k' c c' b, lk adds k = some (c, some b) → lk adds k' = some (c', some b) → k = k') :
    RepB V (addβ adds β) w0 N e (addm adds m) a w' := by
  have hlt : ∀ key b, (m key).isSome = true → β key = some b → b < w.heap.size := fun key b hs hb => by
    obtain ⟨⟨c, fr⟩, hc⟩ := Option.isSome_iff_exists.1 hs
    obtain ⟨_, h1 | ⟨b', arr, T, rest, h1, _, h3, _⟩⟩ := h.mem key c fr hc
    · rw [hb] at h1; exact absurd h1.1 (by simp)
    · rw [hb] at h1; cases h1; exact (Array.getElem?_eq_some_iff.1 h3).1
  have hold : ∀ key, (m key).isSome = true → lk adds key = none := fun key hs => by
    cases hl : lk adds key with
    | none => rfl
    | some x => rw [hf key x hl] at hs; cases hs
  have hβ : ∀ key, (m key).isSome = true → addβ adds β key = β key := fun key hs => by simp [addβ, hold key hs]
  have hm : ∀ key c fr, m key = some (c, fr) → ∃ c' fr', addm adds m key = some (c', fr') ∧ c'.len = c.len := fun key c fr hk => ⟨c, fr, by simp [addm, hold key (by simp [hk]), hk], rfl⟩
  refine ⟨h.fresh, hx.below h.below, h.size, h.defers, ?_, ?_, fun k av he => ?_⟩
  · intro key c fr hk
    unfold addm at hk
    cases hl : lk adds key with
    | none =>
      simp only [hl] at hk
      have := h.mem.ext hx key c fr hk
      simpa [addβ, hl] using this
    | some x =>
      obtain ⟨c', bo⟩ := x
      simp only [hl, Option.some.injEq, Prod.mk.injEq] at hk
      obtain ⟨rfl, rfl⟩ := hk
      obtain ⟨ho, hr⟩ := hok key c' bo hl
      refine ⟨ho, ?_⟩
      rcases hr with ⟨rfl, h0⟩ | ⟨b, arr, T, rest, rfl, h2, h3, h4⟩
      · exact .inl ⟨by simp [addβ, hl], h0⟩
      · exact .inr ⟨b, arr, T, rest, by simp [addβ, hl], Nat.le_trans h.below.size h2, h3, h4⟩
  · intro k k' b hk hk' hb hb'
    have key : ∀ k, (addm adds m k).isSome = true → addβ adds β k = some b → (∃ c, lk adds k = some (c, some b) ∧ w.heap.size ≤ b) ∨ ((m k).isSome = true ∧ β k = some b ∧ b < w.heap.size) := fun k hk hb => by
      cases hl : lk adds k with
      | none =>
        simp only [addm, hl] at hk
        simp only [addβ, hl] at hb
        exact .inr ⟨hk, hb, hlt k b hk hb⟩
      | some x =>
        obtain ⟨c, bo⟩ := x
        simp only [addβ, hl] at hb
        subst hb
        obtain ⟨_, h1 | ⟨b', _, _, _, h1, h2, _⟩⟩ := hok k c (some b) hl
        · exact absurd h1.1 (by simp)
        · cases h1; exact .inl ⟨c, rfl, h2⟩
    rcases key k hk hb with ⟨c, h1, h2⟩ | ⟨h1, h2, h3⟩
    · rcases key k' hk' hb' with ⟨c', h1', _⟩ | ⟨_, _, h3'⟩
      · exact hi k k' c c' b h1 h1'
      · omega
    · rcases key k' hk' hb' with ⟨c', _, h2'⟩ | ⟨h1', h2', _⟩
      · omega
      · exact h.inj k k' b h1 h1' h2 h2'
  · obtain ⟨v, hv, hr⟩ := h.slots k av he
    refine ⟨v, hv, RepA.ext hx (RepA.keys hβ hm (fun b hb hap => ?_) hr)⟩
    intro key c hk hbk
    unfold addm at hk
    cases hl : lk adds key with
    | none =>
      simp only [hl] at hk
      simp only [addβ, hl] at hbk
      exact hap key c hk hbk
    | some x =>
      obtain ⟨c', bo⟩ := x
      simp only [addβ, hl] at hbk
      subst hbk
      obtain ⟨_, h1 | ⟨b', _, _, _, h1, h2, _⟩⟩ := hok key c' (some b) hl
      · exact absurd h1.1 (by simp)
      · cases h1; omega
theorem RepB.freeze (h : RepB V β w0 N e m a w) {m' : Mem} (hm : ∀ key, m' key = m key ∨ ∃ c fr, m key = some (c, fr) ∧ m' key = some (c, true)) : RepB V β w0 N e m' a w := by
  have hback : ∀ key c fr, m' key = some (c, fr) → ∃ fr', m key = some (c, fr') ∧ (fr = false → fr' = false) := fun key c fr hk => by
    rcases hm key with h1 | ⟨c', fr', h1, h2⟩
    · exact ⟨fr, h1 ▸ hk, id⟩
    · rw [h2] at hk; simp only [Option.some.injEq, Prod.mk.injEq] at hk; obtain ⟨rfl, rfl⟩ := hk; exact ⟨fr', h1, fun h => by cases h⟩
  have hforth : ∀ key c fr, m key = some (c, fr) → ∃ c' fr', m' key = some (c', fr') ∧ c'.len = c.len := fun key c fr hk => by
    rcases hm key with h1 | ⟨c', fr', h1, h2⟩
    · exact ⟨c, fr, h1.trans hk, rfl⟩
    · rw [h1] at hk; simp only [Option.some.injEq, Prod.mk.injEq] at hk; obtain ⟨rfl, rfl⟩ := hk; exact ⟨c', true, h2, rfl⟩
  have hsome : ∀ key, (m' key).isSome = true → (m key).isSome = true := fun key hs => by
    obtain ⟨⟨c, fr⟩, hc⟩ := Option.isSome_iff_exists.1 hs
    obtain ⟨fr', h1, _⟩ := hback key c fr hc
    simp [h1]
  refine ⟨h.fresh, h.below, h.size, h.defers, fun key c fr hk => ?_, fun k k' b hk hk' => h.inj k k' b (hsome _ hk) (hsome _ hk'), fun k av he => ?_⟩
  · obtain ⟨fr', h1, _⟩ := hback key c fr hk
    exact h.mem key c fr' h1
  · obtain ⟨v, hv, hr⟩ := h.slots k av he
    refine ⟨v, hv, RepA.keys (fun _ _ => rfl) hforth (fun b _ hap key c hk => ?_) hr⟩
    obtain ⟨fr', h1, h2⟩ := hback key c false hk
    rw [h2 rfl] at h1
    exact hap key c h1
end
end Go.AM
namespace Go.AM
variable [Lay]
open Go.RowKit (Below)
variable {P : Program} {V : Nat → Prop} {β : Nat → Option Nat} {w0 w w' : World} {N : Nat} {e : Env} {m : Mem} {a : Act}

theorem RepS.row {b : Nat} {arr' : Array Value} (hb : ∀ blk, Apart β m blk → blk ≠ b) (hz : ∀ c, bsz w c ≤ bsz (w.setRow b arr') c) : ∀ {av v}, RepS V β m w av v → RepS V β m (w.setRow b arr') av v := by
  intro av v hr
  have hc : ∀ {ad : Addr} {x : Value}, Apart β m ad.block → w.cell? ad = some x → (w.setRow b arr').cell? ad = some x := fun {ad x} hap hx =>
    (World.cell?_of_block (w := w) (setRow_other w b ad.block arr' (hb _ hap))).trans hx
  have hadd : ∀ (ad : Addr) (i : Nat), (ad.add i).block = ad.block := fun ad i => by unfold Addr.add; split <;> rfl
  cases av with
  | pt x => obtain ⟨ad, h1, h2, h3⟩ := hr; exact ⟨ad, h1, hc h3 h2, h3⟩
  | rd k l => obtain ⟨A, cap, h1, h2, h3, h4⟩ := hr; exact ⟨A, cap, h1, h2, h3, fun hl => by obtain ⟨ad, e, hap, hcc⟩ := h4 hl; exact ⟨ad, e, hap, fun i hi => hc (by rw [hadd]; exact hap.2) (hcc i hi)⟩⟩
  | ow key => obtain ⟨c, fr, cap, h1, h2, h3⟩ := hr; exact ⟨c, fr, cap, h1, h2.mono rfl (fun b _ => hz b), h3⟩
  | al key lo n => obtain ⟨h0, A, cap, h1, h2, h3, h4⟩ := hr; exact ⟨h0, A, cap, h1, h2, h3.mono rfl (fun b _ => hz b), h4⟩
  | _ => exact hr
theorem RepL.row {b : Nat} {arr' : Array Value} (hb : ∀ blk, Apart β m blk → blk ≠ b) (hz : ∀ c, bsz w c ≤ bsz (w.setRow b arr') c) : ∀ {l vs}, RepL V β m w l vs → RepL V β m (w.setRow b arr') l vs
  | [], [], _ => trivial
  | _ :: _, _ :: _, ⟨h1, h2⟩ => ⟨h1.row hb hz, RepL.row hb hz h2⟩
  | [], _ :: _, h => h
  | _ :: _, [], h => h
theorem RepA.row {b : Nat} {arr' : Array Value} (hb : ∀ blk, Apart β m blk → blk ≠ b) (hz : ∀ c, bsz w c ≤ bsz (w.setRow b arr') c) {av v} (hr : RepA V β m w av v) : RepA V β m (w.setRow b arr') av v := by
  cases av with
  | tup l => obtain ⟨vs, e, hl⟩ := hr; exact ⟨vs, e, RepL.row hb hz hl⟩
  | v x => exact hr
  | pt x => exact RepS.row (V := V) hb hz (av := .pt x) hr
  | rd k l => exact RepS.row (V := V) hb hz (av := .rd k l) hr
  | ref key off => exact hr
  | ow key => exact RepS.row (V := V) hb hz (av := .ow key) hr
  | al key lo n => exact RepS.row (V := V) hb hz (av := .al key lo n) hr
  | ows key n => exact hr
  | dead => trivial

theorem RepB.store (h : RepB V β w0 N e m a w) {key : Nat} {c c' : Ct} {b : Nat} {arr arr' : Array Value} {T : TypeId} {rest : List Value} (hk : m key = some (c, false)) (hb : β key = some b) (hB : w0.heap.size ≤ b)
    (hh : w.heap[b]? = some (.cells arr T (0, 0))) (hlen : c'.len = c.len) (hok : Oc c'.cells = true) (ha' : arr'.toList = c'.cells ++ rest) (hsz : arr.size ≤ arr'.size) :
    RepB V β w0 N e (fun k => if k = key then some (c', false) else m k) a (w.setRow b arr') := by
  have hm : ∀ k c1 fr, m k = some (c1, fr) → ∃ c2 fr', (if k = key then some (c', false) else m k) = some (c2, fr') ∧ c2.len = c1.len := fun k c1 fr hk1 => by
    by_cases hkk : k = key
    · subst hkk
      rw [hk] at hk1
      simp only [Option.some.injEq, Prod.mk.injEq] at hk1
      exact ⟨c', false, by simp, by rw [← hk1.1]; exact hlen⟩
    · exact ⟨c1, fr, by simp [hkk, hk1], rfl⟩
  have hapart : ∀ blk, Apart β m blk → blk ≠ b := fun blk hap e => hap key c hk (e ▸ hb)
  have hsome : ∀ k, ((if k = key then some (c', false) else m k) : Option (Ct × Bool)).isSome = true → (m k).isSome = true := fun k hs => by
    by_cases hkk : k = key
    · subst hkk; simp [hk]
    · simpa [hkk] using hs
  have hz : ∀ c, bsz w c ≤ bsz (w.setRow b arr') c := fun c => by
    by_cases hcb : c = b
    · subst hcb; unfold bsz; rw [hh, setRow_heap w c arr arr' T (0, 0) hh]; exact hsz
    · unfold bsz; rw [setRow_other w b c arr' hcb]; exact Nat.le_refl _
  refine ⟨h.fresh, ?_, h.size, h.defers, ?_, fun k k' b' hk1 hk2 => h.inj k k' b' (hsome _ hk1) (hsome _ hk2), fun k av he => ?_⟩
  · exact h.below.trans ⟨rfl, rfl, rfl, by simp, fun j hj => setRow_other w b j arr' (by omega)⟩
  · intro k c1 fr hk1
    by_cases hkk : k = key
    · subst hkk
      simp only [if_true, Option.some.injEq, Prod.mk.injEq] at hk1
      obtain ⟨rfl, rfl⟩ := hk1
      exact ⟨hok, .inr ⟨b, arr', T, rest, hb, hB, setRow_heap w b arr arr' T (0, 0) hh, ha'⟩⟩
    · simp only [if_neg hkk] at hk1
      obtain ⟨ho, h1 | ⟨b1, arr1, T1, rest1, h1, h2, h3, h4⟩⟩ := h.mem k c1 fr hk1
      · exact ⟨ho, .inl h1⟩
      · refine ⟨ho, .inr ⟨b1, arr1, T1, rest1, h1, h2, ?_, h4⟩⟩
        rw [setRow_other w b b1 arr' (fun e => hkk (h.inj k key b1 (by simp [hk1]) (by simp [hk]) h1 (e ▸ hb)))]
        exact h3
  · obtain ⟨v, hv, hr⟩ := h.slots k av he
    refine ⟨v, hv, RepA.keys (fun _ _ => rfl) hm (fun blk _ hap k1 c1 hk1 => ?_) (RepA.row hapart hz hr)⟩
    by_cases hkk : k1 = key
    · subst hkk; exact hap k1 c hk
    · simp only [if_neg hkk] at hk1; exact hap k1 c1 hk1

structure TyOk (P : Program) (t : TypeId) (i : TI) : Prop where
  info : ∃ q : TypeInfo, P.info? t = some q ∧ q.size = i.size ∧ q.bytes = i.bytes ∧ ∃ z, q.zero = some z ∧ z.cells.toList = i.zero
  zero : Oc i.zero = true ∧ i.zero.length = i.size
  kind : match i.kind with
    | .int k => P.underlying t = some (.int k) ∧ i.agg = false ∧ i.zero = [.int k 0] ∧ i.size = 1
    | .bool => P.underlying t = some .bool ∧ i.agg = false
    | .str => P.underlying t = some .string ∧ i.agg = false
    | .float k => P.underlying t = some (.float k) ∧ i.agg = false
    | .arr n el => P.underlying t = some (.array n el) ∧ i.agg = true
    | .slice el => P.underlying t = some (.slice el) ∧ i.agg = false
    | .struct fs => i.agg = true ∧ ∃ fields : Array Field, P.underlying t = some (.struct fields) ∧ fields.toList.map (fun f => (f.offset, f.type)) = fs ∧ ∀ f ∈ fields, ∃ q, P.info? f.type = some q ∧ q.size ≠ 0
    | .other => False
  eq : i.leaf ≠ [] → P.eqGuardType P.depth t = false ∧ ∀ (xs ys : Array Value) (b : Bool) (w : World), fits i.leaf xs.toList = true → fits i.leaf ys.toList = true → leafEq xs.toList ys.toList = some b → (Op.equal t (.agg xs) (.agg ys)).run P w = .ok b w
def TysOk (P : Program) (ty : Ty) : Prop := ∀ t i, ty t = some i → TyOk P t i

theorem TyOk.run_size {t : TypeId} {i : TI} (h : TyOk P t i) (w : World) : (sizeOf t).run P w = .ok i.size w := by
  obtain ⟨q, h1, h2, _⟩ := h.info
  simp [sizeOf, typeInfo, h1, h2]
theorem TyOk.run_isAgg {t : TypeId} {i : TI} (h : TyOk P t i) (w : World) : (isAgg t).run P w = .ok i.agg w := by
  have hk := h.kind
  unfold isAgg
  cases hi : i.kind <;> simp only [hi] at hk <;> first
    | (obtain ⟨h1, h2, _, _⟩ := hk; simp [run_underlying h1, h2])
    | (obtain ⟨h1, h2⟩ := hk; simp [run_underlying h1, h2])
    | (obtain ⟨h2, fs, h1, _⟩ := hk; simp [run_underlying h1, h2])
    | exact hk.elim
theorem TyOk.run_zero {t : TypeId} {i : TI} (h : TyOk P t i) (w : World) : ∃ z, (zeroValue t).run P w = .ok z w ∧ z.cells.toList = i.zero := by
  obtain ⟨q, h1, _, _, z, h2, h3⟩ := h.info
  exact ⟨z, by simp [zeroValue, typeInfo, h1, h2], h3⟩

theorem Addr.add_plain (b o i : Nat) : (⟨b, o, none⟩ : Addr).add i = ⟨b, o + i, none⟩ := by unfold Addr.add; split <;> simp_all

theorem okCells_mem : ∀ {l : List Value}, Oc l = true → ∀ v ∈ l, v.oneCell' = true
  | [], _, _, h => by simp at h
  | x :: r, ho, v, hv => by
    have hr : Oc r = true ∧ x.oneCell' = true := by cases x <;> simp_all [Oc, Value.oneCell']
    rcases List.mem_cons.1 hv with rfl | h
    · exact hr.2
    · exact okCells_mem hr.1 v h
theorem okCells_of : ∀ {l : List Value}, (∀ v ∈ l, v.oneCell' = true) → Oc l = true
  | [], _ => rfl
  | x :: r, h => by
    have h1 := h x (by simp)
    have h2 := okCells_of (l := r) fun v hv => h v (by simp [hv])
    cases x <;> simp_all [Oc, Value.oneCell']

def Yes (P : Program) (V : Nat → Prop) (o : Oper) (w0 : World) (N : Nat) (e : Env) (m' : Mem) (a : Act) (w : World) (av : AV) : Prop :=
  ∃ v w' β', (execOp a.eval o).run P w = .ok (.value v) w' ∧ RepB V β' w0 N e m' a w' ∧ RepA V β' m' w' av v

variable {ty : Ty} {Γ : Gam} {d : Option Tmp} {tt : TypeId} {pos : String} {after : Array Edge} {g : Option (Nat × Bool)}
theorem Yes.same (h : RepB V β w0 N e m a w) {o : Oper} {v : Value} {av : AV} (hr : (execOp a.eval o).run P w = .ok (.value v) w) (hv : RepA V β m w av v) : Yes P V o w0 N e m a w av :=
  ⟨v, w, β, hr, h, hv⟩

theorem yes_move (h : RepB V β w0 N e m a w) (x : Operand) : Yes P V ⟨d, .move x, tt, pos, after, g⟩ w0 N e m a w (opd ⟨e, m⟩ x) :=
  .same h (by simp [execOp]) (h.opd x)
theorem yes_assign (h : RepB V β w0 N e m a w) (x : Operand) : Yes P V ⟨d, .assign x, tt, pos, after, g⟩ w0 N e m a w (opd ⟨e, m⟩ x) :=
  .same h (by simp [execOp]) (h.opd x)
theorem opd_v (h : RepB V β w0 N e m a w) {x : Operand} {v : Value} (hx : opd ⟨e, m⟩ x = .v v) : a.eval x = v := by
  have := h.opd x
  rw [hx] at this
  exact this
theorem pickAV_ok (c : Bool) (x y : AV) (u v : Value) (hx : RepA V β m w x u) (hy : RepA V β m w y v) : RepA V β m w (pickAV c x y) (if c then u else v) := by
  unfold pickAV
  split
  · rename_i x y
    have h1 : u = .bool x := hx
    have h2 : v = .bool y := hy
    subst h1 h2
    cases c <;> exact rfl
  · cases c <;> simp_all
theorem yes_pick (h : RepB V β w0 N e m a w) {c x y : Operand} {b : Bool} (hc : opd ⟨e, m⟩ c = .v (.bool b)) :
    Yes P V ⟨d, .pick c x y, tt, pos, after, g⟩ w0 N e m a w (pickAV b (opd ⟨e, m⟩ x) (opd ⟨e, m⟩ y)) := by
  refine .same h ?_ (pickAV_ok b _ _ _ _ (h.opd x) (h.opd y))
  simp only [execOp, opd_v h hc, asBool]
  cases b <;> simp
theorem adds_one (key : Nat) (c : Ct) (bo : Option Nat) : addm [(key, c, bo)] m = fun k => if k = key then some (c, false) else m k := by
  funext k
  simp only [addm, lk]
  by_cases hk : k = key <;> simp [hk]
theorem RepB.alloc1 (h : RepB V β w0 N e m a w) {key : Nat} (hk : m key = none) (c : Ct) (hc : Oc c.cells = true) (arr : Array Value) (ha : arr.toList = c.cells) (T : TypeId) :
    RepB V (addβ [(key, c, some w.heap.size)] β) w0 N e (fun k => if k = key then some (c, false) else m k) a (w.alloc (.cells arr T)) := by
  rw [← adds_one key c (some w.heap.size)]
  refine h.adds (Ext.alloc w _) _ ?_ ?_ ?_
  · intro k x hx
    simp only [lk] at hx
    split at hx
    · rename_i hkk; subst hkk; exact hk
    · cases hx
  · intro k c1 bo hx
    simp only [lk] at hx
    split at hx
    · simp only [Option.some.injEq, Prod.mk.injEq] at hx
      obtain ⟨rfl, rfl⟩ := hx
      exact ⟨hc, .inr ⟨w.heap.size, arr, T, [], rfl, Nat.le_refl _, heap_alloc_new w _, by simpa using ha⟩⟩
    · cases hx
  · intro k k' c1 c2 b hx hx'
    simp only [lk] at hx hx'
    split at hx <;> split at hx' <;> simp_all
theorem addβ_one (key : Nat) (c : Ct) (b : Nat) : addβ [(key, c, some b)] β key = some b := by simp [addβ, lk]
theorem yes_alloc (h : RepB V β w0 N e m a w) {t : TypeId} {i : TI} (ht : TyOk P t i) {key : Nat} (hk : m key = none) :
    Yes P V ⟨d, .alloc t, tt, pos, after, g⟩ w0 N e (fun k => if k = key then some (.vals i.zero, false) else m k) a w (.ref key 0) := by
  obtain ⟨z, hz, hzc⟩ := ht.run_zero w
  refine ⟨.pointer (some ⟨w.heap.size, 0, none⟩), _, _, ?_, h.alloc1 hk (.vals i.zero) ht.zero.1 z.cells hzc t, ?_⟩
  · simp [execOp, Instr.alloc, hz, newVar, newRow]
  · exact ⟨by simp, w.heap.size, addβ_one _ _ _, rfl⟩
theorem vcells_cells (v : Value) : v.cells.toList = vcells v := by cases v <;> rfl
theorem yes_box (h : RepB V β w0 N e m a w) {t : TypeId} {x : Operand} {v : Value} (hx : opd ⟨e, m⟩ x = .v v) (ho : Oc (vcells v) = true) {key : Nat} (hk : m key = none) :
    Yes P V ⟨d, .box t x, tt, pos, after, g⟩ w0 N e (fun k => if k = key then some (.vals (vcells v), false) else m k) a w (.ref key 0) := by
  refine ⟨.pointer (some ⟨w.heap.size, 0, none⟩), _, _, ?_, h.alloc1 hk (.vals (vcells v)) ho v.cells (vcells_cells v) t, ?_⟩
  · simp [execOp, Instr.box, opd_v h hx, newVar, newRow]
  · exact ⟨by simp, w.heap.size, addβ_one _ _ _, rfl⟩
end Go.AM
namespace Go.AM
variable [Lay]
open Go.RowKit (Below)
variable {P : Program} {V : Nat → Prop} {β : Nat → Option Nat} {w0 w w' : World} {N : Nat} {e : Env} {m : Mem} {a : Act}
variable {ty : Ty} {Γ : Gam} {d : Option Tmp} {tt : TypeId} {pos : String} {after : Array Edge} {g : Option (Nat × Bool)}

theorem RepB.cell (h : RepB V β w0 N e m a w) {key : Nat} {c : Ct} {fr : Bool} {b : Nat} (hk : m key = some (c, fr)) (hb : β key = some b) {i : Nat} {v : Value} (hv : c.cells[i]? = some v) :
    w.cell? ⟨b, i, none⟩ = some v := by
  obtain ⟨_, h1 | ⟨b', arr, T, rest, h1, _, h3, h4⟩⟩ := h.mem key c fr hk
  · rw [hb] at h1; exact absurd h1.1 (by simp)
  · rw [hb] at h1; cases h1
    rw [cell_of_row w b i arr T (0, 0) h3]
    have : arr.toList[i]? = some v := by
      rw [h4, List.getElem?_append_left (List.getElem?_eq_some_iff.1 hv).1]; exact hv
    simpa using this
theorem opd_ref (h : RepB V β w0 N e m a w) {x : Operand} {key off : Nat} (hx : opd ⟨e, m⟩ x = .ref key off) :
    ∃ c fr b, m key = some (c, fr) ∧ β key = some b ∧ a.eval x = .pointer (some ⟨b, off, none⟩) := by
  have := h.opd x
  rw [hx] at this
  obtain ⟨h0, b, h1, h2⟩ := this
  obtain ⟨⟨c, fr⟩, hc⟩ := Option.isSome_iff_exists.1 h0
  exact ⟨c, fr, b, hc, h1, h2⟩
theorem RepB.bsz (h : RepB V β w0 N e m a w) {key b : Nat} {c : Ct} {fr : Bool} (hk : m key = some (c, fr)) (hb : β key = some b) : c.len ≤ AM.bsz w b := by
  obtain ⟨_, h1 | ⟨b', arr, T, rest, h1, _, h3, h4⟩⟩ := h.mem key c fr hk
  · rw [hb] at h1; exact absurd h1.1 (by simp)
  · rw [hb] at h1; cases h1
    unfold AM.bsz
    rw [h3]
    simp only
    rw [← Array.length_toList, h4, List.length_append, Ct.length_cells]
    omega
theorem opd_ow (h : RepB V β w0 N e m a w) {x : Operand} {key : Nat} (hx : opd ⟨e, m⟩ x = .ow key) :
    ∃ c fr cap, m key = some (c, fr) ∧ CapOk w β key 0 cap ∧ c.len ≤ cap ∧ ((β key = none ∧ c.len = 0 ∧ a.eval x = .slice none 0 0) ∨ ∃ b, β key = some b ∧ a.eval x = .slice (some ⟨b, 0, none⟩) c.len cap) := by
  have := h.opd x
  rw [hx] at this
  exact this
theorem opd_al (h : RepB V β w0 N e m a w) {x : Operand} {key lo n : Nat} (hx : opd ⟨e, m⟩ x = .al key lo n) :
    (∃ c fr, m key = some (c, fr) ∧ lo + n ≤ c.len) ∧ ∃ A cap, a.eval x = .slice A n cap ∧ n ≤ cap ∧ CapOk w β key lo cap ∧ (0 < n ∨ lo = 0 → (β key = none ∧ A = none ∧ n = 0 ∧ cap = 0) ∨ ∃ b, β key = some b ∧ A = some ⟨b, lo, none⟩) := by
  have := h.opd x
  rw [hx] at this
  exact this
theorem opd_rd (h : RepB V β w0 N e m a w) {x : Operand} {k : IntKind} {l : List Int} (hx : opd ⟨e, m⟩ x = .rd k l) :
    ∃ A cap, a.eval x = .slice A l.length cap ∧ l.length ≤ cap ∧ cap ≤ maxLen ∧ (l ≠ [] → ∃ ad : Addr, A = some ad ∧ (V ad.block ∧ Apart β m ad.block) ∧ ∀ i, i < l.length → w.cell? (ad.add i) = some (.int k (l.getD i 0))) := by
  have := h.opd x
  rw [hx] at this
  exact this

theorem yes_load_ref (h : RepB V β w0 N e m a w) {t : TypeId} {i : TI} (ht : TyOk P t i) {x : Operand} {key off : Nat} (hx : opd ⟨e, m⟩ x = .ref key off) {c : Ct} {fr : Bool} (hk : m key = some (c, fr))
    {p : Prop} {v : Value} (hl : ldAt c off i.size i.agg = some (p, v)) (hp : p) : Yes P V ⟨d, .load t x, tt, pos, after, g⟩ w0 N e m a w (.v v) := by
  obtain ⟨c', fr', b, hk', hb, hv⟩ := opd_ref h hx
  rw [hk] at hk'; cases hk'
  refine .same h (v := v) ?_ rfl
  cases c with
  | vals l =>
    simp only [ldAt] at hl
    cases hag : i.agg with
    | true =>
      simp only [hag, if_true, Option.some.injEq, Prod.mk.injEq] at hl
      obtain ⟨rfl, rfl⟩ := hl
      have hlen : ((l.drop off).take i.size).length = i.size := by simp; omega
      have hr := run_loadCells_list (P := P) w ⟨b, off, none⟩ ((l.drop off).take i.size) (fun j u hu => by
        rw [Addr.add_plain]
        refine h.cell hk hb ?_
        rw [List.getElem?_take] at hu
        split at hu
        · simpa [Ct.cells] using hu
        · cases hu)
      rw [hlen] at hr
      simp [execOp, Instr.loadAt, hv, Instr.sureAddr, loadVar, ht.run_isAgg, hag, ht.run_size, hr]
    | false =>
      simp only [hag, Bool.false_eq_true, if_false, Option.some.injEq, Prod.mk.injEq] at hl
      obtain ⟨rfl, rfl⟩ := hl
      have hc := h.cell hk hb (i := off) (v := l.getD off (.tuple #[])) (by simp [Ct.cells, hp])
      simp [execOp, Instr.loadAt, hv, Instr.sureAddr, loadVar, ht.run_isAgg, hag, hc]
  | ints k l =>
    simp only [ldAt] at hl
    cases hag : i.agg with
    | true => simp [hag] at hl
    | false =>
      simp only [hag, Bool.false_eq_true, if_false, Option.some.injEq, Prod.mk.injEq] at hl
      obtain ⟨rfl, rfl⟩ := hl
      have hc := h.cell hk hb (i := off) (v := .int k (l.getD off 0)) (by simp [Ct.cells, hp])
      simp [execOp, Instr.loadAt, hv, Instr.sureAddr, loadVar, ht.run_isAgg, hag, hc]
theorem yes_load_pt (h : RepB V β w0 N e m a w) {t : TypeId} {i : TI} (ht : TyOk P t i) {x : Operand} {v : Value} (hx : opd ⟨e, m⟩ x = .pt v) (hag : i.agg = false) :
    Yes P V ⟨d, .load t x, tt, pos, after, g⟩ w0 N e m a w (.v v) := by
  have := h.opd x
  rw [hx] at this
  obtain ⟨ad, h1, h2, _⟩ := this
  refine .same h (v := v) ?_ rfl
  simp [execOp, Instr.loadAt, h1, Instr.sureAddr, loadVar, ht.run_isAgg, hag, h2]

theorem yes_fieldAddr (h : RepB V β w0 N e m a w) {t : TypeId} {i : TI} (ht : TyOk P t i) {fs : List (Nat × TypeId)} (hi : i.kind = .struct fs) {x : Operand} {key off : Nat} (hx : opd ⟨e, m⟩ x = .ref key off) {f o : Nat} {ft : TypeId} (hf : fs[f]? = some (o, ft)) :
    Yes P V ⟨d, .fieldAddr t x f, tt, pos, after, g⟩ w0 N e m a w (.ref key (off + o)) := by
  obtain ⟨c, fr, b, hk, hb, hv⟩ := opd_ref h hx
  have hkd := ht.kind
  rw [hi] at hkd
  obtain ⟨_, fields, hu, hmap, hsz⟩ := hkd
  rw [← hmap, List.getElem?_map] at hf
  obtain ⟨fd, hfd, he⟩ := Option.map_eq_some_iff.1 hf
  simp only [Prod.mk.injEq] at he
  obtain ⟨rfl, rfl⟩ := he
  have hfa : fields[f]? = some fd := by simpa using hfd
  obtain ⟨q, hq, hq0⟩ := hsz fd (Array.mem_of_getElem? hfa)
  refine .same h (v := .pointer (some ⟨b, off + fd.offset, none⟩)) ?_ ⟨by simp [hk], b, hb, rfl⟩
  simp [execOp, Instr.fieldAt, run_underlying hu, hfa, hv, Instr.sureAddr, fieldPlace, sizeOf, typeInfo, hq, hq0, Addr.add_plain]

theorem run_part {t : TypeId} {i : TI} (ht : TyOk P t i) {cs : Array Value} {off : Nat} {p : Prop} {v : Value} (hl : ldAt (.vals cs.toList) off i.size i.agg = some (p, v)) (hp : p) (w : World) :
    (part t cs off).run P w = .ok v w := by
  simp only [ldAt] at hl
  cases hag : i.agg with
  | true =>
    simp only [hag, if_true, Option.some.injEq, Prod.mk.injEq] at hl
    obtain ⟨rfl, rfl⟩ := hl
    simp only [part, ht.run_isAgg, hag, Sem.run_bind, Result.andThen_ok, if_true, ht.run_size, Sem.run_pure, Result.ok.injEq, and_true]
    simp only [Value.agg.injEq]
    apply Array.ext'
    simp only [Array.toList_extract, List.extract_eq_drop_take, Nat.add_sub_cancel_left]
  | false =>
    simp only [hag, Bool.false_eq_true, if_false, Option.some.injEq, Prod.mk.injEq] at hl
    obtain ⟨rfl, rfl⟩ := hl
    have : cs[off]? = some (cs.toList.getD off (.tuple #[])) := by
      have : off < cs.size := by simpa using hp
      simp [this]
    simp only [part, ht.run_isAgg, hag, Sem.run_bind, Result.andThen_ok, Bool.false_eq_true, if_false, this, Sem.run_pure]
theorem yes_field (h : RepB V β w0 N e m a w) {t : TypeId} {i : TI} (ht : TyOk P t i) {fs : List (Nat × TypeId)} (hi : i.kind = .struct fs) {x : Operand} {cs : Array Value} (hx : opd ⟨e, m⟩ x = .v (.agg cs)) {f o : Nat} {ft : TypeId} (hf : fs[f]? = some (o, ft))
    {fi : TI} (hft : TyOk P ft fi) {p : Prop} {v : Value} (hl : ldAt (.vals cs.toList) o fi.size fi.agg = some (p, v)) (hp : p) :
    Yes P V ⟨d, .field t x f, tt, pos, after, g⟩ w0 N e m a w (.v v) := by
  have hkd := ht.kind
  rw [hi] at hkd
  obtain ⟨_, fields, hu, hmap, hsz⟩ := hkd
  rw [← hmap, List.getElem?_map] at hf
  obtain ⟨fd, hfd, he⟩ := Option.map_eq_some_iff.1 hf
  simp only [Prod.mk.injEq] at he
  obtain ⟨rfl, rfl⟩ := he
  have hfa : fields[f]? = some fd := by simpa using hfd
  refine .same h (v := v) ?_ rfl
  simp [execOp, Instr.field, run_underlying hu, hfa, opd_v h hx, asAgg, run_part hft hl hp]
theorem opd_int (h : RepB V β w0 N e m a w) {x : Operand} {j : Int} (hx : intOf (opd ⟨e, m⟩ x) = some j) : ∃ k, a.eval x = .int k j := by
  unfold intOf at hx
  split at hx
  · rename_i k n hxx
    cases hx
    exact ⟨k, opd_v h hxx⟩
  · cases hx
theorem yes_index_agg (h : RepB V β w0 N e m a w) {t : TypeId} {i : TI} (ht : TyOk P t i) {n : Nat} {el : TypeId} (hi : i.kind = .arr n el) {x y : Operand} {cs : Array Value} (hx : opd ⟨e, m⟩ x = .v (.agg cs)) {j : Int} (hy : intOf (opd ⟨e, m⟩ y) = some j)
    {ei : TI} (hel : TyOk P el ei) {p : Prop} {v : Value} (hl : ldAt (.vals cs.toList) (j.toNat * ei.size) ei.size ei.agg = some (p, v)) (hj : 0 ≤ j ∧ j < n) (hp : p) :
    Yes P V ⟨d, .index t x y, tt, pos, after, g⟩ w0 N e m a w (.v v) := by
  have hkd := ht.kind
  rw [hi] at hkd
  obtain ⟨k, hk⟩ := opd_int h hy
  refine .same h (v := v) ?_ rfl
  simp [execOp, Instr.index, run_underlying hkd.1, opd_v h hx, hk, asIntOf, hj, hel.run_size, run_part hel hl hp]
theorem yes_index_str (h : RepB V β w0 N e m a w) {t : TypeId} {i : TI} (ht : TyOk P t i) (hi : i.kind = .str) {x y : Operand} {s : ByteArray} (hx : opd ⟨e, m⟩ x = .v (.string s)) {j : Int} (hy : intOf (opd ⟨e, m⟩ y) = some j) (hj : 0 ≤ j ∧ j < s.size) :
    Yes P V ⟨d, .index t x y, tt, pos, after, g⟩ w0 N e m a w (.v (.int .u8 (bt s j))) := by
  have hkd := ht.kind
  rw [hi] at hkd
  obtain ⟨k, hk⟩ := opd_int h hy
  refine .same h (v := .int .u8 (bt s j)) ?_ rfl
  have hlt : j.toNat < s.size := by omega
  have : s[j.toNat]? = some s[j.toNat] := by simp [hlt]
  have hb : bt s j = (s[j.toNat].toNat : Int) := by
    unfold bt
    have h2 : j.toNat < s.data.toList.length := by simpa using hlt
    rw [List.getD_eq_getElem?_getD, List.getElem?_eq_getElem h2]
    rfl
  simp [execOp, Instr.index, run_underlying hkd.1, opd_v h hx, hk, asIntOf, hj, this, hb]
theorem yes_indexAddr_arr (h : RepB V β w0 N e m a w) {t : TypeId} {i : TI} (ht : TyOk P t i) {n : Nat} {el : TypeId} (hi : i.kind = .arr n el) {x y : Operand} {key off : Nat} (hx : opd ⟨e, m⟩ x = .ref key off) {j : Int} (hy : intOf (opd ⟨e, m⟩ y) = some j)
    {ei : TI} (hel : TyOk P el ei) (hj : 0 ≤ j ∧ j < n) : Yes P V ⟨d, .indexAddr t x y, tt, pos, after, g⟩ w0 N e m a w (.ref key (off + j.toNat * ei.size)) := by
  have hkd := ht.kind
  rw [hi] at hkd
  obtain ⟨k, hk⟩ := opd_int h hy
  obtain ⟨c, fr, b, hk', hb, hv⟩ := opd_ref h hx
  refine .same h (v := .pointer (some ⟨b, off + j.toNat * ei.size, none⟩)) ?_ ⟨by simp [hk'], b, hb, rfl⟩
  simp [execOp, Instr.indexAt, run_underlying hkd.1, hv, hk, asIntOf, Instr.sureAddr, hj, hel.run_size, Addr.add_plain]
theorem yes_indexAddr_sl (h : RepB V β w0 N e m a w) {t : TypeId} {i : TI} (ht : TyOk P t i) {el : TypeId} (hi : i.kind = .slice el) {ei : TI} (hel : TyOk P el ei) (h1 : ei.size = 1) {x y : Operand} {ad : Addr} {n cap : Nat} (hx : a.eval x = .slice (some ad) n cap) {j : Int} (hy : intOf (opd ⟨e, m⟩ y) = some j)
    (hj : 0 ≤ j ∧ j < n) : (execOp a.eval ⟨d, .indexAddr t x y, tt, pos, after, g⟩).run P w = .ok (.value (.pointer (some (ad.add j.toNat)))) w := by
  have hkd := ht.kind
  rw [hi] at hkd
  obtain ⟨k, hk⟩ := opd_int h hy
  simp [execOp, Instr.indexAt, run_underlying hkd.1, hx, hk, asIntOf, hj, hel.run_size, h1]
theorem yes_indexAddr_ows (h : RepB V β w0 N e m a w) {t : TypeId} {i : TI} (ht : TyOk P t i) {el : TypeId} (hi : i.kind = .slice el) {ei : TI} (hel : TyOk P el ei) {x y : Operand} {key n : Nat} (hx : opd ⟨e, m⟩ x = .ows key n) {j : Int} (hy : intOf (opd ⟨e, m⟩ y) = some j)
    (hj : 0 ≤ j ∧ j < n) : Yes P V ⟨d, .indexAddr t x y, tt, pos, after, g⟩ w0 N e m a w (.ref key (j.toNat * ei.size)) := by
  have hkd := ht.kind
  rw [hi] at hkd
  obtain ⟨k, hk⟩ := opd_int h hy
  have hrep := h.opd x
  rw [hx] at hrep
  obtain ⟨c, fr, cap, b, h0, hb, h2, h3, hv⟩ := hrep
  refine .same h (v := .pointer (some ⟨b, j.toNat * ei.size, none⟩)) ?_ ⟨by simp [h0], b, hb, rfl⟩
  simp [execOp, Instr.indexAt, run_underlying hkd.1, hv, hk, asIntOf, hj, hel.run_size, Addr.add_plain]
theorem yes_indexAddr_rd (h : RepB V β w0 N e m a w) {t : TypeId} {i : TI} (ht : TyOk P t i) {el : TypeId} (hi : i.kind = .slice el) {ei : TI} (hel : TyOk P el ei) (h1 : ei.size = 1) {x y : Operand} {k : IntKind} {l : List Int} (hx : opd ⟨e, m⟩ x = .rd k l) {j : Int} (hy : intOf (opd ⟨e, m⟩ y) = some j)
    (hj : 0 ≤ j ∧ j < l.length) : Yes P V ⟨d, .indexAddr t x y, tt, pos, after, g⟩ w0 N e m a w (.pt (.int k (l.getD j.toNat 0))) := by
  obtain ⟨A, cap, hv, _, _, h4⟩ := opd_rd h hx
  obtain ⟨ad, rfl, hap, hc⟩ := h4 (by intro h0; subst h0; simp at hj; omega)
  have hadd : (ad.add j.toNat).block = ad.block := by unfold Addr.add; split <;> rfl
  exact .same h (yes_indexAddr_sl h ht hi hel h1 hv hy hj) ⟨_, rfl, hc _ (by omega), by rw [hadd]; exact hap.2⟩
theorem yes_indexAddr_ow (h : RepB V β w0 N e m a w) {t : TypeId} {i : TI} (ht : TyOk P t i) {el : TypeId} (hi : i.kind = .slice el) {ei : TI} (hel : TyOk P el ei) (h1 : ei.size = 1) {x y : Operand} {key : Nat} (hx : opd ⟨e, m⟩ x = .ow key) {c : Ct} {fr : Bool} (hkk : m key = some (c, fr)) {j : Int} (hy : intOf (opd ⟨e, m⟩ y) = some j)
    (hj : 0 ≤ j ∧ j < c.len) : Yes P V ⟨d, .indexAddr t x y, tt, pos, after, g⟩ w0 N e m a w (.ref key j.toNat) := by
  obtain ⟨c', fr', cap, hk', _, _, h4⟩ := opd_ow h hx
  rw [hkk] at hk'; cases hk'
  rcases h4 with ⟨_, h0, _⟩ | ⟨b, hb, hv⟩
  · omega
  · have := yes_indexAddr_sl (d := d) (tt := tt) (pos := pos) (after := after) (g := g) h ht hi hel h1 hv hy hj
    rw [Addr.add_plain, Nat.zero_add] at this
    exact .same h this ⟨by simp [hkk], b, hb, rfl⟩
theorem yes_indexAddr_al (h : RepB V β w0 N e m a w) {t : TypeId} {i : TI} (ht : TyOk P t i) {el : TypeId} (hi : i.kind = .slice el) {ei : TI} (hel : TyOk P el ei) (h1 : ei.size = 1) {x y : Operand} {key lo n : Nat} (hx : opd ⟨e, m⟩ x = .al key lo n) {j : Int} (hy : intOf (opd ⟨e, m⟩ y) = some j)
    (hj : 0 ≤ j ∧ j < n) : Yes P V ⟨d, .indexAddr t x y, tt, pos, after, g⟩ w0 N e m a w (.ref key (lo + j.toNat)) := by
  obtain ⟨hs, A, cap, hv, _, _, h4⟩ := opd_al h hx
  rcases h4 (.inl (by omega)) with ⟨_, _, h0, _⟩ | ⟨b, hb, rfl⟩
  · omega
  · have := yes_indexAddr_sl (d := d) (tt := tt) (pos := pos) (after := after) (g := g) h ht hi hel h1 hv hy hj
    rw [Addr.add_plain] at this
    obtain ⟨c, fr, h0, _⟩ := hs
    exact .same h this ⟨by simp [h0], b, hb, rfl⟩
theorem yes_extract (h : RepB V β w0 N e m a w) {x : Operand} {l : List AV} (hx : opd ⟨e, m⟩ x = .tup l) {i : Nat} {av : AV} (hi : l[i]? = some av) : Yes P V ⟨d, .extract x i, tt, pos, after, g⟩ w0 N e m a w av := by
  have := h.opd x
  rw [hx] at this
  obtain ⟨vs, hv, hl⟩ := this
  have key : ∀ (l : List AV) (vs : List Value) (i : Nat), RepL V β m w l vs → l[i]? = some av → ∃ v, vs[i]? = some v ∧ RepS V β m w av v := by
    intro l
    induction l with
    | nil => intro vs i _ hi; simp at hi
    | cons y ys ih =>
      intro vs i hl hi
      cases vs with
      | nil => exact hl.elim
      | cons u us =>
        cases i with
        | zero => simp at hi; subst hi; exact ⟨u, by simp, hl.1⟩
        | succ i => obtain ⟨v, h1, h2⟩ := ih us i hl.2 (by simpa using hi); exact ⟨v, by simpa using h1, h2⟩
  obtain ⟨v, h1, h2⟩ := key l vs i hl hi
  refine .same h (v := v) ?_ (RepA.of_S h2)
  simp [execOp, hv, Instr.extract, h1]
end Go.AM
namespace Go.AM
variable [Lay]
open Go.RowKit (Below)
variable {P : Program} {V : Nat → Prop} {β : Nat → Option Nat} {w0 w w' : World} {N : Nat} {e : Env} {m : Mem} {a : Act}
variable {ty : Ty} {Γ : Gam} {d : Option Tmp} {tt : TypeId} {pos : String} {after : Array Edge} {g : Option (Nat × Bool)}

theorem wrap_signed (k : IntKind) (n : Int) (hs : sgn k = true) (h : inR k n) : k.wrap n = n := by
  cases k <;> simp only [sgn, Bool.false_eq_true] at hs <;> simp only [inR] at h <;> simp [IntKind.wrap, IntKind.bits, IntKind.signed] <;> split <;> omega
theorem wrap_unsigned (k : IntKind) (n : Int) (hs : sgn k = false) : k.wrap n = n % pow2 k := by
  cases k <;> simp only [sgn, Bool.true_eq_false] at hs <;> simp [IntKind.wrap, IntKind.bits, IntKind.signed, pow2]
theorem arr_ok {k : IntKind} {n : Int} {p : Prop} {v : Value} (h : arr k n = (p, v)) (hp : p) : v = .int k (k.wrap n) := by
  unfold arr at h
  split at h
  · rename_i hs
    simp only [Prod.mk.injEq] at h
    obtain ⟨rfl, rfl⟩ := h
    rw [wrap_signed k n hs hp]
  · rename_i hs
    simp only [Prod.mk.injEq] at h
    obtain ⟨rfl, rfl⟩ := h
    rw [wrap_unsigned k n (by simpa using hs)]
theorem eqGuard_int (o : BinOp) (t : TypeId) (x y : Operand) (u v : Value) (w : World) (h : ∀ a b, ¬ (u = .agg a ∧ v = .agg b)) (h' : u ≠ .nilIface) : (eqGuard o t x y u v).run P w = .ok () w := by
  have key : ∀ (q : Sem Unit), (match u, v with
      | .nilIface, .nilIface => q
      | .agg _, .agg _ => do
        if !(← program).eqGuardType (← program).depth t then return
        if ← Op.eqGuardIn Op.maxDepth t u v then unsupported (.noEntry "binop/eql: two nil values of an interface type with methods, in a part of a struct or an array")
      | _, _ => pure ()).run P w = .ok () w := by
    intro q
    split
    · exact absurd rfl h'
    · rename_i a b; exact absurd ⟨rfl, rfl⟩ (h a b)
    · rfl
  cases o <;> first | exact key _ | rfl
theorem run_bin (o : BinOp) (t : TypeId) (u v : Value) {p : Prop} {x : Value} (h : bin o u v = some (p, x)) (hp : p) (w : World) (hb : ∀ b c, u = .bool b → v = .bool c → P.underlying t = some .bool) : (binOp o t u v).run P w = .ok x w := by
  unfold bin at h
  split at h
  · rename_i k a k' b
    split at h
    · simp only [Option.some.injEq, Prod.mk.injEq] at h
      obtain ⟨rfl, rfl⟩ := h
      obtain ⟨hb0, hr⟩ := hp
      simp only [binOp, Op.shift, if_neg (show ¬ b < 0 by omega), Sem.run_pure, Result.ok.injEq, Value.int.injEq, true_and, and_true]
      cases hs : sgn k with
      | true => simp only [if_true]; exact wrap_signed k _ hs (hr hs)
      | false => simp only [Bool.false_eq_true, if_false]; exact wrap_unsigned k _ hs
    · simp only [Option.some.injEq, Prod.mk.injEq] at h
      obtain ⟨rfl, rfl⟩ := h
      simp only [binOp, Op.shift, if_neg (show ¬ b < 0 by omega), Sem.run_pure, Result.ok.injEq, Value.int.injEq, true_and, and_true]
      exact Int.fdiv_eq_ediv_of_nonneg _ (by exact Int.le_of_lt (Int.pow_pos (by decide)))
    · rename_i hn1 hn2
      split at h
      · rename_i hkk
        subst hkk
        split at h <;> try (simp only [Option.some.injEq] at h)
        · have := arr_ok h hp; subst this; simp [binOp, Op.intArith]
        · have := arr_ok h hp; subst this; simp [binOp, Op.intArith]
        · have := arr_ok h hp; subst this; simp [binOp, Op.intArith]
        · simp only [Prod.mk.injEq] at h
          obtain ⟨rfl, rfl⟩ := h
          have hw : k.wrap (a.tdiv b) = a.tdiv b := by
            cases hs : sgn k with
            | true => exact wrap_signed k _ hs hp.2
            | false =>
              rw [wrap_unsigned k _ hs]
              have := hp.2
              cases k <;> simp only [sgn, Bool.true_eq_false] at hs <;> simp only [inR, pow2] at this ⊢ <;> omega
          simp [binOp, Op.intDiv, hp.1, hw]
        · simp only [Prod.mk.injEq] at h
          obtain ⟨rfl, rfl⟩ := h
          simp [binOp, Op.intDiv, hp]
        all_goals first
          | (simp only [Prod.mk.injEq] at h; obtain ⟨rfl, rfl⟩ := h; simp [binOp, Op.intCmp, Op.intBits, bits])
          | cases h
      · cases h
  · rename_i a b
    split at h <;> (try simp only [Option.some.injEq, Prod.mk.injEq] at h)
    · obtain ⟨rfl, rfl⟩ := h
      have : ¬ (((a.size + b.size : Nat) : Int) > IntKind.i64.max) := by
        have hm : IntKind.i64.max = 9223372036854775807 := by decide
        rw [hm]; omega
      simp only [binOp, Op.stringOp, if_neg this, Sem.run_pure]
    · obtain ⟨rfl, rfl⟩ := h; simp [binOp, Op.stringOp]
    · obtain ⟨rfl, rfl⟩ := h; simp [binOp, Op.stringOp]
    · obtain ⟨rfl, rfl⟩ := h; simp [binOp, Op.stringOp]
    · cases h
  · rename_i b c
    have hb' := hb b c rfl rfl
    split at h <;> (try simp only [Option.some.injEq, Prod.mk.injEq] at h)
    · obtain ⟨rfl, rfl⟩ := h; exact run_eql_bool w t b c hb'
    · obtain ⟨rfl, rfl⟩ := h; exact run_neq_bool w t b c hb'
    · cases h
  · rename_i k a k' b
    split at h
    · rename_i hkk
      subst hkk
      obtain ⟨r, hr, h⟩ := Option.map_eq_some_iff.1 h
      simp only [Prod.mk.injEq] at h
      obtain ⟨rfl, rfl⟩ := h
      unfold fbin at hr
      split at hr
      case h_7 => obtain ⟨q, hq, rfl⟩ := Option.map_eq_some_iff.1 hr; exact run_float_arith w _ t k a b q hq
      case h_8 => obtain ⟨q, hq, rfl⟩ := Option.map_eq_some_iff.1 hr; exact run_float_arith w _ t k a b q hq
      case h_9 => obtain ⟨q, hq, rfl⟩ := Option.map_eq_some_iff.1 hr; exact run_float_arith w _ t k a b q hq
      case h_10 => obtain ⟨q, hq, rfl⟩ := Option.map_eq_some_iff.1 hr; exact run_float_arith w _ t k a b q hq
      case h_11 => cases hr
      all_goals (cases hr; simp [binOp, Op.floatCmp])
    · cases h
  · cases h
end Go.AM
namespace Go.AM
variable [Lay]
open Go.RowKit (Below)
variable {P : Program} {V : Nat → Prop} {β : Nat → Option Nat} {w0 w w' : World} {N : Nat} {e : Env} {m : Mem} {a : Act}
variable {ty : Ty} {Γ : Gam} {d : Option Tmp} {tt : TypeId} {pos : String} {after : Array Edge} {g : Option (Nat × Bool)}

theorem yes_bin (h : RepB V β w0 N e m a w) {o : BinOp} {t t' : TypeId} {x y : Operand} {u v : Value} (hx : opd ⟨e, m⟩ x = .v u) (hy : opd ⟨e, m⟩ y = .v v) {p : Prop} {r : Value} (hb : bin o u v = some (p, r)) (hp : p)
    (hbool : ∀ b c, u = .bool b → v = .bool c → P.underlying t = some .bool) : Yes P V ⟨d, .binOp o t x y t', tt, pos, after, g⟩ w0 N e m a w (.v r) := by
  refine .same h (v := r) ?_ rfl
  have h1 : ∀ a b, ¬ (u = .agg a ∧ v = .agg b) := fun a b ⟨e1, e2⟩ => by subst e1 e2; simp [bin] at hb
  have h2 : u ≠ .nilIface := fun e1 => by subst e1; simp [bin] at hb
  simp [execOp, opd_v h hx, opd_v h hy, eqGuard_int o t x y u v w h1 h2, run_bin o t u v hb hp w hbool]
theorem yes_eq_agg (h : RepB V β w0 N e m a w) {t t' : TypeId} {i : TI} (ht : TyOk P t i) {x y : Operand} {u v : Array Value} (hx : opd ⟨e, m⟩ x = .v (.agg u)) (hy : opd ⟨e, m⟩ y = .v (.agg v)) (hl : i.leaf ≠ []) (hu : fits i.leaf u.toList = true) (hv : fits i.leaf v.toList = true)
    {b : Bool} (hb : leafEq u.toList v.toList = some b) : Yes P V ⟨d, .binOp .eql t x y t', tt, pos, after, g⟩ w0 N e m a w (.v (.bool b)) := by
  refine .same h (v := .bool b) ?_ rfl
  obtain ⟨hg, hq⟩ := ht.eq hl
  simp [execOp, opd_v h hx, opd_v h hy, eqGuard, hg, binOp, hq u v b w hu hv hb]
theorem yes_neq_agg (h : RepB V β w0 N e m a w) {t t' : TypeId} {i : TI} (ht : TyOk P t i) {x y : Operand} {u v : Array Value} (hx : opd ⟨e, m⟩ x = .v (.agg u)) (hy : opd ⟨e, m⟩ y = .v (.agg v)) (hl : i.leaf ≠ []) (hu : fits i.leaf u.toList = true) (hv : fits i.leaf v.toList = true)
    {b : Bool} (hb : leafEq u.toList v.toList = some b) : Yes P V ⟨d, .binOp .neq t x y t', tt, pos, after, g⟩ w0 N e m a w (.v (.bool (!b))) := by
  refine .same h (v := .bool (!b)) ?_ rfl
  obtain ⟨hg, hq⟩ := ht.eq hl
  simp [execOp, opd_v h hx, opd_v h hy, eqGuard, hg, binOp, hq u v b w hu hv hb]
theorem yes_un (h : RepB V β w0 N e m a w) {o : UnOp} {t : TypeId} {x : Operand} {u : Value} (hx : opd ⟨e, m⟩ x = .v u) {p : Prop} {r : Value} (hb : un o u = some (p, r)) (hp : p) :
    Yes P V ⟨d, .unOp o t x, tt, pos, after, g⟩ w0 N e m a w (.v r) := by
  refine .same h (v := r) ?_ rfl
  unfold un at hb
  split at hb
  · simp only [Option.some.injEq, Prod.mk.injEq] at hb
    obtain ⟨rfl, rfl⟩ := hb
    simp [execOp, opd_v h hx, Op.unary]
  · simp only [Option.some.injEq] at hb
    have := arr_ok hb hp
    subst this
    simp [execOp, opd_v h hx, Op.unary, Op.intArith]
  · rename_i k n
    split at hb
    · cases hb
    · rename_i hs
      simp only [Option.some.injEq, Prod.mk.injEq] at hb
      obtain ⟨rfl, rfl⟩ := hb
      have : k.signed = false := by cases k <;> simp_all [sgn, IntKind.signed]
      simp [execOp, opd_v h hx, Op.unary, Op.intBits, bits, this]
  · cases hb
theorem yes_convert (h : RepB V β w0 N e m a w) {t t' : TypeId} {i : TI} (ht : TyOk P t' i) (hsrc : (P.underlying t).isSome = true) {k : IntKind} (hi : i.kind = .int k) {x : Operand} {u : Value} (hx : opd ⟨e, m⟩ x = .v u) {p : Prop} {r : Value} (hb : conv k u = some (p, r)) (hp : p) :
    Yes P V ⟨d, .convert t t' x, tt, pos, after, g⟩ w0 N e m a w (.v r) := by
  refine .same h (v := r) ?_ rfl
  have hkd := ht.kind
  rw [hi] at hkd
  unfold conv at hb
  split at hb
  · simp only [Option.some.injEq] at hb
    have := arr_ok hb hp
    subst this
    obtain ⟨dd, hdd⟩ := Option.isSome_iff_exists.1 hsrc
    simp [execOp, opd_v h hx, convert, run_underlying hdd, run_underlying hkd.1, Conv.intToInt]
  · rename_i s b
    obtain ⟨n, hn, hb⟩ := Option.map_eq_some_iff.1 hb
    simp only [Prod.mk.injEq] at hb
    obtain ⟨rfl, rfl⟩ := hb
    have := run_convert_float_int w t t' s k b n hsrc hkd.1 hn
    simp only [execOp, opd_v h hx]
    simp [this]
  · cases hb
theorem yes_convertF (h : RepB V β w0 N e m a w) {t t' : TypeId} {i : TI} (ht : TyOk P t' i) (hsrc : (P.underlying t).isSome = true) {k : FloatKind} (hi : i.kind = .float k) {x : Operand} {u : Value} (hx : opd ⟨e, m⟩ x = .v u) {r : Value} (hb : convF k u = some r) :
    Yes P V ⟨d, .convert t t' x, tt, pos, after, g⟩ w0 N e m a w (.v r) := by
  refine .same h (v := r) ?_ rfl
  have hkd := ht.kind
  rw [hi] at hkd
  unfold convF at hb
  split at hb
  · rename_i q n
    cases hb
    have := run_convert_int_float w t t' q k n hsrc hkd.1
    simp only [execOp, opd_v h hx]
    simp [this]
  · rename_i s b
    obtain ⟨q, hq, rfl⟩ := Option.map_eq_some_iff.1 hb
    have := run_convert_float_float w t t' s k b q hsrc hkd.1 hq
    simp only [execOp, opd_v h hx]
    simp [this]
  · cases hb

theorem run_sb (h : RepB V β w0 N e m a w) {lo ho : Option Operand} {l hh : Int} {n cap : Nat} (hlo : lo? ⟨e, m⟩ lo = some l) (hhi : hi? ⟨e, m⟩ n ho = some hh) (h0 : 0 ≤ l) (h1 : l ≤ hh) (h2 : hh ≤ n) (hn : n ≤ cap) (sl : Bool) :
    (Instr.sliceBounds sl n cap (lo.map a.eval) (ho.map a.eval) none).run P w = .ok (l.toNat, hh.toNat, cap) w := by
  have H : ∀ (v : Option Value), (match v with | none => hh = n | some u => ∃ k, u = .int k hh) → ∀ (u : Option Value), (match u with | none => l = 0 | some u => ∃ k, u = .int k l) →
      (Instr.sliceBounds sl n cap u v none).run P w = .ok (l.toNat, hh.toNat, cap) w := by
    intro v hv u hu
    have e2 : (hh.toNat : Int) = hh := Int.toNat_of_nonneg (by omega)
    cases v with
    | none =>
      subst hv
      cases u with
      | none => subst hu; simp [Instr.sliceBounds]
      | some u => obtain ⟨k, rfl⟩ := hu; simp [Instr.sliceBounds, run_sliceBound w k l n _ h0 h1]
    | some v =>
      obtain ⟨k, rfl⟩ := hv
      have hb := run_sliceBound (P := P) w k hh cap (if sl then .sliceAcap else .sliceAlen) (by omega) (by omega)
      cases u with
      | none => subst hu; simp [Instr.sliceBounds, hb]
      | some u => obtain ⟨k', rfl⟩ := hu; simp [Instr.sliceBounds, hb, run_sliceBound w k' l hh.toNat _ h0 (by omega)]
  refine H _ ?_ _ ?_
  · cases ho with
    | none => simp [hi?] at hhi; simp [hhi]
    | some x => exact opd_int h hhi
  · cases lo with
    | none => simp [lo?] at hlo; simp [← hlo]
    | some x => exact opd_int h hlo
theorem run_sliceAt (h : RepB V β w0 N e m a w) {t : TypeId} {i : TI} (ht : TyOk P t i) {el : TypeId} (hi : i.kind = .slice el) {ei : TI} (hel : TyOk P el ei) (hs1 : ei.size = 1) {x : Operand} {A : Option Addr} {n cap : Nat} (hx : a.eval x = .slice A n cap)
    {lo ho : Option Operand} {l hh : Int} (hlo : lo? ⟨e, m⟩ lo = some l) (hhi : hi? ⟨e, m⟩ n ho = some hh) (h0 : 0 ≤ l) (h1 : l ≤ hh) (h2 : hh ≤ n) (hn : n ≤ cap) :
    (execOp a.eval ⟨d, .slice t x lo ho none, tt, pos, after, g⟩).run P w = .ok (.value (.slice (if cap = l.toNat then A else A.map (·.add l.toNat)) (hh.toNat - l.toNat) (cap - l.toNat))) w := by
  have hkd := ht.kind
  rw [hi] at hkd
  simp [execOp, Instr.sliceAt, run_underlying hkd.1, hx, Instr.slice, run_sb h hlo hhi h0 h1 h2 hn true, hel.run_size, hs1]
theorem Addr.add_add (ad : Addr) (i j : Nat) : (ad.add i).add j = ad.add (i + j) := by
  unfold Addr.add
  by_cases hi : i = 0 <;> by_cases hj : j = 0 <;> simp [hi, hj, Nat.add_assoc]
theorem Addr.add_block (ad : Addr) (i : Nat) : (ad.add i).block = ad.block := by unfold Addr.add; split <;> rfl
theorem yes_slice_rd (h : RepB V β w0 N e m a w) {t : TypeId} {i : TI} (ht : TyOk P t i) {el : TypeId} (hi : i.kind = .slice el) {ei : TI} (hel : TyOk P el ei) (hs1 : ei.size = 1) {x : Operand} {k : IntKind} {ns : List Int} (hx : opd ⟨e, m⟩ x = .rd k ns)
    {lo ho : Option Operand} {l hh : Int} (hlo : lo? ⟨e, m⟩ lo = some l) (hhi : hi? ⟨e, m⟩ ns.length ho = some hh) (hp : 0 ≤ l ∧ l ≤ hh ∧ hh ≤ ns.length) :
    Yes P V ⟨d, .slice t x lo ho none, tt, pos, after, g⟩ w0 N e m a w (.rd k ((ns.take hh.toNat).drop l.toNat)) := by
  obtain ⟨A, cap, hv, hc1, hc2, h4⟩ := opd_rd h hx
  refine .same h (run_sliceAt h ht hi hel hs1 hv hlo hhi hp.1 hp.2.1 hp.2.2 hc1) ?_
  have hlen0 : ((ns.take hh.toNat).drop l.toNat).length = hh.toNat - l.toNat := by simp; omega
  refine ⟨(if cap = l.toNat then A else A.map (·.add l.toNat)), cap - l.toNat, by rw [hlen0], by omega, by omega, fun hne => ?_⟩
  · have hlen : 0 < ((ns.take hh.toNat).drop l.toNat).length := List.length_pos_iff.2 hne
    simp only [List.length_drop, List.length_take] at hlen
    obtain ⟨ad, rfl, hap, hcell⟩ := h4 (by intro h0; subst h0; simp at hlen)
    have hne' : ¬ cap = l.toNat := by omega
    rw [if_neg hne']
    refine ⟨ad.add l.toNat, rfl, by rw [Addr.add_block]; exact hap, fun j hj => ?_⟩
    simp only [List.length_drop, List.length_take] at hj
    rw [Addr.add_add, hcell _ (by omega)]
    simp only [List.getD_eq_getElem?_getD, List.getElem?_drop, List.getElem?_take]
    rw [if_pos (by omega)]
theorem yes_slice_ow (h : RepB V β w0 N e m a w) {t : TypeId} {i : TI} (ht : TyOk P t i) {el : TypeId} (hi : i.kind = .slice el) {ei : TI} (hel : TyOk P el ei) (hs1 : ei.size = 1) {x : Operand} {key : Nat} (hx : opd ⟨e, m⟩ x = .ow key) {c : Ct} {fr : Bool} (hk : m key = some (c, fr))
    {lo ho : Option Operand} {l hh : Int} (hlo : lo? ⟨e, m⟩ lo = some l) (hhi : hi? ⟨e, m⟩ c.len ho = some hh) (hp : 0 ≤ l ∧ l ≤ hh ∧ hh ≤ c.len) :
    Yes P V ⟨d, .slice t x lo ho none, tt, pos, after, g⟩ w0 N e m a w (.al key l.toNat (hh.toNat - l.toNat)) := by
  obtain ⟨c', fr', cap, hk', hc2, hc1, h4⟩ := opd_ow h hx
  rw [hk] at hk'; cases hk'
  rcases h4 with ⟨hb, h0, hv⟩ | ⟨b, hb, hv⟩
  · have hl0 : l = 0 := by omega
    have hh0 : hh = 0 := by omega
    subst hl0 hh0
    refine .same h (run_sliceAt h ht hi hel hs1 hv hlo (by rw [← h0]; exact hhi) hp.1 hp.2.1 (by omega) (Nat.le_refl _)) ?_
    exact ⟨⟨c, fr, hk, by simp⟩, none, 0, by simp, by simp, ⟨by simp [maxLen], fun b hb' => by rw [hb] at hb'; cases hb'⟩, fun _ => .inl ⟨hb, rfl, rfl, rfl⟩⟩
  · refine .same h (run_sliceAt h ht hi hel hs1 hv hlo hhi hp.1 hp.2.1 hp.2.2 hc1) ?_
    refine ⟨⟨c, fr, hk, by omega⟩, _, _, rfl, by omega, ⟨by have := hc2.1; omega, fun b' hb' => by have := hc2.2 b' hb'; omega⟩, fun hor => .inr ⟨b, hb, ?_⟩⟩
    split
    · rename_i hcl
      have : l.toNat = 0 := by omega
      rw [this]
    · simp [Addr.add_plain]
theorem yes_slice_al (h : RepB V β w0 N e m a w) {t : TypeId} {i : TI} (ht : TyOk P t i) {el : TypeId} (hi : i.kind = .slice el) {ei : TI} (hel : TyOk P el ei) (hs1 : ei.size = 1) {x : Operand} {key o n : Nat} (hx : opd ⟨e, m⟩ x = .al key o n)
    {lo ho : Option Operand} {l hh : Int} (hlo : lo? ⟨e, m⟩ lo = some l) (hhi : hi? ⟨e, m⟩ n ho = some hh) (hp : 0 ≤ l ∧ l ≤ hh ∧ hh ≤ n) :
    Yes P V ⟨d, .slice t x lo ho none, tt, pos, after, g⟩ w0 N e m a w (.al key (o + l.toNat) (hh.toNat - l.toNat)) := by
  obtain ⟨hs, A, cap, hv, hc1, hc2, h4⟩ := opd_al h hx
  refine .same h (run_sliceAt h ht hi hel hs1 hv hlo hhi hp.1 hp.2.1 hp.2.2 hc1) ?_
  obtain ⟨cc, ffr, hcc, hlen⟩ := hs
  refine ⟨⟨cc, ffr, hcc, by omega⟩, _, _, rfl, by omega, ⟨by have := hc2.1; omega, fun b' hb' => by have := hc2.2 b' hb'; omega⟩, fun hor => ?_⟩
  rcases h4 (by omega) with ⟨hb, rfl, h0, h00⟩ | ⟨b, hb, rfl⟩
  · refine .inl ⟨hb, by simp, by omega, by omega⟩
  · refine .inr ⟨b, hb, ?_⟩
    split
    · rename_i hcl
      have : l.toNat = 0 := by omega
      rw [this]
      rfl
    · simp [Addr.add_plain]
theorem yes_slice_nil (h : RepB V β w0 N e m a w) {t : TypeId} {i : TI} (ht : TyOk P t i) {el : TypeId} (hi : i.kind = .slice el) {ei : TI} (hel : TyOk P el ei) (hs1 : ei.size = 1) {x : Operand} {u : Nat} (hx : opd ⟨e, m⟩ x = .v (.slice none 0 0))
    {lo ho : Option Operand} {l hh : Int} (hlo : lo? ⟨e, m⟩ lo = some l) (hhi : hi? ⟨e, m⟩ 0 ho = some hh) (hp : l = 0 ∧ hh = 0) :
    Yes P V ⟨d, .slice t x lo ho none, tt, pos, after, g⟩ w0 N e m a w (.v (.slice none 0 0)) := by
  obtain ⟨rfl, rfl⟩ := hp
  refine .same h (run_sliceAt h ht hi hel hs1 (opd_v h hx) hlo hhi (by omega) (by omega) (by omega) (Nat.le_refl _)) ?_
  show _ = _
  simp
theorem yes_slice_str (h : RepB V β w0 N e m a w) {t : TypeId} {i : TI} (ht : TyOk P t i) (hi : i.kind = .str) {x : Operand} {s : ByteArray} (hx : opd ⟨e, m⟩ x = .v (.string s))
    {lo ho : Option Operand} {l hh : Int} (hlo : lo? ⟨e, m⟩ lo = some l) (hhi : hi? ⟨e, m⟩ s.size ho = some hh) (hp : 0 ≤ l ∧ l ≤ hh ∧ hh ≤ s.size) :
    Yes P V ⟨d, .slice t x lo ho none, tt, pos, after, g⟩ w0 N e m a w (.v (.string (s.extract l.toNat hh.toNat))) := by
  have hkd := ht.kind
  rw [hi] at hkd
  refine .same h (v := .string (s.extract l.toNat hh.toNat)) ?_ rfl
  simp [execOp, Instr.sliceAt, run_underlying hkd.1, opd_v h hx, Instr.slice, run_sb h hlo hhi hp.1 hp.2.1 hp.2.2 (Nat.le_refl _) false]
theorem yes_slice_arr (h : RepB V β w0 N e m a w) {t : TypeId} {i : TI} (ht : TyOk P t i) {n : Nat} {el : TypeId} (hi : i.kind = .arr n el) {ei : TI} (hel : TyOk P el ei) (hs1 : ei.size = 1) (hn : n ≤ 1000000) {x : Operand} {key off : Nat} (hx : opd ⟨e, m⟩ x = .ref key off)
    {lo ho : Option Operand} {l hh : Int} (hlo : lo? ⟨e, m⟩ lo = some l) (hhi : hi? ⟨e, m⟩ n ho = some hh) (hp : 0 ≤ l ∧ l ≤ hh ∧ hh ≤ n) {cc : Ct} {ffr : Bool} (hcc : m key = some (cc, ffr)) (hfit : off + n ≤ cc.len) :
    Yes P V ⟨d, .slice t x lo ho none, tt, pos, after, g⟩ w0 N e m a w (.al key (off + l.toNat) (hh.toNat - l.toNat)) := by
  have hkd := ht.kind
  rw [hi] at hkd
  obtain ⟨c, fr, b, hk, hb, hv⟩ := opd_ref h hx
  refine .same h (v := .slice (some (if n = l.toNat then ⟨b, off, none⟩ else ⟨b, off + l.toNat, none⟩)) (hh.toNat - l.toNat) (n - l.toNat)) ?_ ⟨⟨cc, ffr, hcc, by omega⟩, _, _, rfl, by omega, ⟨by simp only [maxLen]; omega, fun b' hb' => by have := h.bsz hcc hb'; omega⟩, fun hor => .inr ⟨b, hb, ?_⟩⟩
  · simp [execOp, Instr.sliceAt, run_underlying hkd.1, hv, Instr.sureAddr, run_sb h hlo hhi hp.1 hp.2.1 hp.2.2 (Nat.le_refl _) false, hel.run_size, hs1, Addr.add_plain]
  · split
    · have : l.toNat = 0 := by omega
      rw [this, Nat.add_zero]
    · rfl
theorem yes_len_str (h : RepB V β w0 N e m a w) {t : TypeId} {i : TI} (ht : TyOk P t i) (hi : i.kind = .str) {x : Operand} {s : ByteArray} (hx : opd ⟨e, m⟩ x = .v (.string s)) :
    Yes P V ⟨d, .call ⟨.builtin .len, #[x], #[t]⟩, tt, pos, after, g⟩ w0 N e m a w (.v (.int .i64 s.size)) := by
  have hkd := ht.kind
  rw [hi] at hkd
  refine .same h (v := .int .i64 s.size) ?_ rfl
  simp [execOp, resolve, invoke, builtin, Builtin.len_, run_underlying hkd.1, opd_v h hx, goInt]
theorem opd_len (h : RepB V β w0 N e m a w) {x : Operand} {n : Nat} (hn : slLen ⟨e, m⟩ (opd ⟨e, m⟩ x) = some n) : ∃ A cap, a.eval x = .slice A n cap ∧ n ≤ cap := by
  unfold slLen at hn
  split at hn
  · rename_i k l hx
    cases hn
    obtain ⟨A, cap, hv, h1, _⟩ := opd_rd h hx
    exact ⟨A, cap, hv, h1⟩
  · rename_i key hx
    obtain ⟨c, fr, cap, hk, _, hc1, h4⟩ := opd_ow h hx
    simp only [hk, Option.map_some, Option.some.injEq] at hn
    subst hn
    rcases h4 with ⟨_, h0, hv⟩ | ⟨b, _, hv⟩
    · exact ⟨none, 0, by rw [h0]; exact hv, by omega⟩
    · exact ⟨_, cap, hv, hc1⟩
  · rename_i key lo k hx
    cases hn
    obtain ⟨_, A, cap, hv, h1, _⟩ := opd_al h hx
    exact ⟨A, cap, hv, h1⟩
  · rename_i hx
    cases hn
    exact ⟨none, 0, opd_v h hx, Nat.le_refl _⟩
  · cases hn
end Go.AM
namespace Go.AM
variable [Lay]
open Go.RowKit (Below)
variable {P : Program} {V : Nat → Prop} {β : Nat → Option Nat} {w0 w w' : World} {N : Nat} {e : Env} {m : Mem} {a : Act}
variable {ty : Ty} {Γ : Gam} {d : Option Tmp} {tt : TypeId} {pos : String} {after : Array Edge} {g : Option (Nat × Bool)}

theorem foldl_setL : ∀ (xs : List Value) (off k : Nat) (cs : Array Value), ((xs.zipIdx k).foldl (fun cs (p : Value × Nat) => cs.setIfInBounds (off + p.2) p.1) cs).toList = setL cs.toList (off + k) xs
  | [], _, _, _ => by simp [setL]
  | x :: xs, off, k, cs => by
    rw [List.zipIdx_cons, List.foldl_cons, foldl_setL xs off (k + 1)]
    simp [setL, Nat.add_assoc]
theorem length_setL : ∀ (xs : List Value) (off : Nat) (l : List Value), (setL l off xs).length = l.length
  | [], _, _ => rfl
  | x :: xs, off, l => by simp [setL, length_setL xs]
theorem setL_eq : ∀ (xs : List Value) (off : Nat) (l : List Value), off + xs.length ≤ l.length → setL l off xs = l.take off ++ xs ++ l.drop (off + xs.length)
  | [], off, l, _ => by simp [setL]
  | x :: xs, off, l, h => by
    simp only [List.length_cons] at h
    rw [setL, setL_eq xs (off + 1) (l.set off x) (by simp; omega), list_seg_step l off x xs (by omega)]
    simp
theorem fill_of (h : RepB V β w0 N e m a w) {place place' : Nat → Option (Nat × Nat)} (hpl : ∀ j r, place' j = some r → place j = some r) :
    ∀ (parts : List (Nat × Operand)) (cs cs' : List Value), fillParts place' ⟨e, m⟩ parts cs = some cs' → Instr.fill place cs.toArray (parts.map fun p => (p.1, a.eval p.2)) = some cs'.toArray
  | [], cs, cs', hf => by simp [fillParts] at hf; subst hf; rfl
  | (i, x) :: r, cs, cs', hf => by
    simp only [fillParts] at hf
    split at hf
    · rename_i off size v hp hv
      split at hf
      · rename_i hc
        have hv' : opd ⟨e, m⟩ x = .v v := by unfold valOf at hv; split at hv <;> simp_all
        have hx := opd_v h hv'
        have ih := fill_of h hpl r _ cs' hf
        have hsz : v.cells.size = size := by rw [← hc.1, ← vcells_cells, Array.length_toList]
        have hset : (v.cells.zipIdx.foldl (fun cs (p : Value × Nat) => cs.setIfInBounds (off + p.2) p.1) cs.toArray) = (setL cs off (vcells v)).toArray := by
          apply Array.ext'
          have := foldl_setL v.cells.toList off 0 cs.toArray
          rw [← vcells_cells, ← Array.foldl_toList, Array.toList_zipIdx]
          simpa using this
        simp only [List.map_cons, Instr.fill, hpl i _ hp, hx]
        rw [if_neg (by simp [hsz]; omega)]
        rw [← ih, ← hset]
      · cases hf
    · cases hf
theorem yes_build_struct (h : RepB V β w0 N e m a w) (hty : TysOk P ty) {t : TypeId} {i : TI} (ht : TyOk P t i) {fs : List (Nat × TypeId)} (hi : i.kind = .struct fs) {parts : Array (Nat × Operand)} {cs : List Value}
    (hf : fillParts (fun j => (fs[j]?).bind fun p => (ty p.2).map fun fi => (p.1, fi.size)) ⟨e, m⟩ parts.toList i.zero = some cs) :
    Yes P V ⟨d, .build t parts, tt, pos, after, g⟩ w0 N e m a w (.v (.agg cs.toArray)) := by
  have hkd := ht.kind
  rw [hi] at hkd
  obtain ⟨_, fields, hu, hmap, hsz⟩ := hkd
  obtain ⟨q, hq, hq1, hq2, z, hz, hzc⟩ := ht.info
  have hplaces : ∀ (l : List Field), (∀ f ∈ l, ∃ q, P.info? f.type = some q ∧ q.size ≠ 0) → ∃ pl, l.mapM (fun f => (P.info? f.type).map fun i => (f.offset, i.size)) = some pl ∧ pl = l.map (fun f => (f.offset, P.cellsOf f.type)) := by
    intro l
    induction l with
    | nil => intro _; exact ⟨[], by simp, rfl⟩
    | cons f r ih =>
      intro hh
      obtain ⟨pl, h1, h2⟩ := ih fun x hx => hh x (by simp [hx])
      obtain ⟨q, h3, _⟩ := hh f (by simp)
      exact ⟨(f.offset, q.size) :: pl, by simp [List.mapM_cons, h3, h1], by simp [h2, Program.cellsOf, h3]⟩
  obtain ⟨pl, hpl1, hpl2⟩ := hplaces fields.toList (fun f hf => hsz f (by simpa using hf))
  have hfill := fill_of h (place := fun x => pl.toArray[x]?) (fun j r hj => by
    cases hfj : fs[j]? with
    | none => simp [hfj] at hj
    | some p =>
      obtain ⟨o, ft⟩ := p
      simp only [hfj, Option.bind_some] at hj
      obtain ⟨fi, hfi, rfl⟩ := Option.map_eq_some_iff.1 hj
      rw [← hmap, List.getElem?_map] at hfj
      obtain ⟨f, hf1, hf2⟩ := Option.map_eq_some_iff.1 hfj
      simp only [Prod.mk.injEq] at hf2
      obtain ⟨rfl, rfl⟩ := hf2
      obtain ⟨q', h1, h2, _⟩ := (hty _ _ hfi).info
      have h3 : P.cellsOf f.type = fi.size := by rw [← h2]; simp [Program.cellsOf, h1]
      simp [hpl2, hf1, h3]) _ _ _ hf
  have hb : P.built t (parts.map fun (i, x) => (i, a.eval x)).toList = some cs.toArray := by
    have e1 : z.cells = i.zero.toArray := by rw [← hzc]
    simp only [Program.built, hq, hu, hz, hpl1, e1, Array.toList_map]
    exact hfill
  refine .same h (v := .agg cs.toArray) ?_ rfl
  simp only [execOp, Sem.run_bind, run_build w t _ _ hb, Result.andThen_ok, Sem.run_pure]
theorem yes_build_arr (h : RepB V β w0 N e m a w) {t : TypeId} {i : TI} (ht : TyOk P t i) {n : Nat} {el : TypeId} (hi : i.kind = .arr n el) {ei : TI} (hel : TyOk P el ei) {parts : Array (Nat × Operand)} {cs : List Value}
    (hf : fillParts (fun j => some (j * ei.size, ei.size)) ⟨e, m⟩ parts.toList i.zero = some cs) :
    Yes P V ⟨d, .build t parts, tt, pos, after, g⟩ w0 N e m a w (.v (.agg cs.toArray)) := by
  have hkd := ht.kind
  rw [hi] at hkd
  obtain ⟨q, hq, hq1, hq2, z, hz, hzc⟩ := ht.info
  obtain ⟨q', hq', hq1', _⟩ := hel.info
  have hfill := fill_of h (place := fun j => some (j * q'.size, q'.size)) (fun j r hj => by rw [hq1']; exact hj) _ _ _ hf
  have hb : P.built t (parts.map fun (i, x) => (i, a.eval x)).toList = some cs.toArray := by
    have e1 : z.cells = i.zero.toArray := by rw [← hzc]
    simp only [Program.built, hq, hkd.1, hz, hq', e1, Array.toList_map]
    exact hfill
  refine .same h (v := .agg cs.toArray) ?_ rfl
  simp only [execOp, Sem.run_bind, run_build w t _ _ hb, Result.andThen_ok, Sem.run_pure]
theorem toInts_map : ∀ {l : List Value} {k : IntKind} {ns : List Int}, toInts k l = some ns → l = ns.map (.int k)
  | [], k, ns, h => by simp [toInts] at h; subst h; rfl
  | x :: r, k, ns, h => by
    cases x <;> simp only [toInts] at h <;> try (cases h; done)
    rename_i k' n
    split at h
    · rename_i hk
      obtain ⟨ms, h1, rfl⟩ := Option.map_eq_some_iff.1 h
      rw [toInts_map h1, hk]
      rfl
    · cases h
theorem okCells_ints (k : IntKind) (l : List Int) : Oc (l.map (Value.int k)) = true := by
  induction l with
  | nil => rfl
  | cons x r ih => simpa [Oc] using ih
theorem Ct.cells_ints (k : IntKind) (l : List Int) : (Ct.ints k l).cells = l.map (.int k) := rfl
theorem madeCells_one (v : Value) (n : Nat) : (madeCells #[v] n).toList = List.replicate n v := by
  apply List.ext_getElem
  · simp [madeCells]
  · intro j h1 h2
    have h0 : ∀ x : Nat, x % (#[v] : Array Value).size = 0 := fun x => by simp [Nat.mod_one]
    simp only [madeCells, Array.toList_map, List.getElem_map, List.getElem_replicate, h0]
    rfl
theorem yes_makeSlice (h : RepB V β w0 N e m a w) {t : TypeId} {i : TI} (ht : TyOk P t i) {el : TypeId} (hi : i.kind = .slice el) {ei : TI} (hel : TyOk P el ei) {k : IntKind} (hk : ei.kind = .int k) {x y : Operand} {n n' : Int}
    (hx : opd ⟨e, m⟩ x = .v (.int .i64 n)) (hy : opd ⟨e, m⟩ y = .v (.int .i64 n')) (hp : n = n' ∧ 0 ≤ n ∧ n * ei.bytes ≤ 140737488355328) (hb : 1 ≤ ei.bytes) {key : Nat} (hkey : m key = none) :
    Yes P V ⟨d, .makeSlice t x y, tt, pos, after, g⟩ w0 N e (fun j => if j = key then some (.ints k (List.replicate n.toNat 0), false) else m j) a w (.ow key) := by
  obtain ⟨rfl, h0, h1⟩ := hp
  have hkd := ht.kind
  rw [hi] at hkd
  have hke := hel.kind
  rw [hk] at hke
  obtain ⟨q, hq, hq1, hq2, z, hz, hzc⟩ := hel.info
  have hz1 : z.cells = #[.int k 0] := by apply Array.ext'; rw [hzc, hke.2.2.1]
  have hn63 : n ≤ 140737488355328 := by
    have : n * 1 ≤ n * (ei.bytes : Int) := Int.mul_le_mul_of_nonneg_left (by omega) h0
    omega
  have hr := run_make (P := P) w t el q z hkd.1 hq hz .i64 .i64 n n h0 (Int.le_refl _) (by rw [hq2, Int.mul_comm]; omega) (by omega)
  rw [hq1, hke.2.2.2, Nat.mul_one, hz1] at hr
  have hcells : (madeCells #[Value.int k 0] n.toNat).toList = (Ct.ints k (List.replicate n.toNat 0)).cells := by rw [madeCells_one, Ct.cells_ints, List.map_replicate]
  have hB := h.alloc1 hkey (.ints k (List.replicate n.toNat 0)) (okCells_ints _ _) _ hcells el
  refine ⟨.slice (some ⟨w.heap.size, 0, none⟩) n.toNat n.toNat, _, _, ?_, hB, ?_⟩
  · simp [execOp, opd_v h hx, opd_v h hy, hr]
  · refine ⟨.ints k (List.replicate n.toNat 0), false, n.toNat, by simp, ⟨by simp only [maxLen]; omega, fun b hb => by have := hB.bsz (key := key) (c := .ints k (List.replicate n.toNat 0)) (fr := false) (by simp) hb; simp [Ct.len] at this; omega⟩, by simp [Ct.len], .inr ⟨w.heap.size, addβ_one _ _ _, by simp [Ct.len]⟩⟩
theorem yes_buildSliceS (h : RepB V β w0 N e m a w) {t : TypeId} {i : TI} (ht : TyOk P t i) {el : TypeId} (hi : i.kind = .slice el) {ei : TI} (hel : TyOk P el ei) {n : Nat} (hn1 : 1 ≤ n) (hs1 : 1 ≤ ei.size) (hn : n * ei.size ≤ 1000) {parts : Array (Nat × Operand)} {cs : List Value}
    (hf : fillParts (fun j => some (j * ei.size, ei.size)) ⟨e, m⟩ parts.toList (stCells n ei.size ei.zero) = some cs) (hok : Oc cs = true) {key : Nat} (hkey : m key = none) :
    Yes P V ⟨d, .buildSlice t n parts, tt, pos, after, g⟩ w0 N e (fun j => if j = key then some (.vals cs, false) else m j) a w (.ows key n) := by
  have hkd := ht.kind
  rw [hi] at hkd
  obtain ⟨z, hz, hzc⟩ := hel.run_zero w
  have hfill := fill_of h (place := fun i => some (i * ei.size, ei.size)) (fun j r hj => by simpa using hj) _ _ _ hf
  have hpos : 1 ≤ n * ei.size := Nat.mul_le_mul hn1 hs1
  have h0 : ¬ n * ei.size = 0 := by omega
  have hzs : z.cells.size = ei.size := by rw [← Array.length_toList, hzc]; exact hel.zero.2
  have hrep : (stCells n ei.size ei.zero).toArray = (Array.range (n * ei.size)).map (z.cells[· % z.cells.size]!) := by
    apply Array.ext'
    simp only [stCells, Array.toList_map, Array.toList_range]
    apply List.map_congr_left
    intro q _
    rw [hzs, ← hzc, List.getD_eq_getElem?_getD, getElem!_def, Array.getElem?_toList]
    cases z.cells[q % ei.size]? <;> rfl
  rw [hrep] at hfill
  refine ⟨.slice (some ⟨w.heap.size, 0, none⟩) n n, _, _, ?_, h.alloc1 hkey (.vals cs) hok cs.toArray (by simp [Ct.cells]) el, ?_⟩
  · have hle : ¬ (n * ei.size > 2 ^ 24) := by omega
    have hmap : (parts.map fun (i, x) => (i, a.eval x)).toList = parts.toList.map fun p => (p.1, a.eval p.2) := by simp
    simp only [execOp, Instr.buildSlice, Sem.run_bind, run_underlying hkd.1, Result.andThen_ok, hel.run_size]
    rw [if_neg hle, if_neg h0]
    simp only [Sem.run_pure, Sem.run_bind, Result.andThen_ok, hz, hmap]
    rw [hfill]
    simp [newRow]
  · refine ⟨.vals cs, false, n, w.heap.size, by simp, addβ_one _ _ _, Nat.le_refl _, ?_, rfl⟩
    have : n ≤ n * ei.size := Nat.le_mul_of_pos_right n hs1
    simp only [maxLen]; omega
theorem yes_buildSlice (h : RepB V β w0 N e m a w) {t : TypeId} {i : TI} (ht : TyOk P t i) {el : TypeId} (hi : i.kind = .slice el) {ei : TI} (hel : TyOk P el ei) {k : IntKind} (hk : ei.kind = .int k) {n : Nat} (hn : n ≤ 1000) {parts : Array (Nat × Operand)} {cs : List Value} {l : List Int}
    (hf : fillParts (fun j => some (j, 1)) ⟨e, m⟩ parts.toList (List.replicate n (.int k 0)) = some cs) (hl : toInts k cs = some l) {key : Nat} (hkey : m key = none) (hlen : cs.length = n) :
    Yes P V ⟨d, .buildSlice t n parts, tt, pos, after, g⟩ w0 N e (fun j => if j = key then some (.ints k l, false) else m j) a w (.ow key) := by
  have hkd := ht.kind
  rw [hi] at hkd
  have hke := hel.kind
  rw [hk] at hke
  obtain ⟨z, hz, hzc⟩ := hel.run_zero w
  have hz1 : z.cells = #[.int k 0] := by apply Array.ext'; rw [hzc, hke.2.2.1]
  have hfill := fill_of h (place := fun i => some (i * 1, 1)) (fun j r hj => by simpa using hj) _ _ _ hf
  have hcs := toInts_map hl
  have hrep : (List.replicate n (Value.int k 0)).toArray = (Array.range (n * 1)).map ((if n * 1 = 0 then (#[] : Array Value) else #[.int k 0])[· % (if n * 1 = 0 then (#[] : Array Value) else #[.int k 0]).size]!) := by
    apply Array.ext'
    have := madeCells_one (.int k 0) n
    simp only [madeCells] at this
    by_cases h0 : n = 0
    · subst h0; simp
    · simp only [Nat.mul_one, if_neg h0]
      exact this.symm
  rw [hrep] at hfill
  have hB := h.alloc1 hkey (.ints k l) (okCells_ints _ _) cs.toArray (by rw [Ct.cells_ints]; simpa using hcs) el
  refine ⟨.slice (some ⟨w.heap.size, 0, none⟩) n n, _, _, ?_, hB, ?_⟩
  · have hle : ¬ (n * 1 > 2 ^ 24) := by omega
    have hmap : (parts.map fun (i, x) => (i, a.eval x)).toList = parts.toList.map fun p => (p.1, a.eval p.2) := by simp
    by_cases h0 : n * 1 = 0
    · simp only [execOp, Instr.buildSlice, Sem.run_bind, run_underlying hkd.1, Result.andThen_ok, hel.run_size, hke.2.2.2]
      rw [if_neg hle, if_pos h0]
      simp only [Sem.run_pure, Sem.run_bind, Result.andThen_ok, hmap]
      rw [if_pos h0] at hfill
      rw [hfill]
      simp [newRow]
    · simp only [execOp, Instr.buildSlice, Sem.run_bind, run_underlying hkd.1, Result.andThen_ok, hel.run_size, hke.2.2.2]
      rw [if_neg hle, if_neg h0]
      simp only [Sem.run_pure, Sem.run_bind, Result.andThen_ok, hz, hz1, hmap]
      rw [if_neg h0] at hfill
      rw [hfill]
      simp [newRow]
  · have hll : l.length = n := by rw [← hlen, hcs]; simp
    refine ⟨.ints k l, false, n, by simp, ⟨by simp only [maxLen]; omega, fun b hb => by have := hB.bsz (key := key) (c := .ints k l) (fr := false) (by simp) hb; simp [Ct.len, hll] at this; omega⟩, by simp [Ct.len, hll], .inr ⟨w.heap.size, addβ_one _ _ _, by simp [Ct.len, hll]⟩⟩
theorem yes_max (h : RepB V β w0 N e m a w) {x y : Operand} {ts : Array TypeId} {k k' : IntKind} {u v : Int} (hx : opd ⟨e, m⟩ x = .v (.int k u)) (hy : opd ⟨e, m⟩ y = .v (.int k' v)) :
    Yes P V ⟨d, .call ⟨.builtin .max, #[x, y], ts⟩, tt, pos, after, g⟩ w0 N e m a w (.v (.int k (max u v))) := by
  refine .same h (v := .int k (max u v)) ?_ rfl
  have : (if v > u then v else u) = max u v := by omega
  simp [execOp, resolve, invoke, builtin, run_max_int2, opd_v h hx, opd_v h hy, this]
theorem yes_min (h : RepB V β w0 N e m a w) {x y : Operand} {ts : Array TypeId} {k k' : IntKind} {u v : Int} (hx : opd ⟨e, m⟩ x = .v (.int k u)) (hy : opd ⟨e, m⟩ y = .v (.int k' v)) :
    Yes P V ⟨d, .call ⟨.builtin .min, #[x, y], ts⟩, tt, pos, after, g⟩ w0 N e m a w (.v (.int k (min u v))) := by
  refine .same h (v := .int k (min u v)) ?_ rfl
  have : (if v < u then v else u) = min u v := by omega
  simp [execOp, resolve, invoke, builtin, run_min_int2, opd_v h hx, opd_v h hy, this]
theorem yes_len_sl (h : RepB V β w0 N e m a w) {t : TypeId} {i : TI} (ht : TyOk P t i) {el : TypeId} (hi : i.kind = .slice el) {x : Operand} {n : Nat} (hn : slLen ⟨e, m⟩ (opd ⟨e, m⟩ x) = some n) :
    Yes P V ⟨d, .call ⟨.builtin .len, #[x], #[t]⟩, tt, pos, after, g⟩ w0 N e m a w (.v (.int .i64 n)) := by
  have hkd := ht.kind
  rw [hi] at hkd
  obtain ⟨A, cap, hv, _⟩ := opd_len h hn
  refine .same h (v := .int .i64 n) ?_ rfl
  simp [execOp, resolve, invoke, builtin, Builtin.len_, run_underlying hkd.1, hv, goInt]
end Go.AM
namespace Go.AM
variable [Lay]
open Go.RowKit (Below)
variable {P : Program} {V : Nat → Prop} {β : Nat → Option Nat} {w0 w w' : World} {N : Nat} {e : Env} {m : Mem} {a : Act}
variable {ty : Ty} {Γ : Gam} {d : Option Tmp} {tt : TypeId} {pos : String} {after : Array Edge} {g : Option (Nat × Bool)}

theorem stAt_ok {c c' : Ct} {off : Nat} {vs : List Value} {p : Prop} (h : stAt c off vs = some (p, c')) (hp : p) (ho : Oc c.cells = true) (hv : Oc vs = true) :
    off + vs.length ≤ c.cells.length ∧ c'.len = c.len ∧ Oc c'.cells = true ∧ c'.cells = c.cells.take off ++ vs ++ c.cells.drop (off + vs.length) := by
  have hok : ∀ (l : List Value), Oc l = true → Oc (l.take off ++ vs ++ l.drop (off + vs.length)) = true := fun l hl => okCells_of fun v hm => by
    rcases List.mem_append.1 hm with hm | hm
    · rcases List.mem_append.1 hm with hm | hm
      · exact okCells_mem hl v (List.mem_of_mem_take hm)
      · exact okCells_mem hv v hm
    · exact okCells_mem hl v (List.mem_of_mem_drop hm)
  cases c with
  | vals l =>
    simp only [stAt, Option.some.injEq, Prod.mk.injEq] at h
    obtain ⟨rfl, rfl⟩ := h
    have he := setL_eq vs off l hp
    exact ⟨hp, by simp [Ct.len, length_setL], by simp only [Ct.cells, he]; exact hok l ho, he⟩
  | ints k l =>
    simp only [stAt] at h
    split at h
    · rename_i k' n
      split at h
      · rename_i hk
        subst hk
        simp only [Option.some.injEq, Prod.mk.injEq] at h
        obtain ⟨rfl, rfl⟩ := h
        have he : (l.set off n).map (Value.int k') = (l.map (Value.int k')).take off ++ [.int k' n] ++ (l.map (Value.int k')).drop (off + [Value.int k' n].length) := by
          rw [List.map_set]
          have := setL_eq [.int k' n] off (l.map (Value.int k')) (by simp; omega)
          simpa [setL] using this
        refine ⟨by simp [Ct.cells]; omega, by simp [Ct.len], okCells_ints _ _, he⟩
      · cases h
    · cases h
theorem store_ok (h : RepB V β w0 N e m a w) (hty : TysOk P ty) {t : TypeId} {x y : Operand} {key : Nat} {p : Prop} {c' : Ct} (hs : aStore ty ⟨e, m⟩ t x y = some (key, p, c')) (hp : p) :
    ∃ w', (execOp a.eval ⟨d, .store t x y, tt, pos, after, g⟩).run P w = .ok .skip w' ∧ RepB V β w0 N e (fun k => if k = key then some (c', false) else m k) a w' := by
  unfold aStore at hs
  split at hs
  · rename_i key' off v hx hy
    split at hs
    · rename_i c hk
      split at hs
      · rename_i hc
        obtain ⟨⟨p', c''⟩, h1, h2⟩ := Option.map_eq_some_iff.1 hs
        simp only [Prod.mk.injEq] at h2
        obtain ⟨rfl, rfl, rfl⟩ := h2
        obtain ⟨c1, fr, b, hk1, hb, hv⟩ := opd_ref h hx
        have hk' : m key' = some (c, false) := hk
        rw [hk'] at hk1; cases hk1
        have hyv : a.eval y = v := opd_v h (by unfold valOf at hy; split at hy <;> simp_all)
        obtain ⟨ho, hbad | ⟨b', arr, T, rest, hb', hB, hh, harr⟩⟩ := h.mem key' c false hk'
        · rw [hb] at hbad; exact absurd hbad.1 (by simp)
        · rw [hb] at hb'; cases hb'
          obtain ⟨hfit, hlen, hok, hcs⟩ := stAt_ok h1 hp ho hc.1
          have hsz : arr.size = c.cells.length + rest.length := by rw [← Array.length_toList, harr, List.length_append]
          have hst := run_storeCells_at P b off T (vcells v) 0 arr w hh (by omega) (fun u hu => okCells_mem hc.1 u hu)
          refine ⟨w.setRow b (arr.toList.take (off + 0) ++ vcells v ++ arr.toList.drop (off + 0 + (vcells v).length)).toArray, ?_, h.store hk' hb hB hh hlen hok (rest := rest) ?_ (by simp; omega)⟩
          · obtain ⟨i, hi, hi2⟩ := Option.map_eq_some_iff.1 hc.2
            have hsize : v.cells.size = i.size := by rw [hi2, ← vcells_cells, Array.length_toList]
            simp [execOp, Instr.storeAt, hv, Instr.sureAddr, hyv, storeVar, (hty t i hi).run_size, hsize, vcells_cells]
            rw [hst]
            simp
          · simp only [Nat.add_zero, harr, hcs]
            rw [List.take_append_of_le_length (by omega), List.drop_append_of_le_length (by omega)]
            simp
      · cases hs
    · cases hs
  · cases hs

def RepD (w : World) : DV → Value → Prop
  | .v x, v => v = x
  | .sl k l, v => ∃ A cap, v = .slice A l.length cap ∧ l.length ≤ cap ∧ cap ≤ maxLen ∧ (l ≠ [] → ∃ ad : Addr, A = some ad ∧ ∀ i, i < l.length → w.cell? (ad.add i) = some (.int k (l.getD i 0)))
def RepDs (w : World) : List DV → List Value → Prop
  | [], [] => True
  | d :: ds, v :: vs => RepD w d v ∧ RepDs w ds vs
  | _, _ => False
def Lb : Value → Option Nat
  | .slice (some ad) n _ => if 0 < n then some ad.block else none
  | _ => none
def RepR (w w' : World) (vs : List Value) : RV → Value → Prop
  | .v x, v => v = x
  | .fresh k l, v => (v = .slice none 0 0 ∧ l = []) ∨ ∃ b cap arr T rest, v = .slice (some ⟨b, 0, none⟩) l.length cap ∧ l.length ≤ cap ∧ (cap ≤ maxLen ∧ cap ≤ arr.size) ∧ w.heap.size ≤ b ∧ w'.heap[b]? = some (.cells arr T (0, 0)) ∧ arr.toList = l.map (.int k) ++ rest
  | .cells n l, v => ∃ b cap arr T rest, v = .slice (some ⟨b, 0, none⟩) n cap ∧ n ≤ cap ∧ cap ≤ maxLen ∧ w.heap.size ≤ b ∧ w'.heap[b]? = some (.cells arr T (0, 0)) ∧ arr.toList = l ++ rest ∧ Oc l = true
  | .view k l, v => RepD w' (.sl k l) v ∧ (∀ b, Lb v = some b → w.heap.size ≤ b ∨ ∃ u ∈ vs, Lb u = some b)
def RepRs (w w' : World) (vs : List Value) : List RV → List Value → Prop
  | [], [] => True
  | r :: rs, u :: us => RepR w w' vs r u ∧ RepRs w w' vs rs us
  | _, _ => False
def ownB : Value → Option Nat
  | .slice (some ad) _ _ => some ad.block
  | _ => none
def freshBs : List RV → List Value → List Nat
  | .fresh _ _ :: rs, u :: us => (ownB u).toList ++ freshBs rs us
  | .cells _ _ :: rs, u :: us => (ownB u).toList ++ freshBs rs us
  | _ :: rs, _ :: us => freshBs rs us
  | _, _ => []
def RepRes (w w' : World) (vs : List Value) : Res → Value → Prop
  | .one r, v => RepR w w' vs r v
  | .many rs, v => ∃ us : List Value, v = .tuple us.toArray ∧ RepRs w w' vs rs us ∧ (freshBs rs us).Nodup
def plainRes : Res → Prop
  | .one (.v _) => True
  | .many rs => ∀ r ∈ rs, ∃ x, r = .v x
  | _ => False
def Sound (P : Program) (f : Nat) : Fk → Cs → Prop
  | .body, spec => ∃ fn, P.funcs[f]? = some fn ∧ (fn.name == "runtime.NumGoroutine") = false ∧ fn.body.isNone = false ∧
      ∀ ds p r, spec ds = some (p, r) → p → ∀ w vs, Lay.T w → RepDs w ds vs → Calls P f vs.toArray w (fun e w' => ∃ v, e = .returned v ∧ Below w.heap.size w w' ∧ RepRes w w' vs r v)
  | .ext, spec => ∀ ds p r, spec ds = some (p, r) → p → ∀ w vs, RepDs w ds vs → ∃ v, (callFunc f vs.toArray).run P w = .ok (.value v) w ∧ RepRes w w vs r v ∧ plainRes r
def Gk (P : Program) (Γ : Gam) : Prop := ∀ f fk spec, lk Γ f = some (fk, spec) → Sound P f fk spec

theorem dvOf_ok (h : RepB V β w0 N e m a w) {av : AV} {v : Value} {dv : DV} (hv : RepA V β m w av v) (hd : dvOf ⟨e, m⟩ av = some dv) : RepD w dv v := by
  cases av with
  | v x => simp only [dvOf] at hd; split at hd <;> cases hd; exact hv
  | pt x => cases hd
  | rd k l =>
    cases hd
    obtain ⟨A, cap, h1, h2, h3, h4⟩ := hv
    exact ⟨A, cap, h1, h2, h3, fun hl => by obtain ⟨ad, e1, _, hc⟩ := h4 hl; exact ⟨ad, e1, hc⟩⟩
  | ref key off => cases hd
  | ows key n => cases hd
  | ow key =>
    obtain ⟨c, fr, cap, hk, h2, h3, h4⟩ := hv
    simp only [dvOf, hk, Option.bind_some] at hd
    cases c with
    | vals l => cases hd
    | ints k l =>
      cases hd
      rcases h4 with ⟨_, h0, rfl⟩ | ⟨b, hb, rfl⟩
      · have : l = [] := by simpa [Ct.len] using h0
        subst this
        exact ⟨none, 0, rfl, by simp, by simp, fun h => absurd rfl h⟩
      · exact ⟨_, cap, rfl, h3, h2.1, fun _ => ⟨_, rfl, fun i hi => by rw [Addr.add_plain]; exact h.cell hk hb (by simp [Ct.cells, hi])⟩⟩
  | al key lo n =>
    obtain ⟨⟨c, fr, hk, hle⟩, A, cap, rfl, h2, h3, h4⟩ := hv
    have fin : ∀ (k : IntKind) (l : List Int), (c.cells.drop lo).take n = l.map (Value.int k) → dv = .sl k l → RepD w dv (.slice A n cap) := by
      intro k l hcells hdv
      subst hdv
      have hlen : c.cells.length = c.len := Ct.length_cells c
      have hl : l.length = n := by
        have := congrArg List.length hcells
        simp only [List.length_take, List.length_drop, List.length_map] at this
        omega
      refine ⟨A, cap, by rw [hl], by rw [hl]; exact h2, h3.1, fun hne => ?_⟩
      have hn : 0 < n := by rw [← hl]; exact List.length_pos_iff.2 hne
      rcases h4 (.inl hn) with ⟨_, _, h0, _⟩ | ⟨b, hb, rfl⟩
      · omega
      · refine ⟨_, rfl, fun i hi => ?_⟩
        rw [hl] at hi
        rw [Addr.add_plain]
        refine h.cell hk hb ?_
        have hg := congrArg (fun x => x[i]?) hcells
        simp only [List.getElem?_take, if_pos hi, List.getElem?_drop, List.getElem?_map] at hg
        rw [hg]
        simp [List.getD_eq_getElem?_getD, List.getElem?_eq_getElem (show i < l.length by omega)]
    simp only [dvOf, hk, Option.bind_some] at hd
    cases c with
    | ints k l => cases hd; exact fin k _ (by simp [Ct.cells, List.map_drop, List.map_take]) rfl
    | vals l =>
      obtain ⟨ns, h5, h6⟩ := Option.map_eq_some_iff.1 hd
      exact fin .u64 ns (toInts_map h5) h6.symm
  | tup l => cases hd
  | dead => cases hd
theorem dvs_ok (h : RepB V β w0 N e m a w) : ∀ {xs : List Operand} {ds : List DV}, dvs ⟨e, m⟩ xs = some ds → RepDs w ds (xs.map a.eval)
  | [], ds, hd => by simp only [dvs, Option.some.injEq] at hd; subst hd; trivial
  | x :: r, ds, hd => by
    simp only [dvs] at hd
    split at hd
    · rename_i dd ds' h1 h2
      cases hd
      exact ⟨dvOf_ok h (h.opd x) h1, dvs_ok h h2⟩
    · cases hd
theorem yes_convIntStr (h : RepB V β w0 N e m a w) {t t' : TypeId} {i : TI} (ht : TyOk P t' i) (hsrc : (P.underlying t).isSome = true) (hi : i.kind = .str) {x : Operand} {k : IntKind} {n : Int} (hx : opd ⟨e, m⟩ x = .v (.int k n)) :
    Yes P V ⟨d, .convert t t' x, tt, pos, after, g⟩ w0 N e m a w (.v (.string (Utf8.encode n))) := by
  refine .same h (v := .string (Utf8.encode n)) ?_ rfl
  have hkd := ht.kind
  rw [hi] at hkd
  have hr := run_convert_int_string (P := P) w t t' k n hsrc hkd.1
  simp [execOp, opd_v h hx, hr]
theorem yes_convBytes (h : RepB V β w0 N e m a w) {t t' el : TypeId} {i i1 ei : TI} (ht : TyOk P t' i) (h1 : TyOk P t i1) (h2 : i1.kind = .slice el) (h3 : TyOk P el ei) (h4 : ei.kind = .int .u8) (hi : i.kind = .str) {x : Operand} {l : List Int} (hl : dvBytes ⟨e, m⟩ (opd ⟨e, m⟩ x) = some l) :
    Yes P V ⟨d, .convert t t' x, tt, pos, after, g⟩ w0 N e m a w (.v (.string (strOf l))) := by
  refine .same h (v := .string (strOf l)) ?_ rfl
  have k0 := ht.kind
  rw [hi] at k0
  have k1 := h1.kind
  rw [h2] at k1
  have k3 := h3.kind
  rw [h4] at k3
  have hrep := h.opd x
  have key : ∀ (A : Option Addr) (n c : Nat), n = l.length → (l ≠ [] → ∃ ad : Addr, A = some ad ∧ ∀ i, i < l.length → w.cell? (ad.add i) = some (.int .u8 (l.getD i 0))) → a.eval x = .slice A n c → (execOp a.eval ⟨d, .convert t t' x, tt, pos, after, g⟩).run P w = .ok (.value (.string (strOf l))) w := by
    rintro A n c rfl hc hv
    cases A with
    | none =>
      have hl0 : l = [] := Classical.byContradiction fun hne => by obtain ⟨ad, h5, _⟩ := hc hne; cases h5
      subst hl0
      have hr := Go.Lib.run_convert_nil_bytes (P := P) w t t' el c k1.1 k3.1 k0.1
      have he : (⟨#[]⟩ : ByteArray) = strOf [] := rfl
      rw [he] at hr
      simp [execOp, hv, hr]
    | some ad =>
      have hload : (loadCells ad l.length).run P w = .ok (l.map (Value.int .u8)).toArray w := by
        have hh := run_loadCells_list (P := P) w ad (l.map (Value.int .u8)) (fun j u hu => by
          rw [List.getElem?_map] at hu
          obtain ⟨z, hz, rfl⟩ := Option.map_eq_some_iff.1 hu
          have hj := (List.getElem?_eq_some_iff.1 hz).1
          obtain ⟨ad', h5, h6⟩ := hc (by intro h0; rw [h0] at hj; exact absurd hj (Nat.not_lt_zero _))
          cases h5
          rw [h6 j hj]
          simp [List.getD_eq_getElem?_getD, hz])
        simpa using hh
      have hr := run_convert_bytes_string (P := P) w t t' el (some ad) l.length c k1.1 k3.1 k0.1
      rw [run_bytesToString w ad l.length c l hload] at hr
      have he : l.foldl (fun r n => r.push (UInt8.ofNat n.toNat)) ByteArray.empty = strOf l := rfl
      rw [he] at hr
      simp [execOp, hv, hr]
  unfold dvBytes at hl
  split at hl
  · rename_i hx
    cases hl
    rw [hx] at hrep
    exact key none 0 0 rfl (fun h => absurd rfl h) hrep
  · split at hl
    · rename_i l' hd
      cases hl
      obtain ⟨A, cap, h5, h6, h7, h8⟩ := dvOf_ok h hrep hd
      exact key A l.length cap rfl (fun hne => by obtain ⟨ad, h9, h10⟩ := h8 hne; exact ⟨ad, h9, h10⟩) h5
    · cases hl
end Go.AM
namespace Go.AM
variable [Lay]
open Go.RowKit (Below)
variable {P : Program} {V : Nat → Prop} {β : Nat → Option Nat} {w0 w w' : World} {N : Nat} {e : Env} {m : Mem} {a : Act}
variable {ty : Ty} {Γ : Gam} {d : Option Tmp} {tt : TypeId} {pos : String} {after : Array Edge} {g : Option (Nat × Bool)}

theorem lk_mem {α : Type} : ∀ {l : List (Nat × α)} {k : Nat} {x : α}, lk l k = some x → (k, x) ∈ l
  | [], _, _, h => by cases h
  | (j, y) :: r, k, x, h => by
    simp only [lk] at h
    split at h
    · rename_i hk; cases h; subst hk; simp
    · exact List.mem_cons_of_mem _ (lk_mem h)
theorem lk_of_mem {α : Type} : ∀ {l : List (Nat × α)} {k : Nat} {x : α}, (l.map (·.1)).Nodup → (k, x) ∈ l → lk l k = some x
  | (j, y) :: r, k, x, hn, h => by
    simp only [List.map_cons, List.nodup_cons] at hn
    simp only [lk]
    rcases List.mem_cons.1 h with h1 | h1
    · cases h1; simp
    · have : k ≠ j := fun hkj => hn.1 (hkj ▸ List.mem_map.2 ⟨(k, x), h1, rfl⟩)
      rw [if_neg this]
      exact lk_of_mem hn.2 h1
theorem lk_append {α : Type} : ∀ (l l' : List (Nat × α)) (k : Nat), lk (l ++ l') k = match lk l k with | some x => some x | none => lk l' k
  | [], _, _ => rfl
  | (j, y) :: r, l', k => by
    simp only [List.cons_append, lk]
    split
    · rfl
    · exact lk_append r l' k
def Ao (key : Nat) : Nat → List RV → List Value → List (Nat × Ct × Option Nat)
  | i, .fresh k l :: rs, u :: us => (key + i, .ints k l, ownB u) :: Ao key (i + 1) rs us
  | i, .cells n l :: rs, u :: us => (key + i, .vals l, ownB u) :: Ao key (i + 1) rs us
  | i, _ :: rs, _ :: us => Ao key (i + 1) rs us
  | _, _, _ => []
theorem addsOf_ge (key : Nat) : ∀ (rs : List RV) (us : List Value) (i : Nat), ∀ p ∈ Ao key i rs us, key + i ≤ p.1
  | [], us, i, p, h => by cases us <;> simp [Ao] at h
  | r :: rs, [], i, p, h => by cases r <;> simp [Ao] at h
  | r :: rs, u :: us, i, p, h => by
    have ih := addsOf_ge key rs us (i + 1) p
    cases r <;> simp only [Ao, List.mem_cons] at h
    · have := ih h; omega
    · rcases h with rfl | h
      · exact Nat.le_refl _
      · have := ih h; omega
    · have := ih h; omega
    · rcases h with rfl | h
      · exact Nat.le_refl _
      · have := ih h; omega
theorem addsOf_nodup (key : Nat) : ∀ (rs : List RV) (us : List Value) (i : Nat), ((Ao key i rs us).map (·.1)).Nodup
  | [], us, i => by cases us <;> simp [Ao]
  | r :: rs, [], i => by cases r <;> simp [Ao]
  | r :: rs, u :: us, i => by
    have ih := addsOf_nodup key rs us (i + 1)
    cases r <;> simp only [Ao]
    · exact ih
    · simp only [List.map_cons, List.nodup_cons]
      refine ⟨fun hm => ?_, ih⟩
      obtain ⟨p, hp, he⟩ := List.mem_map.1 hm
      have := addsOf_ge key rs us (i + 1) p hp
      omega
    · exact ih
    · simp only [List.map_cons, List.nodup_cons]
      refine ⟨fun hm => ?_, ih⟩
      obtain ⟨p, hp, he⟩ := List.mem_map.1 hm
      have := addsOf_ge key rs us (i + 1) p hp
      omega
theorem addsOf_mems (key : Nat) (vs : List Value) : ∀ (rs : List RV) (us : List Value) (i : Nat), RepRs w w' vs rs us → outMems key i rs = (Ao key i rs us).map fun p => (p.1, p.2.1, false)
  | [], us, i, _ => by cases us <;> simp [Ao, outMems]
  | r :: rs, [], i, h => h.elim
  | r :: rs, u :: us, i, h => by
    have ih := addsOf_mems key vs rs us (i + 1) h.2
    cases r <;> simp [Ao, outMems, outMem, ih]
theorem addsOf_ok (key : Nat) (vs : List Value) : ∀ (rs : List RV) (us : List Value) (i : Nat), RepRs w w' vs rs us → ∀ p ∈ Ao key i rs us, Oc p.2.1.cells = true ∧ ((p.2.2 = none ∧ p.2.1.len = 0) ∨
    ∃ b arr T rest, p.2.2 = some b ∧ w.heap.size ≤ b ∧ w'.heap[b]? = some (.cells arr T (0, 0)) ∧ arr.toList = p.2.1.cells ++ rest)
  | [], us, i, _, p, h => by cases us <;> simp [Ao] at h
  | r :: rs, [], i, h, _, _ => h.elim
  | r :: rs, u :: us, i, h, p, hp => by
    have ih := addsOf_ok key vs rs us (i + 1) h.2 p
    cases r <;> simp only [Ao, List.mem_cons] at hp
    · exact ih hp
    · rename_i k l
      rcases hp with rfl | hp
      · refine ⟨okCells_ints k l, ?_⟩
        rcases h.1 with ⟨rfl, rfl⟩ | ⟨b, cap, arr, T, rest, rfl, _, _, h1, h2, h3⟩
        · exact .inl ⟨rfl, rfl⟩
        · exact .inr ⟨b, arr, T, rest, rfl, h1, h2, h3⟩
      · exact ih hp
    · exact ih hp
    · rename_i n l
      rcases hp with rfl | hp
      · obtain ⟨b, cap, arr, T, rest, rfl, _, _, h1, h2, h3, h4⟩ := h.1
        exact ⟨h4, .inr ⟨b, arr, T, rest, rfl, h1, h2, h3⟩⟩
      · exact ih hp
theorem addsOf_blocks (key : Nat) : ∀ (rs : List RV) (us : List Value) (i : Nat), (Ao key i rs us).filterMap (·.2.2) = freshBs rs us
  | [], us, i => by cases us <;> simp [Ao, freshBs]
  | r :: rs, [], i => by cases r <;> simp [Ao, freshBs]
  | r :: rs, u :: us, i => by
    have ih := addsOf_blocks key rs us (i + 1)
    cases r <;> simp only [Ao, freshBs]
    · exact ih
    · cases hu : ownB u <;> simp [List.filterMap_cons, hu, ih]
    · exact ih
    · cases hu : ownB u <;> simp [List.filterMap_cons, hu, ih]
theorem filterMap_inj {α : Type} {f : α → Option Nat} : ∀ {l : List α}, (l.filterMap f).Nodup → ∀ {x y : α} {b : Nat}, x ∈ l → y ∈ l → f x = some b → f y = some b → x = y
  | z :: r, hn, x, y, b, hx, hy, fx, fy => by
    have hr : ∀ u, u ∈ r → f u = some b → b ∈ r.filterMap f := fun u hu fu => List.mem_filterMap.2 ⟨u, hu, fu⟩
    rw [List.filterMap_cons] at hn
    rcases List.mem_cons.1 hx with e1 | hx1
    · rcases List.mem_cons.1 hy with e2 | hy1
      · rw [e1, e2]
      · rw [← e1, fx] at hn
        exact absurd (hr y hy1 fy) (List.nodup_cons.1 hn).1
    · rcases List.mem_cons.1 hy with e2 | hy1
      · rw [← e2, fy] at hn
        exact absurd (hr x hx1 fx) (List.nodup_cons.1 hn).1
      · refine filterMap_inj (l := r) ?_ hx1 hy1 fx fy
        cases hz : f z with
        | none => rw [hz] at hn; exact hn
        | some c => rw [hz] at hn; exact (List.nodup_cons.1 hn).2
theorem freshM_mem {m : Mem} {d : Nat} : ∀ {l : List (Nat × Ct × Bool)}, Fr m d l → ∀ k c, (k, c, false) ∈ l → m k = none
  | (j, c', fr) :: r, h, k, c, hm => by
    simp only [Fr] at h
    rcases List.mem_cons.1 hm with h1 | h1
    · cases h1
      rcases h.1 with h2 | h2
      · cases h2
      · exact h2.2.2
    · exact freshM_mem h.2 k c h1
theorem freezes_spec (s : St) : ∀ (xs : List Operand) (k : Nat) (c : Ct) (fr : Bool), (k, c, fr) ∈ freezes s xs → fr = true ∧ ∃ fr', s.m k = some (c, fr')
  | [], k, c, fr, h => by cases h
  | x :: r, k, c, fr, h => by
    simp only [freezes] at h
    split at h
    · rename_i en hen
      rcases List.mem_cons.1 h with h1 | h1
      · cases h1
        cases hk : keyOf (opd s x) with
        | none => simp [hk] at hen
        | some k' =>
          simp only [hk, Option.bind_some] at hen
          obtain ⟨⟨c', fr'⟩, h2, h3⟩ := Option.map_eq_some_iff.1 hen
          simp only [Prod.mk.injEq] at h3
          obtain ⟨rfl, rfl, rfl⟩ := h3
          exact ⟨rfl, fr', h2⟩
      · exact freezes_spec s r k c fr h1
    · exact freezes_spec s r k c fr h
theorem freezes_has (s : St) : ∀ (xs : List Operand) (x : Operand) (k : Nat) (c : Ct) (fr : Bool), x ∈ xs → keyOf (opd s x) = some k → s.m k = some (c, fr) → ∃ c', lk (freezes s xs) k = some (c', true)
  | y :: r, x, k, c, fr, hx, hk, hc => by
    simp only [freezes]
    have key : (k, c, true) ∈ freezes s (y :: r) → ∃ c', lk (freezes s (y :: r)) k = some (c', true) := fun hm => by
      cases hl : lk (freezes s (y :: r)) k with
      | none =>
        exfalso
        have : ∀ (l : List (Nat × Ct × Bool)), (k, c, true) ∈ l → lk l k ≠ none := fun l => by
          induction l with
          | nil => intro h; cases h
          | cons z l ih =>
            obtain ⟨j, y⟩ := z
            intro h
            simp only [lk]
            split
            · simp
            · rename_i hne
              rcases List.mem_cons.1 h with h1 | h1
              · cases h1; exact absurd rfl hne
              · exact ih h1
        exact this _ hm hl
      | some p =>
        obtain ⟨c', fr'⟩ := p
        have := (freezes_spec s _ k c' fr' (lk_mem hl)).1
        subst this
        exact ⟨c', rfl⟩
    refine key ?_
    have mem : ∀ (xs : List Operand), x ∈ xs → (k, c, true) ∈ freezes s xs := fun xs => by
      induction xs with
      | nil => intro h; cases h
      | cons z xs ih =>
        intro h
        simp only [freezes]
        rcases List.mem_cons.1 h with rfl | h1
        · simp [hk, hc]
        · split
          · exact List.mem_cons_of_mem _ (ih h1)
          · exact ih h1
    exact mem _ hx
end Go.AM
