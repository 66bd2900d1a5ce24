/- Part AmDefs of the proof: own text. -/
import Derived.Below
import Derived.Orders
import Derived.Tactics
import Derived.Laws.FloatArith
set_option linter.all false
namespace Go.AM

/-- What a block of the call's own holds. -/
inductive Ct where
  | ints (k : IntKind) (l : List Int)
  | vals (l : List Value)
def Ct.cells : Ct → List Value
  | .ints k l => l.map (.int k)
  | .vals l => l
def Ct.len : Ct → Nat
  | .ints _ l => l.length
  | .vals l => l.length

/-- What a slot of the frame is known to hold. -/
inductive AV where
  | v (x : Value)
  | pt (x : Value)
  | rd (k : IntKind) (l : List Int)
  | ref (key off : Nat)
  | ow (key : Nat)
  | al (key lo n : Nat)
  | ows (key n : Nat)
  | tup (l : List AV)
  | dead

abbrev Env := Nat → Option AV
abbrev Mem := Nat → Option (Ct × Bool)
structure St where
  e : Env
  m : Mem

def lk {α : Type} : List (Nat × α) → Nat → Option α
  | [], _ => none
  | (j, x) :: r, k => if k = j then some x else lk r k

/-- Types, as the walk wants them. -/
inductive TK where
  | int (k : IntKind) | bool | str | float (k : FloatKind) | arr (n : Nat) (e : TypeId) | slice (e : TypeId) | struct (fs : List (Nat × TypeId)) | other
/-- One cell of a type that can be compared. -/
inductive LK where
  | int (k : IntKind) | bool | str
structure TI where
  kind : TK
  size : Nat
  bytes : Nat
  agg : Bool
  zero : List Value
  leaf : List LK := []
abbrev Ty := TypeId → Option TI

/-- Data that go into a call and come out of it. -/
inductive DV where
  | v (x : Value)
  | sl (k : IntKind) (l : List Int)
inductive RV where
  | v (x : Value)
  | fresh (k : IntKind) (l : List Int)
  | view (k : IntKind) (l : List Int)
  | cells (n : Nat) (l : List Value)
inductive Res where
  | one (r : RV)
  | many (l : List RV)
abbrev CSpec := List DV → Option (Prop × Res)
inductive Fk where
  | body | ext
abbrev Gam := List (Nat × Fk × CSpec)

def vcells : Value → List Value
  | .agg cs => cs.toList
  | v => [v]

def okCells : List Value → Bool
  | [] => true
  | .agg _ :: _ => false
  | .tuple _ :: _ => false
  | _ :: r => okCells r

def toInts (k : IntKind) : List Value → Option (List Int)
  | [] => some []
  | .int k' n :: r => if k' = k then (toInts k r).map (n :: ·) else none
  | _ :: _ => none

def opd (s : St) : Operand → AV
  | .tmp t => (s.e t).getD .dead
  | .const v => .v v
  | _ => .dead

def Ct.intsOf (k : IntKind) : Ct → Option (List Int)
  | .ints k' l => if k' = k then some l else none
  | .vals l => toInts k l

def slInts (s : St) (k : IntKind) : AV → Option (List Int)
  | .rd k' l => if k' = k then some l else none
  | .ow key => (s.m key).bind fun c => c.1.intsOf k
  | .al key lo n => (s.m key).bind fun c => (c.1.intsOf k).map fun l => (l.drop lo).take n
  | .v (.slice none 0 0) => some []
  | _ => none
def slLen (s : St) : AV → Option Nat
  | .rd _ l => some l.length
  | .ow key => (s.m key).map fun c => c.1.len
  | .al _ _ n => some n
  | .v (.slice none 0 0) => some 0
  | _ => none

def bt (s : ByteArray) (i : Int) : Int := ((s.data.toList.getD i.toNat 0).toNat : Int)
def pow2 (k : IntKind) : Int := match k with | .i8 | .u8 => 256 | .i16 | .u16 => 65536 | .i32 | .u32 => 4294967296 | .i64 | .u64 => 18446744073709551616
def sgn (k : IntKind) : Bool := match k with | .i8 | .i16 | .i32 | .i64 => true | _ => false
def inR (k : IntKind) (n : Int) : Prop := match k with
  | .i8 => -128 ≤ n ∧ n ≤ 127 | .i16 => -32768 ≤ n ∧ n ≤ 32767 | .i32 => -2147483648 ≤ n ∧ n ≤ 2147483647
  | .i64 => -9223372036854775808 ≤ n ∧ n ≤ 9223372036854775807
  | .u8 => 0 ≤ n ∧ n ≤ 255 | .u16 => 0 ≤ n ∧ n ≤ 65535 | .u32 => 0 ≤ n ∧ n ≤ 4294967295 | .u64 => 0 ≤ n ∧ n ≤ 18446744073709551615

/-- Signed kinds: no overflow is asked; unsigned ones wrap. -/
def arr (k : IntKind) (n : Int) : Prop × Value := if sgn k then (inR k n, .int k n) else (True, .int k (n % pow2 k))
def bits (op : BinOp) (k : IntKind) (a b : Int) : Int := match op with
  | .and => k.wrap ((BitVec.ofInt k.bits a &&& BitVec.ofInt k.bits b).toNat)
  | .or => k.wrap ((BitVec.ofInt k.bits a ||| BitVec.ofInt k.bits b).toNat)
  | .xor => k.wrap ((BitVec.ofInt k.bits a ^^^ BitVec.ofInt k.bits b).toNat)
  | _ => k.wrap ((BitVec.ofInt k.bits a &&& ~~~ BitVec.ofInt k.bits b).toNat)

def fits : List LK → List Value → Bool
  | [], [] => true
  | .int k :: r, .int k' _ :: r' => (k == k') && fits r r'
  | .bool :: r, .bool _ :: r' => fits r r'
  | .str :: r, .string _ :: r' => fits r r'
  | _, _ => false
def leafEq : List Value → List Value → Option Bool
  | [], [] => some true
  | .int k a :: r, .int k' b :: r' => if k = k' then (leafEq r r').map fun t => (a == b) && t else none
  | .bool a :: r, .bool b :: r' => (leafEq r r').map fun t => (a == b) && t
  | .string a :: r, .string b :: r' => (leafEq r r').map fun t => (a == b) && t
  | _, _ => none

def fbin (op : BinOp) (k : FloatKind) (x y : Nat) : Option Value := match op with
  | .eql => some (.bool (k.format.order x y == some .eq))
  | .neq => some (.bool (k.format.order x y != some .eq))
  | .lss => some (.bool (k.format.order x y == some .lt))
  | .leq => some (.bool (k.format.order x y == some .lt || k.format.order x y == some .eq))
  | .gtr => some (.bool (k.format.order x y == some .gt))
  | .geq => some (.bool (k.format.order x y == some .gt || k.format.order x y == some .eq))
  | .add => (floatBits .add k x y).map (.float k)
  | .sub => (floatBits .sub k x y).map (.float k)
  | .mul => (floatBits .mul k x y).map (.float k)
  | .quo => (floatBits .quo k x y).map (.float k)
  | _ => none
def bin (op : BinOp) (x y : Value) : Option (Prop × Value) :=
  match x, y with
  | .int k a, .int k' b =>
    match op with
    | .shl => some (0 ≤ b ∧ (sgn k = true → inR k (a * 2 ^ (min b.toNat k.bits))), .int k (if sgn k then a * 2 ^ (min b.toNat k.bits) else (a * 2 ^ (min b.toNat k.bits)) % pow2 k))
    | .shr => some (0 ≤ b, .int k (a / 2 ^ (min b.toNat k.bits)))
    | _ =>
    if k = k' then
      match op with
      | .add => some (arr k (a + b))
      | .sub => some (arr k (a - b))
      | .mul => some (arr k (a * b))
      | .quo => some (b ≠ 0 ∧ inR k (a.tdiv b), .int k (a.tdiv b))
      | .rem => some (b ≠ 0, .int k (a.tmod b))
      | .eql => some (True, .bool (a == b))
      | .neq => some (True, .bool (a != b))
      | .lss => some (True, .bool (decide (a < b)))
      | .leq => some (True, .bool (decide (a ≤ b)))
      | .gtr => some (True, .bool (decide (a > b)))
      | .geq => some (True, .bool (decide (a ≥ b)))
      | .and => some (True, .int k (bits .and k a b))
      | .or => some (True, .int k (bits .or k a b))
      | .xor => some (True, .int k (bits .xor k a b))
      | .andNot => some (True, .int k (bits .andNot k a b))
      | _ => none
    else none
  | .string a, .string b =>
    match op with
    | .add => some (a.size + b.size ≤ 9223372036854775807, .string (a ++ b))
    | .eql => some (True, .bool (a.toList == b.toList))
    | .neq => some (True, .bool (!(a.toList == b.toList)))
    | _ => none
  | .bool a, .bool b =>
    match op with
    | .eql => some (True, .bool (a == b))
    | .neq => some (True, .bool (!(a == b)))
    | _ => none
  | .float k a, .float k' b => if k = k' then (fbin op k a b).map fun v => (True, v) else none
  | _, _ => none

def un (op : UnOp) (x : Value) : Option (Prop × Value) :=
  match op, x with
  | .not, .bool b => some (True, .bool (!b))
  | .neg, .int k n => some (arr k (0 - n))
  | .xor, .int k n => if sgn k then none else some (True, .int k (bits .xor k k.max n))
  | _, _ => none

def conv (k : IntKind) (x : Value) : Option (Prop × Value) :=
  match x with
  | .int _ n => some (arr k n)
  | .float s b => (floatToIntVal s b k).map fun n => (True, .int k n)
  | _ => none
def convF (k : FloatKind) (x : Value) : Option Value :=
  match x with
  | .int _ n => some (.float k (floatOfInt k n))
  | .float s b => (floatToFloatBits s b k).map (.float k)
  | _ => none

def ldAt (c : Ct) (off size : Nat) (agg : Bool) : Option (Prop × Value) :=
  match c with
  | .vals l => if agg then some (off + size ≤ l.length, .agg ((l.drop off).take size).toArray) else some (off < l.length, l.getD off (.tuple #[]))
  | .ints k l => if agg then none else some (off < l.length, .int k (l.getD off 0))
def setL (l : List Value) (off : Nat) : List Value → List Value
  | [] => l
  | x :: r => setL (l.set off x) (off + 1) r
def stAt (c : Ct) (off : Nat) (xs : List Value) : Option (Prop × Ct) :=
  match c with
  | .vals l => some (off + xs.length ≤ l.length, .vals (setL l off xs))
  | .ints k l => match xs with
    | [.int k' n] => if k' = k then some (off < l.length, .ints k (l.set off n)) else none
    | _ => none

structure Out where
  pre : Prop
  av : AV
  mem : List (Nat × Ct × Bool)

def intOf : AV → Option Int
  | .v (.int _ n) => some n
  | _ => none
def valOf : AV → Option Value
  | .v x => some x
  | _ => none

def lo? (s : St) : Option Operand → Option Int
  | none => some 0
  | some x => intOf (opd s x)
def hi? (s : St) (n : Nat) : Option Operand → Option Int
  | none => some n
  | some x => intOf (opd s x)

def fillParts (place : Nat → Option (Nat × Nat)) (s : St) : List (Nat × Operand) → List Value → Option (List Value)
  | [], cs => some cs
  | (i, x) :: r, cs => match place i, valOf (opd s x) with
    | some (off, size), some v => if (vcells v).length = size ∧ off + size ≤ cs.length then fillParts place s r (setL cs off (vcells v)) else none
    | _, _ => none

def plainV : Value → Bool
  | .slice (some _) _ _ => false
  | _ => true
def dvOf (s : St) : AV → Option DV
  | .v x => if plainV x = true then some (.v x) else none
  | .rd k l => some (.sl k l)
  | .ow key => (s.m key).bind fun c => match c.1 with
    | .ints k l => some (.sl k l)
    | .vals _ => none
  | .al key lo n => (s.m key).bind fun c => match c.1 with
    | .ints k l => some (.sl k ((l.drop lo).take n))
    | .vals l => (toInts .u64 l).map fun l => .sl .u64 ((l.drop lo).take n)
  | _ => none
def dvs (s : St) : List Operand → Option (List DV)
  | [] => some []
  | x :: r => match dvOf s (opd s x), dvs s r with
    | some d, some ds => some (d :: ds)
    | _, _ => none
def keyOf : AV → Option Nat
  | .ow key => some key
  | .al key _ _ => some key
  | _ => none
def RV.isView : RV → Bool
  | .view _ _ => true
  | _ => false
def RV.isFresh : RV → Bool
  | .fresh _ _ => true
  | .cells _ _ => true
  | _ => false
def Res.hasView : Res → Bool
  | .one r => r.isView
  | .many l => l.any RV.isView
def outRV (key : Nat) : RV → AV
  | .v x => .v x
  | .fresh _ _ => .ow key
  | .view k l => .rd k l
  | .cells n _ => .ows key n
def outMem (key : Nat) : RV → List (Nat × Ct × Bool)
  | .fresh k l => [(key, .ints k l, false)]
  | .cells _ l => [(key, .vals l, false)]
  | _ => []
def outAVs (key : Nat) : Nat → List RV → List AV
  | _, [] => []
  | i, r :: rs => outRV (key + i) r :: outAVs key (i + 1) rs
def outMems (key : Nat) : Nat → List RV → List (Nat × Ct × Bool)
  | _, [] => []
  | i, r :: rs => outMem (key + i) r ++ outMems key (i + 1) rs
def freezes (s : St) : List Operand → List (Nat × Ct × Bool)
  | [] => []
  | x :: r => match (keyOf (opd s x)).bind fun k => (s.m k).map fun c => (k, c.1, true) with
    | some e => e :: freezes s r
    | none => freezes s r

def pickAV (c : Bool) (x y : AV) : AV := match x, y with
  | .v (.bool x), .v (.bool y) => .v (.bool (if c then x else y))
  | x, y => if c then x else y

/-- The element type of a slice type is one cell. -/
def slTy (ty : Ty) (t : TypeId) : Bool := match ty t with
  | some i => match i.kind with
    | .slice el => match ty el with
      | some ei => ei.size == 1
      | none => false
    | _ => false
  | none => false
def strTy (ty : Ty) (t : TypeId) : Bool := match ty t with
  | some i => match i.kind with
    | .str => true
    | _ => false
  | none => false
def boolOk (ty : Ty) (t : TypeId) (v : Value) : Bool := match v with
  | .bool _ => match ty t with
    | some i => match i.kind with
      | .bool => true
      | _ => false
    | none => false
  | _ => true
def places (ty : Ty) (fs : List (Nat × TypeId)) (j : Nat) : Option (Nat × Nat) := (fs[j]?).bind fun p => (ty p.2).map fun fi => (p.1, fi.size)
def bracket (s : St) (n : Nat) (lo hi : Option Operand) : Option (Int × Int) := match lo? s lo, hi? s n hi with
  | some l, some h => some (l, h)
  | _, _ => none

def stBuild (ty : Ty) (s : St) (t : TypeId) (parts : List (Nat × Operand)) : Option Out :=
  (ty t).bind fun i => match i.kind with
    | .struct fs => (fillParts (places ty fs) s parts i.zero).map fun cs => ⟨True, .v (.agg cs.toArray), []⟩
    | .arr _ e => (ty e).bind fun ei => (fillParts (fun j => some (j * ei.size, ei.size)) s parts i.zero).map fun cs => ⟨True, .v (.agg cs.toArray), []⟩
    | _ => none
def stCells (n sz : Nat) (zero : List Value) : List Value := (List.range (n * sz)).map fun i => zero.getD (i % sz) default
def stBuildSlice (ty : Ty) (s : St) (d : Nat) (t : TypeId) (n : Nat) (parts : List (Nat × Operand)) : Option Out :=
  (ty t).bind fun i => match i.kind with
    | .slice e => (ty e).bind fun ei => match ei.kind with
      | .int k => if n ≤ 1000 then (fillParts (fun j => some (j, 1)) s parts (List.replicate n (.int k 0))).bind fun cs => (toInts k cs).map fun l => ⟨True, .ow (16 * d), [(16 * d, .ints k l, false)]⟩ else none
      | .struct _ => if 1 ≤ n ∧ 1 ≤ ei.size ∧ n * ei.size ≤ 1000 then (fillParts (fun j => some (j * ei.size, ei.size)) s parts (stCells n ei.size ei.zero)).bind fun cs => if okCells cs = true then some ⟨True, .ows (16 * d) n, [(16 * d, .vals cs, false)]⟩ else none else none
      | _ => none
    | _ => none
def stLoad (ty : Ty) (s : St) (t : TypeId) (x : AV) : Option Out :=
  (ty t).bind fun i => match x with
    | .ref key off => (s.m key).bind fun c => (ldAt c.1 off i.size i.agg).map fun pv => ⟨pv.1, .v pv.2, []⟩
    | .pt v => if i.agg = false then some ⟨True, .v v, []⟩ else none
    | _ => none
def stBin (ty : Ty) (o : BinOp) (t : TypeId) (x y : AV) : Option Out :=
  match x, y with
    | .v (.agg a), .v (.agg b) => (ty t).bind fun i => if i.leaf ≠ [] ∧ fits i.leaf a.toList = true ∧ fits i.leaf b.toList = true then
        match o with
        | .eql => (leafEq a.toList b.toList).map fun t => ⟨True, .v (.bool t), []⟩
        | .neq => (leafEq a.toList b.toList).map fun t => ⟨True, .v (.bool (!t)), []⟩
        | _ => none
      else none
    | .v a, .v b => if boolOk ty t a = true then (bin o a b).map fun pv => ⟨pv.1, .v pv.2, []⟩ else none
    | _, _ => none
def stUn (o : UnOp) (x : AV) : Option Out :=
  match x with
    | .v a => (un o a).map fun pv => ⟨pv.1, .v pv.2, []⟩
    | _ => none
def stConv (ty : Ty) (t0 t : TypeId) (x : AV) : Option Out :=
  (ty t0).bind fun _ => (ty t).bind fun i => match i.kind, x with
    | .int k, .v a => (conv k a).map fun pv => ⟨pv.1, .v pv.2, []⟩
    | .float k, .v a => (convF k a).map fun v => ⟨True, .v v, []⟩
    | _, _ => none
def stMake (ty : Ty) (d : Nat) (t : TypeId) (l c : AV) : Option Out :=
  (ty t).bind fun i => match i.kind with
    | .slice e => (ty e).bind fun ei => if 1 ≤ ei.bytes then match ei.kind, l, c with
      | .int k, .v (.int .i64 n), .v (.int .i64 m) => some ⟨n = m ∧ 0 ≤ n ∧ n * ei.bytes ≤ 140737488355328, .ow (16 * d), [(16 * d, .ints k (List.replicate n.toNat 0), false)]⟩
      | _, _, _ => none
      else none
    | _ => none
def stSlice (ty : Ty) (s : St) (t : TypeId) (x : AV) (lo hi : Option Operand) : Option Out :=
  match x with
    | .v (.string b) => if strTy ty t = true then (bracket s b.size lo hi).map fun lh => ⟨0 ≤ lh.1 ∧ lh.1 ≤ lh.2 ∧ lh.2 ≤ (b.size : Int), .v (.string (b.extract lh.1.toNat lh.2.toNat)), []⟩ else none
    | .rd k ns => if slTy ty t = true then (bracket s ns.length lo hi).map fun lh => ⟨0 ≤ lh.1 ∧ lh.1 ≤ lh.2 ∧ lh.2 ≤ (ns.length : Int), .rd k ((ns.take lh.2.toNat).drop lh.1.toNat), []⟩ else none
    | .ow key => if slTy ty t = true then (s.m key).bind fun c => (bracket s c.1.len lo hi).map fun lh => ⟨0 ≤ lh.1 ∧ lh.1 ≤ lh.2 ∧ lh.2 ≤ (c.1.len : Int), .al key lh.1.toNat (lh.2.toNat - lh.1.toNat), []⟩ else none
    | .al key o n => if slTy ty t = true then (bracket s n lo hi).map fun lh => ⟨0 ≤ lh.1 ∧ lh.1 ≤ lh.2 ∧ lh.2 ≤ (n : Int), .al key (o + lh.1.toNat) (lh.2.toNat - lh.1.toNat), []⟩ else none
    | .v (.slice none 0 0) => if slTy ty t = true then (bracket s 0 lo hi).map fun lh => ⟨lh.1 = 0 ∧ lh.2 = 0, .v (.slice none 0 0), []⟩ else none
    | .ref key off => (ty t).bind fun i => match i.kind with
      | .arr n e => (ty e).bind fun ei => if ei.size = 1 ∧ n ≤ 1000000 then (s.m key).bind fun c => (bracket s n lo hi).map fun lh => ⟨(0 ≤ lh.1 ∧ lh.1 ≤ lh.2 ∧ lh.2 ≤ (n : Int)) ∧ off + n ≤ c.1.len, .al key (off + lh.1.toNat) (lh.2.toNat - lh.1.toNat), []⟩ else none
      | _ => none
    | _ => none
def stFieldAddr (ty : Ty) (t : TypeId) (x : AV) (f : Nat) : Option Out :=
  (ty t).bind fun i => match i.kind, x with
    | .struct fs, .ref key off => (fs[f]?).map fun p => ⟨True, .ref key (off + p.1), []⟩
    | _, _ => none
def stField (ty : Ty) (t : TypeId) (x : AV) (f : Nat) : Option Out :=
  (ty t).bind fun i => match i.kind, x with
    | .struct fs, .v (.agg cs) => (fs[f]?).bind fun p => (ty p.2).bind fun fi => (ldAt (.vals cs.toList) p.1 fi.size fi.agg).map fun pv => ⟨pv.1, .v pv.2, []⟩
    | _, _ => none
def stIndexAddr (ty : Ty) (s : St) (t : TypeId) (x i : AV) : Option Out :=
  (intOf i).bind fun j => match x with
      | .rd k l => if slTy ty t = true then some ⟨0 ≤ j ∧ j < l.length, .pt (.int k (l.getD j.toNat 0)), []⟩ else none
      | .ow key => if slTy ty t = true then (s.m key).map fun c => ⟨0 ≤ j ∧ j < c.1.len, .ref key j.toNat, []⟩ else none
      | .al key lo n => if slTy ty t = true then some ⟨0 ≤ j ∧ j < n, .ref key (lo + j.toNat), []⟩ else none
      | .ows key n => (ty t).bind fun ti => match ti.kind with
        | .slice e => (ty e).map fun ei => ⟨0 ≤ j ∧ j < n, .ref key (j.toNat * ei.size), []⟩
        | _ => none
      | .ref key off => (ty t).bind fun ti => match ti.kind with
        | .arr n e => (ty e).map fun ei => ⟨0 ≤ j ∧ j < n, .ref key (off + j.toNat * ei.size), []⟩
        | _ => none
      | _ => none
def stIndex (ty : Ty) (t : TypeId) (x i : AV) : Option Out :=
  (intOf i).bind fun j => match x with
    | .v (.string b) => if strTy ty t = true then some ⟨0 ≤ j ∧ j < b.size, .v (.int .u8 (bt b j)), []⟩ else none
    | .v (.agg cs) => (ty t).bind fun ti => match ti.kind with
      | .arr n e => (ty e).bind fun ei => (ldAt (.vals cs.toList) (j.toNat * ei.size) ei.size ei.agg).map fun pv => ⟨(0 ≤ j ∧ j < n) ∧ pv.1, .v pv.2, []⟩
      | _ => none
    | _ => none
def stExtract (x : AV) (i : Nat) : Option Out :=
  match x with
    | .tup l => (l[i]?).map fun a => ⟨True, a, []⟩
    | _ => none
def stLen (ty : Ty) (s : St) (t : TypeId) (x : AV) : Option Out :=
  match x with
    | .v (.string b) => if strTy ty t = true then some ⟨True, .v (.int .i64 b.size), []⟩ else none
    | a => if slTy ty t = true then (slLen s a).map fun (n : Nat) => ⟨True, .v (.int .i64 (n : Int)), []⟩ else none
def stMax (x y : AV) : Option Out := match x, y with
    | .v (.int k a), .v (.int _ b) => some ⟨True, .v (.int k (max a b)), []⟩
    | _, _ => none
def stMin (x y : AV) : Option Out := match x, y with
    | .v (.int k a), .v (.int _ b) => some ⟨True, .v (.int k (min a b)), []⟩
    | _, _ => none
def bindRes (s : St) (d : Nat) (args : List Operand) (p : Prop) : Res → Out
  | .one r => ⟨p, outRV (16 * d) r, outMem (16 * d) r ++ (if r.isView then freezes s args else [])⟩
  | .many rs => ⟨p ∧ ¬ (rs.any RV.isView = true ∧ rs.any RV.isFresh = true), .tup (outAVs (16 * d) 0 rs), outMems (16 * d) 0 rs ++ (if rs.any RV.isView then freezes s args else [])⟩
def stCall (Γ : Gam) (s : St) (d f : Nat) (args : List Operand) : Option Out :=
  (lk Γ f).bind fun fs => (dvs s args).bind fun ds => (fs.2 ds).map fun pr => bindRes s d args pr.1 pr.2

/-- One operation that has a destination. d: the slot; keys 16 d, 16 d + 1, .. are its own. -/
def aStep (ty : Ty) (Γ : Gam) (s : St) (d : Nat) (op : Op) : Option Out :=
  match op with
  | .move x => some ⟨True, opd s x, []⟩
  | .assign x => some ⟨True, opd s x, []⟩
  | .pick c a b => match opd s c with
    | .v (.bool c) => some ⟨True, pickAV c (opd s a) (opd s b), []⟩
    | _ => none
  | .alloc t => (ty t).map fun i => ⟨True, .ref (16 * d) 0, [(16 * d, .vals i.zero, false)]⟩
  | .box _ x => (valOf (opd s x)).bind fun v => if okCells (vcells v) = true then some ⟨True, .ref (16 * d) 0, [(16 * d, .vals (vcells v), false)]⟩ else none
  | .build t parts => stBuild ty s t parts.toList
  | .buildSlice t n parts => stBuildSlice ty s d t n parts.toList
  | .load t x => stLoad ty s t (opd s x)
  | .binOp o t x y _ => stBin ty o t (opd s x) (opd s y)
  | .unOp o _ x => stUn o (opd s x)
  | .convert t0 t x => stConv ty t0 t (opd s x)
  | .makeSlice t l c => stMake ty d t (opd s l) (opd s c)
  | .slice t x lo hi none => stSlice ty s t (opd s x) lo hi
  | .fieldAddr t x f => stFieldAddr ty t (opd s x) f
  | .field t x f => stField ty t (opd s x) f
  | .indexAddr t x i => stIndexAddr ty s t (opd s x) (opd s i)
  | .index t x i => stIndex ty t (opd s x) (opd s i)
  | .extract x i => stExtract (opd s x) i
  | .call ⟨.builtin .len, ⟨[x]⟩, ⟨[t]⟩⟩ => stLen ty s t (opd s x)
  | .call ⟨.builtin .max, ⟨[x, y]⟩, _⟩ => stMax (opd s x) (opd s y)
  | .call ⟨.builtin .min, ⟨[x, y]⟩, _⟩ => stMin (opd s x) (opd s y)
  | .call ⟨.value (.func f), args, _⟩ => stCall Γ s d f args.toList
  | _ => none

inductive Ex where
  | normal
  | exit (id : Nat)
  | ret

/-- What is owed here, ahead of what follows. -/
def Chk (p k : Prop) : Prop := p ∧ k
/-- Two ways. -/
def Brk (c : Bool) (a b : Prop) : Prop := (c = true → a) ∧ (c = false → b)
def bindO (o : Option Out) (k : AV → List (Nat × Ct × Bool) → Prop) : Prop :=
  match o with
  | some out => Chk out.pre (k out.av out.mem)
  | none => False
def bindS (o : Option (Nat × Prop × Ct)) (k : Nat → Ct → Prop) : Prop :=
  match o with
  | some (key, p, c) => Chk p (k key c)
  | none => False
/-- A store: the key, what is owed, the new contents. -/
def aStore (ty : Ty) (s : St) (t : TypeId) (x y : Operand) : Option (Nat × Prop × Ct) :=
  match opd s x, valOf (opd s y) with
  | .ref key off, some v => match s.m key with
    | some (c, false) => if okCells (vcells v) = true ∧ (ty t).map (·.size) = some (vcells v).length then (stAt c off (vcells v)).map fun (p, c') => (key, p, c') else none
    | _ => none
  | _, _ => none
def slotOf (all : List Oper) (j : Nat) : Nat := ((all[j]?).bind (·.dst)).getD 0
inductive GR where
  | no | tt (t : Bool) | off | bad
/-- A guard: none; a truth; its own operation has not run; nothing is known. -/
def aGuard (all : List Oper) (s : St) (g : Option (Nat × Bool)) : GR :=
  match g with
  | none => .no
  | some (j, b) => match (all[j]?).bind (·.dst) with
    | some sl => match s.e sl with
      | some (.v (.bool c)) => .tt (c == b)
      | some (.v (.tuple _)) => .off
      | _ => .bad
    | none => .bad
def skipE (d : Option Tmp) (env : List (Nat × AV)) : List (Nat × AV) :=
  match d with
  | some d => (d, .v undef) :: env
  | none => env
def bindG (g : GR) (a : Prop) (b c d : Prop) : Prop :=
  match g with
  | .no => a
  | .off => d
  | .tt t => Brk t b c
  | .bad => False
def gset (all : List Oper) (g : Option (Nat × Bool)) (t : Bool) : List (Nat × AV) :=
  match g with
  | some (j, b) => [(slotOf all j, .v (.bool (if t then b else !b)))]
  | none => []
/-- New blocks are new. -/
def freshM (mem : Mem) (d : Nat) : List (Nat × Ct × Bool) → Prop
  | [] => True
  | (k, _, fr) :: r => (fr = true ∨ (16 * d ≤ k ∧ k < 16 * d + 16 ∧ mem k = none)) ∧ freshM mem d r
end Go.AM
