/- Ai, part 1: an abstract run of the model's code over values: definitions. No condition. -/
import Derived.Calls
namespace Go.Ai

/-- Immutable leaf values. A struct is a flat list of leaves. `nil`: a slice that is nil for sure; `sl`: a slice (its rows are its elements, each a flat list of leaves). -/
inductive IV where
  | bool (b : Bool)
  | int (k : IntKind) (n : Int)
  | str (s : ByteArray)
  | nil
  | nilf
  | nilp
  | sl (rows : List (List IV))
  deriving Inhabited

/-- Leaves of a running frame. -/
inductive LV where
  | imm (v : IV)
  | ptr (id ver off : Nat)
  | iptr (cells : List IV)
  | ms (id ver sz off len : Nat)
  | ap (id : Nat) (rows : List (List IV))
  | clip (rows : List (List IV))
  | func (f : Nat) (first captured : List LV)
  | und
  | dead
  deriving Inhabited

inductive AV where
  | leaf (l : LV)
  | agg (ls : List LV)
  | tup (vs : List AV)
  deriving Inhabited

/-- A block of the frame's own: its cells; or what an append made: `n` elements are told elsewhere, the rest of the block is free. -/
inductive AObj where
  | cells (ty ver : Nat) (cs : List LV)
  | tail (ty sz n : Nat)

inductive TK where
  | int (k : IntKind)
  | bool
  | str
  | slice (e : Nat)
  | ptr
  | struct (fs : List (Nat × Nat))
  | array (n e : Nat)
  | other

structure Ty where
  k : TK
  zero : List IV
  size : Nat
  bytes : Nat
  eq : Bool := false   -- a struct or an array of plain leaves

def TK.agg : TK → Bool
  | .struct _ => true
  | .array _ _ => true
  | _ => false

structure St where
  tmps : List AV
  objs : List (Option AObj)

abbrev Upd := List (Nat × AObj)

structure Env where
  pure : Nat → List AV → Option AV
  full : Nat → Nat → List AV → (Nat → Option AObj) → Option (AV × Upd)
  grow : List Nat := []

def AV.leaves : AV → List LV
  | .leaf l => [l]
  | .agg ls => ls
  | .tup _ => []

/-- May it lie in a cell? -/
def LV.solid : LV → Bool
  | .und => false
  | .dead => false
  | _ => true

/-- An immutable leaf, in its common form: nothing is told of capacities and of being nil. -/
def IV.norm : IV → IV
  | .nil => .sl []
  | v => v

def LV.strip : LV → Option IV
  | .imm v => some v.norm
  | .ap _ rows => some (.sl rows)
  | .clip rows => some (.sl rows)
  | _ => none

def stripAll : List LV → Option (List IV)
  | [] => some []
  | l :: ls => match l.strip, stripAll ls with
    | some v, some vs => some (v :: vs)
    | _, _ => none

def AV.stripA : AV → Option AV
  | .leaf l => l.strip.map fun v => .leaf (.imm v)
  | .agg ls => (stripAll ls).map fun vs => .agg (vs.map .imm)
  | .tup _ => none

def stripArgs : List AV → Option (List AV)
  | [] => some []
  | a :: as => match a.stripA, stripArgs as with
    | some v, some vs => some (v :: vs)
    | _, _ => none

def mkAV (agg : Bool) (ls : List LV) : Option AV :=
  if agg then some (.agg ls) else match ls with
    | [l] => some (.leaf l)
    | _ => none

def ofValue : Value → Option AV
  | .bool b => some (.leaf (.imm (.bool b)))
  | .int k n => some (.leaf (.imm (.int k n)))
  | .string s => some (.leaf (.imm (.str s)))
  | .slice none 0 0 => some (.leaf (.imm .nil))
  | .nilFunc => some (.leaf (.imm .nilf))
  | .pointer none => some (.leaf (.imm .nilp))
  | _ => none

def evalOp (tmps : List AV) : Operand → Option AV
  | .tmp t => tmps[t]?
  | .const v => ofValue v
  | .func f => some (.leaf (.func f [] []))
  | .global _ => none

def LV.ids : LV → List Nat
  | .ptr id _ _ => [id]
  | .ms id _ _ _ _ => [id]
  | .ap id _ => [id]
  | .func _ first cap => idsAll first ++ idsAll cap
  | _ => []
where idsAll : List LV → List Nat
  | [] => []
  | l :: ls => l.ids ++ idsAll ls

def AV.ids : AV → List Nat
  | .leaf l => l.ids
  | .agg ls => LV.ids.idsAll ls
  | .tup _ => []

/-- How many bytes a slice may have. -/
def room : Nat := 140737488355328

def boolAV (b : Bool) : AV := .leaf (.imm (.bool b))
def intAV (k : IntKind) (n : Int) : AV := .leaf (.imm (.int k n))

def pickAV (c : Bool) (x y : AV) : AV :=
  match x, y with
  | .leaf (.imm (.bool p)), .leaf (.imm (.bool q)) => .leaf (.imm (.bool (if c then p else q)))
  | _, _ => if c then x else y

def setRange (cs : List LV) (off : Nat) (ls : List LV) : List LV := cs.take off ++ (ls ++ cs.drop (off + ls.length))

def fillAV (place : Nat → Option (Nat × Nat)) : List LV → List (Nat × Option AV) → Option (List LV)
  | cs, [] => some cs
  | cs, (i, v) :: rest =>
    match place i, v with
    | some (off, n), some v => if v.leaves.length = n ∧ 0 < n ∧ off + n ≤ cs.length ∧ v.leaves.all LV.solid = true then fillAV place (setRange cs off v.leaves) rest else none
    | _, _ => none

/-- Where a struct's field lies, and how many cells it has. -/
def fieldAt (T : Nat → Option Ty) (fs : List (Nat × Nat)) (i : Nat) : Option (Nat × Nat) :=
  match fs[i]? with
  | some (o, ft) => match T ft with
    | some tf => some (o, tf.size)
    | none => none
  | none => none

def bitsOp (op : BinOp) (k : IntKind) (x y : Int) : Option Int :=
  let a := BitVec.ofInt k.bits x
  let b := BitVec.ofInt k.bits y
  match op with
  | .and => some (k.wrap (a &&& b).toNat)
  | .or => some (k.wrap (a ||| b).toNat)
  | .xor => some (k.wrap (a ^^^ b).toNat)
  | .andNot => some (k.wrap (a &&& ~~~b).toNat)
  | _ => none

def intBin (op : BinOp) (k : IntKind) (x y : Int) : Option AV :=
  match op with
  | .add => some (intAV k (k.wrap (x + y)))
  | .sub => some (intAV k (k.wrap (x - y)))
  | .mul => some (intAV k (k.wrap (x * y)))
  | .quo => if y = 0 then none else some (intAV k (k.wrap (x.tdiv y)))
  | .rem => if y = 0 then none else some (intAV k (x.tmod y))
  | .eql => some (boolAV (x == y))
  | .neq => some (boolAV (x != y))
  | .lss => some (boolAV (decide (x < y)))
  | .leq => some (boolAV (decide (x ≤ y)))
  | .gtr => some (boolAV (decide (x > y)))
  | .geq => some (boolAV (decide (x ≥ y)))
  | .shl => none
  | .shr => none
  | op => (bitsOp op k x y).map (intAV k)

def shiftBin (op : BinOp) (k : IntKind) (x y : Int) : Option AV :=
  if y < 0 then none else
    match op with
    | .shl => some (intAV k (k.wrap (x * 2 ^ min y.toNat k.bits)))
    | .shr => some (intAV k (x.fdiv (2 ^ min y.toNat k.bits)))
    | _ => none

def strBin (op : BinOp) (x y : ByteArray) : Option AV :=
  match op with
  | .add => if x.size + y.size ≤ room then some (.leaf (.imm (.str (x ++ y)))) else none
  | .eql => some (boolAV (x.toList == y.toList))
  | .neq => some (boolAV (!(x.toList == y.toList)))
  | .lss => some (boolAV (Op.bytesLess x.toList y.toList))
  | .leq => some (boolAV (Op.bytesLess x.toList y.toList || x.toList == y.toList))
  | .gtr => some (boolAV (!(Op.bytesLess x.toList y.toList || x.toList == y.toList)))
  | .geq => some (boolAV (!(Op.bytesLess x.toList y.toList)))
  | _ => none

/-- Equality of leaves of plain kinds. -/
def eqLeaf : LV → LV → Option Bool
  | .imm (.bool a), .imm (.bool b) => some (a == b)
  | .imm (.int k a), .imm (.int k' b) => if k = k' then some (a == b) else none
  | .imm (.str a), .imm (.str b) => some (a == b)
  | _, _ => none

def eqLeaves : List LV → List LV → Option Bool
  | [], [] => some true
  | a :: as, b :: bs => match eqLeaf a b, eqLeaves as bs with
    | some x, some y => some (x && y)
    | _, _ => none
  | _, _ => none

/-- Of the same kinds, plain. -/
def likeLV : IV → LV → Bool
  | .bool _, .imm (.bool _) => true
  | .int k _, .imm (.int k' _) => decide (k = k')
  | .str _, .imm (.str _) => true
  | _, _ => false
def likeAll : List IV → List LV → Bool
  | [], [] => true
  | v :: vs, l :: ls => likeLV v l && likeAll vs ls
  | _, _ => false

/-- Is a slice nil, as far as is known? -/
def isNil : LV → Option Bool
  | .imm .nil => some true
  | .imm (.sl (_ :: _)) => some false
  | .ap _ (_ :: _) => some false
  | .clip (_ :: _) => some false
  | _ => none

def binAV (op : BinOp) (x y : AV) : Option AV :=
  match op, x, y with
  | .shl, .leaf (.imm (.int k a)), .leaf (.imm (.int _ b)) => shiftBin .shl k a b
  | .shr, .leaf (.imm (.int k a)), .leaf (.imm (.int _ b)) => shiftBin .shr k a b
  | op, .leaf (.imm (.int k a)), .leaf (.imm (.int k' b)) => if k = k' then intBin op k a b else none
  | op, .leaf (.imm (.str a)), .leaf (.imm (.str b)) => strBin op a b
  | _, _, _ => none

/-- Comparisons for which the type is asked: a slice and nil, structs and arrays of plain leaves. -/
def cmpAV (ty : Ty) (op : BinOp) (x y : AV) : Option AV :=
  match op, x, y with
  | .eql, .leaf (.imm (.bool a)), .leaf (.imm (.bool b)) => match ty.k with
    | .bool => some (boolAV (a == b))
    | _ => none
  | .neq, .leaf (.imm (.bool a)), .leaf (.imm (.bool b)) => match ty.k with
    | .bool => some (boolAV (!(a == b)))
    | _ => none
  | .eql, .leaf l, .leaf (.imm .nil) => match ty.k with
    | .slice _ => (isNil l).map boolAV
    | _ => none
  | .neq, .leaf l, .leaf (.imm .nil) => match ty.k with
    | .slice _ => (isNil l).map fun b => boolAV (!b)
    | _ => none
  | .eql, .agg as, .agg bs => if (ty.eq && (likeAll ty.zero as && likeAll ty.zero bs)) = true then (eqLeaves as bs).map boolAV else none
  | .neq, .agg as, .agg bs => if (ty.eq && (likeAll ty.zero as && likeAll ty.zero bs)) = true then (eqLeaves as bs).map fun b => boolAV (!b) else none
  | _, _, _ => none

def unAV (op : UnOp) (x : AV) : Option AV :=
  match op, x with
  | .neg, .leaf (.imm (.int k n)) => some (intAV k (k.wrap (0 - n)))
  | .xor, .leaf (.imm (.int k n)) => (bitsOp .xor k (if k.signed then -1 else k.max) n).map (intAV k)
  | .not, .leaf (.imm (.bool b)) => some (boolAV (!b))
  | _, _ => none

/-- The bytes of a row of bytes. -/
def bytesOfRows : List (List IV) → Option (List UInt8)
  | [] => some []
  | [.int .u8 n] :: rest => (bytesOfRows rest).map (UInt8.ofNat n.toNat :: ·)
  | _ :: _ => none

def rowsOfBytes (l : List UInt8) : List (List IV) := l.map fun b => [.int .u8 b.toNat]

/-- The elements of an array's cells: `len` rows of `sz` cells from element `off` on, all immutable. -/
def rowsAt (cs : List LV) (sz : Nat) : (off len : Nat) → Option (List (List IV))
  | _, 0 => some []
  | off, len + 1 => match stripAll ((cs.drop (off * sz)).take sz), rowsAt cs sz (off + 1) len with
    | some r, some rs => some (r :: rs)
    | _, _ => none

/-- The rows of a slice that is read now. -/
def rowsOf (ob : Nat → Option AObj) : LV → Option (List (List IV))
  | .imm .nil => some []
  | .imm (.sl rows) => some rows
  | .ap _ rows => some rows
  | .clip rows => some rows
  | .ms id ver sz off len => match ob id with
    | some (.cells _ ver' cs) => if ver' = ver ∧ 0 < sz ∧ (off + len) * sz ≤ cs.length then rowsAt cs sz off len else none
    | _ => none
  | _ => none

def lenAV : AV → Option AV
  | .leaf (.imm (.str s)) => some (intAV .i64 s.size)
  | .leaf (.imm .nil) => some (intAV .i64 0)
  | .leaf (.imm (.sl rows)) => some (intAV .i64 rows.length)
  | .leaf (.ap _ rows) => some (intAV .i64 rows.length)
  | .leaf (.clip rows) => some (intAV .i64 rows.length)
  | .leaf (.ms _ _ _ _ len) => some (intAV .i64 len)
  | _ => none

def minAV (mx : Bool) : AV → AV → Option AV
  | .leaf (.imm (.int k x)), .leaf (.imm (.int _ y)) => some (intAV k (if (if mx then x < y else y < x) then y else x))
  | _, _ => none

def minAll (mx : Bool) : AV → List AV → Option AV
  | x, [] => some x
  | x, y :: r => (minAV mx x y).bind fun z => minAll mx z r

/-- append: `e` the element type's number. -/
def appendAV (T : Nat → Option Ty) (grow : Bool) (ob : Nat → Option AObj) (d : Nat) (t : Nat) (s : LV) (new : List (List IV)) : Option (AV × Upd) :=
  match T t with
  | some { k := .slice e, .. } => match T e with
    | some te =>
      if new.all (fun r => r.length == te.size) && decide (0 < te.size ∧ 0 < te.bytes) then
        match s with
        | .imm .nil => if new.isEmpty then some (.leaf s, []) else
          match ob d with
          | none => if new.length * te.bytes ≤ room then (if grow then some (.leaf (.ms d 0 te.size 0 new.length), [(d, .cells e 0 (new.flatten.map .imm))]) else some (.leaf (.ap d new), [(d, .tail e te.size new.length)])) else none
          | some _ => none
        | .clip rows => if new.isEmpty then some (.leaf s, []) else
          match ob d with
          | none => if (rows.length + new.length) * te.bytes ≤ room ∧ rows.all (fun r => r.length == te.size) = true then (if grow then some (.leaf (.ms d 0 te.size 0 (rows.length + new.length)), [(d, .cells e 0 ((rows ++ new).flatten.map .imm))]) else some (.leaf (.ap d (rows ++ new)), [(d, .tail e te.size (rows.length + new.length))])) else none
          | some _ => none
        | .ap id rows => if new.isEmpty then some (.leaf s, []) else
          match ob id with
          | some (.tail e' sz n) => if e' = e ∧ sz = te.size ∧ rows.length = n ∧ (rows.length + new.length) * te.bytes ≤ room then some (.leaf (.ap id (rows ++ new)), [(id, .tail e te.size (rows.length + new.length))]) else none
          | _ => none
        | .ms id ver sz off len => if new.isEmpty then some (.leaf s, []) else
          match ob id with
          | some (.cells e' ver' cs) => if e' = e ∧ ver' = ver ∧ off = 0 ∧ sz = te.size ∧ len * sz = cs.length ∧ (len + new.length) * te.bytes ≤ room then some (.leaf (.ms id (ver + 1) sz 0 (len + new.length)), [(id, .cells e (ver + 1) (cs ++ new.flatten.map .imm))]) else none
          | _ => none
        | _ => none
      else none
    | none => none
  | _ => none

/-- What is handed to a function that changes nothing: immutable values; the arrays of the frame's own are read as they are now. -/
def lend (ob : Nat → Option AObj) : LV → Option IV
  | .ms id ver sz off len => (rowsOf ob (.ms id ver sz off len)).map .sl
  | l => l.strip

def lendAll (ob : Nat → Option AObj) : List LV → Option (List IV)
  | [] => some []
  | l :: ls => match lend ob l, lendAll ob ls with
    | some v, some vs => some (v :: vs)
    | _, _ => none

def lendArg (ob : Nat → Option AObj) : AV → Option AV
  | .leaf l => (lend ob l).map fun v => .leaf (.imm v)
  | .agg ls => (lendAll ob ls).map fun vs => .agg (vs.map .imm)
  | .tup _ => none

def lendArgs (ob : Nat → Option AObj) : List AV → Option (List AV)
  | [] => some []
  | a :: as => match lendArg ob a, lendArgs ob as with
    | some v, some vs => some (v :: vs)
    | _, _ => none

/-- No slice in it. -/
def IV.plain : IV → Bool
  | .bool _ => true
  | .int _ _ => true
  | .str _ => true
  | _ => false

def LV.plain : LV → Bool
  | .imm v => v.plain
  | _ => false

def AV.plain : AV → Bool
  | .leaf l => l.plain
  | .agg ls => ls.all LV.plain
  | .tup vs => plainAll vs
where plainAll : List AV → Bool
  | [] => true
  | v :: vs => v.plain && plainAll vs

def callAV (E : Env) (ob : Nat → Option AObj) (d g : Nat) (args : List AV) : Option (AV × Upd) :=
  match stripArgs args with
  | some ps => match E.pure g ps with
    | some r => some (r, [])
    | none => E.full g d args ob
  | none => match lendArgs ob args with
    | some ps => match E.pure g ps with
      | some r => if r.plain then some (r, []) else E.full g d args ob
      | none => E.full g d args ob
    | none => E.full g d args ob

def optEval (ρ : Operand → Option AV) : Option Operand → Option (Option Int)
  | none => some none
  | some x => match ρ x with
    | some (.leaf (.imm (.int _ n))) => some (some n)
    | _ => none

def mapEval (ρ : Operand → Option AV) : List Operand → Option (List AV)
  | [] => some []
  | x :: xs => match ρ x, mapEval ρ xs with
    | some v, some vs => some (v :: vs)
    | _, _ => none

def leafs : List AV → Option (List LV)
  | [] => some []
  | .leaf l :: vs => (leafs vs).map (l :: ·)
  | _ :: _ => none

/-- A cut of rows: low, high (at most the length). -/
def cutRows (rows : List (List IV)) (lo hi : Option Int) : Option (Nat × Nat) :=
  let h : Int := hi.getD rows.length
  let l : Int := lo.getD 0
  if 0 ≤ l ∧ l ≤ h ∧ h ≤ rows.length then some (l.toNat, h.toNat) else none

def sliceStr (s : ByteArray) (lo hi : Option Int) : Option AV :=
  if 0 ≤ lo.getD 0 ∧ lo.getD 0 ≤ hi.getD s.size ∧ hi.getD s.size ≤ s.size then some (.leaf (.imm (.str (s.extract (lo.getD 0).toNat (hi.getD s.size).toNat)))) else none

def sliceRows (x : LV) (rows : List (List IV)) (sz : Nat) (lo hi mx : Option Int) : Option AV :=
  match cutRows rows lo hi with
  | some (l, r) => match mx with
    | none => if l = 0 ∧ r = rows.length then some (.leaf x) else if rows.all (fun q => q.length == sz) then some (.leaf (.imm (.sl ((rows.take r).drop l)))) else none
    | some m => if m = (r : Int) ∧ hi.isSome = true ∧ rows.all (fun q => q.length == sz) = true then some (.leaf (.clip ((rows.take r).drop l))) else none
  | none => none

def sliceMs (id ver sz off len : Nat) (lo hi mx : Option Int) : Option AV :=
  if 0 ≤ lo.getD 0 ∧ lo.getD 0 ≤ hi.getD len ∧ hi.getD len ≤ len then
    match mx with
    | none => some (.leaf (.ms id ver sz (off + (lo.getD 0).toNat) (hi.getD len - lo.getD 0).toNat))
    | some m => if hi.isSome = true ∧ hi.getD len ≤ m ∧ m ≤ len ∧ 0 < off + (lo.getD 0).toNat then some (.leaf (.ms id ver sz (off + (lo.getD 0).toNat) (hi.getD len - lo.getD 0).toNat)) else none
  else none

def indexRow (rows : List (List IV)) (i : Int) (sz : Nat) : Option AV :=
  if 0 ≤ i then match rows[i.toNat]? with
    | some r => if r.length = sz then some (.leaf (.iptr r)) else none
    | none => none
  else none

def exec (T : Nat → Option Ty) (E : Env) (ρ : Operand → Option AV) (ob : Nat → Option AObj) (d : Nat) : Op → Option (AV × Upd)
  | .move x => (ρ x).map fun v => (v, [])
  | .assign x => (ρ x).map fun v => (v, [])
  | .pick c a b => match ρ c, ρ a, ρ b with
    | some (.leaf (.imm (.bool c))), some x, some y => some (pickAV c x y, [])
    | _, _, _ => none
  | .alloc t => match T t, ob d with
    | some ty, none => some (.leaf (.ptr d 0 0), [(d, .cells t 0 (ty.zero.map .imm))])
    | _, _ => none
  | .box t x => match ρ x, T t, ob d with
    | some v, some ty, none => if v.leaves.length = ty.size ∧ 0 < ty.size ∧ v.leaves.all LV.solid = true then some (.leaf (.ptr d 0 0), [(d, .cells t 0 v.leaves)]) else none
    | _, _, _ => none
  | .build t parts => match T t with
    | some { k := .struct fs, zero, .. } => (fillAV (fieldAt T fs) (zero.map .imm) (parts.toList.map fun p => (p.1, ρ p.2))).map fun ls => (.agg ls, [])
    | some { k := .array _ e, zero, .. } => match T e with
      | some te => (fillAV (fun i => some (i * te.size, te.size)) (zero.map .imm) (parts.toList.map fun p => (p.1, ρ p.2))).map fun ls => (.agg ls, [])
      | none => none
    | _ => none
  | .buildSlice t len parts => match T t with
    | some { k := .slice e, .. } => match T e with
      | some te =>
        if len * te.size ≤ 16777216 ∧ 0 < te.size then
          match fillAV (fun i => some (i * te.size, te.size)) ((List.replicate len (te.zero.map LV.imm)).flatten) (parts.toList.map fun p => (p.1, ρ p.2)) with
          | some ls => (rowsAt ls te.size 0 len).map fun rows => (.leaf (.clip rows), [])
          | none => none
        else none
      | none => none
    | _ => none
  | .load t a => match ρ a, T t with
    | some (.leaf (.ptr id ver off)), some ty => match ob id with
      | some (.cells _ ver' cs) => if ver' = ver ∧ off + ty.size ≤ cs.length then (mkAV ty.k.agg ((cs.drop off).take ty.size)).map fun v => (v, []) else none
      | _ => none
    | some (.leaf (.iptr cs)), some ty => if ty.size ≤ cs.length then (mkAV ty.k.agg ((cs.take ty.size).map .imm)).map fun v => (v, []) else none
    | _, _ => none
  | .store t a x => match ρ a, ρ x, T t with
    | some (.leaf (.ptr id ver off)), some v, some ty => match ob id with
      | some (.cells ct ver' cs) => if ver' = ver ∧ v.leaves.length = ty.size ∧ 0 < ty.size ∧ off + ty.size ≤ cs.length ∧ v.leaves.all LV.solid = true then some (.leaf .und, [(id, .cells ct ver (setRange cs off v.leaves))]) else none
      | _ => none
    | _, _, _ => none
  | .nilCheck x => match ρ x with
    | some (.leaf (.ptr id ver off)) => some (.leaf (.ptr id ver off), [])
    | some (.leaf (.iptr cs)) => some (.leaf (.iptr cs), [])
    | some (.leaf (.func f a b)) => some (.leaf (.func f a b), [])
    | _ => none
  | .binOp op t x y _ => match ρ x, ρ y with
    | some a, some b => match binAV op a b with
      | some v => some (v, [])
      | none => match T t with
        | some ty => (cmpAV ty op a b).map fun v => (v, [])
        | none => none
    | _, _ => none
  | .unOp op _ x => match ρ x with
    | some a => (unAV op a).map fun v => (v, [])
    | _ => none
  | .convert src dst x => match ρ x, T src, T dst with
    | some (.leaf (.imm (.int _ n))), some _, some { k := .int k, .. } => some (intAV k (k.wrap n), [])
    | some (.leaf (.imm (.str s))), some { k := .str, .. }, some { k := .str, .. } => some (.leaf (.imm (.str s)), [])
    | some (.leaf l), some { k := .slice e, .. }, some { k := .str, .. } => match T e with
      | some { k := .int .u8, .. } => match rowsOf ob l with
        | some rows => (bytesOfRows rows).map fun bs => (.leaf (.imm (.str ⟨bs.toArray⟩)), [])
        | none => none
      | _ => none
    | _, _, _ => none
  | .makeFunc (.func f) first cap => match mapEval ρ first.toList, mapEval ρ cap.toList with
    | some xs, some ys => match leafs xs, leafs ys with
      | some xs, some ys => some (.leaf (.func f xs ys), [])
      | _, _ => none
    | _, _ => none
  | .makeSlice t l c => match T t, ρ l, ρ c, ob d with
    | some { k := .slice e, .. }, some (.leaf (.imm (.int .i64 n))), some (.leaf (.imm (.int .i64 m))), none => match T e with
      | some te => if n = m ∧ 0 ≤ n ∧ n.toNat * te.bytes ≤ room ∧ 0 < te.size ∧ 0 < te.bytes then some (.leaf (.ms d 0 te.size 0 n.toNat), [(d, .cells e 0 ((List.replicate n.toNat (te.zero.map LV.imm)).flatten))]) else none
      | none => none
    | _, _, _, _ => none
  | .slice t x lo hi mx => match ρ x, optEval ρ lo, optEval ρ hi, optEval ρ mx, T t with
    | some (.leaf (.imm (.str s))), some lo, some hi, some none, some { k := .str, .. } => (sliceStr s lo hi).map fun v => (v, [])
    | some (.leaf (.ms id ver sz off len)), some lo, some hi, some mx, some { k := .slice e, .. } => match T e with
      | some te => if te.size = sz then (sliceMs id ver sz off len lo hi mx).map fun v => (v, []) else none
      | none => none
    | some (.leaf x), some lo, some hi, some mx, some { k := .slice e, .. } => match T e, rowsOf (fun _ => none) x with
      | some te, some rows => (sliceRows x rows te.size lo hi mx).map fun v => (v, [])
      | _, _ => none
    | _, _, _, _, _ => none
  | .fieldAddr s x f => match ρ x, T s with
    | some (.leaf (.ptr id ver off)), some { k := .struct fs, .. } => match fs[f]? with
      | some (o, ft) => match T ft with
        | some tf => if 0 < tf.size then some (.leaf (.ptr id ver (off + o)), []) else none
        | none => none
      | none => none
    | some (.leaf (.iptr cs)), some { k := .struct fs, .. } => match fs[f]? with
      | some (o, ft) => match T ft with
        | some tf => if 0 < tf.size then some (.leaf (.iptr (cs.drop o)), []) else none
        | none => none
      | none => none
    | _, _ => none
  | .field t x f => match ρ x, T t with
    | some (.agg ls), some { k := .struct fs, .. } => match fs[f]? with
      | some (o, ft) => match T ft with
        | some tf => if o + tf.size ≤ ls.length then (mkAV tf.k.agg ((ls.drop o).take tf.size)).map fun v => (v, []) else none
        | none => none
      | none => none
    | _, _ => none
  | .indexAddr t x i => match ρ x, ρ i, T t with
    | some (.leaf (.ms id ver sz off len)), some (.leaf (.imm (.int _ n))), some { k := .slice e, .. } => match T e with
      | some te => if 0 ≤ n ∧ n < len ∧ te.size = sz then some (.leaf (.ptr id ver ((off + n.toNat) * sz)), []) else none
      | none => none
    | some (.leaf (.ptr id ver off)), some (.leaf (.imm (.int _ n))), some { k := .array m e, .. } => match T e with
      | some te => if 0 ≤ n ∧ n < m then some (.leaf (.ptr id ver (off + n.toNat * te.size)), []) else none
      | none => none
    | some (.leaf (.iptr cs)), some (.leaf (.imm (.int _ n))), some { k := .array m e, .. } => match T e with
      | some te => if 0 ≤ n ∧ n < m then some (.leaf (.iptr (cs.drop (n.toNat * te.size))), []) else none
      | none => none
    | some (.leaf l), some (.leaf (.imm (.int _ n))), some { k := .slice e, .. } => match T e, rowsOf (fun _ => none) l with
      | some te, some rows => (indexRow rows n te.size).map fun v => (v, [])
      | _, _ => none
    | _, _, _ => none
  | .index t x i => match ρ x, ρ i, T t with
    | some (.leaf (.imm (.str s))), some (.leaf (.imm (.int _ n))), some { k := .str, .. } =>
      if 0 ≤ n then (s.data.toList[n.toNat]?).map fun b => (intAV .u8 b.toNat, []) else none
    | some (.agg ls), some (.leaf (.imm (.int _ n))), some { k := .array m e, .. } => match T e with
      | some te => if 0 ≤ n ∧ n < m ∧ n.toNat * te.size + te.size ≤ ls.length then (mkAV te.k.agg ((ls.drop (n.toNat * te.size)).take te.size)).map fun v => (v, []) else none
      | none => none
    | _, _, _ => none
  | .extract x i => match ρ x with
    | some (.tup vs) => (vs[i]?).map fun v => (v, [])
    | _ => none
  | .call c => match mapEval ρ c.args.toList with
    | some args => match c.callee with
      | .builtin .len => match args, c.argTypes.toList with
        | [.leaf (.imm (.str s))], [t] => match T t with
          | some { k := .str, .. } => (lenAV (.leaf (.imm (.str s)))).map fun v => (v, [])
          | _ => none
        | [x], [t] => match T t with
          | some { k := .slice _, .. } => (lenAV x).map fun v => (v, [])
          | _ => none
        | _, _ => none
      | .builtin .min => match args with
        | x :: r => (minAll false x r).map fun v => (v, [])
        | [] => none
      | .builtin .max => match args with
        | x :: r => (minAll true x r).map fun v => (v, [])
        | [] => none
      | .builtin .append => match args, c.argTypes.toList with
        | [.leaf s, .leaf (.imm (.str b))], [t, u] => match T u with
          | some { k := .str, .. } => appendAV T (E.grow.contains d) ob d t s (rowsOfBytes b.data.toList)
          | _ => none
        | [.leaf s, .leaf x], [t, u] => match T u, rowsOf ob x with
          | some { k := .slice _, .. }, some new => appendAV T (E.grow.contains d) ob d t s new
          | _, _ => none
        | _, _ => none
      | .value f => match ρ f with
        | some (.leaf (.func g first cap)) => callAV E ob d g (first.map .leaf ++ (args ++ cap.map .leaf))
        | _ => none
      | _ => none
    | none => none
  | _ => none

def fetch (ids : List Nat) (ob : Nat → Option AObj) (i : Nat) : Option AObj := if i ∈ ids then ob i else none

def St.ob (st : St) (i : Nat) : Option AObj := (st.objs[i]?).getD none

def upds (objs : List (Option AObj)) : Upd → List (Option AObj)
  | [] => objs
  | (i, o) :: r => upds (objs.set i (some o)) r

def St.put (st : St) (d : Option Nat) (v : AV) (u : Upd) : St :=
  { tmps := match d with | some d => st.tmps.set d v | none => st.tmps, objs := upds st.objs u }

def idsOf (ρ : Operand → Option AV) : List Operand → List Nat
  | [] => []
  | x :: xs => (match ρ x with | some v => v.ids | none => []) ++ idsOf ρ xs

/-- Does it look at objects (beside its own new one)? -/
def looksOp : Op → Bool
  | .load .. | .store .. | .convert .. => true
  | .call { callee := .builtin .len, .. } | .call { callee := .builtin .min, .. } | .call { callee := .builtin .max, .. } => false
  | .call _ => true
  | _ => false

/-- The objects that an operation may look at. -/
def touch (tmps : List AV) (o : Oper) : List Nat := (if looksOp o.op then idsOf (evalOp tmps) o.op.operands.toList else []) ++ o.dst.toList

/-- Is the guard met? none: not known. -/
def guardOf (ops : List Oper) (tmps : List AV) : Option (Nat × Bool) → Option Bool
  | none => some true
  | some (j, want) => match ops[j]? with
    | some { dst := some t, .. } => match tmps[t]? with
      | some (.leaf (.imm (.bool b))) => some (b == want)
      | some (.leaf .und) => some false
      | _ => none
    | _ => none

def stepOp (T : Nat → Option Ty) (E : Env) (ops : List Oper) (st : St) (o : Oper) : Option St :=
  match guardOf ops st.tmps o.guard with
  | some true => match exec T E (evalOp st.tmps) (fetch (touch st.tmps o) st.ob) (o.dst.getD st.objs.length) o.op with
    | some (v, u) => if u.all (fun p => decide (p.1 < st.objs.length)) && u.all (fun p => (touch st.tmps o).contains p.1) then some (st.put o.dst v u) else none
    | none => none
  | some false => some (st.put o.dst (.leaf .und) [])
  | none => none

def runOps (T : Nat → Option Ty) (E : Env) (ops : List Oper) : St → List Oper → Option St
  | st, [] => some st
  | st, o :: r => match stepOp T E ops st o with
    | some st' => runOps T E ops st' r
    | none => none

/-- What is kept at a loop's head. -/
structure Keep where
  ext : Nat                                  -- ids from here on are the caller's: kept
  tmps : List Nat
  objs : List Nat
  nils : List (Nat × Nat × Nat × Nat × Nat × Bool) := []   -- box, cell, the append's id, the element type and size, is the array to be stored into
  tnils : List (Nat × Nat × Nat × Nat × Bool) := []        -- tmp, the append's id, the element type and size, the same

def kept (ext : Nat) (ids : List Nat) (i : Nat) : Bool := decide (ext ≤ i) || ids.contains i

def keepLV (ob : Nat → Option AObj) (kp : Nat → Bool) : LV → LV
  | .ptr id ver off => if kp id then .ptr id ver off else .dead
  | .ap id rows => if kp id then .ap id rows else .imm (.sl rows)
  | .ms id ver sz off len => if kp id then .ms id ver sz off len else match rowsOf ob (.ms id ver sz off len) with
    | some rows => .imm (.sl rows)
    | none => .dead
  | .func f a b => if (LV.ids.idsAll a).all kp && (LV.ids.idsAll b).all kp then .func f a b else .dead
  | l => l

def keepAV (ob : Nat → Option AObj) (kp : Nat → Bool) : AV → AV
  | .leaf l => .leaf (keepLV ob kp l)
  | .agg ls => .agg (ls.map (keepLV ob kp))
  | .tup _ => .leaf .dead

def keepTmps (ob : Nat → Option AObj) (ts : List Nat) (kp : Nat → Bool) : Nat → List AV → List AV
  | _, [] => []
  | i, v :: r => (if ts.contains i then keepAV ob kp v else .leaf .dead) :: keepTmps ob ts kp (i + 1) r

def keepObj (ob : Nat → Option AObj) (kp : Nat → Bool) : AObj → AObj
  | .cells t ver cs => .cells t ver (cs.map (keepLV ob kp))
  | o => o

def keepObjs (ob : Nat → Option AObj) (kp : Nat → Bool) : Nat → List (Option AObj) → List (Option AObj)
  | _, [] => []
  | i, o :: r => (if kp i then o.map (keepObj ob kp) else none) :: keepObjs ob kp (i + 1) r

/-- A nil slice that appends will make grow. -/
def seedLV (id z : Nat) (g : Bool) : LV := if g then .ms id 0 z 0 0 else .ap id []
def seedObj (e z : Nat) (g : Bool) : AObj := if g then .cells e 0 [] else .tail e z 0

def promote (st : St) : List (Nat × Nat × Nat × Nat × Nat × Bool) → St
  | [] => st
  | (b, j, id, e, z, g) :: r => promote (match st.ob b, st.ob id with
    | some (.cells t ver cs), none => match cs[j]? with
      | some (.imm .nil) => if id < st.objs.length ∧ b ≠ id then { st with objs := (st.objs.set b (some (.cells t ver (cs.set j (seedLV id z g))))).set id (some (seedObj e z g)) } else st
      | _ => st
    | _, _ => st) r

def promoteT (st : St) : List (Nat × Nat × Nat × Nat × Bool) → St
  | [] => st
  | (t, id, e, z, g) :: r => promoteT (match st.tmps[t]?, st.ob id with
    | some (.leaf (.imm .nil)), none => if id < st.objs.length then { tmps := st.tmps.set t (.leaf (seedLV id z g)), objs := st.objs.set id (some (seedObj e z g)) } else st
    | _, _ => st) r

def keepSt (k : Keep) (st : St) : St :=
  promoteT (promote { tmps := keepTmps st.ob k.tmps (kept k.ext k.objs) 0 st.tmps, objs := keepObjs st.ob (kept k.ext k.objs) 0 st.objs } k.nils) k.tnils

inductive Ex where
  | normal
  | exit (id : Nat)
  | ret

/-- The id of a code's first region. -/
def firstRegion : Code → Option Nat
  | .region id _ _ => some id
  | .seq a b => match firstRegion a with
    | some i => some i
    | none => firstRegion b
  | .block _ c => firstRegion c
  | .loop c => firstRegion c
  | .cond _ a b => match firstRegion a with
    | some i => some i
    | none => firstRegion b
  | .scope c => firstRegion c
  | _ => none

/-- The locations that an operation reads and writes (tmps: even, objects: odd). -/
def tmpLoc (x : Operand) : List Nat := match x with
  | .tmp t => [2 * t]
  | _ => []

def guardLoc (ops : List Oper) : Option (Nat × Bool) → List Nat
  | none => []
  | some (j, _) => match ops[j]? with
    | some { dst := some t, .. } => [2 * t]
    | _ => []

def readsT (ops : List Oper) (o : Oper) : List Nat := o.op.operands.toList.flatMap tmpLoc ++ guardLoc ops o.guard
def writesT (o : Oper) : List Nat := o.dst.toList.map (2 * ·)

/-- Does it only look at objects, or not even that? -/
def quietOp : Op → Bool
  | .move _ | .assign _ | .pick .. | .binOp .. | .unOp .. | .extract .. | .fieldAddr .. | .field .. | .indexAddr .. | .index .. | .nilCheck _ | .slice .. | .build .. | .buildSlice .. | .makeFunc .. | .load .. | .convert .. => true
  | .call { callee := .builtin .len, .. } | .call { callee := .builtin .min, .. } | .call { callee := .builtin .max, .. } => true
  | _ => false

/-- Does it change no object? -/
def silent : Option (AV × Upd) → Bool
  | some (_, []) => true
  | _ => false

/-- What an operation reads and writes. -/
def foot (T : Nat → Option Ty) (E : Env) (ops : List Oper) (st : St) (o : Oper) : List Nat × List Nat :=
  if guardOf ops st.tmps o.guard = some false then (readsT ops o, writesT o)
  else (readsT ops o ++ (touch st.tmps o).map (2 * · + 1), if quietOp o.op || silent (exec T E (evalOp st.tmps) (fetch (touch st.tmps o) st.ob) (o.dst.getD st.objs.length) o.op) then writesT o else writesT o ++ (touch st.tmps o).map (2 * · + 1))

/-- Of each operation of a region, in the text's order. -/
def footOps (T : Nat → Option Ty) (E : Env) (ops : List Oper) : St → List Oper → List (List Nat × List Nat)
  | _, [] => []
  | st, o :: r => foot T E ops st o :: (match stepOp T E ops st o with
      | some st' => footOps T E ops st' r
      | none => [])

def meets (a b : List Nat) : Bool := a.any fun x => b.contains x

def clashes (a b : List Nat × List Nat) : Bool := meets a.2 b.1 || meets a.2 b.2 || meets a.1 b.2

/-- No two operations without an order between them clash. -/
def orderOk (before : Array Nat) (fs : List (List Nat × List Nat)) : Bool :=
  fs.zipIdx.all fun (fj, j) => fs.zipIdx.all fun (fi, i) => !(decide (i < j)) || (before.getD j 0).testBit i || !clashes fi fj

/-- Every order that the model may draw comes to all operations. -/
def coversOk (md : Region.Mode) (ops : Array Oper) : List Nat → List Nat → Bool
  | _, [] => true
  | done, i :: r => ((ops[i]?).map (·.after.all fun e => !Region.binds md e || done.contains e.on)).getD false && coversOk md ops (i :: done) r

def completeOk (ops : Array Oper) : Bool :=
  coversOk .any ops [] (List.range ops.size) && (!Region.departs ops || (coversOk .text ops [] (List.range ops.size) && (coversOk .gc ops [] (Region.linearise .gc ops 0) && (List.range ops.size).all fun i => (Region.linearise .gc ops 0).contains i)))

mutual
def runCode (T : Nat → Option Ty) (E : Env) (K : Nat → Keep) : Nat → Code → St → Option (Ex × St)
  | 0, _, _ => none
  | fuel + 1, c, st => match c with
    | .skip => some (.normal, st)
    | .region _ ops draw =>
      if !draw || (orderOk (Region.before ops) (footOps T E ops.toList st ops.toList) && completeOk ops) then (runOps T E ops.toList st ops.toList).map fun st' => (.normal, st') else none
    | .seq a b => match runCode T E K fuel a st with
      | some (.normal, st') => runCode T E K fuel b st'
      | r => r
    | .cond c a b => match evalOp st.tmps c with
      | some (.leaf (.imm (.bool t))) => if t then runCode T E K fuel a st else runCode T E K fuel b st
      | _ => none
    | .block id c => match runCode T E K fuel c st with
      | some (.exit id', st') => if id' = id then some (.normal, st') else some (.exit id', st')
      | r => r
    | .loop c => runLoop T E K fuel c (keepSt (K ((firstRegion c).getD 0)) st)
    | .exit id => some (.exit id, st)
    | .ret => some (.ret, st)
    | _ => none
def runLoop (T : Nat → Option Ty) (E : Env) (K : Nat → Keep) : Nat → Code → St → Option (Ex × St)
  | 0, _, _ => none
  | fuel + 1, c, st => match runCode T E K fuel c st with
    | some (.normal, st') => runLoop T E K fuel c (keepSt (K ((firstRegion c).getD 0)) st')
    | r => r
end

def resultAV (T : Nat → Option Ty) (st : St) : ResultVar → Option AV
  | .tmp t => st.tmps[t]?
  | .cell a t => match st.tmps[a]?, T t with
    | some (.leaf (.ptr id ver off)), some ty => match st.ob id with
      | some (.cells _ ver' cs) => if ver' = ver ∧ off + ty.size ≤ cs.length then mkAV ty.k.agg ((cs.drop off).take ty.size) else none
      | _ => none
    | _, _ => none

def resultsAV (T : Nat → Option Ty) (st : St) : List ResultVar → Option (List AV)
  | [] => some []
  | r :: rs => match resultAV T st r, resultsAV T st rs with
    | some v, some vs => some (v :: vs)
    | _, _ => none

/-- What is handed back: immutable. -/
def handArg (ob : Nat → Option AObj) (v : AV) : Option AV := lendArg ob v

def tupleOf : List AV → AV
  | [v] => v
  | vs => .tup vs

structure Fun where
  fn : Func
  keep : Nat → Keep
  grow : List Nat := []
  full : Bool := false     -- run it only as one that is handed objects
  obj : Bool := true       -- it may be run as one that is handed objects

/-- The objects of a caller, under the callee's names. -/
def renLV (f : Nat → Option Nat) : LV → LV
  | .ptr id ver off => match f id with | some i => .ptr i ver off | none => .dead
  | .ms id ver sz off len => match f id with | some i => .ms i ver sz off len | none => .dead
  | .ap id rows => match f id with | some i => .ap i rows | none => .imm (.sl rows)
  | .func g a b => .func g (renAll f a) (renAll f b)
  | l => l
where renAll (f : Nat → Option Nat) : List LV → List LV
  | [] => []
  | l :: ls => renLV f l :: renAll f ls

def renAV (f : Nat → Option Nat) : AV → AV
  | .leaf l => .leaf (renLV f l)
  | .agg ls => .agg (ls.map (renLV f))
  | .tup vs => .tup (renTup f vs)
where renTup (f : Nat → Option Nat) : List AV → List AV
  | [] => []
  | v :: vs => renAV f v :: renTup f vs

def renObj (f : Nat → Option Nat) : AObj → AObj
  | .cells t ver cs => .cells t ver (cs.map (renLV f))
  | o => o

def indexIn (x : Nat) : List Nat → Option Nat
  | [] => none
  | y :: r => if x = y then some 0 else (indexIn x r).map (· + 1)

def once : List Nat → List Nat
  | [] => []
  | x :: l => if (once l).contains x then once l else x :: once l
def idsAV (vs : List AV) : List Nat := once (vs.flatMap AV.ids)

/-- The one object of the callee's own that a result hands over. -/
def handed (n : Nat) : List AV → Option Nat
  | [] => none
  | .leaf (.ptr id _ _) :: r => if id < n then some id else handed n r
  | .leaf (.ms id _ _ _ _) :: r => if id < n then some id else handed n r
  | .leaf (.ap id _) :: r => if id < n then some id else handed n r
  | _ :: r => handed n r

def backName (n : Nat) (ids : List Nat) (own : Option Nat) (d : Nat) (i : Nat) : Option Nat :=
  if n ≤ i then ids[i - n]? else if own = some i then some d else none

def backUpd (ids : List Nat) (f : Nat → Option Nat) (objs : List (Option AObj)) (n : Nat) : Nat → Upd
  | 0 => []
  | k + 1 => match ids[k]?, (objs[n + k]?).getD none with
    | some i, some o => (i, renObj f o) :: backUpd ids f objs n k
    | _, _ => backUpd ids f objs n k

mutual
/-- A function that is handed immutable values and hands back such. -/
def runFun (T : Nat → Option Ty) (F : Nat → Option Fun) (S : Env) : Nat → Nat → List AV → Option AV
  | 0, _, _ => none
  | fuel + 1, g, args =>
    match S.pure g args with
    | some r => some r
    | none => match F g with
      | some f => if f.full then none else match f.fn.body with
        | some c => match runCode T { pure := runFun T F S fuel, full := runFull T F S fuel, grow := f.grow } f.keep fuel c { tmps := args ++ List.replicate (f.fn.ntmps - args.length) (.leaf .und), objs := List.replicate f.fn.ntmps none } with
          | some (.exit _, _) => none
          | some (_, st) => match resultsAV T st f.fn.results.toList with
            | some vs => (lendArgs st.ob vs).map tupleOf
            | none => none
          | none => none
        | none => none
      | none => none
/-- A function that is handed objects of the caller's, or hands one over. -/
def runFull (T : Nat → Option Ty) (F : Nat → Option Fun) (S : Env) : Nat → Nat → Nat → List AV → (Nat → Option AObj) → Option (AV × Upd)
  | 0, _, _, _, _ => none
  | fuel + 1, g, d, args, ob =>
    match S.full g d args ob with
    | some r => some r
    | none => match F g with
      | some f => if !f.obj then none else match f.fn.body with
        | some c =>
          let ids := (idsAV args).filter fun i => (ob i).isSome
          let n := f.fn.ntmps
          let ren := fun i => (indexIn i ids).map (· + n)
          match runCode T { pure := runFun T F S fuel, full := runFull T F S fuel, grow := f.grow } f.keep fuel c { tmps := args.map (renAV ren) ++ List.replicate (n - args.length) (.leaf .und), objs := List.replicate n none ++ ids.map (fun i => (ob i).map (renObj ren)) } with
          | some (.exit _, _) => none
          | some (_, st) => match resultsAV T st f.fn.results.toList with
            | some vs =>
              let own := handed n vs
              let back := backName n ids own d
              match own with
              | some i => match st.ob i, ob d with
                | some o, none => some (tupleOf (vs.map (renAV back)), backUpd ids back st.objs n ids.length ++ [(d, renObj back o)])
                | _, _ => none
              | none => some (tupleOf (vs.map (renAV back)), backUpd ids back st.objs n ids.length)
            | none => none
          | none => none
        | none => none
      | none => none
end

end Go.Ai
