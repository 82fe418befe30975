/- Abstract data and abstract steps for the model's code: slices as lists, variables in memory as numbered boxes. Definitions alone; A1 and on prove them sound. -/
import Derived.OrdersHeld
namespace Go.Proofs.YtmlgkojmbnjfbaaDoor.A
open Go

/-- Of what make a slice is: nil, one that nobody writes, one of the frame's own (by number). -/
inductive Tag where
  | nl
  | fz
  | own (F : Nat)

/-- A value, with what a slice leads to. A pointer names a box. -/
inductive AV where
  | int (k : IntKind) (n : Int)
  | bool (b : Bool)
  | str (s : ByteArray)
  | agg (cs : List AV)
  | tup (vs : List AV)
  | ptr (b off : Nat)
  | nilptr
  | sl (g : Tag) (e : TypeId) (xs : List AV)
  | pe (g : Tag) (e : TypeId) (idx off : Nat) (cs : List AV)
  | fn (f : Fn) (a c : List AV)
  | nilfn
  | ifc (t : TypeId) (v : AV)
  | nilifc
  | mp (b : Nat)
  | nilmp
  | bad

def AV.cells : AV → List AV
  | .agg cs => cs
  | v => [v]

/-- One cell of memory can hold it. -/
def AV.isCell : AV → Bool
  | .agg _ | .tup _ | .pe _ _ _ _ _ | .bad => false
  | _ => true

/-- Its cells are told. -/
def AV.solid : AV → Bool
  | .tup _ | .bad | .pe _ _ _ _ _ => false
  | _ => true

/-- It leads to nothing that is written, and names no box. -/
def AV.flat : AV → Bool
  | .int _ _ | .bool _ | .str _ | .nilptr | .nilfn | .nilifc | .nilmp => true
  | .sl .nl _ _ | .sl .fz _ _ => true
  | .fn _ [] [] => true
  | .ifc _ v => v.flat
  | _ => false

inductive Box where
  | cells (e : TypeId) (cs : List AV)
  | mapo (es : List (AV × AV))

inductive TD where
  | int (k : IntKind) | bool | str | slice (e : TypeId) | struct (fs : List (Nat × TypeId)) | arr (n : Nat) (e : TypeId) | ptr (e : TypeId)
  | mp (k e : TypeId) | func | iface | other

/-- A cell's kind. -/
inductive LK where
  | int (k : IntKind) | bool | str
/-- What is known of a program's types. -/
structure Tab where
  desc : TypeId → TD
  size : TypeId → Nat
  bytes : TypeId → Nat
  zero : TypeId → AV
  /-- types of aggregates whose == is that of their cells: these cells' kinds -/
  eqT : TypeId → Option (List LK)
  /-- a dynamic type's methods; where one is a value's and the type a pointer: to what -/
  meth : TypeId → String → Option (FuncId × Option TypeId)

structure St where
  t : Nat → AV
  h : Nat → Option Box

def upd {α : Type} (f : Nat → α) (k : Nat) (v : α) : Nat → α := fun j => bif Nat.beq j k then v else f j

def St.put (s : St) (d : Option Tmp) (v : AV) : St :=
  match d, s with
  | some d, ⟨t, h⟩ => ⟨upd t d v, h⟩
  | none, s => s
def St.box (s : St) (b : Nat) (x : Box) : St :=
  match s with
  | ⟨t, h⟩ => ⟨t, upd h b (some x)⟩
/-- A state is worked out before one goes on. -/
def St.go (s : St) (K : St → Prop) : Prop :=
  match s with
  | ⟨t, h⟩ => K ⟨t, h⟩

def TD.isAgg : TD → Option Bool
  | .struct _ => some true
  | .arr _ _ => some true
  | .other => none
  | _ => some false

def ofVal : Value → AV
  | .int k n => .int k n
  | .bool b => .bool b
  | .string s => .str s
  | .nilIface => .nilifc
  | .nilFunc => .nilfn
  | .pointer none => .nilptr
  | .slice none 0 0 => .sl .nl 0 []
  | .map none => .nilmp
  | _ => .bad

def St.ev (s : St) : Operand → AV
  | .tmp t => bif Nat.blt t 1000000 then s.t t else .bad
  | .const v => ofVal v
  | .func f => .fn (.func f) [] []
  | .global _ => .bad

/-! ### what touches a whole state: leaves are others -/
mutual
def AV.tr (φ : AV → AV) : AV → AV
  | .agg cs => .agg (AV.trL φ cs)
  | .tup cs => .tup (AV.trL φ cs)
  | .ifc t v => .ifc t (AV.tr φ v)
  | .fn f a c => .fn f (AV.trL φ a) (AV.trL φ c)
  | v => φ v
def AV.trL (φ : AV → AV) : List AV → List AV
  | [] => []
  | v :: vs => AV.tr φ v :: AV.trL φ vs
end
/-- F's slices are written no more. -/
def frzF (F : Nat) : AV → AV
  | .sl (.own G) e xs => bif Nat.beq G F then .sl .fz e xs else .sl (.own G) e xs
  | .pe (.own G) e i o cs => bif Nat.beq G F then .pe .fz e i o cs else .pe (.own G) e i o cs
  | v => v
/-- F's slices are forgotten. -/
def drpF (F : Nat) : AV → AV
  | .sl (.own G) e xs => bif Nat.beq G F then .bad else .sl (.own G) e xs
  | .pe (.own G) e i o cs => bif Nat.beq G F then .bad else .pe (.own G) e i o cs
  | v => v
/-- Pointers to box b are forgotten. -/
def fgtB (b : Nat) : AV → AV
  | .ptr c o => bif Nat.beq c b then .bad else .ptr c o
  | .mp c => bif Nat.beq c b then .bad else .mp c
  | v => v
/-- Own slices are lent. -/
def lendA : AV → AV
  | .sl (.own _) e xs => .sl .fz e xs
  | .pe (.own _) e i o cs => .pe .fz e i o cs
  | v => v
/-- Boxes' numbers are others. -/
def renB (m : Nat → Nat) : AV → AV
  | .ptr b o => .ptr (m b) o
  | .mp b => .mp (m b)
  | v => v
/-- cells from off on become us -/
def putCells : List AV → Nat → List AV → List AV
  | cs, _, [] => cs
  | cs, off, u :: us => putCells (cs.set off u) (off + 1) us
def AV.ofCells (x : AV) (cs : List AV) : AV :=
  match x with
  | .agg _ => .agg cs
  | v => cs.headD v
/-- F's element i has other cells from off on. -/
def wrtF (F i off : Nat) (us : List AV) : AV → AV
  | .sl (.own G) e xs => bif Nat.beq G F then .sl (.own G) e (xs.modify i fun x => x.ofCells (putCells x.cells off us)) else .sl (.own G) e xs
  | .pe (.own G) e j o cs => bif Nat.beq G F then (bif Nat.beq j i then .pe (.own G) e j o (putCells cs off us) else .pe (.own G) e j o cs) else .pe (.own G) e j o cs
  | v => v

def Box.mapA (f : AV → AV) : Box → Box
  | .cells e cs => .cells e (cs.map f)
  | .mapo es => .mapo (es.map fun p => (p.1, f p.2))
def St.mapA (s : St) (φ : AV → AV) : St :=
  match s with
  | ⟨t, h⟩ => ⟨fun j => (t j).tr φ, fun b => match h b with
    | some x => some (x.mapA (AV.tr φ))
    | none => none⟩

mutual
/-- The own numbers that a value's slices bear. -/
def AV.fams : AV → List Nat
  | .sl (.own F) _ _ => [F]
  | .pe (.own F) _ _ _ _ => [F]
  | .agg cs => AV.famsL cs
  | .tup cs => AV.famsL cs
  | .ifc _ v => AV.fams v
  | .fn _ a c => AV.famsL a ++ AV.famsL c
  | _ => []
def AV.famsL : List AV → List Nat
  | [] => []
  | v :: vs => v.fams ++ AV.famsL vs
end
def St.frzAll (s : St) : List Nat → St
  | [] => s
  | F :: Fs => (s.mapA (frzF F)).frzAll Fs
def AV.frzAll (v : AV) : List Nat → AV
  | [] => v
  | F :: Fs => (v.tr (frzF F)).frzAll Fs
mutual
/-- The boxes that a value names. -/
def AV.ptrs : AV → List Nat
  | .ptr b _ => [b]
  | .mp b => [b]
  | .agg cs => AV.ptrsL cs
  | .tup cs => AV.ptrsL cs
  | .ifc _ v => v.ptrs
  | .fn _ a c => AV.ptrsL a ++ AV.ptrsL c
  | _ => []
def AV.ptrsL : List AV → List Nat
  | [] => []
  | v :: vs => v.ptrs ++ AV.ptrsL vs
end
mutual
/-- It may lead to what is written no more. -/
def AV.hasFz : AV → Bool
  | .sl .fz _ _ => true
  | .sl (.own _) _ _ => true
  | .pe _ _ _ _ _ => true
  | .agg cs => AV.hasFzL cs
  | .tup cs => AV.hasFzL cs
  | .ifc _ v => v.hasFz
  | .fn _ a c => AV.hasFzL a || AV.hasFzL c
  | _ => false
def AV.hasFzL : List AV → Bool
  | [] => false
  | v :: vs => v.hasFz || AV.hasFzL vs
end

/-! ### values are worked out before one goes on -/
def force1 (v : AV) (K : AV → Prop) : Prop :=
  match v with
  | .int k n => K (.int k n)
  | .bool b => K (.bool b)
  | .str s => K (.str s)
  | .agg cs => K (.agg cs)
  | .tup vs => K (.tup vs)
  | .ptr b o => K (.ptr b o)
  | .nilptr => K .nilptr
  | .sl g e xs => K (.sl g e xs)
  | .pe g e i o cs => K (.pe g e i o cs)
  | .fn f a c => K (.fn f a c)
  | .nilfn => K .nilfn
  | .ifc t v => K (.ifc t v)
  | .nilifc => K .nilifc
  | .mp b => K (.mp b)
  | .nilmp => K .nilmp
  | .bad => K .bad
def forceL (l : List AV) (K : List AV → Prop) : Prop :=
  match l with
  | [] => K []
  | x :: xs => force1 x fun x => forceL xs fun xs => K (x :: xs)
def force2 (v : AV) (K : AV → Prop) : Prop :=
  match v with
  | .agg cs => forceL cs fun cs => K (.agg cs)
  | .pe g e i o cs => forceL cs fun cs => K (.pe g e i o cs)
  | v => force1 v K
def forceL2 (l : List AV) (K : List AV → Prop) : Prop :=
  match l with
  | [] => K []
  | x :: xs => force2 x fun x => forceL2 xs fun xs => K (x :: xs)
def force (v : AV) (K : AV → Prop) : Prop :=
  match v with
  | .tup vs => forceL2 vs fun vs => K (.tup vs)
  | v => force2 v K
/-- A box of cells, worked out. -/
def St.boxF (s : St) (b : Nat) (e : TypeId) (cs : List AV) (K : St → Prop) : Prop := forceL cs fun cs => (s.box b (.cells e cs)).go K
def St.putF (s : St) (d : Option Tmp) (v : AV) (K : St → Prop) : Prop := force v fun v => (s.put d v).go K

/-! ### operations that only look at temporaries and boxes -/
def kindA (k k' : IntKind) : Bool := match k, k' with
  | .i8, .i8 | .i16, .i16 | .i32, .i32 | .i64, .i64 | .u8, .u8 | .u16, .u16 | .u32, .u32 | .u64, .u64 => true
  | _, _ => false
mutual
/-- == of values whose cells are numbers, truths and texts. -/
def AV.eqv : AV → AV → Option Bool
  | .int k a, .int k' b => match kindA k k' with
    | true => some (a == b)
    | false => none
  | .bool a, .bool b => some (a == b)
  | .str a, .str b => some (a == b)
  | .agg cs, .agg ds => AV.eqvL cs ds
  | _, _ => none
def AV.eqvL : List AV → List AV → Option Bool
  | [], [] => some true
  | x :: xs, y :: ys => match AV.eqv x y, AV.eqvL xs ys with
    | some a, some b => some (a && b)
    | _, _ => none
  | _, _ => none
end
/-- Bit by bit. -/
def bitsV (op : BinOp) (k : IntKind) (a b : Int) : Int :=
  k.wrap ((match op with
    | .and => BitVec.ofInt k.bits a &&& BitVec.ofInt k.bits b
    | .or => BitVec.ofInt k.bits a ||| BitVec.ofInt k.bits b
    | .xor => BitVec.ofInt k.bits a ^^^ BitVec.ofInt k.bits b
    | _ => BitVec.ofInt k.bits a &&& ~~~BitVec.ofInt k.bits b).toNat : Nat)
def shlV (k : IntKind) (a b : Int) : Int := k.wrap (a * 2 ^ (min b.toNat k.bits))
def shrV (k : IntKind) (a b : Int) : Int := a.fdiv (2 ^ (min b.toNat k.bits))
/-- A text of bytes. -/
def strOf (ns : List Int) : ByteArray := ns.foldl (fun r n => r.push (UInt8.ofNat n.toNat)) ByteArray.empty
def arithA (op : BinOp) (k : IntKind) (a b : Int) (K : AV → Prop) : Prop :=
  match op with
  | .add => K (.int k (k.wrap (a + b)))
  | .sub => K (.int k (k.wrap (a - b)))
  | .mul => K (.int k (k.wrap (a * b)))
  | .quo => b ≠ 0 ∧ K (.int k (k.wrap (a.tdiv b)))
  | .rem => b ≠ 0 ∧ K (.int k (a.tmod b))
  | .eql => K (.bool (a == b))
  | .neq => K (.bool (a != b))
  | .lss => K (.bool (decide (a < b)))
  | .leq => K (.bool (decide (a ≤ b)))
  | .gtr => K (.bool (decide (a > b)))
  | .geq => K (.bool (decide (a ≥ b)))
  | .and => K (.int k (bitsV .and k a b))
  | .or => K (.int k (bitsV .or k a b))
  | .xor => K (.int k (bitsV .xor k a b))
  | .andNot => K (.int k (bitsV .andNot k a b))
  | _ => False
/-- == where one side is nil -/
def nilI (x y : AV) : Option Bool :=
  match x, y with
  | .nilifc, .ifc _ _ => some false
  | .ifc _ _, .nilifc => some false
  | _, _ => none
def nilF (x y : AV) : Option Bool :=
  match x, y with
  | .nilfn, .nilfn => some true
  | .nilfn, .fn _ _ _ => some false
  | .fn _ _ _, .nilfn => some false
  | _, _ => none
def nilP (x y : AV) : Option Bool :=
  match x, y with
  | .nilptr, .nilptr => some true
  | .ptr _ _, .nilptr => some false
  | _, _ => none
def eqB (x y : AV) : Option Bool :=
  match x, y with
  | .bool a, .bool b => some (a == b)
  | _, _ => none
def eqS (x y : AV) : Option Bool :=
  match x, y with
  | .str a, .str b => some (a == b)
  | _, _ => none
def fitB : List LK → List AV → Bool
  | [], [] => true
  | .int k :: ks, .int k' _ :: vs => kindA k k' && fitB ks vs
  | .bool :: ks, .bool _ :: vs => fitB ks vs
  | .str :: ks, .str _ :: vs => fitB ks vs
  | _, _ => false
def eqG (ks : List LK) (x y : AV) : Option Bool :=
  match x, y with
  | .agg a, .agg b => match fitB ks a && fitB ks b with
    | true => AV.eqvL a b
    | false => none
  | _, _ => none
/-- What a program's == at a type is asked to be: of aggregates by their cells. -/
def eqlA (T : Tab) (t : TypeId) (x y : AV) : Option Bool :=
  match T.desc t with
  | .struct _ | .arr _ _ => match T.eqT t with
    | some ks => eqG ks x y
    | none => none
  | .bool => eqB x y
  | .str => eqS x y
  | .iface => nilI x y
  | .func => nilF x y
  | .ptr _ => nilP x y
  | _ => none
def otherA (T : Tab) (op : BinOp) (t : TypeId) (x y : AV) (K : AV → Prop) : Prop :=
  match op with
  | .eql => match eqlA T t x y with
    | some c => K (.bool c)
    | none => False
  | .neq => match eqlA T t x y with
    | some c => K (.bool !c)
    | none => False
  | .add => match x, y with
    | .str a, .str b => a.size + b.size ≤ 9223372036854775807 ∧ K (.str (a ++ b))
    | _, _ => False
  | _ => False
def binA (T : Tab) (op : BinOp) (t : TypeId) (x y : AV) (K : AV → Prop) : Prop :=
  match x, y with
  | .int k a, .int k' b => match op with
    | .shl => 0 ≤ b ∧ K (.int k (shlV k a b))
    | .shr => 0 ≤ b ∧ K (.int k (shrV k a b))
    | op => match kindA k k' with
      | true => arithA op k a b K
      | false => False
  | x, y => otherA T op t x y K

def partA (T : Tab) (t : TypeId) (cs : List AV) (off : Nat) (K : AV → Prop) : Prop :=
  match (T.desc t).isAgg with
  | some true => match Nat.ble (off + T.size t) cs.length with
    | true => K (.agg ((cs.drop off).take (T.size t)))
    | false => False
  | some false => match cs[off]? with
    | some v => K v
    | none => False
  | none => False
def posA (n : Nat) (p : Prop) : Prop := match n with
  | 0 => False
  | _ + 1 => p

/-- Parts laid over cells. -/
def fillA (place : Nat → Option (Nat × Nat)) (cs : List AV) : List (Nat × AV) → Option (List AV)
  | [] => some cs
  | (i, v) :: rest => match place i with
    | none => none
    | some (off, n) => match v.solid, Nat.beq v.cells.length n, Nat.ble (off + n) cs.length with
      | true, true, true => fillA place (putCells cs off v.cells) rest
      | _, _, _ => none

/-- len, min, max -/
def bltA (T : Tab) (s : St) (b : Builtin) (args : List Operand) (ts : List TypeId) (K : AV → Prop) : Prop :=
  match b, args, ts with
  | .len, [x], [t] => match T.desc t, s.ev x with
    | .slice _, .sl _ _ xs => K (.int .i64 xs.length)
    | .str, .str b => K (.int .i64 b.size)
    | _, _ => False
  | .min, [x, y], _ => match s.ev x, s.ev y with
    | .int k a, .int _ b => K (.int k (if b < a then b else a))
    | _, _ => False
  | .max, [x, y], _ => match s.ev x, s.ev y with
    | .int k a, .int _ b => K (.int k (if b > a then b else a))
    | _, _ => False
  | _, _, _ => False

/-- nil, held against the literal nil. -/
def nilNil (T : Tab) (op : BinOp) (t : TypeId) (x : AV) (y : Operand) : Option Bool :=
  match T.desc t, op, x, y with
  | .iface, .eql, .nilifc, .const .nilIface => some true
  | .iface, .neq, .nilifc, .const .nilIface => some false
  | _, _, _, _ => none
/-- Operations that hand back a value and change nothing. -/
def lookA (T : Tab) (s : St) (op : Op) (K : AV → Prop) : Prop :=
  match op with
  | .move x | .assign x => K (s.ev x)
  | .pick c a b => match s.ev c with
    | .bool true => K (s.ev a)
    | .bool false => K (s.ev b)
    | _ => False
  | .binOp op t x y _ => match nilNil T op t (s.ev x) y with
    | some b => K (.bool b)
    | none => binA T op t (s.ev x) (s.ev y) K
  | .unOp op _ x => match op, s.ev x with
    | .not, .bool b => K (.bool !b)
    | .neg, .int k n => K (.int k (k.wrap (0 - n)))
    | .xor, .int k n => K (.int k (bitsV .xor k (if k.signed then -1 else k.max) n))
    | _, _ => False
  | .convert src dst x => match T.desc src, T.desc dst, s.ev x with
    | .int _, .int k, .int _ n => K (.int k (k.wrap n))
    | _, _, _ => False
  | .fieldAddr t x f => match T.desc t, s.ev x with
    | .struct fs, .ptr b off => match fs[f]? with
      | some (o, u) => posA (T.size u) (K (.ptr b (off + o)))
      | none => False
    | .struct fs, .pe g e i off cs => match fs[f]? with
      | some (o, u) => posA (T.size u) (K (.pe g e i (off + o) cs))
      | none => False
    | _, _ => False
  | .field t x f => match T.desc t, s.ev x with
    | .struct fs, .agg cs => match fs[f]? with
      | some (o, u) => partA T u cs o K
      | none => False
    | _, _ => False
  | .indexAddr t x i => match T.desc t, s.ev x, s.ev i with
    | .slice e', .sl g e xs, .int _ n => match Nat.beq e' e with
      | true => ∃ x, 0 ≤ n ∧ xs[n.toNat]? = some x ∧ K (.pe g e n.toNat 0 x.cells)
      | false => False
    | .arr len e, .ptr b off, .int _ n => ∃ j : Nat, n = j ∧ j < len ∧ K (.ptr b (off + j * T.size e))
    | _, _, _ => False
  | .index t x i => match T.desc t, s.ev x, s.ev i with
    | .arr len e, .agg cs, .int _ n => ∃ j : Nat, n = j ∧ j < len ∧ partA T e cs (j * T.size e) K
    | _, _, _ => False
  | .load t x => match s.ev x with
    | .ptr b off => match s.h b with
      | some (.cells _ cs) => partA T t cs off K
      | _ => False
    | .pe _ _ _ off cs => partA T t cs off K
    | _ => False
  | .nilCheck x => match s.ev x with
    | .ptr b o => K (.ptr b o)
    | .pe g e i o cs => K (.pe g e i o cs)
    | _ => False
  | .extract x i => match s.ev x with
    | .tup vs => match vs[i]? with
      | some v => K v
      | none => False
    | _ => False
  | .makeInterface t x => match T.desc t with
    | .iface | .other => False
    | _ => K (.ifc t (s.ev x))
  | .makeFunc f a c => K (.fn f (a.toList.map s.ev) (c.toList.map s.ev))
  | .typeAssert x _ t ok => match T.desc t, ok, s.ev x with
    | .iface, _, _ | .other, _, _ => False
    | _, false, .ifc u v => u = t ∧ K v
    | _, true, .ifc u v => (u = t → K (.tup [v, .bool true])) ∧ (u ≠ t → K (.tup [T.zero t, .bool false]))
    | _, _, _ => False
  | .build t ps => match T.desc t with
    | .struct fs => match fillA (fun i => match fs[i]? with
        | some (o, u) => some (o, T.size u)
        | none => none) (T.zero t).cells (ps.toList.map fun p => (p.1, s.ev p.2)) with
      | some cs => K (.agg cs)
      | none => False
    | .arr _ e => match fillA (fun i => some (i * T.size e, T.size e)) (T.zero t).cells (ps.toList.map fun p => (p.1, s.ev p.2)) with
      | some cs => K (.agg cs)
      | none => False
    | _ => False
  | .call c => match c.callee with
    | .builtin b => bltA T s b c.args.toList c.argTypes.toList K
    | _ => False
  | _ => False

/-! ### maps: entries in the order in which they came -/
def keyEq (x y : AV) : Option Bool := match x, y with
  | .int k a, .int k' b => match kindA k k' with
    | true => some (a == b)
    | false => none
  | .bool a, .bool b => some (a == b)
  | .str a, .str b => some (a == b)
  | _, _ => none
def mfind (k : AV) : List (AV × AV) → Option (Option AV)
  | [] => some none
  | (k', v) :: es => match keyEq k k' with
    | some true => some (some v)
    | some false => mfind k es
    | none => none
def mset (k v : AV) : List (AV × AV) → Option (List (AV × AV))
  | [] => some [(k, v)]
  | (k', v') :: es => match keyEq k k' with
    | some true => some ((k', v) :: es)
    | some false => match mset k v es with
      | some es => some ((k', v') :: es)
      | none => none
    | none => none
def mdel (k : AV) : List (AV × AV) → Option (List (AV × AV))
  | [] => some []
  | (k', v') :: es => match keyEq k k' with
    | some true => some es
    | some false => match mdel k es with
      | some es => some ((k', v') :: es)
      | none => none
    | none => none
/-- A key of a map's type of keys. -/
def keyOk (T : Tab) (kt : TypeId) (k : AV) : Bool := match T.desc kt, k with
  | .int k, .int k' _ => kindA k k'
  | .bool, .bool _ => true
  | .str, .str _ => true
  | _, _ => false
/-- What a lookup yields. -/
def foundA (T : Tab) (e : TypeId) (ok : Bool) (r : Option AV) : AV := match r, ok with
  | some v, false => v
  | some v, true => .tup [v, .bool true]
  | none, false => T.zero e
  | none, true => .tup [T.zero e, .bool false]

/-! ### operations that change something -/
abbrev Contract := FuncId → List AV → List Box → (AV → List Box → Prop) → Prop

/-- The place of F in a list. -/
def idx (F : Nat) : List Nat → Nat
  | [] => 0
  | G :: Gs => bif Nat.beq F G then 0 else idx F Gs + 1
/-- Own slices bear other numbers. -/
def renF (m : Nat → Nat) : AV → AV
  | .sl (.own G) e xs => .sl (.own (m G)) e xs
  | .pe (.own G) e i o cs => .pe (.own (m G)) e i o cs
  | v => v
def all? {α : Type} (p : α → Bool) : List α → Bool
  | [] => true
  | v :: vs => p v && all? p vs
/-- What a slice's element may be. -/
def elemOk (T : Tab) (e : TypeId) (x : AV) : Bool := x.solid && Nat.beq x.cells.length (T.size e) && all? (fun y => y.flat && y.isCell) x.cells
def ifT (b : Bool) (p : Prop) : Prop := match b with
  | true => p
  | false => False
def known (T : Tab) (t : TypeId) : Bool := match T.desc t with
  | .other => false
  | _ => true
/-- Slices of the numbers from lo to hi are forgotten. -/
def drpR (lo hi : Nat) : AV → AV
  | .sl (.own G) e xs => bif Nat.ble lo G && Nat.blt G hi then .bad else .sl (.own G) e xs
  | .pe (.own G) e i o cs => bif Nat.ble lo G && Nat.blt G hi then .bad else .pe (.own G) e i o cs
  | v => v

/-- In which order a region's operations are taken; where several may come up, each of them ('alt .. (last ..)'). -/
inductive Plan where
  | done
  | take (i : Nat) (p : Plan)
  | last (i : Nat) (p : Plan)
  | alt (i : Nat) (p : Plan) (r : Plan)
  | cut (i : Nat) (p : Plan)
abbrev StSpec := List AV → St → (AV → St → Prop) → Prop
/-- What an evaluation goes by: types, contracts, what calls do to a state, where names begin, plans of drawn regions. -/
structure En where
  T : Tab
  R : Contract
  J : FuncId → Option StSpec
  D : Nat
  pl : Nat → Plan
def En.at (E : En) (d : Option Tmp) : Nat := 1000 * (E.D + d.getD 0)

/-! ### the same, by recursors alone: worked out in one pass -/
noncomputable def caseA (v : AV) (fsl : Tag → TypeId → List AV → AV) (fpe : Tag → TypeId → Nat → Nat → List AV → AV) (fptr : Nat → Nat → AV) (fmp : Nat → AV) : AV :=
  AV.casesOn v (fun k n => .int k n) (fun b => .bool b) (fun s => .str s) (fun cs => .agg cs) (fun vs => .tup vs) fptr .nilptr fsl fpe (fun f a c => .fn f a c) .nilfn (fun t v => .ifc t v) .nilifc fmp .nilmp .bad
noncomputable def frzFq (F : Nat) (v : AV) : AV := caseA v (fun g e xs => Tag.casesOn g (.sl .nl e xs) (.sl .fz e xs) (fun G => bif Nat.beq G F then .sl .fz e xs else .sl (.own G) e xs))
  (fun g e i o cs => Tag.casesOn g (.pe .nl e i o cs) (.pe .fz e i o cs) (fun G => bif Nat.beq G F then .pe .fz e i o cs else .pe (.own G) e i o cs)) .ptr .mp
noncomputable def drpFq (F : Nat) (v : AV) : AV := caseA v (fun g e xs => Tag.casesOn g (.sl .nl e xs) (.sl .fz e xs) (fun G => bif Nat.beq G F then .bad else .sl (.own G) e xs))
  (fun g e i o cs => Tag.casesOn g (.pe .nl e i o cs) (.pe .fz e i o cs) (fun G => bif Nat.beq G F then .bad else .pe (.own G) e i o cs)) .ptr .mp
noncomputable def fgtBq (b : Nat) (v : AV) : AV := caseA v .sl .pe (fun c o => bif Nat.beq c b then .bad else .ptr c o) (fun c => bif Nat.beq c b then .bad else .mp c)
noncomputable def lendAq (v : AV) : AV := caseA v (fun g e xs => Tag.casesOn g (.sl .nl e xs) (.sl .fz e xs) (fun _ => .sl .fz e xs)) (fun g e i o cs => Tag.casesOn g (.pe .nl e i o cs) (.pe .fz e i o cs) (fun _ => .pe .fz e i o cs)) .ptr .mp
noncomputable def renFq (m : Nat → Nat) (v : AV) : AV := caseA v (fun g e xs => Tag.casesOn g (.sl .nl e xs) (.sl .fz e xs) (fun G => .sl (.own (m G)) e xs)) (fun g e i o cs => Tag.casesOn g (.pe .nl e i o cs) (.pe .fz e i o cs) (fun G => .pe (.own (m G)) e i o cs)) .ptr .mp
noncomputable def drpRq (lo hi : Nat) (v : AV) : AV := caseA v (fun g e xs => Tag.casesOn g (.sl .nl e xs) (.sl .fz e xs) (fun G => bif Nat.ble lo G && Nat.blt G hi then .bad else .sl (.own G) e xs))
  (fun g e i o cs => Tag.casesOn g (.pe .nl e i o cs) (.pe .fz e i o cs) (fun G => bif Nat.ble lo G && Nat.blt G hi then .bad else .pe (.own G) e i o cs)) .ptr .mp
noncomputable def wrtFq (F i off : Nat) (us : List AV) (v : AV) : AV := caseA v (fun g e xs => Tag.casesOn g (.sl .nl e xs) (.sl .fz e xs) (fun G => bif Nat.beq G F then .sl (.own G) e (xs.modify i fun x => x.ofCells (putCells x.cells off us)) else .sl (.own G) e xs))
  (fun g e j o cs => Tag.casesOn g (.pe .nl e j o cs) (.pe .fz e j o cs) (fun G => bif Nat.beq G F then (bif Nat.beq j i then .pe (.own G) e j o (putCells cs off us) else .pe (.own G) e j o cs) else .pe (.own G) e j o cs)) .ptr .mp
theorem frzFq_eq : frzFq = frzF := by
  funext F v; cases v <;> first | rfl | (rename_i g _ _; cases g <;> rfl) | (rename_i g _ _ _ _; cases g <;> rfl)
theorem drpFq_eq : drpFq = drpF := by
  funext F v; cases v <;> first | rfl | (rename_i g _ _; cases g <;> rfl) | (rename_i g _ _ _ _; cases g <;> rfl)
theorem fgtBq_eq : fgtBq = fgtB := by
  funext F v; cases v <;> rfl
theorem lendAq_eq : lendAq = lendA := by
  funext v; cases v <;> first | rfl | (rename_i g _ _; cases g <;> rfl) | (rename_i g _ _ _ _; cases g <;> rfl)
theorem renFq_eq : renFq = renF := by
  funext m v; cases v <;> first | rfl | (rename_i g _ _; cases g <;> rfl) | (rename_i g _ _ _ _; cases g <;> rfl)
theorem drpRq_eq : drpRq = drpR := by
  funext lo hi v; cases v <;> first | rfl | (rename_i g _ _; cases g <;> rfl) | (rename_i g _ _ _ _; cases g <;> rfl)
theorem wrtFq_eq : wrtFq = wrtF := by
  funext F i off us v; cases v <;> first | rfl | (rename_i g _ _; cases g <;> rfl) | (rename_i g _ _ _ _; cases g <;> rfl)
noncomputable def AV.trq (φ : AV → AV) (v : AV) : AV := AV.rec (motive_1 := fun _ => AV) (motive_2 := fun _ => List AV)
  (fun k n => φ (.int k n)) (fun b => φ (.bool b)) (fun s => φ (.str s)) (fun _ ih => .agg ih) (fun _ ih => .tup ih) (fun b o => φ (.ptr b o)) (φ .nilptr) (fun g e xs _ => φ (.sl g e xs)) (fun g e i o cs _ => φ (.pe g e i o cs))
  (fun f _ _ iha ihc => .fn f iha ihc) (φ .nilfn) (fun t _ ih => .ifc t ih) (φ .nilifc) (fun b => φ (.mp b)) (φ .nilmp) (φ .bad) [] (fun _ _ iv ivs => iv :: ivs) v
noncomputable def AV.trLq (φ : AV → AV) (l : List AV) : List AV := List.rec [] (fun v _ ih => AV.trq φ v :: ih) l
theorem AV.trLq_rec (φ : AV → AV) : ∀ l : List AV, AV.rec_1 (motive_1 := fun _ => AV) (motive_2 := fun _ => List AV)
  (fun k n => φ (.int k n)) (fun b => φ (.bool b)) (fun s => φ (.str s)) (fun _ ih => .agg ih) (fun _ ih => .tup ih) (fun b o => φ (.ptr b o)) (φ .nilptr) (fun g e xs _ => φ (.sl g e xs)) (fun g e i o cs _ => φ (.pe g e i o cs))
  (fun f _ _ iha ihc => .fn f iha ihc) (φ .nilfn) (fun t _ ih => .ifc t ih) (φ .nilifc) (fun b => φ (.mp b)) (φ .nilmp) (φ .bad) [] (fun _ _ iv ivs => iv :: ivs) l = AV.trLq φ l
  | [] => rfl
  | v :: l => congrArg (AV.trq φ v :: ·) (AV.trLq_rec φ l)
mutual
theorem AV.trq_eq1 (φ : AV → AV) : ∀ v : AV, AV.trq φ v = AV.tr φ v
  | .agg cs => by rw [AV.tr]; exact congrArg AV.agg ((AV.trLq_rec φ cs).trans (AV.trLq_eq1 φ cs))
  | .tup cs => by rw [AV.tr]; exact congrArg AV.tup ((AV.trLq_rec φ cs).trans (AV.trLq_eq1 φ cs))
  | .ifc t v => by rw [AV.tr]; exact congrArg (AV.ifc t) (AV.trq_eq1 φ v)
  | .fn f a c => by rw [AV.tr]; exact congr (congrArg (AV.fn f) ((AV.trLq_rec φ a).trans (AV.trLq_eq1 φ a))) ((AV.trLq_rec φ c).trans (AV.trLq_eq1 φ c))
  | .int _ _ | .bool _ | .str _ | .ptr _ _ | .nilptr | .sl _ _ _ | .pe _ _ _ _ _ | .nilfn | .nilifc | .mp _ | .nilmp | .bad => by rw [AV.tr] <;> first | rfl | (intros; contradiction)
theorem AV.trLq_eq1 (φ : AV → AV) : ∀ l : List AV, AV.trLq φ l = AV.trL φ l
  | [] => rfl
  | v :: l => by rw [AV.trL, ← AV.trq_eq1 φ v, ← AV.trLq_eq1 φ l]; rfl
end
theorem trq_eq : AV.trq = AV.tr := by funext φ v; exact AV.trq_eq1 φ v
theorem trLq_eq : AV.trLq = AV.trL := by funext φ v; exact AV.trLq_eq1 φ v
noncomputable def mapq {α β : Type} (f : α → β) (l : List α) : List β := List.rec [] (fun x _ ih => f x :: ih) l
theorem mapq_eq {α β : Type} (f : α → β) : ∀ l, mapq f l = l.map f
  | [] => rfl
  | x :: l => congrArg (f x :: ·) (mapq_eq f l)
noncomputable def Box.mapq (φ : AV → AV) (x : Box) : Box := Box.casesOn x (fun e cs => .cells e (AV.trLq φ cs)) (fun es => .mapo (A.mapq (fun p => (p.1, AV.trq φ p.2)) es))
theorem trL_map0 (φ : AV → AV) : ∀ l, AV.trL φ l = l.map (AV.tr φ)
  | [] => rfl
  | v :: l => by rw [AV.trL, trL_map0 φ l]; rfl
theorem boxq_eq (φ : AV → AV) (x : Box) : Box.mapq φ x = x.mapA (AV.tr φ) := by
  cases x with
  | cells e cs => exact congrArg (Box.cells e) ((AV.trLq_eq1 φ cs).trans (trL_map0 φ cs))
  | mapo es =>
    refine congrArg Box.mapo ((mapq_eq _ es).trans ?_)
    rw [trq_eq]
noncomputable def St.mapQ (s : St) (φ : AV → AV) : St :=
  St.casesOn s fun t h => ⟨fun j => AV.trq φ (t j), fun b => Option.rec none (fun x => some (Box.mapq φ x)) (h b)⟩
theorem mapQ_eq : St.mapQ = St.mapA := by
  funext s φ
  obtain ⟨t, h⟩ := s
  show St.mk _ _ = St.mk _ _
  congr 1
  · funext j; exact AV.trq_eq1 φ (t j)
  · funext b
    cases h b with
    | none => rfl
    | some x => exact congrArg some (boxq_eq φ x)
noncomputable def St.frzAllq (s : St) (l : List Nat) : St := List.rec (motive := fun _ => St → St) (fun s => s) (fun F _ ih s => ih (s.mapQ (frzFq F))) l s
noncomputable def AV.frzAllq (v : AV) (l : List Nat) : AV := List.rec (motive := fun _ => AV → AV) (fun v => v) (fun F _ ih v => ih (AV.trq (frzFq F) v)) l v
theorem sfrz_eq : St.frzAllq = St.frzAll := by
  funext s l
  induction l generalizing s with
  | nil => rfl
  | cons F l ih =>
    show St.frzAllq (s.mapQ (frzFq F)) l = St.frzAll (s.mapA (frzF F)) l
    rw [ih, mapQ_eq, frzFq_eq]
theorem vfrz_eq : AV.frzAllq = AV.frzAll := by
  funext s l
  induction l generalizing s with
  | nil => rfl
  | cons F l ih =>
    show AV.frzAllq (AV.trq (frzFq F) s) l = AV.frzAll (s.tr (frzF F)) l
    rw [ih, trq_eq, frzFq_eq]

theorem unq : St.mapQ = St.mapA ∧ frzFq = frzF ∧ drpFq = drpF ∧ fgtBq = fgtB ∧ lendAq = lendA ∧ renFq = renF ∧ drpRq = drpR ∧ wrtFq = wrtF ∧ AV.trq = AV.tr ∧ AV.trLq = AV.trL ∧ St.frzAllq = St.frzAll ∧ AV.frzAllq = AV.frzAll := ⟨mapQ_eq, frzFq_eq, drpFq_eq, fgtBq_eq, lendAq_eq, renFq_eq, drpRq_eq, wrtFq_eq, trq_eq, trLq_eq, sfrz_eq, vfrz_eq⟩
/-- A list is worked out before it is added to another. -/
def addH (l H : List Nat) (K : List Nat → Prop) : Prop := match l with
  | [] => K H
  | b :: l => K (b :: (l ++ H))
theorem addH_iff {l H : List Nat} {K : List Nat → Prop} : addH l H K ↔ K (l ++ H) := by cases l <;> exact Iff.rfl
/-- A call of a function that is handed no pointer. -/
noncomputable def callA (E : En) (s : St) (d : Option Tmp) (f : FuncId) (args : List AV) (K : St → Prop) : Prop :=
  forceL2 args fun args => match AV.ptrsL args with
  | [] => addH (AV.famsL args) [] fun fs => E.R f (AV.trLq lendAq args) [] fun res _ =>
      ifT ((AV.ptrs res).isEmpty && Nat.blt res.fams.length 1000)
        (((bif res.hasFz then s.frzAllq fs else s).mapQ (drpRq (E.at d) (E.at d + 1000))).putF d (res.trq (renFq fun F => E.at d + idx F res.fams)) K)
  | _ => False

noncomputable def goA (E : En) (s : St) (d : Option Tmp) (g : FuncId) (args : List AV) (K : St → Prop) : Prop :=
  match E.J g with
  | some j => j args s fun res s => s.putF d res K
  | none => callA E s d g args K
/-- A slice's bound. -/
def boundA (s : St) (x : Option Operand) (dflt : Nat) (K : Nat → Prop) : Prop := match x with
  | none => K dflt
  | some y => match s.ev y with
    | .int _ n => 0 ≤ n ∧ K n.toNat
    | _ => False
noncomputable def cutA (s : St) (d : Option Tmp) (g : Tag) (e : TypeId) (xs : List AV) (low : Bool) (l h : Nat) (K : St → Prop) : Prop :=
  l ≤ h ∧ h ≤ xs.length ∧ match g, low with
    | .own F, true => (s.mapQ (frzFq F)).putF d (.sl .fz e ((xs.take h).drop l)) K
    | .own F, false => s.putF d (.sl (.own F) e (xs.take h)) K
    | g, _ => s.putF d (.sl g e ((xs.take h).drop l)) K

noncomputable def opA (E : En) (s : St) (o : Oper) (K : St → Prop) : Prop :=
  match o.op with
  | .slice t x lo hi mx => match E.T.desc t, s.ev x, mx with
    | .slice e', .sl g e xs, none => ifT (Nat.beq e' e) (boundA s hi xs.length fun h => boundA s lo 0 fun l => cutA s o.dst g e xs lo.isSome l h K)
    | _, _, _ => False
  | .alloc e => match o.dst with
    | some d => ifT (known E.T e && Nat.blt (E.D + d) 1000000000) ((s.mapQ (fgtBq (E.D + d))).boxF (E.D + d) e (AV.trLq (fgtBq (E.D + d)) (E.T.zero e).cells) fun s => (s.put (some d) (.ptr (E.D + d) 0)).go K)
    | none => False
  | .box e x => match o.dst with
    | some d => ifT ((s.ev x).solid && all? AV.isCell (s.ev x).cells && Nat.blt (E.D + d) 1000000000) ((s.mapQ (fgtBq (E.D + d))).boxF (E.D + d) e (AV.trLq (fgtBq (E.D + d)) (s.ev x).cells) fun s => (s.put (some d) (.ptr (E.D + d) 0)).go K)
    | none => False
  | .store t x v => match s.ev x with
    | .ptr b off => match s.h b with
      | some (.cells e cs) => ifT (o.dst.isNone && known E.T t && (s.ev v).solid && all? AV.isCell (s.ev v).cells && Nat.beq (s.ev v).cells.length (E.T.size t) && Nat.ble (off + E.T.size t) cs.length)
          (s.boxF b e (putCells cs off (s.ev v).cells) K)
      | _ => False
    | .pe (.own F) e i off _ => ifT (o.dst.isNone && known E.T t && (s.ev v).solid && all? (fun y => y.flat && y.isCell) (s.ev v).cells && Nat.beq (s.ev v).cells.length (E.T.size t) && Nat.ble (off + E.T.size t) (E.T.size e))
          ((s.mapQ (wrtFq F i off (s.ev v).cells)).go K)
    | _ => False
  | .buildSlice t n ps => match E.T.desc t, o.dst with
    | .slice e, some d => ifT (Nat.beq ps.toList.length n && (ps.toList.map (·.1) == List.range n) && Nat.ble 1 (E.T.size e) && Nat.ble (n * E.T.size e) 16777216)
        (forceL2 (ps.toList.map fun p => s.ev p.2) fun vs => addH (AV.famsL vs) [] fun fs => ifT (all? (fun x => elemOk E.T e (x.frzAllq fs)) vs)
          (((s.frzAllq fs).mapQ (drpFq (E.at (some d)))).putF (some d) (.sl (.own (E.at (some d))) e (vs.map fun v => v.frzAllq fs)) K))
    | _, _ => False
  | .makeSlice t n c => match E.T.desc t, o.dst, s.ev n, s.ev c with
    | .slice e, some d, .int _ n, .int _ c => 0 ≤ n ∧ n ≤ c ∧ c * E.T.bytes e ≤ 140737488355328 ∧ c ≤ 9223372036854775807 ∧ ifT (elemOk E.T e (E.T.zero e) && Nat.ble 1 (E.T.size e))
        ((s.mapQ (drpFq (E.at (some d)))).putF (some d) (.sl (.own (E.at (some d))) e (List.replicate n.toNat (E.T.zero e))) K)
    | _, _, _, _ => False
  | .makeMap _ none => match o.dst with
    | some d => ifT (Nat.blt (E.D + d) 1000000000) (((s.mapQ (fgtBq (E.D + d))).box (E.D + d) (.mapo [])).go fun s => (s.put (some d) (.mp (E.D + d))).go K)
    | none => False
  | .lookup t m k ok => match E.T.desc t, s.ev m with
    | .mp kt e, .mp b => match s.h b with
      | some (.mapo es) => ifT (keyOk E.T kt (s.ev k) && known E.T e) (∃ r, mfind (s.ev k) es = some r ∧ s.putF o.dst (foundA E.T e ok r) K)
      | _ => False
    | .mp kt e, .nilmp => ifT (keyOk E.T kt (s.ev k) && known E.T e) (s.putF o.dst (foundA E.T e ok none) K)
    | _, _ => False
  | .mapUpdate t m k v => match E.T.desc t, s.ev m with
    | .mp kt _, .mp b => match s.h b with
      | some (.mapo es) => ifT (o.dst.isNone && keyOk E.T kt (s.ev k)) (∃ es', mset (s.ev k) (s.ev v) es = some es' ∧ (s.box b (.mapo es')).go K)
      | _ => False
    | _, _ => False
  | .insert t m k v => match E.T.desc t, s.ev m with
    | .mp kt _, .mp b => match s.h b with
      | some (.mapo es) => ifT (o.dst.isNone && keyOk E.T kt (s.ev k)) (∃ es', mset (s.ev k) (s.ev v) es = some es' ∧ (s.box b (.mapo es')).go K)
      | _ => False
    | _, _ => False
  | .call c => match c.callee with
    | .builtin .len => match c.args.toList, c.argTypes.toList with
      | [x], [t] => match E.T.desc t, s.ev x with
        | .mp _ _, .mp b => match s.h b with
          | some (.mapo es) => s.putF o.dst (.int .i64 es.length) K
          | _ => False
        | .mp _ _, .nilmp => s.putF o.dst (.int .i64 0) K
        | _, _ => bltA E.T s .len c.args.toList c.argTypes.toList fun v => s.putF o.dst v K
      | _, _ => False
    | .builtin .delete => match c.args.toList, c.argTypes.toList with
      | [m, k], [t, _] => match E.T.desc t, s.ev m with
        | .mp kt _, .mp b => match s.h b with
          | some (.mapo es) => ifT (keyOk E.T kt (s.ev k)) (∃ es', mdel (s.ev k) es = some es' ∧ (s.box b (.mapo es')).go fun s => s.putF o.dst (.tup []) K)
          | _ => False
        | _, _ => False
      | _, _ => False
    | .builtin .append => match c.args.toList, c.argTypes.toList with
      | [x, y], [t, u] => match E.T.desc t, s.ev x, s.ev y with
        | .slice e, .sl .nl _ _, .sl _ e' ys => ifT (Nat.beq t u && Nat.ble 1 (E.T.size e) && Nat.ble 1 (E.T.bytes e) && (Nat.beq e e' || ys.isEmpty)) (ys.length * E.T.bytes e ≤ 140737488355328 ∧
            (s.mapQ (drpFq (E.at o.dst))).putF o.dst (.sl (.own (E.at o.dst)) e ys) K)
        | .slice e, .sl (.own F) e'' xs, .sl _ e' ys => ifT (Nat.beq t u && Nat.ble 1 (E.T.size e) && Nat.ble 1 (E.T.bytes e) && Nat.beq e e'' && (Nat.beq e e' || ys.isEmpty)) ((xs.length + ys.length) * E.T.bytes e ≤ 140737488355328 ∧
            (s.mapQ (drpFq F)).putF o.dst (.sl (.own F) e (xs ++ ys)) K)
        | _, _, _ => False
      | _, _ => False
    | .builtin b => bltA E.T s b c.args.toList c.argTypes.toList fun v => s.putF o.dst v K
    | .value f => match s.ev f with
      | .fn (.func g) a d => goA E s o.dst g (a ++ c.args.toList.map s.ev ++ d) K
      | _ => False
    | .invoke recv name => match s.ev recv with
      | .ifc t v => match E.T.meth t name with
        | some (f, none) => goA E s o.dst f (v :: c.args.toList.map s.ev) K
        | some (f, some e) => match v with
          | .ptr b off => match s.h b with
            | some (.cells _ cs) => partA E.T e cs off fun x => goA E s o.dst f (x :: c.args.toList.map s.ev) K
            | _ => False
          | _ => False
        | none => False
      | _ => False
  | .convert src dst x => match E.T.desc src, E.T.desc dst with
    | .slice e, .str => match E.T.desc e, s.ev x with
      | .int .u8, .sl _ e' xs => ifT ((Nat.beq e e' && Nat.beq (E.T.size e) 1) || xs.isEmpty) (∃ ns : List Int, xs = ns.map (AV.int .u8) ∧ s.putF o.dst (.str (strOf ns)) K)
      | _, _ => False
    | _, _ => lookA E.T s o.op fun v => s.putF o.dst v K
  | op => lookA E.T s op fun v => s.putF o.dst v K

/-- Does a later operation's guard ask what this one yields? -/
def asked (ops : List Oper) (d : Option Tmp) : Bool := ops.any fun o => match o.guard with
  | some (j, _) => match ops[j]?, d with
    | some p, some d => match p.dst with
      | some e => Nat.beq d e
      | none => false
    | _, _ => false
  | none => false
/-- A truth that is asked later: both ways. -/
def parted (ops : List Oper) (d : Option Tmp) (K : St → Prop) (s : St) : Prop :=
  match asked ops d, d with
  | true, some d => match s.t d with
    | .bool b => (b = true → (s.put (some d) (.bool true)).go K) ∧ (b = false → (s.put (some d) (.bool false)).go K)
    | _ => False
  | _, _ => K s
def wantedA (ops : List Oper) (s : St) (o : Oper) : Option Bool :=
  match o.guard with
  | none => some true
  | some (j, want) => match ops[j]? with
    | some p => match p.dst with
      | some d => match s.t d, want with
        | .bool true, true | .bool false, false => some true
        | .bool true, false | .bool false, true => some false
        | .tup [], _ => some false
        | _, _ => none
      | none => none
    | none => none
noncomputable def listA (E : En) (all : List Oper) (K : St → Prop) (l : List Oper) : St → Prop :=
  List.rec (motive := fun _ => St → Prop) K (fun o _ rl s => match wantedA all s o with
    | some true => opA E s o (parted all o.dst rl)
    | some false => (s.put o.dst (.tup [])).go rl
    | none => False) l
theorem listA_nil {E : En} {all : List Oper} {K : St → Prop} {s : St} : listA E all K [] s = K s := rfl
theorem listA_cons {E : En} {all : List Oper} {K : St → Prop} {o : Oper} {l : List Oper} {s : St} : listA E all K (o :: l) s = (match wantedA all s o with
    | some true => opA E s o (parted all o.dst (listA E all K l))
    | some false => (s.put o.dst (.tup [])).go (listA E all K l)
    | none => False) := rfl

/-! ### regions that draw their order -/
/-- The boxes that it reads. -/
def readsA (s : St) (o : Oper) : List Nat := match o.op with
  | .load _ x => match s.ev x with
    | .ptr b _ => [b]
    | _ => []
  | _ => []
/-- The own slices that it reads. -/
def readsF (s : St) (o : Oper) : List Nat := match o.op with
  | .load _ x => match s.ev x with
    | .pe (.own F) _ _ _ _ => [F]
    | _ => []
  | _ => []
/-- What is written, or named anew. -/
inductive Tch where
  | non
  | one (b : Nat)
  | all
  | rng (lo hi : Nat)
def touchB (E : En) (s : St) (o : Oper) : Tch := match o.op with
  | .alloc _ => .one (E.D + o.dst.getD 0)
  | .box _ _ => .one (E.D + o.dst.getD 0)
  | .makeMap _ _ => .one (E.D + o.dst.getD 0)
  | .mapUpdate _ x _ _ => match s.ev x with
    | .mp b => .one b
    | _ => .non
  | .insert _ x _ _ => match s.ev x with
    | .mp b => .one b
    | _ => .non
  | .store _ x _ => match s.ev x with
    | .ptr b _ => .one b
    | _ => .non
  | .call c => match c.callee with
    | .value f => match s.ev f with
      | .fn (.func g) _ _ => match E.J g with
        | some _ => .all
        | none => .non
      | _ => .non
    | .invoke _ _ => .all
    | .builtin .delete => match c.args.toList with
      | x :: _ => match s.ev x with
        | .mp b => .one b
        | _ => .non
      | [] => .non
    | _ => .non
  | _ => .non
def touchF (E : En) (s : St) (o : Oper) : Tch := match o.op with
  | .store _ x _ => match s.ev x with
    | .pe (.own F) _ _ _ _ => .one F
    | _ => .non
  | .buildSlice _ _ _ | .makeSlice _ _ _ | .slice _ _ _ _ _ => .all
  | .call c => match c.callee with
    | .builtin .append => .all
    | .builtin _ => .non
    | .value f => match s.ev f with
      | .fn (.func g) a d => match E.J g with
        | some _ => .all
        | none => match AV.famsL (a ++ c.args.toList.map s.ev ++ d) with
          | [] => .rng (E.at o.dst) (E.at o.dst + 1000)
          | _ => .all
      | _ => .all
    | _ => .all
  | _ => .non
def freeB (H : List Nat) (b : Tch) : Bool := match b with
  | .non => true
  | .one b => !H.contains b
  | .all => H.isEmpty
  | .rng lo hi => all? (fun F => !(Nat.ble lo F && Nat.blt F hi)) H
/-- An operation that comes up now. -/
noncomputable def draw1A (E : En) (all : List Oper) (i : Nat) (H : List Nat × List Nat) (s : St) (K : St → Prop) : Prop :=
  match all[i]? with
  | some o => match wantedA all s o with
    | some true => ifT (freeB H.1 (touchB E s o) && freeB H.2 (touchF E s o)) (opA E s o (parted all o.dst K))
    | some false => (s.put o.dst (.tup [])).go K
    | none => False
  | none => False
/-- The recursor by hand: what the elaborator works out is then, letter by letter, what the kernel works out. -/
noncomputable def drawA (E : En) (all : List Oper) (K : St → Prop) (p : Plan) : List Nat → List Nat → St → Prop :=
  Plan.rec (motive := fun _ => List Nat → List Nat → St → Prop)
    (fun _ _ s => K s)
    (fun i _ rp H G s => match all[i]? with
      | some o => match wantedA all s o with
        | some true => lookA E.T s o.op fun v => s.putF o.dst v (parted all o.dst fun s' => addH (readsA s o) H fun H => addH (readsF s o) G fun G => rp H G s')
        | some false => (s.put o.dst (.tup [])).go (rp H G)
        | none => False
      | none => False)
    (fun i _ rp H G s => draw1A E all i (H, G) s (rp H G))
    (fun i _ _ rp rr H G s => draw1A E all i (H, G) s (rp H G) ∧ rr H G s)
    (fun i _ rp _ _ s => draw1A E all i ([], []) s (rp [] []))
    p
theorem drawA_done {E : En} {all : List Oper} {K : St → Prop} {H G : List Nat} {s : St} : drawA E all K .done H G s = K s := rfl
theorem drawA_take {E : En} {all : List Oper} {K : St → Prop} {i : Nat} {p : Plan} {H G : List Nat} {s : St} : drawA E all K (.take i p) H G s = (match all[i]? with
    | some o => match wantedA all s o with
      | some true => lookA E.T s o.op fun v => s.putF o.dst v (parted all o.dst fun s' => addH (readsA s o) H fun H => addH (readsF s o) G fun G => drawA E all K p H G s')
      | some false => (s.put o.dst (.tup [])).go (drawA E all K p H G)
      | none => False
    | none => False) := rfl
theorem drawA_last {E : En} {all : List Oper} {K : St → Prop} {i : Nat} {p : Plan} {H G : List Nat} {s : St} : drawA E all K (.last i p) H G s = draw1A E all i (H, G) s (drawA E all K p H G) := rfl
theorem drawA_alt {E : En} {all : List Oper} {K : St → Prop} {i : Nat} {p r : Plan} {H G : List Nat} {s : St} : drawA E all K (.alt i p r) H G s = (draw1A E all i (H, G) s (drawA E all K p H G) ∧ drawA E all K r H G s) := rfl
theorem drawA_cut {E : En} {all : List Oper} {K : St → Prop} {i : Nat} {p : Plan} {H G : List Nat} {s : St} : drawA E all K (.cut i p) H G s = draw1A E all i ([], []) s (drawA E all K p [] []) := rfl
def Plan.ids : Plan → List Nat
  | .last i _ => [i]
  | .alt i _ r => i :: r.ids
  | _ => []
/-- Must k have come up ahead of j? -/
def before (ops : Array Oper) : Nat → Nat → Nat → Bool
  | 0, _, _ => false
  | n + 1, k, j => match ops[j]? with
    | some o => o.after.toList.any fun e => Region.binds .any e && (Nat.beq e.on k || before ops n k e.on)
    | none => false
/-- Is it a plan of the region? ('on': a further one of those that may come up.) -/
def planOk (ops : Array Oper) : Plan → Bool → Nat → Array Bool → Bool
  | .done, false, _, listed => (Region.ready .any ops listed).isEmpty
  | .take i p, false, n + 1, listed => Region.free .any ops listed i && (Region.ready .any ops listed).contains i && planOk ops p false n (listed.setIfInBounds i true)
  | .last i p, on, n + 1, listed => (on || Region.ready .any ops listed == [i]) && planOk ops p false n (listed.setIfInBounds i true)
  | .alt i p r, on, n + 1, listed => (on || Region.ready .any ops listed == i :: r.ids) && planOk ops p false n (listed.setIfInBounds i true) && planOk ops r true (n + 1) listed
  | .cut i p, false, n + 1, listed => (Region.ready .any ops listed == [i]) && ((List.range listed.size).all fun k => !(listed.getD k false) || before ops ops.size k i) && planOk ops p false n (listed.setIfInBounds i true)
  | _, _, _, _ => false

inductive Ex where
  | normal
  | exit (id : Nat)
  | ret

/-- What has to be shown of a piece of code. -/
noncomputable def wpA (E : En) (code : Code) : (Ex → St → Prop) → St → Prop :=
  Code.rec (motive := fun _ => (Ex → St → Prop) → St → Prop)
    (fun Q s => Q .normal s)
    (fun id ops draw Q s => match draw with
      | false => listA E ops.toList (Q .normal) ops.toList s
      | true => drawA E ops.toList (Q .normal) (E.pl id) [] [] s)
    (fun _ _ ra rb Q s => ra (fun e s' => match e with
      | .normal => rb Q s'
      | e => Q e s') s)
    (fun c _ _ ra rb Q s => match s.ev c with
      | .bool b' => (b' = true → ra Q s) ∧ (b' = false → rb Q s)
      | _ => False)
    (fun id _ rb Q s => rb (fun e s' => match e with
      | .exit i => match Nat.beq i id with
        | true => Q .normal s'
        | false => Q (.exit i) s'
      | e => Q e s') s)
    (fun _ rb Q s => ∃ I : Nat → St → Prop, (∃ n, I n s) ∧ ∀ n s, I n s → rb (fun e s' => match e with
      | .normal => ∃ m, m < n ∧ I m s'
      | e => Q e s') s)
    (fun _ _ _ _ _ _ _ _ => False)
    (fun id Q s => Q (.exit id) s)
    (fun _ _ _ _ => False)
    (fun _ _ _ => False)
    (fun _ _ _ => False)
    (fun Q s => Q .ret s)
    (fun _ _ _ => False)
    code
theorem wpA_cond {E : En} {c : Operand} {a b : Code} {Q : Ex → St → Prop} {s : St} : wpA E (.cond c a b) Q s = (match s.ev c with
    | .bool b' => (b' = true → wpA E a Q s) ∧ (b' = false → wpA E b Q s)
    | _ => False) := rfl

/-- The state in which a call begins: arguments, and the boxes that they name. -/
def enterA (args : List AV) (bs : List Box) : St := ⟨fun j => match args[j]? with
  | some x => x
  | none => .bad, fun b => match Nat.ble 1000000000 b with
  | true => bs[b - 1000000000]?
  | false => none⟩
def partO (T : Tab) (t : TypeId) (cs : List AV) (off : Nat) : Option AV :=
  match (T.desc t).isAgg with
  | some true => match Nat.ble (off + T.size t) cs.length with
    | true => some (.agg ((cs.drop off).take (T.size t)))
    | false => none
  | some false => cs[off]?
  | none => none
/-- What a result variable of its own box holds. -/
def cellA (T : Tab) (s : St) (d : Tmp) (u : TypeId) : Option AV := match s.ev (.tmp d) with
  | .ptr b off => match s.h b with
    | some (.cells _ cs) => partO T u cs off
    | _ => none
  | _ => none
def resA (T : Tab) (s : St) : List ResultVar → Option (List AV)
  | [] => some []
  | .tmp t :: rs => match resA T s rs with
    | some vs => some (s.ev (.tmp t) :: vs)
    | none => none
  | .cell d u :: rs => match cellA T s d u, resA T s rs with
    | some v, some vs => some (v :: vs)
    | _, _ => none
def retA (T : Tab) (fn : Func) (s : St) : Option AV :=
  match resA T s fn.results.toList with
  | some [v] => some v
  | some vs => some (.tup vs)
  | none => none
def bodyOf (f : Func) : Code := match f.body with
  | some c => c
  | none => .skip
def outA (s : St) (i : Nat) : Nat → Option (List Box)
  | 0 => some []
  | n + 1 => match s.h (1000000000 + i), outA s (i + 1) n with
    | some x, some l => some (x :: l)
    | _, _ => none
/-- What has to hold where a function ends. -/
def bodyA (T : Tab) (fn : Func) (bs : List Box) (K : AV → List Box → Prop) : Ex → St → Prop
  | .normal, s | .ret, s => match retA T fn s, outA s 0 bs.length with
    | some v, some out => force v fun v => K v out
    | _, _ => False
  | _, _ => False
def argAt (args : List AV) (j : Nat) : AV := match args[j]? with
  | some x => x
  | none => .bad
/-- A frame upon others. -/
def pushS (args : List AV) (s : St) : St := match s with
  | ⟨t, h⟩ => ⟨fun j => bif Nat.blt j 1000000 then argAt args j else t (j - 1000000), h⟩
def popS (s : St) : St := match s with
  | ⟨t, h⟩ => ⟨fun j => t (j + 1000000), h⟩
def bodyJ (T : Tab) (fn : Func) (K : AV → St → Prop) : Ex → St → Prop
  | .normal, s | .ret, s => match retA T fn s with
    | some v => force v fun v => ∃ s0, popS s = s0 ∧ K v s0
    | none => False
  | _, _ => False
/-- What a call does is what its body does. -/
noncomputable def inlJ (E : En) (fn : Func) (code : Code) : StSpec := fun args s K => ifT (Nat.ble args.length fn.ntmps) (wpA E code (bodyJ E.T fn K) (pushS args s))
/-- Every operation yields into a place below N; the plans are plans. -/
def okD (pl : Nat → Plan) (N : Nat) : Code → Bool
  | .region id ops draw => all? (fun o => match o.dst with
    | some d => Nat.blt d N
    | none => true) ops.toList && (match draw with
    | true => Region.noSelect ops && planOk ops (pl id) false ops.size (Array.replicate ops.size false)
    | false => true)
  | .seq a b => okD pl N a && okD pl N b
  | .cond _ a b => okD pl N a && okD pl N b
  | .block _ b => okD pl N b
  | .loop b => okD pl N b
  | _ => true

/-! ### loops by what some places and some boxes hold -/
def updL {α : Type} (f : Nat → α) : List (Nat × α) → Nat → α
  | [] => f
  | (k, v) :: l => upd (updL f l) k v
def Has {α : Type} (f : Nat → α) : List (Nat × α) → Prop
  | [] => True
  | (k, v) :: l => f k = v ∧ Has f l
theorem upd_same {α : Type} (f : Nat → α) (k : Nat) (v : α) (h : f k = v) : upd f k v = f := by
  funext j
  unfold upd
  cases hj : Nat.beq j k with
  | true => rw [Nat.eq_of_beq_eq_true hj]; exact h.symm
  | false => rfl
theorem updL_has {α : Type} (f : Nat → α) : ∀ l, Has f l → updL f l = f
  | [], _ => rfl
  | (k, v) :: l, h => by
    unfold updL
    rw [updL_has f l h.2]
    exact upd_same f k v h.1
theorem ifT_mono {b : Bool} {p q : Prop} (h : p → q) (hp : ifT b p) : ifT b q := by
  cases b
  · exact hp
  · exact h hp
theorem force1_iff {v : AV} {K : AV → Prop} : force1 v K ↔ K v := by cases v <;> exact Iff.rfl
theorem forceL_iff : ∀ {l : List AV} {K : List AV → Prop}, forceL l K ↔ K l
  | [], _ => Iff.rfl
  | x :: xs, K => by rw [forceL, force1_iff, forceL_iff]
theorem force2_iff {v : AV} {K : AV → Prop} : force2 v K ↔ K v := by
  cases v <;> first | exact forceL_iff | exact Iff.rfl
theorem forceL2_iff : ∀ {l : List AV} {K : List AV → Prop}, forceL2 l K ↔ K l
  | [], _ => Iff.rfl
  | x :: xs, K => by rw [forceL2, force2_iff, forceL2_iff]
theorem force_iff {v : AV} {K : AV → Prop} : force v K ↔ K v := by
  cases v <;> first | exact forceL2_iff | exact forceL_iff | exact Iff.rfl
theorem go_iff {s : St} {K : St → Prop} : s.go K ↔ K s := by cases s; exact Iff.rfl
theorem putF_iff {s : St} {d : Option Tmp} {v : AV} {K : St → Prop} : s.putF d v K ↔ K (s.put d v) := by
  unfold St.putF
  rw [force_iff, go_iff]
theorem boxF_iff {s : St} {b : Nat} {e : TypeId} {cs : List AV} {K : St → Prop} : s.boxF b e cs K ↔ K (s.box b (.cells e cs)) := by
  unfold St.boxF
  rw [forceL_iff, go_iff]

/-- A loop whose head is told by what some places and some boxes hold. -/
theorem loopA {E : En} {b : Code} {Q : Ex → St → Prop} {s : St} {ι : Type} (P : ι → Prop) (l : ι → List (Nat × AV)) (lb : ι → List (Nat × Option Box)) (μ : ι → Nat) (i0 : ι)
    (h0 : P i0) (hl : Has s.t (l i0)) (hb : Has s.h (lb i0))
    (round : ∀ i t h, P i → wpA E b (fun e s' => match e with
      | .normal => ∃ m, m < μ i ∧ ∃ i', P i' ∧ μ i' = m ∧ Has s'.t (l i') ∧ Has s'.h (lb i')
      | e => Q e s') ⟨updL t (l i), updL h (lb i)⟩) : wpA E (.loop b) Q s := by
  refine ⟨fun n s => ∃ i, P i ∧ μ i = n ∧ Has s.t (l i) ∧ Has s.h (lb i), ⟨_, i0, h0, rfl, hl, hb⟩, ?_⟩
  rintro n ⟨t, h⟩ ⟨i, hP, rfl, ht, hh⟩
  have := round i t h hP
  rw [updL_has t _ ht, updL_has h _ hh] at this
  exact this
end Go.Proofs.YtmlgkojmbnjfbaaDoor.A
