/-
  AM: an abstract machine over the model: values with the contents of immutable slices and variables inline, exclusive objects in a list; a deterministic evaluator in continuation form. Definitions alone.
-/
import Derived.Orders
import Derived.Below
set_option linter.unusedVariables false
namespace Go.Proofs.Ytpkgpldgoajphaa.AM
open Go

/-- How a slice's header is: nil; not nil and without room; not nil; without room, or nil; not known. -/
inductive Tg where
  | nil | clip | op | cn | any
  deriving DecidableEq, Inhabited

inductive AV where
  | skip       -- what an operation leaves that was passed over
  | unk        -- anything
  | bool (b : Bool)
  | int (k : IntKind) (n : Int)
  | str (s : ByteArray)
  | nilp | nilf | nili
  | func (f : FuncId) (xs : List AV)
  | iface (t : TypeId) (v : AV)
  | agg (cs : List AV)
  | tup (vs : List AV)
  | ref (cs : List AV) (c : Nat)
  | sl (g : Tg) (k : Nat) (xs : List (List AV))
  | obj (id g e c : Nat)
  | osl (id g k e n : Nat)
  deriving Inhabited

def AV.cells : AV → List AV
  | .agg cs => cs
  | v => [v]

/-- The cells of a value of that size, if it can lie in memory. -/
def AV.fit (v : AV) (size : Nat) : Option (List AV) :=
  match v with
  | .agg cs => if cs.length = size then some cs else none
  | .tup _ => none
  | .skip => none
  | .unk => none
  | v => if size = 1 then some [v] else none
mutual
/-- No exclusive object of number b or more is named (what is immutable names none). -/
def AV.bdd (b : Nat) : AV → Bool
  | .func _ xs => AV.bdds b xs
  | .iface _ v => AV.bdd b v
  | .agg cs => AV.bdds b cs
  | .tup vs => AV.bdds b vs
  | .obj id _ _ _ => decide (id < b)
  | .osl id _ _ _ _ => decide (id < b)
  | _ => true
def AV.bdds (b : Nat) : List AV → Bool
  | [] => true
  | v :: vs => AV.bdd b v && AV.bdds b vs
end

/-- An exclusive object: rows of cells; a variable is one row. -/
structure Ob where
  gen : Nat
  k : Nat
  els : List (List AV)
  room : Option Nat := none      -- how many rows there is place for, where that is known
  deriving Inhabited

abbrev Heap := List Ob
abbrev Fr := List (Option AV)      -- slots; none: nothing is known

/-- What a type is, as far as the evaluator asks. -/
inductive TD where
  | int (k : IntKind) | bool | string | ptr (e : TypeId) | slice (e : TypeId) | struct (fs : List (TypeId × Nat)) | array (n : Nat) (e : TypeId) | iface | func | other
  deriving Inhabited
structure TI where
  d : TD
  size : Nat
  bytes : Nat
  zero : List AV
  deriving Inhabited
def TI.agg (t : TI) : Bool := match t.d with | .struct _ | .array _ _ => true | _ => false
abbrev TT := TypeId → Option TI

def ofScalar : Value → Option AV
  | .bool b => some (.bool b)
  | .int k n => some (.int k n)
  | .string s => some (.str s)
  | .pointer none => some .nilp
  | .slice none 0 0 => some (.sl .nil 0 [])
  | .nilFunc => some .nilf
  | .nilIface => some .nili
  | _ => none
def ofScalars : List Value → Option (List AV)
  | [] => some []
  | v :: vs => match ofScalar v, ofScalars vs with
    | some a, some l => some (a :: l)
    | _, _ => none
def ofConst : Value → Option AV
  | .agg cs => (ofScalars cs.toList).map .agg
  | .tuple vs => if vs.toList.isEmpty then some .skip else none
  | v => ofScalar v

def opv (F : Fr) : Operand → Option AV
  | .tmp t => match F[t]? with
    | some o => o
    | none => none
  | .const v => ofConst v
  | .func f => some (.func f [])
  | .global _ => none
def opvs (F : Fr) : List Operand → Option (List AV)
  | [] => some []
  | x :: xs => match opv F x, opvs F xs with
    | some a, some l => some (a :: l)
    | _, _ => none

/-- A value of type t out of cells, from cell c on. -/
def part (T : TT) (t : TypeId) (cs : List AV) (c : Nat) : Option AV :=
  match T t with
  | none => none
  | some ti => if ti.agg then (if c + ti.size ≤ cs.length then some (.agg ((cs.drop c).take ti.size)) else none) else cs[c]?

/-- '==' of cells that are numbers, bools, strings. -/
def eqI : Option AV → Option AV → Option Bool
  | some (.int k a), some (.int k' b) => if k = k' then some (a == b) else none
  | _, _ => none
def eqB : Option AV → Option AV → Option Bool
  | some (.bool a), some (.bool b) => some (a == b)
  | _, _ => none
def eqS : Option AV → Option AV → Option Bool
  | some (.str a), some (.str b) => some (a.toList == b.toList)
  | _, _ => none

def evInt (op : BinOp) (k : IntKind) (a b : Int) : Option AV :=
  match op with
  | .add => some (.int k (k.wrap (a + b)))
  | .sub => some (.int k (k.wrap (a - b)))
  | .mul => some (.int k (k.wrap (a * b)))
  | .quo => if b = 0 then none else some (.int k (k.wrap (a.tdiv b)))
  | .rem => if b = 0 then none else some (.int k (a.tmod b))
  | .and => some (.int k (k.wrap ((BitVec.ofInt k.bits a &&& BitVec.ofInt k.bits b).toNat)))
  | .or => some (.int k (k.wrap ((BitVec.ofInt k.bits a ||| BitVec.ofInt k.bits b).toNat)))
  | .eql => some (.bool (a == b))
  | .neq => some (.bool (a != b))
  | .lss => some (.bool (a < b))
  | .leq => some (.bool (a ≤ b))
  | .gtr => some (.bool (a > b))
  | .geq => some (.bool (a ≥ b))
  | _ => none
def evStr (op : BinOp) (a b : ByteArray) : Option AV :=
  match op with
  | .add => if ((a.size + b.size : Nat) : Int) > IntKind.i64.max then none else some (.str (a ++ b))
  | .eql => some (.bool (a.toList == b.toList))
  | .neq => some (.bool !(a.toList == b.toList))
  | .lss => some (.bool (Op.bytesLess a.toList b.toList))
  | .gtr => some (.bool !(Op.bytesLess a.toList b.toList || a.toList == b.toList))
  | .leq => some (.bool (Op.bytesLess a.toList b.toList || a.toList == b.toList))
  | .geq => some (.bool !(Op.bytesLess a.toList b.toList))
  | _ => none
/-- Is it nil? -/
def isNil : AV → Option Bool
  | .nilp | .nilf | .nili | .sl .nil _ _ => some true
  | .ref _ _ | .obj .. | .func .. | .iface .. | .sl .clip _ _ | .sl .op _ _ => some false
  | _ => none
/-- Structs of plain fields: one field behind the other. -/
def eqFields (T : TT) : Nat → List (TypeId × Nat) → List AV → List AV → Option Bool
  | 0, _, _, _ => none
  | _, [], _, _ => some true
  | d + 1, (t, o) :: fs, xs, ys =>
    let one : Option Bool := match T t with
      | some { d := .struct gs, size, .. } => eqFields T d gs ((xs.drop o).take size) ((ys.drop o).take size)
      | some { d := .int _, .. } => eqI xs[o]? ys[o]?
      | some { d := .bool, .. } => eqB xs[o]? ys[o]?
      | some { d := .string, .. } => eqS xs[o]? ys[o]?
      | _ => none
    match one, eqFields T d fs xs ys with
    | some b, some c => some (b && c)
    | _, _ => none
def nilP : AV → Option Bool
  | .nilp => some true
  | .ref _ _ | .obj .. => some false
  | _ => none
def nilI : AV → Option Bool
  | .nili => some true
  | .iface _ _ => some false
  | _ => none
def nilS : AV → Option Bool
  | .sl .nil _ [] => some true
  | .sl .clip _ _ | .sl .op _ _ => some false
  | _ => none
def evEq (T : TT) (t : TypeId) (a b : AV) : Option Bool :=
  match T t with
  | some { d := .bool, .. } => eqB (some a) (some b)
  | some { d := .struct fs, size, .. } => match a, b with
    | .agg xs, .agg ys => if xs.length = size ∧ ys.length = size then eqFields T 40 fs xs ys else none
    | _, _ => none
  | some { d := .ptr _, .. } => match b with
    | .nilp => nilP a
    | _ => match a with
      | .nilp => nilP b
      | _ => none
  | some { d := .iface, .. } => match b with
    | .nili => nilI a
    | _ => match a with
      | .nili => nilI b
      | _ => none
  | some { d := .slice _, .. } => match b with
    | .sl .nil _ [] => nilS a
    | _ => match a with
      | .sl .nil _ [] => nilS b
      | _ => none
  | _ => none
def evBin (T : TT) (op : BinOp) (t : TypeId) (a b : AV) : Option AV :=
  match a, b with
  | .int k x, .int k' y =>
    match op with
    | .shl => if y < 0 then none else some (.int k (k.wrap (x * 2 ^ (min y.toNat k.bits))))
    | .shr => if y < 0 then none else some (.int k (x.fdiv (2 ^ (min y.toNat k.bits))))
    | _ => if k = k' then evInt op k x y else none
  | .str x, .str y => evStr op x y
  | a, b => match op with
    | .eql => (evEq T t a b).map .bool
    | .neq => (evEq T t a b).map (fun b => .bool !b)
    | _ => none
def evUn (op : UnOp) (a : AV) : Option AV :=
  match op, a with
  | .not, .bool b => some (.bool !b)
  | .neg, .int k n => some (.int k (k.wrap (0 - n)))
  | _, _ => none
/-- Bounds of a slicing: 0 ≤ l ≤ h ≤ most. -/
def bounds (l h : Int) (most : Nat) : Option (Nat × Nat) := if 0 ≤ l ∧ l ≤ h ∧ h ≤ most then some (l.toNat, h.toNat) else none
def optInt (F : Fr) : Option Operand → Int → Option Int
  | none, d => some d
  | some x, _ => match opv F x with
    | some (.int _ n) => some n
    | _ => none
def Tg.open' : Tg → Tg
  | .nil => .nil
  | .any => .any
  | .cn => .any
  | _ => .op
def Tg.clip' : Tg → Tg
  | .nil => .nil
  | .any => .cn
  | .cn => .cn
  | _ => .clip
/-- k: an element's cells (of a string: none). -/
def evSlice (F : Fr) (k : Option Nat) (x : AV) (lo hi mx : Option Operand) : Option AV :=
  match x, k, mx with
  | .str s, none, none => match optInt F lo 0, optInt F hi s.size with
    | some l, some h => (bounds l h s.size).map fun p => .str (s.extract p.1 p.2)
    | _, _ => none
  | .sl g k' xs, some k, none => if k = k' ∨ xs.isEmpty = true then match optInt F lo 0, optInt F hi xs.length with
    | some l, some h => (bounds l h xs.length).map fun p => .sl g.open' k' ((xs.take p.2).drop p.1)
    | _, _ => none else none
  | .sl g k' xs, some k, some m => if k = k' ∨ xs.isEmpty = true then match optInt F lo 0, optInt F hi xs.length, optInt F (some m) 0 with
    | some l, some h, some c => if h = c then (bounds l h xs.length).map fun p => .sl g.clip' k' ((xs.take p.2).drop p.1) else none
    | _, _, _ => none else none
  | .osl id g k' e n, some k, none => if k = k' then match optInt F lo 0, optInt F hi n with
    | some l, some h => (bounds l h n).map fun p => .osl id g k (e + p.1) (p.2 - p.1)
    | _, _ => none else none
  | .osl id g k' e n, some k, some m => match optInt F lo 0, optInt F hi n, optInt F (some m) 0 with
    | some 0, some 0, some 0 => some (.sl .cn k [])
    | _, _, _ => none
  | _, _, _ => none
def fieldOf (T : TT) (s : TypeId) (f : Nat) : Option (TypeId × Nat) :=
  match T s with
  | some { d := .struct fs, .. } => fs[f]?
  | _ => none
def sizeOf (T : TT) (t : TypeId) : Option Nat := (T t).map (·.size)
def evFieldAddr (T : TT) (s : TypeId) (f : Nat) (x : AV) : Option AV :=
  match fieldOf T s f with
  | some (t, o) => match sizeOf T t, x with
    | some (_ + 1), .ref cs c => some (.ref cs (c + o))
    | some (_ + 1), .obj id g e c => some (.obj id g e (c + o))
    | _, _ => none
  | none => none
def evIndexAddr (T : TT) (t : TypeId) (x : AV) (i : Int) : Option AV :=
  match T t with
  | some { d := .slice e, .. } => match sizeOf T e, x with
    | some k, .sl _ k' xs => if 0 ≤ i ∧ k = k' then (xs[i.toNat]?).map fun cs => .ref cs 0 else none
    | some k, .osl id g k' e0 n => if 0 ≤ i ∧ i < n ∧ k = k' then some (.obj id g (e0 + i.toNat) 0) else none
    | _, _ => none
  | some { d := .array n e, .. } => match sizeOf T e, x with
    | some k, .ref cs c => if 0 ≤ i ∧ i < n then some (.ref cs (c + i.toNat * k)) else none
    | some k, .obj id g e0 c => if 0 ≤ i ∧ i < n then some (.obj id g e0 (c + i.toNat * k)) else none
    | _, _ => none
  | _ => none
def evIndex (T : TT) (t : TypeId) (x : AV) (i : Int) : Option AV :=
  match T t, x with
  | some { d := .array n e, .. }, .agg cs => match sizeOf T e with
    | some k => if 0 ≤ i ∧ i < n then part T e cs (i.toNat * k) else none
    | none => none
  | some { d := .string, .. }, .str s => (if 0 ≤ i then s[i.toNat]? else none).map fun b => .int .u8 b.toNat
  | _, _ => none
/-- Parts laid into cells. -/
def fillAt (cells : List AV) (o : Nat) (v : List AV) : List AV := cells.take o ++ v ++ cells.drop (o + v.length)
def evBuild (T : TT) (F : Fr) (place : Nat → Option (Nat × Nat)) : List (Nat × Operand) → List AV → Option (List AV)
  | [], cells => some cells
  | (i, x) :: rest, cells => match place i, opv F x with
    | some (o, size), some v => match v.fit size with
      | some cs => if o + size ≤ cells.length then evBuild T F place rest (fillAt cells o cs) else none
      | none => none
    | _, _ => none
def rowsOf (k : Nat) : Nat → List AV → List (List AV)
  | 0, _ => []
  | n + 1, cs => cs.take k :: rowsOf k n (cs.drop k)
def zeros (z : List AV) : Nat → List AV
  | 0 => []
  | n + 1 => z ++ zeros z n
def bytesOf : List (List AV) → Option (List UInt8)
  | [] => some []
  | [.int .u8 n] :: xs => (bytesOf xs).map fun l => UInt8.ofNat n.toNat :: l
  | _ :: _ => none
def evConvert (T : TT) (src dst : TypeId) (x : AV) : Option AV :=
  match T src, T dst, x with
  | some _, some { d := .int k, .. }, .int _ n => some (.int k (k.wrap n))
  | some _, some { d := .string, .. }, .str s => some (.str s)
  | some { d := .slice e, .. }, some { d := .string, .. }, .sl _ k xs => match T e with
    | some { d := .int .u8, .. } => if k = 1 ∨ xs.isEmpty = true then (bytesOf xs).map fun l => .str ⟨l.toArray⟩ else none
    | _ => none
  | _, _, _ => none

def isConst : Operand → Bool
  | .const _ => true
  | _ => false
/-- The operations that ask nothing of exclusive objects. -/
def evP (T : TT) (F : Fr) : Op → Option AV
  | .move x => opv F x
  | .assign x => opv F x
  | .pick c a b => match opv F c with
    | some (.bool c) => match opv F a, opv F b with
      | some (.bool x), some (.bool y) => some (.bool (bif c then x else y))
      | oa, ob => bif c then oa else ob
    | _ => none
  | .nilCheck x => match opv F x with
    | some v => (isNil v).bind fun b => bif b then none else some v
    | none => none
  | .binOp op t x y _ => match opv F x, opv F y with
    | some .nili, some .nili => if isConst x || isConst y then evBin T op t .nili .nili else none
    | some a, some b => evBin T op t a b
    | _, _ => none
  | .unOp op _ x => (opv F x).bind (evUn op)
  | .convert src dst x => (opv F x).bind (evConvert T src dst)
  | .makeInterface t x => match T t, opv F x with
    | some { d := .iface, .. }, _ => none
    | some _, some v => some (.iface t v)
    | _, _ => none
  | .makeFunc (.func f) first captured => (opvs F (first.toList ++ captured.toList)).bind fun l => if first.toList.isEmpty then some (.func f l) else none
  | .slice t x lo hi mx => if mx.isSome && hi.isNone then none else match T t with
    | some { d := .string, .. } => (opv F x).bind fun v => evSlice F none v lo hi mx
    | some { d := .slice e, .. } => (sizeOf T e).bind fun k => (opv F x).bind fun v => evSlice F (some k) v lo hi mx
    | _ => none
  | .fieldAddr s x f => (opv F x).bind (evFieldAddr T s f)
  | .field s x f => match fieldOf T s f, opv F x with
    | some (t, o), some (.agg cs) => part T t cs o
    | _, _ => none
  | .indexAddr t x i => match opv F x, opv F i with
    | some v, some (.int _ n) => evIndexAddr T t v n
    | _, _ => none
  | .index t x i => match opv F x, opv F i with
    | some v, some (.int _ n) => evIndex T t v n
    | _, _ => none
  | .extract x i => match opv F x with
    | some (.tup vs) => vs[i]?
    | _ => none
  | .build t parts => match T t with
    | some { d := .struct fs, zero, .. } => (evBuild T F (fun i => (fs[i]?).bind fun p => (sizeOf T p.1).map fun k => (p.2, k)) parts.toList zero).map .agg
    | some { d := .array _ e, zero, .. } => match sizeOf T e with
      | some k => (evBuild T F (fun i => some (i * k, k)) parts.toList zero).map .agg
      | none => none
    | _ => none
  | .buildSlice t len parts => match T t with
    | some { d := .slice e, .. } => match T e with
      | some te => if len * te.size ≤ 2 ^ 24 ∧ 0 < te.size then (evBuild T F (fun i => some (i * te.size, te.size)) parts.toList (zeros te.zero len)).bind fun cs => if AV.bdds 0 cs then some (.sl .clip te.size (rowsOf te.size len cs)) else none else none
      | none => none
    | _ => none
  | .load t a => match opv F a with
    | some (.ref cs c) => part T t cs c
    | _ => none
  | .call { callee := .builtin .len, args, argTypes } => match args.toList, argTypes.toList with
    | [x], [t] => match T t, opv F x with
      | some { d := .string, .. }, some (.str s) => some (.int .i64 s.size)
      | some { d := .slice _, .. }, some (.sl _ _ xs) => some (.int .i64 xs.length)
      | some { d := .slice _, .. }, some (.osl _ _ _ _ n) => some (.int .i64 n)
      | _, _ => none
    | _, _ => none
  | .call { callee := .builtin .max, args, .. } => match args.toList with
    | [x, y] => match opv F x, opv F y with
      | some (.int k a), some (.int _ b) => some (.int k (if b > a then b else a))
      | _, _ => none
    | _ => none
  | .call { callee := .builtin .min, args, .. } => match args.toList with
    | [x, y] => match opv F x, opv F y with
      | some (.int k a), some (.int _ b) => some (.int k (if b < a then b else a))
      | _, _ => none
    | _ => none
  | _ => none
end Go.Proofs.Ytpkgpldgoajphaa.AM
