/-
  Part 1 of 8: an abstract machine over the model; walks; plain laws.
-/
import Derived.Orders
import Derived.Below
import Derived.Laws.Sem
import Derived.Laws.Cells
import Derived.WalkKit
import Derived.Laws.Slices
import Derived.RowKit3
import Derived.Laws.BytesString
import Derived.Laws.AppendOwn
import Derived.Laws.CopyRow
set_option maxRecDepth 100000
set_option linter.unusedVariables false
set_option maxRecDepth 10000
set_option linter.unusedSimpArgs false
namespace Go.Proofs.YtmghjcbabebanaaGreat.AM
open Go
inductive Tg where
 | nil | clip | op | cn | any
 deriving DecidableEq,Inhabited
inductive AV where
 | skip       -- what an operation leaves that was passed over
 | unk        -- anything
 | bool (b:Bool)
 | int (k:IntKind) (n:Int)
 | str (s:ByteArray)
 | nilp | nilf | nili
 | func (f:FuncId) (xs:List AV)
 | iface (t:TypeId) (v:AV)
 | agg (cs:List AV)
 | tup (vs:List AV)
 | ref (cs:List AV) (c:Nat)
 | sl (g:Tg) (k:Nat) (xs:List (List AV))
 | obj (id g e c:Nat)
 | osl (id g k e n:Nat)
 deriving Inhabited
def AV.cells:AV->List AV
 | .agg cs=>cs
 | v=>[v]
def AV.fit (v:AV) (size:Nat):Option (List AV) :=
 match v with
 | .agg cs=>if cs.length=size then some cs else none
 | .tup _=>none
 | .skip=>none
 | .unk=>none
 | v=>if size=1 then some [v] else none
mutual
def AV.bdd (b:Nat):AV->Bool
 | .func _ xs=>AV.bdds b xs
 | .iface _ v=>AV.bdd b v
 | .agg cs=>AV.bdds b cs
 | .tup vs=>AV.bdds b vs
 | .obj id _ _ _=>decide (id < b)
 | .osl id _ _ _ _=>decide (id < b)
 | _=>true
def AV.bdds (b:Nat):List AV->Bool
 | []=>true
 | v :: vs=>AV.bdd b v&&AV.bdds b vs
end
structure Ob where
 gen:Nat
 k:Nat
 els:List (List AV)
 room : Option Nat := none      -- how many rows there is place for, where that is known
 deriving Inhabited
abbrev Heap:=List Ob
abbrev Fr := List (Option AV)      -- slots; none: nothing is known
inductive TD where
 | int (k:IntKind) | bool | string | ptr (e:TypeId) | slice (e:TypeId) | struct (fs:List (TypeId × Nat)) | array (n:Nat) (e:TypeId) | iface | func | other
 deriving Inhabited
structure TI where
 d:TD
 size:Nat
 bytes:Nat
 zero:List AV
 eqok : Bool := true      -- may two of them be compared (structs)?
 deriving Inhabited
def TI.agg (t:TI):Bool:=match t.d with | .struct _ | .array _ _=>true | _=>false
abbrev TT:=TypeId->Option TI
def jI:Value->Option AV
 | .bool b=>some (.bool b)
 | .int k n=>some (.int k n)
 | .string s=>some (.str s)
 | .pointer none=>some .nilp
 | .slice none 0 0=>some (.sl .nil 0 [])
 | .nilFunc=>some .nilf
 | .nilIface=>some .nili
 | _=>none
def aW:List Value->Option (List AV)
 | []=>some []
 | v :: vs=>match jI v,aW vs with
  | some a,some l=>some (a :: l)
  | _,_=>none
def a6n:Value->Option AV
 | .agg cs=>(aW cs.toList).map .agg
 | .tuple vs=>if vs.toList.isEmpty then some .skip else none
 | v=>jI v
def opv (F:Fr):Operand->Option AV
 | .tmp t=>match F[t]? with
  | some o=>o
  | none=>none
 | .const v=>a6n v
 | .func f=>some (.func f [])
 | .global _=>none
def rR (F:Fr):List Operand->Option (List AV)
 | []=>some []
 | x :: xs=>match opv F x,rR F xs with
  | some a,some l=>some (a :: l)
  | _,_=>none
def part (T:TT) (t:TypeId) (cs:List AV) (c:Nat):Option AV :=
 match T t with
 | none=>none
 | some ti=>if ti.agg then (if c+ti.size<=cs.length then some (.agg ((cs.drop c).take ti.size)) else none) else cs[c]?
def eqI:Option AV->Option AV->Option Bool
 | some (.int k a),some (.int k' b)=>if k=k' then some (a == b) else none
 | _,_=>none
def eqB:Option AV->Option AV->Option Bool
 | some (.bool a),some (.bool b)=>some (a == b)
 | _,_=>none
def eqS:Option AV->Option AV->Option Bool
 | some (.str a),some (.str b)=>some (a.toList == b.toList)
 | _,_=>none
def b7N (op:BinOp) (k:IntKind) (a b:Int):Option AV :=
 match op with
 | .add=>some (.int k (k.wrap (a+b)))
 | .sub=>some (.int k (k.wrap (a - b)))
 | .mul=>some (.int k (k.wrap (a * b)))
 | .quo=>if b=0 then none else some (.int k (k.wrap (a.tdiv b)))
 | .rem=>if b=0 then none else some (.int k (a.tmod b))
 | .and=>some (.int k (k.wrap ((BitVec.ofInt k.bits a &&& BitVec.ofInt k.bits b).toNat)))
 | .or=>some (.int k (k.wrap ((BitVec.ofInt k.bits a ||| BitVec.ofInt k.bits b).toNat)))
 | .eql=>some (.bool (a == b))
 | .neq=>some (.bool (a != b))
 | .lss=>some (.bool (a < b))
 | .leq=>some (.bool (a<=b))
 | .gtr=>some (.bool (a > b))
 | .geq=>some (.bool (a >= b))
 | _=>none
def b7M (op:BinOp) (a b:ByteArray):Option AV :=
 match op with
 | .add=>if ((a.size+b.size:Nat):Int) > IntKind.i64.max then none else some (.str (a++b))
 | .eql=>some (.bool (a.toList == b.toList))
 | .neq=>some (.bool !(a.toList == b.toList))
 | .lss=>some (.bool (Op.bytesLess a.toList b.toList))
 | .gtr=>some (.bool !(Op.bytesLess a.toList b.toList || a.toList == b.toList))
 | .leq=>some (.bool (Op.bytesLess a.toList b.toList || a.toList == b.toList))
 | .geq=>some (.bool !(Op.bytesLess a.toList b.toList))
 | _=>none
def isNil:AV->Option Bool
 | .nilp | .nilf | .nili | .sl .nil _ _=>some true
 | .ref _ _ | .obj .. | .func .. | .iface .. | .sl .clip _ _ | .sl .op _ _=>some false
 | _=>none
def eqFields (T:TT):Nat->List (TypeId × Nat)->List AV->List AV->Option Bool
 | 0,_,_,_=>none
 | _,[],_,_=>some true
 | d+1,(t,o) :: fs,xs,ys =>
  let one:Option Bool:=match T t with
   | some { d:=.struct gs,size,eqok,.. }=>if eqok=true then eqFields T d gs ((xs.drop o).take size) ((ys.drop o).take size) else none
   | some { d:=.int _,.. }=>eqI xs[o]? ys[o]?
   | some { d:=.bool,.. }=>eqB xs[o]? ys[o]?
   | some { d:=.string,.. }=>eqS xs[o]? ys[o]?
   | _=>none
  match one,eqFields T d fs xs ys with
  | some b,some c=>some (b&&c)
  | _,_=>none
def a6r:AV->Option Bool
 | .nilp=>some true
 | .ref _ _ | .obj ..=>some false
 | _=>none
def b6M:AV->Option Bool
 | .nili=>some true
 | .iface _ _=>some false
 | _=>none
def a0Z:AV->Option Bool
 | .sl .nil _ []=>some true
 | .sl .clip _ _ | .sl .op _ _=>some false
 | _=>none
def a6z (T:TT) (t:TypeId) (a b:AV):Option Bool :=
 match T t with
 | some { d:=.bool,.. }=>eqB (some a) (some b)
 | some { d:=.struct fs,size,eqok,.. }=>match a,b with
  | .agg xs,.agg ys=>if eqok=true/\xs.length=size/\ys.length=size then eqFields T 40 fs xs ys else none
  | _,_=>none
 | some { d:=.ptr _,.. }=>match b with
  | .nilp=>a6r a
  | _=>match a with
   | .nilp=>a6r b
   | _=>none
 | some { d:=.iface,.. }=>match b with
  | .nili=>b6M a
  | _=>match a with
   | .nili=>b6M b
   | _=>none
 | some { d:=.slice _,.. }=>match b with
  | .sl .nil _ []=>a0Z a
  | _=>match a with
   | .sl .nil _ []=>a0Z b
   | _=>none
 | _=>none
def a4Y (T:TT) (op:BinOp) (t:TypeId) (a b:AV):Option AV :=
 match a,b with
 | .int k x,.int k' y =>
  match op with
  | .shl=>if y < 0 then none else some (.int k (k.wrap (x * 2 ^ (min y.toNat k.bits))))
  | .shr=>if y < 0 then none else some (.int k (x.fdiv (2 ^ (min y.toNat k.bits))))
  | _=>if k=k' then b7N op k x y else none
 | .str x,.str y=>b7M op x y
 | a,b=>match op with
  | .eql=>(a6z T t a b).map .bool
  | .neq=>(a6z T t a b).map (fun b=>.bool !b)
  | _=>none
def d6P (op:UnOp) (a:AV):Option AV :=
 match op,a with
 | .not,.bool b=>some (.bool !b)
 | .neg,.int k n=>some (.int k (k.wrap (0 - n)))
 | _,_=>none
def bounds (l h:Int) (most:Nat):Option (Nat × Nat):=if 0<=l/\l<=h/\h<=most then some (l.toNat,h.toNat) else none
def M5 (F:Fr):Option Operand->Int->Option Int
 | none,d=>some d
 | some x,_=>match opv F x with
  | some (.int _ n)=>some n
  | _=>none
def Tg.open':Tg->Tg
 | .nil=>.nil
 | .any=>.any
 | .cn=>.any
 | _=>.op
def Tg.a5d:Tg->Tg
 | .nil=>.nil
 | .any=>.cn
 | .cn=>.cn
 | _=>.clip
def eU (F:Fr) (k:Option Nat) (x:AV) (lo hi mx:Option Operand):Option AV :=
 match x,k,mx with
 | .str s,none,none=>match M5 F lo 0,M5 F hi s.size with
  | some l,some h=>(bounds l h s.size).map fun p=>.str (s.extract p.1 p.2)
  | _,_=>none
 | .sl g k' xs,some k,none=>if k=k'\/xs.isEmpty=true then match M5 F lo 0,M5 F hi xs.length with
  | some l,some h=>(bounds l h xs.length).map fun p=>.sl g.open' k' ((xs.take p.2).drop p.1)
  | _,_=>none else none
 | .sl g k' xs,some k,some m=>if k=k'\/xs.isEmpty=true then match M5 F lo 0,M5 F hi xs.length,M5 F (some m) 0 with
  | some l,some h,some c=>if h=c then (bounds l h xs.length).map fun p=>.sl g.a5d k' ((xs.take p.2).drop p.1) else none
  | _,_,_=>none else none
 | .osl id g k' e n,some k,none=>if k=k' then match M5 F lo 0,M5 F hi n with
  | some l,some h=>(bounds l h n).map fun p=>.osl id g k (e+p.1) (p.2 - p.1)
  | _,_=>none else none
 | .osl id g k' e n,some k,some m=>match M5 F lo 0,M5 F hi n,M5 F (some m) 0 with
  | some 0,some 0,some 0=>some (.sl .cn k [])
  | _,_,_=>none
 | _,_,_=>none
def a2w (T:TT) (s:TypeId) (f:Nat):Option (TypeId × Nat) :=
 match T s with
 | some { d:=.struct fs,.. }=>fs[f]?
 | _=>none
def sizeOf (T:TT) (t:TypeId):Option Nat:=(T t).map (·.size)
def xI (T:TT) (s:TypeId) (f:Nat) (x:AV):Option AV :=
 match a2w T s f with
 | some (t,o)=>match sizeOf T t,x with
  | some (_+1),.ref cs c=>some (.ref cs (c+o))
  | some (_+1),.obj id g e c=>some (.obj id g e (c+o))
  | _,_=>none
 | none=>none
def xH (T:TT) (t:TypeId) (x:AV) (i:Int):Option AV :=
 match T t with
 | some { d:=.slice e,.. }=>match sizeOf T e,x with
  | some k,.sl _ k' xs=>if 0<=i/\k=k' then (xs[i.toNat]?).map fun cs=>.ref cs 0 else none
  | some k,.osl id g k' e0 n=>if 0<=i/\i < n/\k=k' then some (.obj id g (e0+i.toNat) 0) else none
  | _,_=>none
 | some { d:=.array n e,.. }=>match sizeOf T e,x with
  | some k,.ref cs c=>if 0<=i/\i < n then some (.ref cs (c+i.toNat * k)) else none
  | some k,.obj id g e0 c=>if 0<=i/\i < n then some (.obj id g e0 (c+i.toNat * k)) else none
  | _,_=>none
 | _=>none
def a6y (T:TT) (t:TypeId) (x:AV) (i:Int):Option AV :=
 match T t,x with
 | some { d:=.array n e,.. },.agg cs=>match sizeOf T e with
  | some k=>if 0<=i/\i < n then part T e cs (i.toNat * k) else none
  | none=>none
 | some { d:=.string,.. },.str s=>(if 0<=i then s[i.toNat]? else none).map fun b=>.int .u8 b.toNat
 | _,_=>none
def dI (cells:List AV) (o:Nat) (v:List AV):List AV:=cells.take o++v++cells.drop (o+v.length)
def Y6 (T:TT) (F:Fr) (place:Nat->Option (Nat × Nat)):List (Nat × Operand)->List AV->Option (List AV)
 | [],cells=>some cells
 | (i,x) :: rest,cells=>match place i,opv F x with
  | some (o,size),some v=>match v.fit size with
   | some cs=>if o+size<=cells.length then Y6 T F place rest (dI cells o cs) else none
   | none=>none
  | _,_=>none
def rowsOf (k:Nat):Nat->List AV->List (List AV)
 | 0,_=>[]
 | n+1,cs=>cs.take k :: rowsOf k n (cs.drop k)
def zeros (z:List AV):Nat->List AV
 | 0=>[]
 | n+1=>z++zeros z n
def bytesOf:List (List AV)->Option (List UInt8)
 | []=>some []
 | [.int .u8 n] :: xs=>(bytesOf xs).map fun l=>UInt8.ofNat n.toNat :: l
 | _ :: _=>none
def wC (T:TT) (src dst:TypeId) (x:AV):Option AV :=
 match T src,T dst,x with
 | some _,some { d:=.int k,.. },.int _ n=>some (.int k (k.wrap n))
 | some _,some { d:=.string,.. },.str s=>some (.str s)
 | some { d:=.slice e,.. },some { d:=.string,.. },.sl _ k xs=>match T e with
  | some { d:=.int .u8,.. }=>if k=1\/xs.isEmpty=true then (bytesOf xs).map fun l=>.str ⟨l.toArray⟩ else none
  | _=>none
 | _,_,_=>none
def isConst:Operand->Bool
 | .const _=>true
 | _=>false
def evP (T:TT) (F:Fr):Op->Option AV
 | .move x=>opv F x
 | .assign x=>opv F x
 | .pick c a b=>match opv F c with
  | some (.bool c)=>match opv F a,opv F b with
   | some (.bool x),some (.bool y)=>some (.bool (bif c then x else y))
   | oa,ob=>bif c then oa else ob
  | _=>none
 | .nilCheck x=>match opv F x with
  | some v=>(isNil v).bind fun b=>bif b then none else some v
  | none=>none
 | .binOp op t x y _=>match opv F x,opv F y with
  | some .nili,some .nili=>if isConst x || isConst y then a4Y T op t .nili .nili else none
  | some a,some b=>a4Y T op t a b
  | _,_=>none
 | .unOp op _ x=>(opv F x).bind (d6P op)
 | .convert src dst x=>(opv F x).bind (wC T src dst)
 | .makeInterface t x=>match T t,opv F x with
  | some { d:=.iface,.. },_=>none
  | some _,some v=>some (.iface t v)
  | _,_=>none
 | .makeFunc (.func f) first captured=>(rR F (first.toList++captured.toList)).bind fun l=>if first.toList.isEmpty then some (.func f l) else none
 | .slice t x lo hi mx=>if mx.isSome&&hi.isNone then none else match T t with
  | some { d:=.string,.. }=>(opv F x).bind fun v=>eU F none v lo hi mx
  | some { d:=.slice e,.. }=>(sizeOf T e).bind fun k=>(opv F x).bind fun v=>eU F (some k) v lo hi mx
  | _=>none
 | .fieldAddr s x f=>(opv F x).bind (xI T s f)
 | .field s x f=>match a2w T s f,opv F x with
  | some (t,o),some (.agg cs)=>part T t cs o
  | _,_=>none
 | .indexAddr t x i=>match opv F x,opv F i with
  | some v,some (.int _ n)=>xH T t v n
  | _,_=>none
 | .index t x i=>match opv F x,opv F i with
  | some v,some (.int _ n)=>a6y T t v n
  | _,_=>none
 | .extract x i=>match opv F x with
  | some (.tup vs)=>vs[i]?
  | _=>none
 | .build t parts=>match T t with
  | some { d:=.struct fs,zero,.. }=>(Y6 T F (fun i=>(fs[i]?).bind fun p=>(sizeOf T p.1).map fun k=>(p.2,k)) parts.toList zero).map .agg
  | some { d:=.array _ e,zero,.. }=>match sizeOf T e with
   | some k=>(Y6 T F (fun i=>some (i * k,k)) parts.toList zero).map .agg
   | none=>none
  | _=>none
 | .buildSlice t len parts=>match T t with
  | some { d:=.slice e,.. }=>match T e with
   | some te=>if len * te.size<=2 ^ 24/\0 < te.size then (Y6 T F (fun i=>some (i * te.size,te.size)) parts.toList (zeros te.zero len)).bind fun cs=>if AV.bdds 0 cs then some (.sl .clip te.size (rowsOf te.size len cs)) else none else none
   | none=>none
  | _=>none
 | .load t a=>match opv F a with
  | some (.ref cs c)=>part T t cs c
  | _=>none
 | .call { callee:=.builtin .len,args,argTypes }=>match args.toList,argTypes.toList with
  | [x],[t]=>match T t,opv F x with
   | some { d:=.string,.. },some (.str s)=>some (.int .i64 s.size)
   | some { d:=.slice _,.. },some (.sl _ _ xs)=>some (.int .i64 xs.length)
   | some { d:=.slice _,.. },some (.osl _ _ _ _ n)=>some (.int .i64 n)
   | _,_=>none
  | _,_=>none
 | .call { callee:=.builtin .max,args,.. }=>match args.toList with
  | [x,y]=>match opv F x,opv F y with
   | some (.int k a),some (.int _ b)=>some (.int k (if b > a then b else a))
   | _,_=>none
  | _=>none
 | .call { callee:=.builtin .min,args,.. }=>match args.toList with
  | [x,y]=>match opv F x,opv F y with
   | some (.int k a),some (.int _ b)=>some (.int k (if b < a then b else a))
   | _,_=>none
  | _=>none
 | _=>none
def AV.F3 (b:Nat):List (List AV)->Bool
 | []=>true
 | x :: xs=>AV.bdds b x&&AV.F3 b xs
mutual
def AV.beq:AV->AV->Bool
 | .skip,.skip=>true
 | .unk,.unk=>true
 | .bool a,.bool b=>a == b
 | .int k a,.int j b=>decide (k=j)&&decide (a=b)
 | .str a,.str b=>decide (a=b)
 | .nilp,.nilp=>true
 | .nilf,.nilf=>true
 | .nili,.nili=>true
 | .func f xs,.func g ys=>decide (f=g)&&AV.beqs xs ys
 | .iface t a,.iface u b=>decide (t=u)&&AV.beq a b
 | .agg xs,.agg ys=>AV.beqs xs ys
 | .tup xs,.tup ys=>AV.beqs xs ys
 | .ref xs c,.ref ys d=>AV.beqs xs ys&&decide (c=d)
 | .sl g k xs,.sl h j ys=>decide (g=h)&&decide (k=j)&&AV.a2x xs ys
 | .obj a b c d,.obj a' b' c' d'=>decide (a=a')&&decide (b=b')&&decide (c=c')&&decide (d=d')
 | .osl a b c d e,.osl a' b' c' d' e'=>decide (a=a')&&decide (b=b')&&decide (c=c')&&decide (d=d')&&decide (e=e')
 | _,_=>false
def AV.beqs:List AV->List AV->Bool
 | [],[]=>true
 | a :: as_,b :: bs=>AV.beq a b&&AV.beqs as_ bs
 | _,_=>false
def AV.a2x:List (List AV)->List (List AV)->Bool
 | [],[]=>true
 | a :: as_,b :: bs=>AV.beqs a b&&AV.a2x as_ bs
 | _,_=>false
end
inductive Gh where
 | frz (t:Nat) | vir (t k:Nat) | gen (t g:Nat) | cut (n:Nat) | any (t k:Nat) | frzf (t c k:Nat) | virf (t c k:Nat)
structure Ann where
 refs:List Nat:=[]
 own:List Nat:=[]
 big:List Nat:=[]
 gh:List (Nat × Gh):=[]
 gha:List (Nat × Gh):=[]
 base:Nat:=0
 fin:Option Nat:=none
 live:List (Nat × List Nat):=[]
 out:List (Nat × List Nat):=[]
 deriving Inhabited
structure Env where
 T:TT
 M:TypeId->String->Option FuncId
 ann:Ann
def zX (n:Nat):List Nat->Bool
 | []=>false
 | m :: ms=>if Nat.beq n m then true else zX n ms
def aK {α:Type} (n:Nat):List (Nat × α)->Option α
 | []=>none
 | (m,a) :: ms=>if Nat.beq n m then some a else aK n ms
def rowAt (H:Heap) (id g e:Nat):Option (List AV) :=
 match H[id]? with
 | some o=>if o.gen=g then o.els[e]? else none
 | none=>none
def setAt (H:Heap) (id e:Nat) (cs:List AV):Heap:=H.modify id fun o=>{ o with els:=o.els.set e cs }
def I5 (H:Heap) (k:Nat):AV->Option (List (List AV))
 | .sl _ k' xs=>if k=k'\/xs.isEmpty=true then some xs else none
 | .osl id g k' e n=>match H[id]? with
  | some o=>if o.gen=g/\k=k'/\e+n<=o.els.length then some ((o.els.drop e).take n) else none
  | none=>none
 | .str s=>if k=1 then some (s.data.toList.map fun b=>[.int .u8 b.toNat]) else none
 | _=>none
def most:Nat:=140737488355328
def xZ (T:TT) (t:TypeId):Bool :=
 match T t with
 | some { d:=.slice _,.. }=>true
 | some { d:=.string,.. }=>true
 | _=>false
def dZ (T:TT) (H:Heap) (t:TypeId) (s x:AV):Option (AV × Heap) :=
 match T t with
 | some { d:=.slice e,.. }=>match T e with
  | some te=>match I5 H te.size x with
   | some new=>match new with
    | []=>match s with
     | .sl ..=>some (s,H)
     | .osl ..=>some (s,H)
     | _=>none
    | _=>match s with
     | .sl .nil _ []=>if new.length * te.bytes<=most/\0 < te.size/\0 < te.bytes then some (.osl H.length 0 te.size 0 new.length,H++[{ gen:=0,k:=te.size,els:=new }]) else none
     | .sl .clip k xs=>if (xs.length+new.length) * te.bytes<=most/\0 < te.size/\0 < te.bytes/\(k=te.size\/xs.isEmpty=true) then some (.osl H.length 0 te.size 0 (xs.length+new.length),H++[{ gen:=0,k:=te.size,els:=xs++new }]) else none
     | .sl .cn k xs=>if (xs.length+new.length) * te.bytes<=most/\0 < te.size/\0 < te.bytes/\(k=te.size\/xs.isEmpty=true) then some (.osl H.length 0 te.size 0 (xs.length+new.length),H++[{ gen:=0,k:=te.size,els:=xs++new }]) else none
     | .osl id g k e n=>match H[id]? with
      | some o=>if o.gen=g/\k=te.size/\0 < te.size then
       match o.room with
       | some rm=>if e+n<=o.els.length/\rm - e < n+new.length/\(n+new.length) * te.bytes<=most/\0 < te.bytes then some (.osl H.length 0 te.size 0 (n+new.length),H++[{ gen:=0,k:=te.size,els:=(o.els.drop e).take n++new }]) else none
       | none =>
       if e+n=o.els.length then
        if (n+new.length) * te.bytes<=most/\0 < te.bytes then some (.osl id (g+1) k 0 (n+new.length),H.set id { gen:=g+1,k:=k,els:=o.els.drop e++new }) else none
       else if e+n+new.length<=o.els.length then some (.osl id g k e (n+new.length),H.set id { o with els:=o.els.take (e+n)++new++o.els.drop (e+n+new.length) })
       else none
       else none
      | none=>none
     | _=>none
   | none=>none
  | none=>none
 | _=>none
def fC (T:TT) (H:Heap) (t:TypeId) (s x:AV):Option (AV × Heap) :=
 match T t with
 | some { d:=.slice e,.. }=>match T e with
  | some te=>match I5 H te.size x with
   | some new=>match s with
    | .sl g _ []=>match g with
     | .op=>none
     | .any=>none
     | _=>if new.length * te.bytes<=most/\0 < te.size/\0 < te.bytes then some (.osl H.length 0 te.size 0 new.length,H++[{ gen:=0,k:=te.size,els:=new }]) else none
    | .osl id g k e n=>match H[id]? with
     | some o=>if o.gen=g/\k=te.size/\0 < te.size/\o.room=none/\e+n=o.els.length/\(n+new.length) * te.bytes<=most/\0 < te.bytes then some (.osl id (g+1) k 0 (n+new.length),H.set id { gen:=g+1,k:=k,els:=o.els.drop e++new }) else none
     | none=>none
    | _=>none
   | none=>none
  | none=>none
 | _=>none
def ev1 (X:Env) (F:Fr) (H:Heap) (ar:Nat) (o:Oper):Option (AV × Heap) :=
 match o.op with
 | .alloc t=>some (.obj ar 0 0 0,H)
 | .box t x=>match opv F x,X.T t with
  | some v,some ti=>match v.fit ti.size,o.dst with
   | some cs,some d=>if zX d X.ann.refs then (if AV.bdds 0 cs then some (.ref cs 0,H) else none)
    else some (.obj H.length 0 0 0,H++[{ gen:=0,k:=ti.size,els:=[cs] }])
   | _,_=>none
  | _,_=>none
 | .load t x=>match opv F x with
  | some (.ref cs c)=>(part X.T t cs c).map fun a=>(a,H)
  | some (.obj id g e c)=>match rowAt H id g e with
   | some cs=>(part X.T t cs c).map fun a=>(a,H)
   | none=>none
  | _=>none
 | .store t x y=>match opv F x,opv F y,X.T t with
  | some (.obj id g e c),some v,some ti=>match rowAt H id g e,v.fit ti.size with
   | some cs,some us=>if c+ti.size<=cs.length then some (.skip,setAt H id e (dI cs c us)) else none
   | _,_=>none
  | _,_,_=>none
 | .call { callee:=.builtin .append,args,argTypes }=>match args.toList,argTypes.toList with
  | [s,x],[t,t']=>match opv F s,opv F x with
   | some s,some x=>match xZ X.T t' with
    | true=>match (match o.dst with
     | some d=>zX d X.ann.own
     | none=>false) with
     | true=>fC X.T H t s x
     | false=>dZ X.T H t s x
    | false=>none
   | _,_=>none
  | _,_=>none
 | op=>(evP X.T F op).map fun a=>(a,H)
def R6 (F:Fr) (d:Option Nat) (a:AV):Fr :=
 match d with
 | some d=>F.set d (some a)
 | none=>F
def pJ (all:List Oper) (j:Nat):Option Nat:=(all[j]?).bind (·.dst)
def R5 (o:Oper):Bool:=match o.op with | .alloc _=>true | _=>false
def iK (T:TT):List Oper->Option Heap
 | []=>some []
 | o :: os=>match o.op with
  | .alloc t=>match T t,iK T os with
   | some ti,some l=>some ({ gen:=0,k:=ti.size,els:=[ti.zero] } :: l)
   | _,_=>none
  | _=>iK T os
inductive Cl where
 | P | R | E
def kH (X:Env) (o:Oper):Bool:=match o.dst with
 | some d=>zX d X.ann.big
 | none=>false
def dM (X:Env) (o:Oper):Bool :=
 match o.op with
 | .call { callee:=.builtin .copy,.. }=>true
 | .call { callee:=.builtin .clear,.. }=>true
 | .call { callee:=.builtin .cap,.. }=>true
 | .call { callee:=.builtin .append,.. }=>kH X o
 | .slice ..=>kH X o
 | .convert ..=>kH X o
 | .index ..=>kH X o
 | .makeSlice ..=>true
 | _=>false
def X7 (X:Env) (F:Fr) (o:Oper):Cl :=
 match o.op with
 | .load _ x=>match opv F x with
  | some (.obj ..)=>.R
  | _=>.P
 | .box _ _=>match o.dst with
  | some d=>if zX d X.ann.refs then .P else .E
  | none=>.E
 | .store ..=>.E
 | .call { callee:=.value _,.. }=>.E
 | .call { callee:=.invoke _ _,.. }=>.E
 | .call { callee:=.builtin .append,.. }=>.E
 | .call { callee:=.builtin .copy,.. }=>.E
 | .call { callee:=.builtin .clear,.. }=>.E
 | .call { callee:=.builtin .cap,.. }=>.E
 | .slice ..=>bif kH X o then .E else .P
 | .convert ..=>bif kH X o then .E else .P
 | .makeSlice ..=>.E
 | .index ..=>bif kH X o then .E else .P
 | _=>.P
def eT (edges:List Edge) (acc:List Nat):Nat :=
 match edges with
 | []=>0
 | e :: es=>if Region.binds .any e then Nat.lor (Nat.lor (2 ^ e.on) (acc.getD e.on 0)) (eT es acc) else eT es acc
def needs:List Oper->List Nat->List Nat
 | [],acc=>acc
 | o :: os,acc=>needs os (acc++[eT o.after.toList acc])
def waits (nd : List Nat) (i j : Nat) : Bool := Nat.testBit (nd.getD i 0) j      -- i waits for j
structure Rd where
 i:Nat
 o:Oper
 F:Fr
 a:AV
 k:Nat
structure Dr where
 hs:List Heap
 es:List Nat
 rs:List Rd
def chain (nd:List Nat):List Nat->Bool
 | []=>true
 | [_]=>true
 | a :: b :: es=>waits nd b a&&chain nd (b :: es)
def countB (p:Nat->Bool):List Nat->Nat
 | []=>0
 | a :: as_=>if p a then countB p as_+1 else countB p as_
def dD (X:Env) (F:Fr) (i:Nat) (o:Oper) (a:AV) (H':Heap) (D:Dr):Dr :=
 match X7 X F o with
 | .P=>D
 | .R=>{ D with rs:=⟨i,o,F,a,D.es.length⟩ :: D.rs }
 | .E=>{ D with hs:=D.hs++[H'],es:=D.es++[i] }
def qV (H:Heap):Heap->Heap
 | []=>H
 | al=>H++al
inductive Ex where
 | normal | exit (id:Nat) | ret
def sV (live:List Nat):Nat->Fr->Fr
 | _,[]=>[]
 | i,a :: F=>(if zX i live then a else none) :: sV live (i+1) F
def jJ:Option (List Nat)->Fr->Fr
 | none,F=>F
 | some l,F=>sV l 0 F
def oH:Code->Nat
 | .region id _ _=>id
 | .seq a b=>match a with
  | .skip=>oH b
  | _=>oH a
 | .block _ c=>oH c
 | .loop c=>oH c
 | _=>1000000
mutual
def gM (n0:Nat):AV->Heap->Option (AV × Heap)
 | .osl id g k e n,H=>if n0<=id then match I5 H k (.osl id g k e n) with
  | some xs=>if AV.F3 0 xs then some (.sl .any k xs,H.modify id fun o=>{ gen:=o.gen+1,k:=o.k,els:=[] }) else none
  | none=>none
  else some (.osl id g k e n,H)
 | .agg cs,H=>match a2v n0 cs H with
  | some (cs,H)=>some (.agg cs,H)
  | none=>none
 | .tup cs,H=>match a2v n0 cs H with
  | some (cs,H)=>some (.tup cs,H)
  | none=>none
 | v,H=>some (v,H)
def a2v (n0:Nat):List AV->Heap->Option (List AV × Heap)
 | [],H=>some ([],H)
 | v :: vs,H=>match gM n0 v H with
  | some (v,H)=>match a2v n0 vs H with
   | some (vs,H)=>some (v :: vs,H)
   | none=>none
  | none=>none
end
def a2m (X:Env) (F:Fr) (H:Heap):ResultVar->Option AV
 | .tmp t=>opv F (.tmp t)
 | .cell a t=>match opv F (.tmp a) with
  | some (.ref cs c)=>part X.T t cs c
  | some (.obj id g e c)=>match rowAt H id g e with
   | some cs=>part X.T t cs c
   | none=>none
  | _=>none
def lT (X:Env) (F:Fr) (H:Heap):List ResultVar->Option (List AV)
 | []=>some []
 | r :: rs=>match a2m X F H r,lT X F H rs with
  | some a,some l=>some (a :: l)
  | _,_=>none
def a4M:List AV->AV
 | [v]=>v
 | vs=>.tup vs
@[reducible] def t_ (d:TD) (s b:Nat) (z:List AV):TI:={ d:=d,size:=s,bytes:=b,zero:=z }
@[reducible] def zI:AV:=.int .i64 0
@[reducible] def zS:AV:=.str ⟨#[]⟩
@[reducible] def C9:TI:=t_ .func 1 8 [.nilf]
def ttl:List (Nat × TI):=[
 (1,C9),
 (2,(t_ (.int .i64) 1 8 [zI])),
 (3,(t_ (.int .i64) 1 8 [zI])),
 (4,(t_ .bool 1 1 [.bool false])),
 (5,(t_ (.int .u8) 1 1 [.int .u8 0])),
 (6,(t_ (.int .u8) 1 1 [.int .u8 0])),
 (7,(t_ (.struct [(2,0),(3,1),(4,2),(6,3)]) 4 24 [zI,zI,.bool false,.int .u8 0])),
 (8,(t_ (.struct [(2,0),(3,1),(4,2),(6,3)]) 4 24 [zI,zI,.bool false,.int .u8 0])),
 (9,(t_ .string 1 16 [zS])),
 (10,(t_ .string 1 16 [zS])),
 (11,(t_ .string 1 16 [zS])),
 (12,(t_ (.int .u64) 1 8 [.int .u64 0])),
 (16,(t_ (.ptr 256) 1 8 [.nilp])),
 (17,(t_ (.ptr 264) 1 8 [.nilp])),
 (20,(t_ .iface 1 16 [.nili])),
 (21,(t_ (.int .i32) 1 4 [.int .i32 0])),
 (22,(t_ (.slice 3) 1 24 [.sl .nil 0 []])),
 (23,(t_ (.ptr 69) 1 8 [.nilp])),
 (24,C9),
 (25,(t_ (.slice 35) 1 24 [.sl .nil 0 []])),
 (26,C9),
 (27,(t_ (.struct [(9,0),(9,1)]) 2 32 [zS,zS])),
 (28,(t_ (.struct [(9,0),(9,1)]) 2 32 [zS,zS])),
 (29,(t_ (.int .u32) 1 4 [.int .u32 0])),
 (30,(t_ (.slice 50) 1 24 [.sl .nil 0 []])),
 (31,(t_ (.slice 28) 1 24 [.sl .nil 0 []])),
 (32,(t_ (.struct [(3,0),(3,1),(3,2),(3,3),(2,4),(2,5),(2,6),(28,7),(4,9),(29,10),(30,11),(31,12)]) 13 144 [zI,zI,zI,zI,zI,zI,zI,zS,zS,.bool false,.int .u32 0,.sl .nil 0 [],.sl .nil 0 []])),
 (33,(t_ (.struct [(3,0),(3,1),(3,2),(3,3),(2,4),(2,5),(2,6),(28,7),(4,9),(29,10),(30,11),(31,12)]) 13 144 [zI,zI,zI,zI,zI,zI,zI,zS,zS,.bool false,.int .u32 0,.sl .nil 0 [],.sl .nil 0 []])),
 (34,(t_ (.struct [(3,0),(3,1),(33,2),(2,15)]) 16 168 [zI,zI,zI,zI,zI,zI,zI,zI,zI,zS,zS,.bool false,.int .u32 0,.sl .nil 0 [],.sl .nil 0 [],zI])),
 (35,(t_ (.struct [(3,0),(3,1),(33,2),(2,15)]) 16 168 [zI,zI,zI,zI,zI,zI,zI,zI,zI,zS,zS,.bool false,.int .u32 0,.sl .nil 0 [],.sl .nil 0 [],zI])),
 (36,(t_ (.slice 56) 1 24 [.sl .nil 0 []])),
 (37,C9),
 (38,C9),
 (39,C9),
 (40,C9),
 (41,C9),
 (42,C9),
 (43,(t_ (.ptr 45) 1 8 [.nilp])),
 (44,(t_ (.struct [(22,0),(3,1)]) 2 32 [.sl .nil 0 [],zI])),
 (45,(t_ (.struct [(22,0),(3,1)]) 2 32 [.sl .nil 0 [],zI])),
 (46,C9),
 (47,(t_ (.struct [(2,0),(3,1),(2,2)]) 3 24 [zI,zI,zI])),
 (48,(t_ (.struct [(2,0),(3,1),(2,2)]) 3 24 [zI,zI,zI])),
 (49,(t_ (.struct [(28,0),(3,2),(3,3),(2,4),(48,5),(4,8)]) 9 88 [zS,zS,zI,zI,zI,zI,zI,zI,.bool false])),
 (50,(t_ (.struct [(28,0),(3,2),(3,3),(2,4),(48,5),(4,8)]) 9 88 [zS,zS,zI,zI,zI,zI,zI,zI,.bool false])),
 (51,(t_ (.ptr 88) 1 8 [.nilp])),
 (52,C9),
 (53,(t_ (.ptr 91) 1 8 [.nilp])),
 (54,C9),
 (55,(t_ (.struct [(3,0),(33,1)]) 14 152 [zI,zI,zI,zI,zI,zI,zI,zI,zS,zS,.bool false,.int .u32 0,.sl .nil 0 [],.sl .nil 0 []])),
 (56,(t_ (.struct [(3,0),(33,1)]) 14 152 [zI,zI,zI,zI,zI,zI,zI,zI,zS,zS,.bool false,.int .u32 0,.sl .nil 0 [],.sl .nil 0 []])),
 (57,C9),
 (58,C9),
 (59,C9),
 (60,C9),
 (61,C9),
 (62,C9),
 (63,C9),
 (64,C9),
 (65,(t_ (.ptr 104) 1 8 [.nilp])),
 (66,C9),
 (67,C9),
 (68,(t_ (.struct [(2,0),(2,1),(22,2),(3,3),(51,4),(65,5)]) 6 64 [zI,zI,.sl .nil 0 [],zI,.nilp,.nilp])),
 (69,(t_ (.struct [(2,0),(2,1),(22,2),(3,3),(51,4),(65,5)]) 6 64 [zI,zI,.sl .nil 0 [],zI,.nilp,.nilp])),
 (70,C9),
 (71,C9),
 (72,(t_ .iface 1 16 [.nili])),
 (73,(t_ .iface 1 16 [.nili])),
 (74,C9),
 (76,C9),
 (77,C9),
 (79,C9),
 (80,C9),
 (81,C9),
 (82,C9),
 (83,C9),
 (84,C9),
 (85,(t_ (.ptr 161) 1 8 [.nilp])),
 (86,(t_ (.ptr 163) 1 8 [.nilp])),
 (87,(t_ (.struct [(3,0),(48,1),(53,4),(85,5),(86,6)]) 7 56 [zI,zI,zI,zI,.nilp,.nilp,.nilp])),
 (88,(t_ (.struct [(3,0),(48,1),(53,4),(85,5),(86,6)]) 7 56 [zI,zI,zI,zI,.nilp,.nilp,.nilp])),
 (89,(t_ (.slice 93) 1 24 [.sl .nil 0 []])),
 (90,(t_ (.struct [(3,0),(89,1)]) 2 32 [zI,.sl .nil 0 []])),
 (91,(t_ (.struct [(3,0),(89,1)]) 2 32 [zI,.sl .nil 0 []])),
 (92,(t_ (.struct [(50,0),(2,9)]) 10 96 [zS,zS,zI,zI,zI,zI,zI,zI,.bool false,zI])),
 (93,(t_ (.struct [(50,0),(2,9)]) 10 96 [zS,zS,zI,zI,zI,zI,zI,zI,.bool false,zI])),
 (94,C9),
 (95,(t_ (.ptr 142) 1 8 [.nilp])),
 (96,C9),
 (97,C9),
 (98,C9),
 (99,C9),
 (100,C9),
 (101,C9),
 (102,(t_ (.slice 30) 1 24 [.sl .nil 0 []])),
 (103,(t_ (.struct [(22,0),(102,1),(3,2)]) 3 56 [.sl .nil 0 [],.sl .nil 0 [],zI])),
 (104,(t_ (.struct [(22,0),(102,1),(3,2)]) 3 56 [.sl .nil 0 [],.sl .nil 0 [],zI])),
 (105,C9),
 (106,C9),
 (107,C9),
 (108,C9),
 (109,(t_ (.int .i64) 1 8 [zI])),
 (110,C9),
 (111,C9),
 (112,C9),
 (113,C9),
 (114,C9),
 (115,C9),
 (116,C9),
 (118,C9),
 (119,C9),
 (121,C9),
 (122,C9),
 (123,C9),
 (125,C9),
 (126,C9),
 (128,C9),
 (129,C9),
 (130,C9),
 (131,C9),
 (132,C9),
 (133,C9),
 (134,C9),
 (135,C9),
 (136,C9),
 (137,(t_ (.ptr 147) 1 8 [.nilp])),
 (138,C9),
 (139,(t_ (.ptr 150) 1 8 [.nilp])),
 (140,C9),
 (141,(t_ (.struct [(3,0),(3,1),(2,2),(2,3),(137,4),(139,5)]) 6 48 [zI,zI,zI,zI,.nilp,.nilp])),
 (142,(t_ (.struct [(3,0),(3,1),(2,2),(2,3),(137,4),(139,5)]) 6 48 [zI,zI,zI,zI,.nilp,.nilp])),
 (143,(t_ (.ptr 155) 1 8 [.nilp])),
 (144,(t_ (.ptr 157) 1 8 [.nilp])),
 (145,(t_ (.ptr 159) 1 8 [.nilp])),
 (146,(t_ (.struct [(143,0),(144,1),(145,2),(48,3)]) 6 48 [.nilp,.nilp,.nilp,zI,zI,zI])),
 (147,(t_ (.struct [(143,0),(144,1),(145,2),(48,3)]) 6 48 [.nilp,.nilp,.nilp,zI,zI,zI])),
 (148,C9),
 (149,(t_ (.struct [(22,0),(102,1),(3,2)]) 3 56 [.sl .nil 0 [],.sl .nil 0 [],zI])),
 (150,(t_ (.struct [(22,0),(102,1),(3,2)]) 3 56 [.sl .nil 0 [],.sl .nil 0 [],zI])),
 (151,C9),
 (152,C9),
 (153,(t_ (.slice 198) 1 24 [.sl .nil 0 []])),
 (154,(t_ (.struct [(3,0),(153,1)]) 2 32 [zI,.sl .nil 0 []])),
 (155,(t_ (.struct [(3,0),(153,1)]) 2 32 [zI,.sl .nil 0 []])),
 (156,(t_ (.struct [(2,0),(2,1),(2,2)]) 3 24 [zI,zI,zI])),
 (157,(t_ (.struct [(2,0),(2,1),(2,2)]) 3 24 [zI,zI,zI])),
 (158,(t_ (.struct [(31,0)]) 1 24 [.sl .nil 0 []])),
 (159,(t_ (.struct [(31,0)]) 1 24 [.sl .nil 0 []])),
 (160,(t_ (.struct [(2,0),(2,1),(2,2)]) 3 24 [zI,zI,zI])),
 (161,(t_ (.struct [(2,0),(2,1),(2,2)]) 3 24 [zI,zI,zI])),
 (162,(t_ (.struct [(2,0),(31,1)]) 2 32 [zI,.sl .nil 0 []])),
 (163,(t_ (.struct [(2,0),(31,1)]) 2 32 [zI,.sl .nil 0 []])),
 (164,C9),
 (165,(t_ (.slice 9) 1 24 [.sl .nil 0 []])),
 (166,(t_ (.ptr 168) 1 8 [.nilp])),
 (167,{ d:=.struct [(9,0),(73,1)],size:=2,bytes:=32,zero:=[.str ⟨#[]⟩,.nili],eqok:=false }),
 (168,{ d:=.struct [(9,0),(73,1)],size:=2,bytes:=32,zero:=[.str ⟨#[]⟩,.nili],eqok:=false }),
 (169,C9),
 (170,C9),
 (171,C9),
 (172,C9),
 (173,C9),
 (174,C9),
 (175,C9),
 (176,C9),
 (177,C9),
 (178,C9),
 (179,C9),
 (180,C9),
 (181,C9),
 (182,C9),
 (184,C9),
 (185,C9),
 (186,C9),
 (187,C9),
 (188,C9),
 (189,C9),
 (190,C9),
 (191,C9),
 (192,(t_ (.int .u64) 1 8 [.int .u64 0])),
 (193,C9),
 (194,C9),
 (195,C9),
 (196,C9),
 (197,C9),
 (198,(t_ (.struct [(50,0),(2,9)]) 10 96 [zS,zS,zI,zI,zI,zI,zI,zI,.bool false,zI])),
 (200,C9),
 (201,C9),
 (202,C9),
 (203,C9),
 (205,C9),
 (206,C9),
 (207,C9),
 (209,C9),
 (211,C9),
 (212,C9),
 (213,C9),
 (214,C9),
 (215,C9),
 (216,C9),
 (217,C9),
 (218,C9),
 (219,C9),
 (220,C9),
 (221,C9),
 (222,C9),
 (223,C9),
 (224,C9),
 (225,C9),
 (226,C9),
 (227,C9),
 (228,C9),
 (229,C9),
 (230,C9),
 (231,C9),
 (232,C9),
 (233,C9),
 (234,C9),
 (235,C9),
 (236,C9),
 (237,C9),
 (238,(t_ (.slice 5) 1 24 [.sl .nil 0 []])),
 (239,C9),
 (240,C9),
 (241,C9),
 (242,C9),
 (243,C9),
 (244,C9),
 (245,C9),
 (246,C9),
 (247,C9),
 (248,C9),
 (249,(t_ (.int .u64) 1 8 [.int .u64 0])),
 (250,C9),
 (251,C9),
 (254,(t_ (.array 0 16) 0 0 [])),
 (257,(t_ (.int .u8) 1 1 [.int .u8 0])),
 (258,(t_ (.int .u8) 1 1 [.int .u8 0])),
 (259,C9),
 (260,(t_ (.ptr 5) 1 8 [.nilp])),
 (261,(t_ (.int .i32) 1 4 [.int .i32 0])),
 (262,(t_ (.int .i32) 1 4 [.int .i32 0]))]
def tt:TT:=fun t=>aK t ttl
structure Loc where
 b : Option Nat     -- none: a nil slice, of no room
 sh:Nat
 k:Nat
 room:Nat
structure Cx where
 ι:Nat->Option Loc
 γ:Nat->Nat
def Cx.none:Cx:=⟨fun _=>Option.none,fun _=>0⟩
inductive VR (G:Nat->Prop) (w:World):Cx->AV->Value->Prop
 | skip (C):VR G w C .skip undef
 | unk (C v):VR G w C .unk v
 | bool (C b):VR G w C (.bool b) (.bool b)
 | int (C k n):VR G w C (.int k n) (.int k n)
 | str (C s):VR G w C (.str s) (.string s)
 | nilp (C):VR G w C .nilp (.pointer Option.none)
 | nilf (C):VR G w C .nilf .nilFunc
 | nili (C):VR G w C .nili .nilIface
 | func (C f xs) (vs:Array Value) (hs:vs.size=xs.length) (h:∀ i,i < xs.length->VR G w C (xs.getD i .skip) (vs.getD i undef)):VR G w C (.func f xs) (.func (.func f) #[] vs)
 | iface (C t a v) (h:VR G w C a v):VR G w C (.iface t a) (.iface t v)
 | agg (C xs) (vs:Array Value) (hs:vs.size=xs.length) (h1:∀ i,i < xs.length->(vs.getD i undef).oneCell'=true) (h:∀ i,i < xs.length->VR G w C (xs.getD i .skip) (vs.getD i undef)):VR G w C (.agg xs) (.agg vs)
 | tup (C xs) (vs:Array Value) (hs:vs.size=xs.length) (h:∀ i,i < xs.length->VR G w C (xs.getD i .skip) (vs.getD i undef)):VR G w C (.tup xs) (.tuple vs)
 | ref (C cs c b o) (hG:G b) (cv:Nat->Value) (hc:∀ j,j < cs.length->w.cell? ⟨b,o+j,Option.none⟩=some (cv j)) (h1:∀ j,j < cs.length->(cv j).oneCell'=true) (h:∀ j,j < cs.length->VR G w Cx.none (cs.getD j .skip) (cv j)) :
  VR G w C (.ref cs c) (.pointer (some ⟨b,o+c,Option.none⟩))
 | nils (C g k) (hg:g=.nil\/g=.cn\/g=.any):VR G w C (.sl g k []) (.slice Option.none 0 0)
 | sl (C g xs k ad cap) (hg:g≠.nil) (hclip:g=.clip\/g=.cn->cap=xs.length) (hle:xs.length<=cap) (hs:xs≠[]->ad.spot=Option.none/\G ad.block) (cv:Nat->Nat->Value)
  (hk:∀ i,i < xs.length->(xs.getD i []).length=k) (hc:∀ i j,i < xs.length->j < k->w.cell? ⟨ad.block,ad.off+i * k+j,Option.none⟩=some (cv i j))
  (h1:∀ i j,i < xs.length->j < k->(cv i j).oneCell'=true) (h:∀ i j,i < xs.length->j < k->VR G w Cx.none ((xs.getD i []).getD j .skip) (cv i j)):VR G w C (.sl g k xs) (.slice (some ad) xs.length cap)
 | obj (C id g e c ad) (hle:g<=C.γ id) (h:g=C.γ id->∃ l b,C.ι id=some l/\l.b=some b/\ad=⟨b,l.sh+e * l.k+c,Option.none⟩):VR G w C (.obj id g e c) (.pointer (some ad))
 | osl (C id g k e n ad cap) (hnc:n<=cap) (hle:g<=C.γ id) (h:g=C.γ id->∃ l b,C.ι id=some l/\l.b=some b/\l.k=k/\e+n<=l.room/\cap=l.room - e/\(e < l.room->ad=⟨b,l.sh+e * k,Option.none⟩)) :
  VR G w C (.osl id g k e n) (.slice (some ad) n cap)
 | osl0 (C id g k e base) (hle:g<=C.γ id) (h:g=C.γ id->∃ l,C.ι id=some l/\l.b=Option.none/\l.k=k):VR G w C (.osl id g k e 0) (.slice base 0 0)
def Y5 (C C':Cx):Prop:=∀ id,C.γ id<=C'.γ id/\(C'.γ id=C.γ id->∀ l,C.ι id=some l->C'.ι id=some l)
theorem Y5.refl (C:Cx):Y5 C C:=fun _=>⟨Nat.le_refl _,fun _ _ h=>h⟩
theorem ya_ {p:Prop} (h:p:=by omega):p:=h
theorem Y5.trans {A B C:Cx} (h:Y5 A B) (k:Y5 B C):Y5 A C:=fun id=>⟨Nat.le_trans (h id).1 (k id).1,fun e l hl=>by
 have h1:=(h id).1
 have h2:=(k id).1
 exact (k id).2 ya_ l ((h id).2 ya_ l hl)⟩
theorem Y5.none (C:Cx):Y5 Cx.none C:=fun _=>⟨Nat.zero_le _,fun _ _ h=>by simp [Cx.none] at h⟩
theorem a8h {w w':World} {b:Nat} (h:w'.heap[b]?=w.heap[b]?) (o:Nat):w'.cell? ⟨b,o,Option.none⟩=w.cell? ⟨b,o,Option.none⟩:=by
 unfold World.cell?
 simp only [h]
theorem VR.mono {G G':Nat->Prop} {w w':World} {C C':Cx} {a:AV} {v:Value} (h:VR G w C a v) (hG:∀ b,G b->G' b) (hw:∀ b,G b->w'.heap[b]?=w.heap[b]?) (hC:Y5 C C'):VR G' w' C' a v:=by
 induction h generalizing C' with
 | skip=>exact .skip _
 | unk=>exact .unk ..
 | bool=>exact .bool ..
 | int=>exact .int ..
 | str=>exact .str ..
 | nilp=>exact .nilp _
 | nilf=>exact .nilf _
 | nili=>exact .nili _
 | func C f xs vs hs h ih=>exact .func _ _ _ _ hs fun i hi=>ih i hi hC
 | iface C t a v h ih=>exact .iface _ _ _ _ (ih hC)
 | agg C xs vs hs h1 h ih=>exact .agg _ _ _ hs h1 fun i hi=>ih i hi hC
 | tup C xs vs hs h ih=>exact .tup _ _ _ hs fun i hi=>ih i hi hC
 | ref C cs c b o hb cv hc h1 h ih=>exact .ref _ _ _ _ _ (hG b hb) cv (fun j hj=>(a8h (hw b hb) _).trans (hc j hj)) h1 fun j hj=>ih j hj (Y5.refl _)
 | nils=>exact .nils _ _ _ (by assumption)
 | sl C g xs k ad cap hg hclip hle hs cv hk hc h1 h ih =>
  refine .sl _ _ _ k _ _ hg hclip hle (fun hx=>⟨(hs hx).1,hG _ (hs hx).2⟩) cv hk (fun i j hi hj=>?_) h1 fun i j hi hj=>ih i j hi hj (Y5.refl _)
  have hx:xs≠[]:=by intro e; simp [e] at hi
  exact (a8h (hw _ (hs hx).2) _).trans (hc i j hi hj)
 | obj C id g e c ad hle h =>
  refine .obj _ _ _ _ _ _ (Nat.le_trans hle (hC id).1) fun hg=>?_
  have h1:=(hC id).1
  obtain ⟨l,b,hl,hv⟩:=h ya_
  exact ⟨l,b,(hC id).2 ya_ l hl,hv⟩
 | osl C id g k e n ad cap hnc hle h =>
  refine .osl _ _ _ _ _ _ _ _ hnc (Nat.le_trans hle (hC id).1) fun hg=>?_
  have h1:=(hC id).1
  obtain ⟨l,b,hl,hr⟩:=h ya_
  exact ⟨l,b,(hC id).2 ya_ l hl,hr⟩
 | osl0 C id g k e base hle h =>
  refine .osl0 _ _ _ _ _ _ (Nat.le_trans hle (hC id).1) fun hg=>?_
  have h1:=(hC id).1
  obtain ⟨l,hl,hr⟩:=h ya_
  exact ⟨l,(hC id).2 ya_ l hl,hr⟩
theorem VR.lift {G:Nat->Prop} {w:World} {a:AV} {v:Value} (h:VR G w Cx.none a v) (C:Cx):VR G w C a v:=h.mono (fun _ h=>h) (fun _ _=>rfl) (Y5.none C)
def Cx.cut (C:Cx) (n:Nat):Cx:=⟨fun id=>if id < n then C.ι id else Option.none,fun id=>if id < n then C.γ id else 0⟩
theorem yb_ {p:Prop} (h:p:=by simpa using hi):p:=h
theorem bI {b:Nat}:∀ (xs:List AV),AV.bdds b xs=true->∀ i,i < xs.length->AV.bdd b (xs.getD i .skip)=true
 | [],_,i,hi=>by simp at hi
 | x :: xs,h,0,_=>by simp [AV.bdds] at h; simpa using h.1
 | x :: xs,h,i+1,hi=>by
  simp [AV.bdds] at h
  simpa using bI xs h.2 i yb_
theorem yc_ {p:Prop} (h:p:=by simpa [AV.bdd] using hb):p:=h
theorem yd_ {p:Prop} (h:p:=by simp only [Cx.cut,hid,if_true]; exact hle):p:=h
theorem VR.cut {G:Nat->Prop} {w:World} {C:Cx} {a:AV} {v:Value} (h:VR G w C a v) (n:Nat) (hb:a.bdd n=true):VR G w (C.cut n) a v:=by
 induction h with
 | skip=>exact .skip _
 | unk=>exact .unk ..
 | bool=>exact .bool ..
 | int=>exact .int ..
 | str=>exact .str ..
 | nilp=>exact .nilp _
 | nilf=>exact .nilf _
 | nili=>exact .nili _
 | func C f xs vs hs h ih=>exact .func _ _ _ _ hs fun i hi=>ih i hi (bI _ yc_ i hi)
 | iface C t a v h ih=>exact .iface _ _ _ _ (ih yc_)
 | agg C xs vs hs h1 h ih=>exact .agg _ _ _ hs h1 fun i hi=>ih i hi (bI _ yc_ i hi)
 | tup C xs vs hs h ih=>exact .tup _ _ _ hs fun i hi=>ih i hi (bI _ yc_ i hi)
 | ref C cs c b o hG cv hc h1 h ih=>exact .ref _ _ _ _ _ hG cv hc h1 h
 | nils=>exact .nils _ _ _ (by assumption)
 | sl C g xs k ad cap hg hclip hle hs cv hk hc h1 h ih=>exact .sl _ _ _ k _ _ hg hclip hle hs cv hk hc h1 h
 | obj C id g e c ad hle h =>
  have hid:id < n:=by simpa [AV.bdd] using hb
  refine .obj _ _ _ _ _ _ yd_ fun hg=>?_
  simp only [Cx.cut,hid,if_true] at hg ⊢
  exact h hg
 | osl C id g k e n' ad cap hnc hle h =>
  have hid:id < n:=by simpa [AV.bdd] using hb
  refine .osl _ _ _ _ _ _ _ _ hnc yd_ fun hg=>?_
  simp only [Cx.cut,hid,if_true] at hg ⊢
  exact h hg
 | osl0 C id g k e base hle h =>
  have hid:id < n:=by simpa [AV.bdd] using hb
  refine .osl0 _ _ _ _ _ _ yd_ fun hg=>?_
  simp only [Cx.cut,hid,if_true] at hg ⊢
  exact h hg
theorem VR.cells {G:Nat->Prop} {w:World} {C:Cx} {a:AV} {v:Value} (h:VR G w C a v) (hu:a≠.unk) :
 v.cells.size=a.cells.length/\∀ i,i < a.cells.length->VR G w C (a.cells.getD i .skip) (v.cells.getD i undef):=by
 cases h with
 | agg _ xs vs hs h1 h=>exact ⟨hs,h⟩
 | unk=>exact absurd rfl hu
 | _ =>
  refine ⟨rfl,fun i hi=>?_⟩
  obtain rfl:i=0:=by simp [AV.cells] at hi; omega
  first
   | exact .skip _
   | exact .bool ..
   | exact .int ..
   | exact .str ..
   | exact .nilp _
   | exact .nilf _
   | exact .nili _
   | (apply VR.nils <;> assumption)
   | (apply VR.func <;> assumption)
   | (apply VR.iface <;> assumption)
   | (apply VR.tup <;> assumption)
   | (apply VR.ref <;> assumption)
   | (apply VR.sl <;> assumption)
   | (apply VR.obj <;> assumption)
   | (apply VR.osl <;> assumption)
   | (apply VR.osl0 <;> assumption)
theorem VR.fit {G:Nat->Prop} {w:World} {C:Cx} {a:AV} {v:Value} (h:VR G w C a v) {size:Nat} {cs:List AV} (hf:a.fit size=some cs) :
 cs.length=size/\v.cells.size=size/\∀ i,i < size->(v.cells.getD i undef).oneCell'=true/\VR G w C (cs.getD i .skip) (v.cells.getD i undef):=by
 have hu:a≠.unk:=fun e=>by subst e; simp [AV.fit] at hf
 have hcells:=h.cells hu
 cases h with
 | agg _ xs vs hs h1 h =>
  simp only [AV.fit] at hf
  split at hf
  · rename_i hl
    simp only [Option.some.injEq] at hf
    subst hf
    exact ⟨hl,hs.trans hl,fun i hi=>⟨h1 i ya_,h i ya_⟩⟩
  · simp at hf
 | tup=>simp [AV.fit] at hf
 | skip=>simp [AV.fit] at hf
 | unk=>simp [AV.fit] at hf
 | _ =>
  simp only [AV.fit] at hf
  split at hf
  · rename_i hl
    simp only [Option.some.injEq] at hf
    subst hf hl
    refine ⟨rfl,rfl,fun i hi=>?_⟩
    obtain rfl:i=0:=by omega
    exact ⟨rfl,hcells.2 0 (by simp [AV.cells])⟩
  · simp at hf
structure ObR (G:Nat->Prop) (w:World) (C:Cx) (o:Ob) (l:Loc):Prop where
 k:o.k=l.k
 rm:∀ r,o.room=some r->l.room=r
 no:l.b=Option.none->l.room=0
 len:o.els.length<=l.room
 row:∀ i,i < o.els.length->(o.els.getD i []).length=l.k
 cells:∀ b,l.b=some b->∃ cs e,w.heap[b]?=some (.cells cs e (0,0))/\l.sh+l.room * l.k<=cs.size /\
  ∀ i j,i < o.els.length->j < l.k->(cs.getD (l.sh+i * l.k+j) undef).oneCell'=true/\VR G w C ((o.els.getD i []).getD j .skip) (cs.getD (l.sh+i * l.k+j) undef)
structure HR (G:Nat->Prop) (w:World) (C:Cx) (H:Heap):Prop where
 gen:∀ id o,H[id]?=some o->o.gen=C.γ id
 out:∀ id,H.length<=id->C.γ id=0/\C.ι id=Option.none
 own:∀ id l b,C.ι id=some l->l.b=some b->b < w.heap.size/\¬ G b
 inj:∀ i j l l' b,C.ι i=some l->C.ι j=some l'->l.b=some b->l'.b=some b->i=j
 ob:∀ id o l,H[id]?=some o->C.ι id=some l->ObR G w C o l
 gsz:∀ b,G b->b < w.heap.size
def FrR (G:Nat->Prop) (w:World) (C:Cx) (F:Fr) (tmps:Array Value):Prop :=
 F.length=tmps.size/\∀ t a,F[t]?=some (some a)->VR G w C a (tmps.getD t undef)
structure Ev (G:Nat->Prop) (w:World) (C:Cx) (G':Nat->Prop) (w':World) (C':Cx):Prop where
 os:w'.os=w.os
 tape:w'.tape=w.tape
 output:w'.output=w.output
 size:w.heap.size<=w'.heap.size
 lock:∀ b,G b->G' b
 same:∀ b,G b->w'.heap[b]?=w.heap[b]?
 cx:Y5 C C'
 rest:∀ b,b < w.heap.size->(∀ id l,C.ι id=some l->l.b≠some b)->w'.heap[b]?=w.heap[b]?
 grow:∀ b,G' b->G b\/(∃ id l,C.ι id=some l/\l.b=some b)\/w.heap.size<=b
 own:∀ id l b,C'.ι id=some l->l.b=some b->(∃ j k,C.ι j=some k/\k.b=some b)\/w.heap.size<=b
 frz:∀ a,w'.frozen? a=w.frozen? a
theorem Ev.refl (G:Nat->Prop) (w:World) (C:Cx):Ev G w C G w C:=⟨rfl,rfl,rfl,Nat.le_refl _,fun _ h=>h,fun _ _=>rfl,Y5.refl _,fun _ _ _=>rfl,fun _ h=>.inl h,fun id l b hl hb=>.inl ⟨id,l,hl,hb⟩,fun _=>rfl⟩
structure Mv (G:Nat->Prop) (w:World) (C:Cx) (G':Nat->Prop) (w':World) (C':Cx):Prop where
 lock:∀ b,G b->G' b
 same:∀ b,G b->w'.heap[b]?=w.heap[b]?
 cx:Y5 C C'
theorem VR.mv {G G':Nat->Prop} {w w':World} {C C':Cx} {a:AV} {v:Value} (h:VR G w C a v) (e:Mv G w C G' w' C'):VR G' w' C' a v:=h.mono e.lock e.same e.cx
theorem Ev.trans {G G' G'':Nat->Prop} {w w' w'':World} {C C' C'':Cx} (h:Ev G w C G' w' C') (k:Ev G' w' C' G'' w'' C''):Ev G w C G'' w'' C'':=by
 refine ⟨k.os.trans h.os,k.tape.trans h.tape,k.output.trans h.output,Nat.le_trans h.size k.size,fun b hb=>k.lock b (h.lock b hb),fun b hb=>(k.same b (h.lock b hb)).trans (h.same b hb),h.cx.trans k.cx,fun b hb hn=>?_,fun b hb=>?_,fun id l b hl hlb=>?_,fun a=>(k.frz a).trans (h.frz a)⟩
 · refine (k.rest b (Nat.lt_of_lt_of_le hb h.size) fun id l hl e=>?_).trans (h.rest b hb hn)
   rcases h.own id l b hl e with ⟨j,m,hm,e'⟩ | hs
   · exact hn j m hm e'
   · omega
 · have hs:=h.size
   rcases k.grow b hb with h1 | ⟨id,l,hl,e⟩ | h1
   · exact h.grow b h1
   · rcases h.own id l b hl e with ⟨j,m,hm,e'⟩ | h2
     · exact .inr (.inl ⟨j,m,hm,e'⟩)
     · exact .inr (.inr h2)
   · exact .inr (.inr ya_)
 · have hs:=h.size
   rcases k.own id l b hl hlb with ⟨j,m,hm,e⟩ | h1
   · rcases h.own j m b hm e with ⟨j',m',hm',e'⟩ | h2
     · exact .inl ⟨j',m',hm',e'⟩
     · exact .inr h2
   · exact .inr ya_
theorem VR.ev {G G':Nat->Prop} {w w':World} {C C':Cx} {a:AV} {v:Value} (h:VR G w C a v) (e:Ev G w C G' w' C'):VR G' w' C' a v:=h.mono e.lock e.same e.cx
theorem FrR.ev {G G':Nat->Prop} {w w':World} {C C':Cx} {F:Fr} {tmps:Array Value} (h:FrR G w C F tmps) (e:Ev G w C G' w' C'):FrR G' w' C' F tmps:=⟨h.1,fun t a ht=>(h.2 t a ht).ev e⟩
theorem FrR.set {G:Nat->Prop} {w:World} {C:Cx} {F:Fr} {tmps:Array Value} (h:FrR G w C F tmps) (d:Nat) (a:AV) (v:Value) (hv:VR G w C a v):FrR G w C (F.set d (some a)) (tmps.setIfInBounds d v):=by
 refine ⟨by simpa using h.1,fun t b ht=>?_⟩
 rw [List.getElem?_set] at ht
 by_cases e:d=t
 · subst e
   simp only [if_true] at ht
   split at ht
   · rename_i hlt
     simp only [Option.some.injEq] at ht
     subst ht
     rw [h.1] at hlt
     simpa [Array.getD_eq_getD_getElem?,hlt] using hv
   · simp at ht
 · simp only [e,if_false] at ht
   have:=h.2 t b ht
   simpa [Array.getD_eq_getD_getElem?,Array.getElem?_setIfInBounds,e] using this
def b2H (P:Program) (t:TypeId):TD->Prop
 | .int k=>P.underlying t=some (.int k)
 | .bool=>P.underlying t=some .bool
 | .string=>P.underlying t=some .string
 | .ptr e=>P.underlying t=some (.pointer e)
 | .slice e=>P.underlying t=some (.slice e)
 | .struct fs => ∃ fields : Array Field, P.underlying t = some (.struct fields) ∧ fields.toList.map (fun f => (f.type, f.offset)) = fs ∧ (∀ f ∈ fields.toList, f.name ≠ "_")
 | .array n e=>P.underlying t=some (.array n e)
 | .iface=>∃ ms,P.underlying t=some (.interface ms)
 | .func=>∃ a b c,P.underlying t=some (.func a b c)
 | .other=>∃ d,P.underlying t=some d/\(∀ fs,d≠.struct fs)/\(∀ n e,d≠.array n e)/\(∀ ms,d≠.interface ms)
structure sK (P:Program) (t:TypeId) (ti:TI):Prop where
 info:∃ i,P.info? t=some i/\i.size=ti.size/\i.bytes=ti.bytes/\∃ z,i.zero=some z/\aW z.cells.toList=some ti.zero/\ti.zero.length=ti.size/\((∃ cs,z=.agg cs)↔ti.agg=true)
 und:b2H P t ti.d
 fields:∀ {fields:Array Field},P.underlying t=some (.struct fields)->∀ f∈fields.toList,P.info? f.type≠none
 eqs:∀ fs,ti.d=.struct fs->ti.eqok=true->P.stoodInHeld t=false/\P.eqGuardType P.depth t=false
def TOk (P:Program) (T:TT):Prop:=∀ t ti,T t=some ti->sK P t ti
section
variable {P:Program} {T:TT} {G:Nat->Prop} {w:World} {C:Cx} {F:Fr} {act:Act}
theorem sK.isAgg {t:TypeId} {ti:TI} (h:sK P t ti) (w:World):(isAgg t).run P w=.ok ti.agg w:=by
 have hu:=h.und
 unfold TI.agg
 revert hu
 generalize ti.d=d
 intro hu
 cases d with
 | struct fs=>obtain ⟨f,hf,_⟩:=hu; simp [Go.isAgg,run_underlying hf]
 | iface=>obtain ⟨f,hf⟩:=hu; simp [Go.isAgg,run_underlying hf]
 | func=>obtain ⟨a,b,c,hf⟩:=hu; simp [Go.isAgg,run_underlying hf]
 | other =>
  obtain ⟨d,hf,h1,h2,h3⟩:=hu
  simp only [Go.isAgg,Sem.run_bind,run_underlying hf,Result.andThen_ok]
  cases d <;> first | rfl | exact absurd rfl (h1 _) | exact absurd rfl (h2 _ _)
 | _=>simp only [b2H] at hu; simp [Go.isAgg,run_underlying hu]
theorem sK.sizeOf {t:TypeId} {ti:TI} (h:sK P t ti) (w:World):(Go.sizeOf t).run P w=.ok ti.size w:=by
 obtain ⟨i,hi,hs,_⟩:=h.info
 simp [Go.sizeOf,typeInfo,hi,hs]
theorem ye_ {p:Prop} (h:p:=by simp):p:=h
theorem yD {v:Value} {a:AV} (h:jI v=some a):VR G w C a v:=by
 unfold jI at h
 split at h <;> simp at h <;> subst h
 · exact .bool ..
 · exact .int ..
 · exact .str ..
 · exact .nilp _
 · exact .nils _ _ _ ye_
 · exact .nilf _
 · exact .nili _
theorem b0j {v:Value} {a:AV} (h:jI v=some a):v.oneCell'=true:=by
 unfold jI at h
 split at h <;> first | rfl | (simp at h)
theorem dB:∀ {vs:List Value} {l:List AV},aW vs=some l->vs.length=l.length/\∀ i,i < l.length->(vs.getD i undef).oneCell'=true/\VR G w C (l.getD i .skip) (vs.getD i undef)
 | [],l,h=>by simp [aW] at h; subst h; simp
 | v :: vs,l,h=>by
  simp only [aW] at h
  split at h
  · rename_i a l' ha hl
    simp only [Option.some.injEq] at h
    subst h
    obtain ⟨h1,h2⟩:=dB hl
    refine ⟨by simp [h1],fun i hi=>?_⟩
    cases i with
    | zero=>exact ⟨by simpa using b0j ha,by simpa using yD ha⟩
    | succ i=>simpa using h2 i yb_
  · simp at h
theorem yf_ {p:Prop} (h:p:=by simpa using h1):p:=h
theorem a8s {v:Value} {a:AV} (h:a6n v=some a):VR G w C a v:=by
 unfold a6n at h
 split at h
 · rename_i cs
   cases hl:aW cs.toList with
   | none=>simp [hl] at h
   | some l =>
    simp [hl] at h
    subst h
    obtain ⟨h1,h2⟩:=dB (G:=G) (w:=w) (C:=C) hl
    refine .agg _ _ _ yf_ (fun i hi=>?_) fun i hi=>?_
    · have:=(h2 i hi).1
      simpa [Array.getD_eq_getD_getElem?,List.getD_eq_getElem?_getD] using this
    · have:=(h2 i hi).2
      simpa [Array.getD_eq_getD_getElem?,List.getD_eq_getElem?_getD] using this
 · rename_i vs
   split at h
   · rename_i he
     simp at h
     subst h
     have:vs = #[]:=by simpa using he
     subst this
     exact .skip _
   · simp at h
 · exact yD h
theorem H8 (hF:FrR G w C F act.tmps) {x:Operand} {a:AV} (h:opv F x=some a):VR G w C a (act.eval x):=by
 cases x with
 | tmp t =>
  simp only [opv] at h
  split at h
  · rename_i o ho
    subst h
    exact hF.2 t a ho
  · simp at h
 | const v=>exact a8s h
 | func f=>simp [opv] at h; subst h; exact .func _ _ _ _ rfl ye_
 | global g=>simp [opv] at h
theorem zR (hF:FrR G w C F act.tmps):∀ {xs:List Operand} {l:List AV},rR F xs=some l->xs.length=l.length/\∀ i,i < l.length->VR G w C (l.getD i .skip) ((xs.map act.eval).getD i undef)
 | [],l,h=>by simp [rR] at h; subst h; simp
 | x :: xs,l,h=>by
  simp only [rR] at h
  split at h
  · rename_i a l' ha hl
    simp only [Option.some.injEq] at h
    subst h
    obtain ⟨h1,h2⟩:=zR hF hl
    refine ⟨by simp [h1],fun i hi=>?_⟩
    cases i with
    | zero=>simpa using H8 hF ha
    | succ i=>simpa using h2 i yb_
  · simp at h
theorem yg_ {p:Prop} (h:p:=by simp; omega):p:=h
theorem a4L (hT:TOk P T) {t:TypeId} {cs:List AV} {c:Nat} {a:AV} (h:part T t cs c=some a) {vs:Array Value} (hs:vs.size=cs.length) (h1:∀ i,i < cs.length->(vs.getD i undef).oneCell'=true) (hv:∀ i,i < cs.length->VR G w C (cs.getD i .skip) (vs.getD i undef)) :
 ∃ v,(Go.part t vs c).run P w=.ok v w/\VR G w C a v:=by
 unfold AM.part at h
 split at h
 · simp at h
 · rename_i ti ht
   have hti:=hT t ti ht
   split at h
   · rename_i hagg
     split at h
     · rename_i hle
       simp only [Option.some.injEq] at h
       subst h
       refine ⟨.agg (vs.extract c (c+ti.size)),by simp [Go.part,hti.isAgg,hti.sizeOf,hagg],.agg _ _ _ yg_ (fun i hi=>?_) fun i hi=>?_⟩
       · have hi':i < ti.size:=by simp at hi; omega
         have:=h1 (c+i) ya_
         have h2:i < min (c+ti.size) vs.size - c:=by omega
         have h3:c+i < vs.size:=by omega
         simpa [Array.getD_eq_getD_getElem?,Array.getElem?_extract,hi',h2,h3] using this
       · have hi':i < ti.size:=by simp at hi; omega
         have:=hv (c+i) ya_
         have h2:i < min (c+ti.size) vs.size - c:=by omega
         have h3:c+i < vs.size:=by omega
         simpa [Array.getD_eq_getD_getElem?,List.getD_eq_getElem?_getD,Array.getElem?_extract,List.getElem?_take,List.getElem?_drop,hi',h2,h3] using this
     · simp at h
   · rename_i hagg
     have hc:c < cs.length:=by
      rcases Nat.lt_or_ge c cs.length with h' | h'
      · exact h'
      · rw [List.getElem?_eq_none h'] at h; simp at h
     have:=hv c hc
     refine ⟨vs.getD c undef,?_,?_⟩
     · simp [Go.part,hti.isAgg,hagg,Array.getD_eq_getD_getElem?,show c < vs.size by omega]
     · simpa [List.getD_eq_getElem?_getD,h] using this
def CR (G:Nat->Prop) (w:World) (C:Cx) (xs:List AV) (vs:Array Value):Prop:=∀ (i:Nat) (a:AV),xs[i]?=some a->∃ v,vs[i]?=some v/\VR G w C a v
theorem CR.of {xs:List AV} {vs:Array Value} (hs:vs.size=xs.length) (hv:∀ i,i < xs.length->VR G w C (xs.getD i .skip) (vs.getD i undef)):CR G w C xs vs:=by
 intro i a ha
 have hi:i < xs.length:=by
  rcases Nat.lt_or_ge i xs.length with h' | h'
  · exact h'
  · rw [List.getElem?_eq_none h'] at ha; simp at ha
 have:=hv i hi
 refine ⟨vs.getD i undef,by simp [Array.getD_eq_getD_getElem?,show i < vs.size by omega],?_⟩
 simpa only [List.getD_eq_getElem?_getD,ha,Option.getD_some] using this
theorem CR.slice {xs:List AV} {vs:Array Value} (h:CR G w C xs vs) (o n:Nat):CR G w C ((xs.drop o).take n) (vs.extract o (o+n)):=by
 intro i a ha
 rw [List.getElem?_take] at ha
 split at ha
 · rename_i hi
   rw [List.getElem?_drop] at ha
   obtain ⟨v,hv,hr⟩:=h _ _ ha
   refine ⟨v,?_,hr⟩
   have hlt:o+i < vs.size:=(Array.getElem?_eq_some_iff.1 hv).1
   rw [Array.getElem?_extract]
   have h2:i < min (o+n) vs.size - o:=by omega
   simp [h2,hv]
 · simp at ha
theorem eP {t:TypeId} {ti:TI} (h:sK P t ti) (ha:ti.agg=false) {vs:Array Value} {o:Nat} {v:Value} (hv:vs[o]?=some v):(Go.part t vs o).run P w=.ok v w:=by
 simp [Go.part,h.isAgg,ha,hv]
theorem oK (hT : TOk P T) : ∀ (d D : Nat) (fs : List Field) (xs ys : List AV) (us vs : Array Value) (b : Bool), d ≤ D → (∀ f ∈ fs, f.name ≠ "_") → CR G w C xs us → CR G w C ys vs →
 eqFields T d (fs.map fun f=>(f.type,f.offset)) xs ys=some b->(Op.eqFields D us vs fs).run P w=.ok b w
 | 0,_,_,_,_,_,_,_,_,_,_,_,h=>by simp [eqFields] at h
 | d+1,D,[],xs,ys,us,vs,b,hD,hn,hx,hy,h=>by simp [eqFields] at h; subst h; simp [Op.eqFields]
 | d+1,D,f :: fs,xs,ys,us,vs,b,hD,hn,hx,hy,h=>by
  obtain ⟨D,rfl⟩:∃ m,D=m+1:=⟨D - 1,by omega⟩
  simp only [List.map_cons,eqFields] at h
  split at h
  · rename_i b1 b2 h1 h2
    simp only [Option.some.injEq] at h
    have hrest:=oK hT d (D+1) fs xs ys us vs b2 ya_ (fun g hg=>hn g (by simp [hg])) hx hy h2
    have hone:((Go.part f.type us f.offset).run P w).andThen (fun a w1=>((Go.part f.type vs f.offset).run P w1).andThen fun c w2=>(Op.equalIn (D+1) f.type a c).run P w2)=.ok b1 w:=by
     split at h1
     · rename_i gs size _ _ eqok ht
       have hti:=hT _ _ ht
       have hok:eqok=true:=by
        by_cases z:eqok=true
        · exact z
        · rw [if_neg z] at h1; simp at h1
       rw [if_pos hok] at h1
       obtain ⟨fields,hu,hm,hne⟩:=hti.und
       obtain ⟨hst,hg⟩:=hti.eqs _ rfl hok
       have hfo:P.fieldsOf f.type=fields:=by simp [Program.fieldsOf,hu]
       simp only [Go.part,Sem.run_bind,hti.isAgg,TI.agg,Result.andThen_ok,if_true,hti.sizeOf,Sem.run_pure]
       rw [run_equalIn_struct w D f.type _ _ (by rw [hfo]; exact hu) hst,hfo]
       exact oK hT d D fields.toList _ _ _ _ _ ya_ hne (hx.slice _ _) (hy.slice _ _) (by rw [hm]; exact h1)
     · rename_i _ _ _ ht
       have hti:=hT _ _ ht
       unfold eqI at h1
       split at h1
       · rename_i hxo hyo
         split at h1
         · rename_i hk
           subst hk
           simp only [Option.some.injEq] at h1
           obtain ⟨u,hu,hru⟩:=hx _ _ hxo
           obtain ⟨v,hv,hrv⟩:=hy _ _ hyo
           cases hru
           cases hrv
           rw [eP hti rfl hu,Result.andThen_ok,eP hti rfl hv,Result.andThen_ok,run_equalIn_int w D _ _ _ _ _ hti.und,h1]
         · simp at h1
       · simp at h1
     · rename_i _ _ _ ht
       have hti:=hT _ _ ht
       unfold eqB at h1
       split at h1
       · rename_i hxo hyo
         simp only [Option.some.injEq] at h1
         obtain ⟨u,hu,hru⟩:=hx _ _ hxo
         obtain ⟨v,hv,hrv⟩:=hy _ _ hyo
         cases hru
         cases hrv
         rw [eP hti rfl hu,Result.andThen_ok,eP hti rfl hv,Result.andThen_ok,run_equalIn_bool' w D _ _ _ hti.und,h1]
       · simp at h1
     · rename_i _ _ _ ht
       have hti:=hT _ _ ht
       unfold eqS at h1
       split at h1
       · rename_i hxo hyo
         simp only [Option.some.injEq] at h1
         obtain ⟨u,hu,hru⟩:=hx _ _ hxo
         obtain ⟨v,hv,hrv⟩:=hy _ _ hyo
         cases hru
         cases hrv
         rw [eP hti rfl hu,Result.andThen_ok,eP hti rfl hv,Result.andThen_ok,run_equalIn_string w D _ _ _ hti.und,h1]
       · simp at h1
     · simp at h1
    simp only [Op.eqFields,hn f ye_,ne_eq,not_false_eq_true,if_true,Sem.run_bind]
    cases hp:(Go.part f.type us f.offset).run P w with
    | halt x w1=>rw [hp] at hone; simp at hone
    | ok a w1 =>
     rw [hp] at hone
     simp only [Result.andThen_ok] at hone ⊢
     cases hq:(Go.part f.type vs f.offset).run P w1 with
     | halt x w2=>rw [hq] at hone; simp at hone
     | ok c w2 =>
      rw [hq] at hone
      simp only [Result.andThen_ok] at hone ⊢
      rw [hone]
      subst h
      cases b1
      · simp
      · simpa using hrest
  · simp at h
end
section
variable {P:Program} {T:TT} {G:Nat->Prop} {w:World} {C:Cx} {F:Fr} {act:Act}
theorem b3M {op:BinOp} {k:IntKind} {a b:Int} {r:AV} (t:TypeId) (h:b7N op k a b=some r) (hs:op≠.shl) (hs':op≠.shr):∃ z,(binOp op t (.int k a) (.int k b)).run P w=.ok z w/\VR G w C r z:=by
 cases op <;> simp [b7N] at h <;> first
  | exact absurd rfl hs
  | exact absurd rfl hs'
  | (subst h; refine ⟨_,by simp [binOp,Op.intArith,Op.intDiv,Op.intBits,Op.intCmp]; rfl,?_⟩; constructor)
  | (obtain ⟨hb,h⟩:=h; subst h; refine ⟨_,by simp [binOp,Op.intArith,Op.intDiv,Op.intBits,Op.intCmp,hb]; rfl,?_⟩; constructor)
theorem b3L {op:BinOp} {a b:ByteArray} {r:AV} (t:TypeId) (h:b7M op a b=some r):∃ z,(binOp op t (.string a) (.string b)).run P w=.ok z w/\VR G w C r z:=by
 cases op <;> simp [b7M] at h <;> first
  | (subst h; refine ⟨_,by simp [binOp,Op.stringOp]; rfl,?_⟩; constructor)
  | (obtain ⟨hb,h⟩:=h; subst h; refine ⟨.string (a++b),?_,by constructor⟩; simp only [binOp,Op.stringOp]; rw [if_neg (by simpa using hb)]; rfl)
theorem T9 {op:BinOp} {t:TypeId} {x y:Operand} {u v:Value} (h1:u≠.nilIface\/v≠.nilIface\/isConst x=true\/isConst y=true) (h2:(∀ xs,u≠.agg xs)\/(∀ xs,v≠.agg xs)) :
 (eqGuard op t x y u v).run P w=.ok () w:=by
 have hn:u=.nilIface->v=.nilIface->isConst x=true\/isConst y=true:=by
  intro hu hv
  rcases h1 with h | h | h
  · exact absurd hu h
  · exact absurd hv h
  · exact h
 have ha:∀ xs ys,u=.agg xs->v=.agg ys->False:=by
  intro xs ys hu hv
  rcases h2 with h | h
  · exact h _ hu
  · exact h _ hv
 clear h1 h2
 cases op <;> first
  | rfl
  | (cases u <;> cases v <;> first
   | rfl
   | exact (ha _ _ rfl rfl).elim
   | (have hc:=hn rfl rfl; cases x <;> cases y <;> first | rfl | (simp [isConst] at hc)))
theorem dG {t:TypeId} {u v:Value} {b:Bool} (h:(Op.equalIn 10000 t u v).run P w=.ok b w):(Op.equal t u v).run P w=.ok b w:=h
theorem e0G (d:Nat) {t e:TypeId} (hu:P.underlying t=some (.pointer e)) (b:Option Addr):(Op.equalIn (d+1) t (.pointer none) (.pointer b)).run P w=.ok b.isNone w:=by simp [Op.equalIn,run_underlying hu]
theorem e0F (d:Nat) {t e:TypeId} (hu:P.underlying t=some (.pointer e)) (a:Addr):(Op.equalIn (d+1) t (.pointer (some a)) (.pointer none)).run P w=.ok false w:=by simp [Op.equalIn,run_underlying hu]
theorem e0J (d:Nat) {t:TypeId} {ms:Array (String × TypeId)} (hu:P.underlying t=some (.interface ms)):(Op.equalIn (d+1) t .nilIface .nilIface).run P w=.ok true w:=by simp [Op.equalIn,run_underlying hu]
theorem e0I (d:Nat) {t:TypeId} {ms:Array (String × TypeId)} (hu:P.underlying t=some (.interface ms)) (x:TypeId) (v:Value):(Op.equalIn (d+1) t .nilIface (.iface x v)).run P w=.ok false w:=by simp [Op.equalIn,run_underlying hu]
theorem e0H (d:Nat) {t:TypeId} {ms:Array (String × TypeId)} (hu:P.underlying t=some (.interface ms)) (x:TypeId) (v:Value):(Op.equalIn (d+1) t (.iface x v) .nilIface).run P w=.ok false w:=by simp [Op.equalIn,run_underlying hu]
theorem e0E (d:Nat) {t e:TypeId} (hu:P.underlying t=some (.slice e)) (n c m k:Nat) (b:Option Addr):(Op.equalIn (d+1) t (.slice none n c) (.slice b m k)).run P w=.ok b.isNone w:=by simp [Op.equalIn,run_underlying hu]
theorem e0D (d:Nat) {t e:TypeId} (hu:P.underlying t=some (.slice e)) (n c m k:Nat) (a:Addr):(Op.equalIn (d+1) t (.slice (some a) n c) (.slice none m k)).run P w=.ok false w:=by simp [Op.equalIn,run_underlying hu]
theorem yh_ {p:Prop} (h:p:=by first | exact e0G 9999 hu _ | exact e0F 9999 hu _ | exact e0J 9999 hu | exact e0I 9999 hu _ _ | exact e0H 9999 hu _ _ | exact e0E 9999 hu _ _ _ _ _ | exact e0D 9999 hu _ _ _ _ _):p:=h
theorem a4W (hT:TOk P T) {op:BinOp} {t:TypeId} {x y:Operand} {a b:AV} {u v:Value} {r:Bool} (ha:VR G w C a u) (hb:VR G w C b v) (h:a6z T t a b=some r)
 (hc:a=.nili->b=.nili->isConst x=true\/isConst y=true):(Op.equal t u v).run P w=.ok r w/\(eqGuard op t x y u v).run P w=.ok () w/\(∀ k n,u≠.int k n)/\(∀ s,u≠.string s)/\(∀ k n,u≠.float k n)/\∀ k n m,u≠.complex k n m:=by
 unfold a6z at h
 split at h
 · rename_i ht
   have hti:=hT _ _ ht
   unfold eqB at h
   split at h
   · rename_i h1 h2
     simp only [Option.some.injEq] at h h1 h2
     subst h1 h2
     cases ha; cases hb
     subst h
     exact ⟨dG (run_equalIn_bool' w 9999 t _ _ hti.und),T9 (.inl ye_) (.inl ye_),by simp,by simp,by simp,by simp⟩
   · simp at h
 · rename_i fs size _ _ eqok ht
   have hti:=hT _ _ ht
   split at h
   · rename_i xs ys
     split at h
     · rename_i hlen
       cases ha with
       | agg _ _ us hs h1 hv =>
        cases hb with
        | agg _ _ vs hs' h1' hv' =>
         obtain ⟨hok,hl1,hl2⟩:=hlen
         obtain ⟨fields,hu,hm,hne⟩:=hti.und
         obtain ⟨hst,hg⟩:=hti.eqs _ rfl hok
         have hfo:P.fieldsOf t=fields:=by simp [Program.fieldsOf,hu]
         refine ⟨dG ?_,run_eqGuard_agg w op t x y us vs hg,by simp,by simp,by simp,by simp⟩
         rw [run_equalIn_struct w 9999 t _ _ (by rw [hfo]; exact hu) hst,hfo]
         exact oK hT 40 9999 fields.toList _ _ _ _ _ ya_ hne (CR.of hs hv) (CR.of hs' hv') (by rw [hm]; exact h)
     · simp at h
   · simp at h
 · rename_i ht
   have hti:=hT _ _ ht
   have hu:P.underlying t=some (.pointer _):=hti.und
   have key:∀ {a b:AV} {u v:Value},VR G w C a u->VR G w C b v->b=.nilp->a6r a=some r->(Op.equal t u v).run P w=.ok r w/\(eqGuard op t x y u v).run P w=.ok () w/\(∀ k n,u≠.int k n)/\(∀ s,u≠.string s)/\(∀ k n,u≠.float k n)/\∀ k n m,u≠.complex k n m:=by
    intro a b u v ha hb hbn hn
    subst hbn
    cases hb
    cases ha <;> simp [a6r] at hn <;> subst hn <;> exact ⟨dG yh_,T9 (.inl ye_) (.inl ye_),by simp,by simp,by simp,by simp⟩
   have key':∀ {a b:AV} {u v:Value},VR G w C a u->VR G w C b v->a=.nilp->a6r b=some r->(Op.equal t u v).run P w=.ok r w/\(eqGuard op t x y u v).run P w=.ok () w/\(∀ k n,u≠.int k n)/\(∀ s,u≠.string s)/\(∀ k n,u≠.float k n)/\∀ k n m,u≠.complex k n m:=by
    intro a b u v ha hb hbn hn
    subst hbn
    cases ha
    cases hb <;> simp [a6r] at hn <;> subst hn <;> exact ⟨dG yh_,T9 (.inl ye_) (.inl ye_),by simp,by simp,by simp,by simp⟩
   split at h
   · exact key ha hb rfl h
   · split at h
     · exact key' ha hb rfl h
     · simp at h
 · rename_i ht
   have hti:=hT _ _ ht
   obtain ⟨ms,hu⟩:=hti.und
   split at h
   · cases hb
     cases ha <;> simp [b6M] at h <;> subst h
     · exact ⟨dG yh_,T9 (.inr (.inr (hc rfl rfl))) (.inl ye_),by simp,by simp,by simp,by simp⟩
     · exact ⟨dG yh_,T9 (.inl ye_) (.inl ye_),by simp,by simp,by simp,by simp⟩
   · split at h
     · cases ha
       cases hb <;> simp [b6M] at h <;> subst h
       · exact ⟨dG yh_,T9 (.inr (.inr (hc rfl rfl))) (.inl ye_),by simp,by simp,by simp,by simp⟩
       · exact ⟨dG yh_,T9 (.inr (.inl ye_)) (.inl ye_),by simp,by simp,by simp,by simp⟩
     · simp at h
 · rename_i ht
   have hti:=hT _ _ ht
   have hu:P.underlying t=some (.slice _):=hti.und
   split at h
   · cases hb with
     | sl _ _ _ _ _ _ hg=>exact absurd rfl hg
     | nils =>
      cases ha with
      | nils _ g k hg'=>rcases hg' with rfl | rfl | rfl <;> simp [a0Z] at h <;> (subst h; exact ⟨dG yh_,T9 (.inl ye_) (.inl ye_),by simp,by simp,by simp,by simp⟩)
      | sl _ g xs k ad cap hg =>
       cases g with
       | nil=>exact absurd rfl hg
       | _=>simp [a0Z] at h <;> (subst h; exact ⟨dG yh_,T9 (.inl ye_) (.inl ye_),by simp,by simp,by simp,by simp⟩)
      | _=>simp [a0Z] at h
   · split at h
     · cases ha with
       | sl _ _ _ _ _ _ hg=>exact absurd rfl hg
       | nils =>
        cases hb with
        | nils _ g k hg'=>rcases hg' with rfl | rfl | rfl <;> simp [a0Z] at h <;> (subst h; exact ⟨dG yh_,T9 (.inl ye_) (.inl ye_),by simp,by simp,by simp,by simp⟩)
        | sl _ g xs k ad cap hg =>
         cases g with
         | nil=>exact absurd rfl hg
         | _=>simp [a0Z] at h <;> (subst h; exact ⟨dG yh_,T9 (.inl ye_) (.inl ye_),by simp,by simp,by simp,by simp⟩)
        | _=>simp [a0Z] at h
     · simp at h
 · simp at h
end
section
variable {P:Program} {T:TT} {G:Nat->Prop} {w:World} {C:Cx} {F:Fr} {act:Act} {H:Heap}
def Out (P:Program) (G:Nat->Prop) (w:World) (C:Cx) (H:Heap) (s:Sem Next) (a:AV):Prop :=
 ∃ v w' G',s.run P w=.ok (.value v) w'/\Ev G w C G' w' C/\HR G' w' C H/\VR G' w' C a v
theorem Out.still {s:Sem Next} {a:AV} {v:Value} (hH:HR G w C H) (h:s.run P w=.ok (.value v) w) (hv:VR G w C a v):Out P G w C H s a:=⟨v,w,G,h,Ev.refl ..,hH,hv⟩
theorem b3N (hT:TOk P T) {op:BinOp} {t:TypeId} {x y:Operand} {a b r:AV} {u v:Value} (ha:VR G w C a u) (hb:VR G w C b v) (h:a4Y T op t a b=some r) (hc:a=.nili->b=.nili->isConst x=true\/isConst y=true) :
 ∃ z,(do eqGuard op t x y u v; Go.binOp op t u v:Sem Value).run P w=.ok z w/\VR G w C r z:=by
 unfold a4Y at h
 split at h
 · cases ha
   cases hb
   have hg:∀ {k n k' n'},(eqGuard op t x y (.int k n) (.int k' n')).run P w=.ok () w:=T9 (.inl ye_) (.inl ye_)
   simp only [Sem.run_bind,hg,Result.andThen_ok]
   split at h
   · split at h
     · simp at h
     · rename_i hy
       simp at h; subst h
       exact ⟨_,by simp only [binOp,Op.shift,hy,if_false]; rfl,.int ..⟩
   · split at h
     · simp at h
     · rename_i hy
       simp at h; subst h
       exact ⟨_,by simp only [binOp,Op.shift,hy,if_false]; rfl,.int ..⟩
   · rename_i h1 h2
     split at h
     · rename_i hk
       subst hk
       exact b3M t h (fun e=>h1 e) (fun e=>h2 e)
     · simp at h
 · cases ha
   cases hb
   have hg:∀ {n n'},(eqGuard op t x y (.string n) (.string n')).run P w=.ok () w:=T9 (.inl ye_) (.inl ye_)
   simp only [Sem.run_bind,hg,Result.andThen_ok]
   exact b3L t h
 · split at h
   · cases he:a6z T t a b with
     | none=>simp [he] at h
     | some c =>
      simp [he] at h; subst h
      obtain ⟨h1,h2,h3,h4,h5,h6⟩:=a4W hT (op:=.eql) (x:=x) (y:=y) ha hb he hc
      refine ⟨.bool c,?_,.bool ..⟩
      simp only [Sem.run_bind,h2,Result.andThen_ok]
      have:Go.binOp .eql t u v=(do pure (.bool (<- Op.equal t u v))):=by
       cases u <;> first | exact absurd rfl (h3 _ _) | exact absurd rfl (h4 _) | exact absurd rfl (h5 _ _) | exact absurd rfl (h6 _ _ _) | (cases v <;> rfl)
      rw [this]
      simp [h1]
   · cases he:a6z T t a b with
     | none=>simp [he] at h
     | some c =>
      simp [he] at h; subst h
      obtain ⟨h1,h2,h3,h4,h5,h6⟩:=a4W hT (op:=.neq) (x:=x) (y:=y) ha hb he hc
      refine ⟨.bool !c,?_,.bool ..⟩
      simp only [Sem.run_bind,h2,Result.andThen_ok]
      have:Go.binOp .neq t u v=(do pure (.bool (!(<- Op.equal t u v)))):=by
       cases u <;> first | exact absurd rfl (h3 _ _) | exact absurd rfl (h4 _) | exact absurd rfl (h5 _ _) | exact absurd rfl (h6 _ _ _) | (cases v <;> rfl)
      rw [this]
      simp [h1]
   · simp at h
theorem Z6 (b o j:Nat):(⟨b,o,none⟩:Addr).add j=⟨b,o+j,none⟩:=by unfold Addr.add; split <;> simp_all
theorem yG (hT:TOk P T) {t:TypeId} {cs:List AV} {c:Nat} {a:AV} {u:Value} (hu:VR G w C (.ref cs c) u) (h:AM.part T t cs c=some a):∃ v,(Instr.loadAt t u).run P w=.ok v w/\VR G w C a v:=by
 cases hu with
 | ref _ _ _ b o hG cv hc h1 hv =>
  unfold AM.part at h
  split at h
  · simp at h
  · rename_i ti ht
    have hti:=hT t ti ht
    simp only [Instr.loadAt,Instr.sureAddr,loadVar,Sem.run_bind,Sem.run_pure,Result.andThen_ok,hti.isAgg]
    split at h
    · rename_i hagg
      split at h
      · rename_i hle
        simp only [Option.some.injEq] at h
        subst h
        simp only [hagg,if_true,Sem.run_bind,hti.sizeOf,Result.andThen_ok]
        rw [run_loadCells w _ ti.size (fun j=>cv (c+j)) (fun j hj=>by rw [Z6,Nat.add_assoc]; exact hc _ ya_)]
        refine ⟨_,rfl,.agg _ _ _ yg_ (fun i hi=>?_) fun i hi=>?_⟩
        · have hi':i < ti.size:=by simp at hi; omega
          simpa [Array.getD_eq_getD_getElem?,hi'] using h1 (c+i) ya_
        · have hi':i < ti.size:=by simp at hi; omega
          have:=(hv (c+i) ya_).lift C
          simpa [Array.getD_eq_getD_getElem?,List.getD_eq_getElem?_getD,List.getElem?_take,List.getElem?_drop,hi'] using this
      · simp at h
    · rename_i hagg
      have hc':c < cs.length:=by
       rcases Nat.lt_or_ge c cs.length with h' | h'
       · exact h'
       · rw [List.getElem?_eq_none h'] at h; simp at h
      simp only [hagg,Bool.false_eq_true,if_false,run_load,hc c hc']
      exact ⟨_,rfl,by simpa [List.getD_eq_getElem?_getD,h] using (hv c hc').lift C⟩
theorem a2K (hT:TOk P T) {s:TypeId} {f:Nat} {x a:AV} {u:Value} (hx:VR G w C x u) (h:xI T s f x=some a):∃ v,(Instr.fieldAt s u f).run P w=.ok v w/\VR G w C a v:=by
 unfold xI at h
 split at h
 · rename_i t o hf
   unfold a2w at hf
   split at hf
   · rename_i fs _ _ _ _ hs
     have hti:=hT _ _ hs
     obtain ⟨fields,hu,hm,_⟩:=hti.und
     split at h
     · rename_i n cs c hsz
       obtain ⟨tt,htt,hszt⟩:∃ tt,T t=some tt/\tt.size=n+1:=by
        unfold AM.sizeOf at hsz
        cases ht:T t with
        | none=>simp [ht] at hsz
        | some tt=>exact ⟨tt,rfl,by simpa [ht] using hsz⟩
       have hfl:∃ fl,fields[f]?=some fl/\fl.type=t/\fl.offset=o:=by
        rw [<- hm] at hf
        rw [List.getElem?_map] at hf
        cases hg:fields.toList[f]? with
        | none=>simp [hg] at hf
        | some fl=>simp [hg] at hf; exact ⟨fl,by simpa using hg,hf.1,hf.2⟩
       obtain ⟨fl,hfl,rfl,rfl⟩:=hfl
       simp at h; subst h
       cases hx with
       | ref _ _ _ b o' hG cv hc h1 hv =>
        refine ⟨_,by simp [Instr.fieldAt,run_underlying hu,hfl,Instr.sureAddr,fieldPlace,(hT _ _ htt).sizeOf,hszt,Z6]; rfl,?_⟩
        rw [Nat.add_assoc]
        exact .ref _ _ _ _ _ hG cv hc h1 hv
     · rename_i n id g e c hsz
       obtain ⟨tt,htt,hszt⟩:∃ tt,T t=some tt/\tt.size=n+1:=by
        unfold AM.sizeOf at hsz
        cases ht:T t with
        | none=>simp [ht] at hsz
        | some tt=>exact ⟨tt,rfl,by simpa [ht] using hsz⟩
       have hfl:∃ fl,fields[f]?=some fl/\fl.type=t/\fl.offset=o:=by
        rw [<- hm] at hf
        rw [List.getElem?_map] at hf
        cases hg:fields.toList[f]? with
        | none=>simp [hg] at hf
        | some fl=>simp [hg] at hf; exact ⟨fl,by simpa using hg,hf.1,hf.2⟩
       obtain ⟨fl,hfl,rfl,rfl⟩:=hfl
       simp at h; subst h
       cases hx with
       | obj _ _ _ _ _ ad hle hl =>
        refine ⟨.pointer (some (ad.add fl.offset)),by simp [Instr.fieldAt,run_underlying hu,hfl,Instr.sureAddr,fieldPlace,(hT _ _ htt).sizeOf,hszt],?_⟩
        refine .obj _ _ _ _ _ _ hle fun hg=>?_
        obtain ⟨l,b,h1,hb,h2⟩:=hl hg
        exact ⟨l,b,h1,hb,by rw [h2,Z6,Nat.add_assoc]⟩
     · simp at h
   · simp at hf
 · simp at h
end
section
variable {P:Program} {T:TT} {G:Nat->Prop} {w:World} {C:Cx} {F:Fr} {act:Act} {H:Heap}
theorem dR (hT:TOk P T) {t:TypeId} {k:Nat} (h:AM.sizeOf T t=some k):∃ ti,T t=some ti/\ti.size=k/\∀ w,(Go.sizeOf t).run P w=.ok k w:=by
 unfold AM.sizeOf at h
 cases ht:T t with
 | none=>simp [ht] at h
 | some ti =>
  simp [ht] at h
  exact ⟨ti,rfl,h,fun w=>by rw [(hT _ _ ht).sizeOf,h]⟩
theorem mM (hF:FrR G w C F act.tmps) {o:Option Operand} {d n:Int} (h:M5 F o d=some n):(o=none/\n=d)\/∃ x k,o=some x/\act.eval x=.int k n:=by
 cases o with
 | none=>simp [M5] at h; exact .inl ⟨rfl,h.symm⟩
 | some x =>
  simp only [M5] at h
  split at h
  · rename_i k m hx
    simp only [Option.some.injEq] at h
    subst h
    have:=H8 (act:=act) hF hx
    generalize hv:act.eval x=v at this
    cases this
    exact .inr ⟨x,_,rfl,hv⟩
  · simp at h
theorem tL (hF:FrR G w C F act.tmps) {lo hi:Option Operand} {l h:Int} {len cap:Nat} (b:Bool) (hl:M5 F lo 0=some l) (hh:M5 F hi len=some h) (h0:0<=l) (h1:l<=h) (h2:h<=cap) :
 (Instr.sliceBounds b len cap (lo.map act.eval) (hi.map act.eval) none).run P w=.ok (l.toNat,h.toNat,cap) w:=by
 have e1:(h.toNat:Int)=h:=Int.toNat_of_nonneg ya_
 rcases mM hF hl with ⟨rfl,rfl⟩ | ⟨x,k,rfl,hx⟩ <;> rcases mM hF hh with ⟨rfl,rfl⟩ | ⟨y,k',rfl,hy⟩
 · simp [Instr.sliceBounds]
 · simp [Instr.sliceBounds,hy,run_sliceBound,h2,(by omega:0<=h)]
 · simp [Instr.sliceBounds,hx,run_sliceBound,h0,h1]
 · simp [Instr.sliceBounds,hx,hy,run_sliceBound,h0,h2,e1,h1,(by omega:0<=h)]
theorem xS (hF:FrR G w C F act.tmps) {lo hi:Option Operand} {m:Operand} {l h c:Int} {len cap:Nat} (b:Bool) (hl:M5 F lo 0=some l) (hh:M5 F hi len=some h) (hc:M5 F (some m) 0=some c) (h0:0<=l) (h1:l<=h) (h2:h<=c) (h3:c<=cap)
 (hhi:hi≠none):(Instr.sliceBounds b len cap (lo.map act.eval) (hi.map act.eval) (some (act.eval m))).run P w=.ok (l.toNat,h.toNat,c.toNat) w:=by
 have e1:(h.toNat:Int)=h:=Int.toNat_of_nonneg ya_
 have e2:(c.toNat:Int)=c:=Int.toNat_of_nonneg ya_
 rcases mM hF hc with ⟨h',_⟩ | ⟨z,kz,hz,hmz⟩
 · simp at h'
 · simp only [Option.some.injEq] at hz
   subst hz
   rcases mM hF hl with ⟨rfl,rfl⟩ | ⟨x,k,rfl,hx⟩ <;> rcases mM hF hh with ⟨rfl,rfl⟩ | ⟨y,k',rfl,hy⟩
   · exact absurd rfl hhi
   · simp [Instr.sliceBounds,hy,hmz,run_sliceBound,h2,h3,e2,(by omega:0<=h),(by omega:0<=c)]
   · exact absurd rfl hhi
   · simp [Instr.sliceBounds,hx,hy,hmz,run_sliceBound,h0,h2,h3,e1,e2,h1,(by omega:0<=h),(by omega:0<=c)]
theorem pK {l h:Int} {m:Nat} {p:Nat × Nat} (hb:bounds l h m=some p):0<=l/\l<=h/\h<=m/\p=(l.toNat,h.toNat):=by
 unfold bounds at hb
 split at hb
 · rename_i hc
   simp only [Option.some.injEq] at hb
   exact ⟨hc.1,hc.2.1,hc.2.2,hb.symm⟩
 · simp at hb
theorem b4r {g g':Tg} {k:Nat} {xs:List (List AV)} {ad:Addr} {n cap cap':Nat} (hv:VR G w C (.sl g k xs) (.slice (some ad) n cap)) (l h:Nat) (hl:l<=h) (hh:h<=xs.length) (hg:g'≠.nil) (hclip:g'=.clip\/g'=.cn->cap'=h - l) (hcap:h - l<=cap') (b:Bool) (hb:b=true->h=l) :
 VR G w C (.sl g' k ((xs.take h).drop l)) (.slice (some (if b=true then ad else ad.add (l * k))) (h - l) cap'):=by
 cases hv with
 | sl _ _ _ _ _ _ hg0 hclip0 hle hs cv hk hc h1 hv =>
  have hlen:((xs.take h).drop l).length=h - l:=by simp; omega
  have hget:∀ i,i < h - l->((xs.take h).drop l).getD i []=xs.getD (l+i) []:=by
   intro i hi
   simp only [List.getD_eq_getElem?_getD,List.getElem?_drop,List.getElem?_take]
   rw [if_pos ya_]
  have key:=VR.sl (G:=G) (w:=w) C g' ((xs.take h).drop l) k (if b=true then ad else ad.add (l * k)) cap' hg (by rw [hlen]; exact hclip) (by rw [hlen]; exact hcap)
  rw [hlen] at key
  have hx0:(xs.take h).drop l≠[]->xs≠[]/\l < h:=by
   intro hne
   have:0 < ((xs.take h).drop l).length:=List.length_pos_iff.2 hne
   rw [hlen] at this
   exact ⟨fun e=>by simp [e] at hh; omega,by omega⟩
  refine key (fun hne=>?_) (fun i j=>cv (l+i) j) (fun i hi=>by rw [hget i hi]; exact hk _ ya_) (fun i j hi hj=>?_) (fun i j hi hj=>h1 _ _ ya_ hj) fun i j hi hj=>by rw [hget i hi]; exact hv _ _ ya_ hj
  · obtain ⟨h1x,h2⟩:=hx0 hne
    cases b with
    | true=>exact absurd (hb rfl) ya_
    | false =>
     obtain ⟨h3,h4⟩:=hs h1x
     simp only [Bool.false_eq_true,if_false]
     unfold Addr.add
     split
     · exact ⟨h3,h4⟩
     · exact ⟨rfl,h4⟩
  · have hlt:l < h:=by omega
    cases b with
    | true=>exact absurd (hb rfl) ya_
    | false =>
     have hxs:xs≠[]:=by intro e; simp [e] at hh; omega
     obtain ⟨h3,h4⟩:=hs hxs
     obtain ⟨ab,ao,asp⟩:=ad
     simp only at h3
     subst h3
     simp only [Bool.false_eq_true,if_false,Z6]
     have:=hc (l+i) j ya_ hj
     rw [<- this]
     congr 2
     show ao+l * k+i * k+j=ao+(l+i) * k+j
     rw [Nat.add_mul]; omega
theorem a2I (hT:TOk P T) (hF:FrR G w C F act.tmps) {t:TypeId} {ti:TI} (ht:T t=some ti) (htd:ti.d=.string) {x a:AV} {u:Value} {lo hi mx:Option Operand} (hx:VR G w C x u) (h:eU F none x lo hi mx=some a) :
 ∃ v,(Instr.sliceAt t u (lo.map act.eval) (hi.map act.eval) (mx.map act.eval)).run P w=.ok v w/\VR G w C a v:=by
 have hu:=(hT _ _ ht).und
 rw [htd] at hu
 have hu:P.underlying t=some .string:=hu
 unfold eU at h
 split at h
 · rename_i s _
   split at h
   · rename_i l hh hl hhh
     cases hb:bounds l hh s.size with
     | none=>simp [hb] at h
     | some p =>
      simp [hb] at h; subst h
      obtain ⟨h0,h1,h2,rfl⟩:=pK hb
      cases hx
      refine ⟨.string (s.extract l.toNat hh.toNat),?_,.str ..⟩
      simp only [Instr.sliceAt,Instr.slice,Sem.run_bind,run_underlying hu,Result.andThen_ok,Option.map_none,Option.isSome_none,Bool.false_eq_true,if_false,Sem.run_pure,pure_bind]
      rw [tL hF false hl hhh h0 h1 h2]
      simp
   · simp at h
 · simp_all
 · simp_all
 · simp_all
 · simp_all
 · simp at h
theorem a3G (hT:TOk P T) (hF:FrR G w C F act.tmps) {t e:TypeId} {ti:TI} (ht:T t=some ti) (htd:ti.d=.slice e) {k:Nat} (hsz:AM.sizeOf T e=some k) {x a:AV} {u:Value} {lo hi mx:Option Operand} (hx:VR G w C x u) (h:eU F (some k) x lo hi mx=some a)
 (hhi:mx≠none->hi≠none):∃ v,(Instr.sliceAt t u (lo.map act.eval) (hi.map act.eval) (mx.map act.eval)).run P w=.ok v w/\VR G w C a v:=by
 have hu:=(hT _ _ ht).und
 rw [htd] at hu
 have hu:P.underlying t=some (.slice e):=hu
 obtain ⟨te,hte,hks,hsz⟩:=dR hT hsz
 unfold eU at h
 split at h
 · simp_all
 · rename_i g k' xs k0 hk0
   simp only [Option.some.injEq] at hk0
   subst hk0
   split at h
   · rename_i hkk
     split at h
     · rename_i l hh hl hhh
       cases hb:bounds l hh xs.length with
       | none=>simp [hb] at h
       | some p =>
        simp [hb] at h; subst h
        obtain ⟨h0,h1,h2,rfl⟩:=pK hb
        have hrun:∀ (A:Option Addr) (n cap:Nat),n=xs.length->xs.length<=cap->(Instr.sliceAt t (.slice A n cap) (lo.map act.eval) (hi.map act.eval) none).run P w =
         .ok (.slice (if cap=l.toNat then A else A.map (·.add (l.toNat * k))) (hh.toNat - l.toNat) (cap - l.toNat)) w:=by
         intro A n cap hn hcap
         subst hn
         simp only [Instr.sliceAt,Instr.slice,Sem.run_bind,run_underlying hu,Result.andThen_ok]
         rw [tL hF true hl hhh h0 h1 ya_]
         simp only [Result.andThen_ok,hsz,Sem.run_pure]
        cases hx with
        | nils _ _ _ hgn =>
         simp only [List.length_nil,Int.ofNat_eq_natCast,Int.natCast_zero] at h2
         have hl0:l=0:=by omega
         have hh0:hh=0:=by omega
         subst hl0; subst hh0
         refine ⟨_,hrun _ _ _ rfl ye_,?_⟩
         simp only [Int.toNat_zero,if_true,List.take_nil,List.drop_nil,Nat.sub_zero]
         exact .nils _ _ _ (by rcases hgn with rfl | rfl | rfl <;> simp [Tg.open'])
        | sl _ _ _ _ ad cap hg hclip hle hs cv hk hc h1c hv =>
         refine ⟨_,hrun _ _ _ rfl hle,?_⟩
         have hkk':l.toNat * k=l.toNat * k':=by
          rcases hkk with h' | h'
          · rw [h']
          · have h3:xs=[]:=by simpa using h'
            subst h3
            simp at h2
            have:l.toNat=0:=by omega
            simp [this]
         rw [hkk']
         have hop:g.open'≠.nil/\¬ (g.open'=.clip\/g.open'=.cn):=by cases g <;> simp [Tg.open'] at hg ⊢
         have:=b4r (g':=g.open') (cap':=cap - l.toNat) (VR.sl C g xs k' ad cap hg hclip hle hs cv hk hc h1c hv) l.toNat hh.toNat ya_ ya_ hop.1 (fun h=>absurd h hop.2) ya_ (decide (cap=l.toNat)) yg_
         by_cases hcl:cap=l.toNat
         · simpa [hcl] using this
         · simpa [hcl] using this
     · simp at h
   · simp at h
 · rename_i g k' xs k0 m hk0
   simp only [Option.some.injEq] at hk0
   subst hk0
   split at h
   · rename_i hkk
     split at h
     · rename_i l hh c hl hhh hcc
       split at h
       · rename_i hhc
         subst hhc
         cases hb:bounds l hh xs.length with
         | none=>simp [hb] at h
         | some p =>
          simp [hb] at h; subst h
          obtain ⟨h0,h1,h2,rfl⟩:=pK hb
          have hrun:∀ (A:Option Addr) (n cap:Nat),n=xs.length->xs.length<=cap->(Instr.sliceAt t (.slice A n cap) (lo.map act.eval) (hi.map act.eval) ((some m).map act.eval)).run P w =
           .ok (.slice (if hh.toNat=l.toNat then A else A.map (·.add (l.toNat * k))) (hh.toNat - l.toNat) (hh.toNat - l.toNat)) w:=by
           intro A n cap hn hcap
           subst hn
           simp only [Instr.sliceAt,Instr.slice,Sem.run_bind,run_underlying hu,Result.andThen_ok,Option.map_some]
           rw [xS hF true hl hhh hcc h0 h1 ya_ ya_ (hhi ye_)]
           simp only [Result.andThen_ok,hsz,Sem.run_pure]
          cases hx with
          | nils _ _ _ hgn =>
           simp only [List.length_nil,Int.ofNat_eq_natCast,Int.natCast_zero] at h2
           have hl0:l=0:=by omega
           have hh0:hh=0:=by omega
           subst hl0; subst hh0
           refine ⟨_,hrun _ _ _ rfl ye_,?_⟩
           simp only [Int.toNat_zero,if_true,List.take_nil,List.drop_nil,Nat.sub_zero]
           exact .nils _ _ _ (by rcases hgn with rfl | rfl | rfl <;> simp [Tg.a5d])
          | sl _ _ _ _ ad cap hg hclip hle hs cv hk hc h1c hv =>
           refine ⟨_,hrun _ _ _ rfl hle,?_⟩
           have hkk':l.toNat * k=l.toNat * k':=by
            rcases hkk with h' | h'
            · rw [h']
            · have h3:xs=[]:=by simpa using h'
              subst h3
              simp at h2
              have:l.toNat=0:=by omega
              simp [this]
           rw [hkk']
           have hop:g.a5d≠.nil:=by cases g <;> simp [Tg.a5d] at hg ⊢
           have:=b4r (g':=g.a5d) (cap':=hh.toNat - l.toNat) (VR.sl C g xs k' ad cap hg hclip hle hs cv hk hc h1c hv) l.toNat hh.toNat ya_ ya_ hop (fun _=>rfl) ya_ (decide (hh.toNat=l.toNat)) ye_
           by_cases hcl:hh.toNat=l.toNat
           · simpa [hcl] using this
           · simpa [hcl] using this
       · simp at h
     · simp at h
   · simp at h
 · rename_i id g k' e0 n k0 hk0
   simp only [Option.some.injEq] at hk0
   subst hk0
   split at h
   · rename_i hkk
     subst hkk
     split at h
     · rename_i l hh hl hhh
       cases hb:bounds l hh n with
       | none=>simp [hb] at h
       | some p =>
        simp [hb] at h; subst h
        obtain ⟨h0,h1,h2,rfl⟩:=pK hb
        cases hx with
        | osl _ _ _ _ _ _ ad cap hnc hle hl' =>
         refine ⟨.slice (if cap=l.toNat then some ad else (some ad).map (·.add (l.toNat * k))) (hh.toNat - l.toNat) (cap - l.toNat),?_,?_⟩
         · simp only [Instr.sliceAt,Instr.slice,Sem.run_bind,run_underlying hu,Result.andThen_ok,Option.map_none]
           rw [tL hF true hl hhh h0 h1 ya_]
           simp only [Result.andThen_ok,hsz,Sem.run_pure]
         · have hif:(if cap=l.toNat then some ad else (some ad).map (·.add (l.toNat * k)))=some (if cap=l.toNat then ad else ad.add (l.toNat * k)):=by split <;> rfl
           rw [hif]
           refine .osl _ _ _ _ _ _ _ _ ya_ hle fun hg=>?_
           obtain ⟨L,b,hι,hLb,hLk,hen,hcap,had⟩:=hl' hg
           refine ⟨L,b,hι,hLb,hLk,by omega,by omega,fun hlt=>?_⟩
           rw [if_neg ya_,had ya_,Z6,Nat.add_assoc,<- Nat.add_mul]
        | osl0 _ _ _ _ _ base hle hl' =>
         have hl0:l=0:=by omega
         have hh0:hh=0:=by omega
         subst hl0; subst hh0
         refine ⟨.slice base 0 0,?_,.osl0 _ _ _ _ _ _ hle hl'⟩
         simp only [Instr.sliceAt,Instr.slice,Sem.run_bind,run_underlying hu,Result.andThen_ok,Option.map_none]
         rw [tL hF true hl hhh h0 h1 ya_]
         simp [hsz]
     · simp at h
   · simp at h
 · rename_i id g k' e0 n k0 m hk0
   simp only [Option.some.injEq] at hk0
   subst hk0
   split at h
   · rename_i hl hh hc
     simp only [Option.some.injEq] at h
     subst h
     cases hx with
     | osl _ _ _ _ _ _ ad cap hnc hle hl' =>
      refine ⟨.slice (some ad) 0 0,?_,?_⟩
      · simp only [Instr.sliceAt,Instr.slice,Sem.run_bind,run_underlying hu,Result.andThen_ok,Option.map_some]
        rw [xS hF true hl hh hc ya_ ya_ ya_ ya_ (hhi ye_)]
        simp [hsz]
      · exact .sl C .cn [] k ad 0 ye_ ye_ ye_ ye_ (fun _ _=>undef) ye_ ye_ ye_ ye_
     | osl0 _ _ _ _ _ base hle hl' =>
      refine ⟨.slice base 0 0,?_,?_⟩
      rotate_left
      · cases base with
        | none=>exact .nils _ _ _ ye_
        | some ad=>exact .sl C .cn [] k ad 0 ye_ ye_ ye_ ye_ (fun _ _=>undef) ye_ ye_ ye_ ye_
      simp only [Instr.sliceAt,Instr.slice,Sem.run_bind,run_underlying hu,Result.andThen_ok,Option.map_some]
      rw [xS hF true hl hh hc ya_ ya_ ya_ ya_ (hhi ye_)]
      simp [hsz]
   · simp at h
 · simp at h
end
section
variable {P:Program} {T:TT} {G:Nat->Prop} {w:World} {C:Cx} {F:Fr} {act:Act} {H:Heap}
theorem a2J (hT:TOk P T) {t:TypeId} {x a:AV} {u:Value} {k:IntKind} {i:Int} (hx:VR G w C x u) (h:xH T t x i=some a):∃ v,(Instr.indexAt t u (.int k i)).run P w=.ok v w/\VR G w C a v:=by
 unfold xH at h
 split at h
 · rename_i e _ _ _ _ ht
   have hu:P.underlying t=some (.slice e):=(hT _ _ ht).und
   split at h
   · rename_i k0 g k' xs hsz
     obtain ⟨te,hte,hks,hsz⟩:=dR hT hsz
     split at h
     · rename_i hi
       obtain ⟨h0,rfl⟩:=hi
       cases hxs:xs[i.toNat]? with
       | none=>simp [hxs] at h
       | some cs =>
        simp [hxs] at h; subst h
        have hlt:i.toNat < xs.length:=by
         rcases Nat.lt_or_ge i.toNat xs.length with h' | h'
         · exact h'
         · rw [List.getElem?_eq_none h'] at hxs; simp at hxs
        cases hx with
        | nils=>simp at hlt
        | sl _ _ _ _ ad cap hg hclip hle hs cv hk hc h1 hv =>
         have hne:xs≠[]:=by intro e; simp [e] at hlt
         obtain ⟨h3,h4⟩:=hs hne
         obtain ⟨ab,ao,asp⟩:=ad
         simp only at h3
         subst h3
         have hgd:xs.getD i.toNat []=cs:=by simp [List.getD_eq_getElem?_getD,hxs]
         have hlen:cs.length=k0:=by rw [<- hgd]; exact hk _ hlt
         refine ⟨.pointer (some ⟨ab,ao+i.toNat * k0,none⟩),?_,?_⟩
         · have h2:i < (xs.length:Int):=by omega
           simp [Instr.indexAt,asIntOf,run_underlying hu,h0,h2,hsz,Z6]
         · refine VR.ref C cs 0 ab (ao+i.toNat * k0) h4 (fun j=>cv i.toNat j) (fun j hj=>hc _ _ hlt ya_) (fun j hj=>h1 _ _ hlt ya_) fun j hj=>?_
           have:=hv i.toNat j hlt ya_
           rwa [hgd] at this
     · simp at h
   · rename_i k0 id g k' e0 n hsz
     obtain ⟨te,hte,hks,hsz⟩:=dR hT hsz
     split at h
     · rename_i hi
       obtain ⟨h0,h1,rfl⟩:=hi
       simp only [Option.some.injEq] at h
       subst h
       cases hx with
       | osl _ _ _ _ _ _ ad cap hnc hle hl =>
        refine ⟨.pointer (some (ad.add (i.toNat * k0))),?_,?_⟩
        · simp [Instr.indexAt,asIntOf,run_underlying hu,h0,h1,hsz]
        · refine .obj _ _ _ _ _ _ hle fun hg=>?_
          obtain ⟨L,b,hι,hLb,hLk,hen,hcap,had⟩:=hl hg
          refine ⟨L,b,hι,hLb,?_⟩
          rw [had ya_,Z6,Nat.add_mul,hLk]
          simp [Nat.add_assoc]
       | osl0=>exact absurd h1 ya_
     · simp at h
   · simp at h
 · rename_i n e _ _ _ _ ht
   have hu:P.underlying t=some (.array n e):=(hT _ _ ht).und
   split at h
   · rename_i k0 cs c hsz
     obtain ⟨te,hte,hks,hsz⟩:=dR hT hsz
     split at h
     · rename_i hi
       simp only [Option.some.injEq] at h
       subst h
       cases hx with
       | ref _ _ _ b o hG cv hc h1 hv =>
        refine ⟨.pointer (some ⟨b,o+c+i.toNat * k0,none⟩),?_,?_⟩
        · simp [Instr.indexAt,asIntOf,run_underlying hu,hi.1,hi.2,hsz,Instr.sureAddr,Z6]
        · rw [Nat.add_assoc]; exact .ref _ _ _ _ _ hG cv hc h1 hv
     · simp at h
   · rename_i k0 id g e0 c hsz
     obtain ⟨te,hte,hks,hsz⟩:=dR hT hsz
     split at h
     · rename_i hi
       simp only [Option.some.injEq] at h
       subst h
       cases hx with
       | obj _ _ _ _ _ ad hle hl =>
        refine ⟨.pointer (some (ad.add (i.toNat * k0))),?_,?_⟩
        · simp [Instr.indexAt,asIntOf,run_underlying hu,hi.1,hi.2,hsz,Instr.sureAddr]
        · refine .obj _ _ _ _ _ _ hle fun hg=>?_
          obtain ⟨L,b,hι,hLb,hL⟩:=hl hg
          exact ⟨L,b,hι,hLb,by rw [hL,Z6,Nat.add_assoc]⟩
     · simp at h
   · simp at h
 · simp at h
theorem a8z (hT:TOk P T) {t:TypeId} {x a:AV} {u:Value} {k:IntKind} {i:Int} (hx:VR G w C x u) (h:a6y T t x i=some a):∃ v,(Instr.index t u (.int k i)).run P w=.ok v w/\VR G w C a v:=by
 unfold a6y at h
 split at h
 · rename_i n e _ _ _ _ cs ht
   have hu:P.underlying t=some (.array n e):=(hT _ _ ht).und
   split at h
   · rename_i k0 hsz
     obtain ⟨te,hte,hks,hsz⟩:=dR hT hsz
     split at h
     · rename_i hi
       cases hx with
       | agg _ _ vs hs h1 hv =>
        obtain ⟨v,hv1,hv2⟩:=a4L (P:=P) hT h hs h1 hv
        exact ⟨v,by simp [Instr.index,asIntOf,run_underlying hu,hi.1,hi.2,hsz,hv1],hv2⟩
     · simp at h
   · simp at h
 · rename_i s ht
   have hu:P.underlying t=some .string:=(hT _ _ ht).und
   cases hx
   cases hb:(if 0<=i then s[i.toNat]? else none) with
   | none=>simp [hb] at h
   | some b =>
    simp [hb] at h; subst h
    exact ⟨.int .u8 b.toNat,by simp [Instr.index,asIntOf,run_underlying hu,hb],.int ..⟩
 · simp at h
def CF (G:Nat->Prop) (w:World) (C:Cx) (xs:List AV) (vs:Array Value):Prop:=vs.size=xs.length/\∀ i,i < xs.length->(vs.getD i undef).oneCell'=true/\VR G w C (xs.getD i .skip) (vs.getD i undef)
theorem c9Z (o:Nat):∀ (l:List (Value × Nat)) (cs:Array Value),(l.foldl (fun cs (p:Value × Nat)=>cs.setIfInBounds (o+p.2) p.1) cs).size=cs.size:=by
 intro l
 induction l with
 | nil=>intro cs; rfl
 | cons p l ih=>intro cs; simp [ih]
theorem d0b (o:Nat):∀ (vs:List Value) (s:Nat) (cs:Array Value) (i:Nat),i < cs.size ->
 ((vs.zipIdx s).foldl (fun cs (p:Value × Nat)=>cs.setIfInBounds (o+p.2) p.1) cs).getD i undef=if o+s<=i/\i < o+s+vs.length then vs.getD (i - (o+s)) undef else cs.getD i undef:=by
 intro vs
 induction vs with
 | nil=>intro s cs i hi; simp [show ¬ (o+s<=i/\i < o+s) by omega]
 | cons v vs ih =>
  intro s cs i hi
  simp only [List.zipIdx_cons,List.foldl_cons]
  rw [ih (s+1) _ i yb_]
  simp only [List.length_cons]
  by_cases h1:i=o+s
  · subst h1
    simp [Array.getD_eq_getD_getElem?,hi,show ¬ (o+(s+1)<=o+s) by omega]
  · by_cases h2:o+(s+1)<=i/\i < o+(s+1)+vs.length
    · rw [if_pos h2,if_pos ya_]
      obtain ⟨d,hd⟩:∃ d,i - (o+s)=d+1:=⟨i - (o+s) - 1,by omega⟩
      rw [hd,show i - (o+(s+1))=d by omega]
      simp
    · rw [if_neg h2,if_neg ya_]
      simp [Array.getD_eq_getD_getElem?,Array.getElem?_setIfInBounds,show ¬ (o+s=i) by omega]
theorem b0K {xs:List AV} {vs:Array Value} {ys:List AV} {us:Array Value} {o:Nat} (h:CF G w C xs vs) (k:CF G w C ys us) (ho:o+ys.length<=xs.length) :
 CF G w C (dI xs o ys) (us.zipIdx.foldl (fun cs (p:Value × Nat)=>cs.setIfInBounds (o+p.2) p.1) vs):=by
 have e:us.zipIdx.foldl (fun cs (p:Value × Nat)=>cs.setIfInBounds (o+p.2) p.1) vs=(us.toList.zipIdx 0).foldl (fun cs (p:Value × Nat)=>cs.setIfInBounds (o+p.2) p.1) vs:=by
  rw [<- Array.foldl_toList]; simp
 have hlen:(dI xs o ys).length=xs.length:=by simp [dI]; omega
 rw [e]
 refine ⟨by rw [c9Z,hlen]; exact h.1,fun i hi=>?_⟩
 rw [hlen] at hi
 rw [d0b _ _ _ _ _ (by rw [h.1]; exact hi)]
 have hus:us.toList.length=ys.length:=by simpa using k.1
 unfold dI
 by_cases hc:o+0<=i/\i < o+0+us.toList.length
 · rw [if_pos hc]
   have:=k.2 (i - o) ya_
   have e2:(xs.take o++ys++xs.drop (o+ys.length)).getD i .skip=ys.getD (i - o) .skip:=by
    simp only [List.getD_eq_getElem?_getD]
    rw [List.append_assoc,List.getElem?_append_right yg_,List.getElem?_append_left yg_]
    simp [show min o xs.length=o by omega]
   rw [e2]
   simpa [Array.getD_eq_getD_getElem?,List.getD_eq_getElem?_getD] using this
 · rw [if_neg hc]
   have:=h.2 i hi
   have e2:(xs.take o++ys++xs.drop (o+ys.length)).getD i .skip=xs.getD i .skip:=by
    simp only [List.getD_eq_getElem?_getD]
    rw [List.append_assoc]
    by_cases hlo:i < o
    · rw [List.getElem?_append_left yg_,List.getElem?_take,if_pos hlo]
    · rw [List.getElem?_append_right yg_,List.getElem?_append_right yg_]
      simp only [List.length_take,List.getElem?_drop,show min o xs.length=o by omega]
      congr 2
      omega
   rw [e2]
   exact this
theorem sZ (hF:FrR G w C F act.tmps) {place place':Nat->Option (Nat × Nat)} (hp:∀ i p,place i=some p->place' i=some p):∀ {parts:List (Nat × Operand)} {xs ys:List AV} {vs:Array Value},CF G w C xs vs->Y6 T F place parts xs=some ys ->
 ∃ us,Instr.fill place' vs (parts.map fun p=>(p.1,act.eval p.2))=some us/\CF G w C ys us
 | [],xs,ys,vs,hc,h=>by simp [Y6] at h; subst h; exact ⟨vs,rfl,hc⟩
 | (i,x) :: rest,xs,ys,vs,hc,h=>by
  simp only [Y6] at h
  split at h
  · rename_i o size v hpl hv
    split at h
    · rename_i cs hfit
      split at h
      · rename_i hsz
        obtain ⟨h1,h2,h3⟩:=(H8 (act:=act) hF hv).fit hfit
        simp only [List.map_cons,Instr.fill,hp _ _ hpl]
        rw [if_neg (by rw [h2,hc.1]; simp; omega)]
        exact sZ hF hp (b0K hc ⟨h2.trans h1.symm,fun i hi=>h3 i ya_⟩ ya_) h
      · simp at h
    · simp at h
  · simp at h
theorem HR.alloc {o:Obj} (h:HR G w C H):HR (fun b=>G b\/b=w.heap.size) (w.alloc o) C H:=by
 have hold:∀ b,b < w.heap.size->(w.alloc o).heap[b]?=w.heap[b]?:=fun b hb=>Go.RowKit.Below.heap_alloc w o b hb
 refine ⟨h.gen,h.out,fun id l b hl hlb=>?_,h.inj,fun id ob l hob hl=>?_,fun b hb=>?_⟩
 · obtain ⟨h1,h2⟩:=h.own id l b hl hlb
   refine ⟨by simp; omega,fun h3=>?_⟩
   rcases h3 with h3 | h3
   · exact h2 h3
   · omega
 · obtain ⟨hk,hrm,hno,hlen,hrow,hcs⟩:=h.ob id ob l hob hl
   refine ⟨hk,hrm,hno,hlen,hrow,fun b hlb=>?_⟩
   obtain ⟨h1,h2⟩:=h.own id l b hl hlb
   obtain ⟨cs,e,hb,hcs,hcell⟩:=hcs b hlb
   exact ⟨cs,e,(hold _ h1).trans hb,hcs,fun i j hi hj=>⟨(hcell i j hi hj).1,(hcell i j hi hj).2.mono (fun b hb=>.inl hb) (fun b hb=>hold b (h.gsz b hb)) (Y5.refl _)⟩⟩
 · rcases hb with hb | hb
   · have:=h.gsz b hb; simp; omega
   · simp; omega
theorem Ev.alloc {cs:Array Value} {t:TypeId} (h:HR G w C H):Ev G w C (fun b=>G b\/b=w.heap.size) (w.alloc (.cells cs t (0,0))) C :=
 let o:Obj:=.cells cs t (0,0)
 ⟨rfl,rfl,rfl,by simp,fun b hb=>.inl hb,fun b hb=>Go.RowKit.Below.heap_alloc w o b (h.gsz b hb),Y5.refl _,fun b hb _=>Go.RowKit.Below.heap_alloc w o b hb,fun b hb=>hb.imp (fun h=>h) fun h=>.inr (Nat.le_of_eq h.symm),fun id l b hl hlb=>.inl ⟨id,l,hl,hlb⟩,fun a=>Go.RowKit.frozen?_alloc_cells w cs t a⟩
end
section
variable {P:Program} {T:TT} {G:Nat->Prop} {w:World} {C:Cx} {F:Fr} {act:Act} {H:Heap}
theorem vE (C:Cx):C.cut 0=Cx.none:=by simp [Cx.cut,Cx.none]
theorem VR.free {a:AV} {v:Value} (h:VR G w C a v) (hb:a.bdd 0=true):VR G w Cx.none a v:=by have:=h.cut 0 hb; rwa [vE] at this
theorem zeros_length (z:List AV):∀ n,(zeros z n).length=n * z.length
 | 0=>by simp [zeros]
 | n+1=>by simp [zeros,zeros_length z n,Nat.add_mul]; omega
theorem a7d (z:List AV):∀ (n i:Nat),i < n * z.length->(zeros z n).getD i .skip=z.getD (i % z.length) .skip
 | 0,i,h=>by simp at h
 | n+1,i,h=>by
  simp only [zeros,List.getD_eq_getElem?_getD]
  by_cases hi:i < z.length
  · rw [List.getElem?_append_left hi,Nat.mod_eq_of_lt hi]
  · rw [List.getElem?_append_right ya_]
    have h1:i - z.length < n * z.length:=by rw [Nat.add_mul] at h; omega
    have:=a7d z n (i - z.length) h1
    simp only [List.getD_eq_getElem?_getD] at this
    rw [this,Nat.mod_eq_sub_mod (show i >= z.length by omega)]
theorem kN (k:Nat):∀ (n:Nat) (cs:List AV),(rowsOf k n cs).length=n
 | 0,cs=>rfl
 | n+1,cs=>by simp [rowsOf,kN k n]
theorem zJ (k:Nat):∀ (n i:Nat) (cs:List AV),i < n->(rowsOf k n cs).getD i []=(cs.drop (i * k)).take k
 | 0,i,cs,h=>by omega
 | n+1,0,cs,h=>by simp [rowsOf]
 | n+1,i+1,cs,h=>by
  simp only [rowsOf,List.getD_cons_succ]
  rw [zJ k n i _ ya_,List.drop_drop,Nat.add_mul,Nat.one_mul,Nat.add_comm]
theorem sK.zeros {t:TypeId} {ti:TI} (h:sK P t ti):∃ z,(∀ w,(zeroValue t).run P w=.ok z w)/\CF G w C ti.zero z.cells/\ti.zero.length=ti.size/\z.cells.size=ti.size/\(ti.agg=true->∃ cs,z=.agg cs)/\(ti.agg=false->∀ cs,z≠.agg cs):=by
 obtain ⟨i,hi,hs,hb,z,hz,hzs,hzl,hza⟩:=h.info
 obtain ⟨h1,h2⟩:=dB (G:=G) (w:=w) (C:=C) hzs
 refine ⟨z,fun w=>by simp [zeroValue,typeInfo,hi,hz],⟨by simpa using h1,fun i hi=>?_⟩,hzl,by simpa [hzl] using h1,fun ha=>hza.2 ha,fun ha cs e=>?_⟩
 · have:=h2 i hi
   simpa [Array.getD_eq_getD_getElem?,List.getD_eq_getElem?_getD] using this
 · have:=hza.1 ⟨cs,e⟩
   simp [ha] at this
theorem b4m (hT:TOk P T) (hF:FrR G w C F act.tmps) {t:TypeId} {parts:Array (Nat × Operand)} {a:AV} (h:evP T F (.build t parts)=some a) :
 ∃ v,(Instr.build t (parts.map fun p=>(p.1,act.eval p.2))).run P w=.ok v w/\VR G w C a v:=by
 simp only [evP] at h
 split at h
 · rename_i fs size bytes zero eqok ht
   have hti:=hT _ _ ht
   obtain ⟨fields,hu,hm,_⟩:=hti.und
   obtain ⟨z,hz,hzc,hzl,hzs,hza,_⟩:=sK.zeros (G:=G) (w:=w) (C:=C) hti
   obtain ⟨cs,rfl⟩:=hza rfl
   cases hb:Y6 T F (fun i=>(fs[i]?).bind fun p=>(AM.sizeOf T p.1).map fun k=>(p.2,k)) parts.toList zero with
   | none=>simp [hb] at h
   | some ys =>
    simp [hb] at h; subst h
    have hmap:∀ (l:List Field),∃ places:List (Nat × Nat),((l.mapM fun f=>(do pure (f.offset,<- Go.sizeOf f.type):Sem (Nat × Nat))).run P w=.ok places w\/∃ f∈l,P.info? f.type=none) /\
     ((∀ f∈l,P.info? f.type≠none)->places.length=l.length/\∀ (i:Nat) (f:Field),l[i]?=some f->∃ k,(Go.sizeOf f.type).run P w=.ok k w/\places[i]?=some (f.offset,k)):=by
     intro l
     induction l with
     | nil=>exact ⟨[],.inl rfl,fun _=>⟨rfl,fun i f hf=>by simp at hf⟩⟩
     | cons f l ih =>
      obtain ⟨places,h1,h2⟩:=ih
      cases hfi:P.info? f.type with
      | none=>exact ⟨[],.inr ⟨f,by simp,hfi⟩,fun hall=>absurd hfi (hall f ye_)⟩
      | some i =>
       have hsz:(Go.sizeOf f.type).run P w=.ok i.size w:=by simp [Go.sizeOf,typeInfo,hfi]
       rcases h1 with h1 | ⟨g,hg,hgi⟩
       · refine ⟨(f.offset,i.size) :: places,.inl ?_,fun hall=>?_⟩
         · simp only [List.mapM_cons,Sem.run_bind,hsz,Result.andThen_ok,Sem.run_pure,h1]
         · obtain ⟨h3,h4⟩:=h2 fun g hg=>hall g (by simp [hg])
           refine ⟨by simp [h3],fun j g hg=>?_⟩
           cases j with
           | zero=>simp at hg; subst hg; exact ⟨_,hsz,by simp⟩
           | succ j=>simpa using h4 j g (by simpa using hg)
       · exact ⟨[],.inr ⟨g,by simp [hg],hgi⟩,fun hall=>absurd hgi (hall g (by simp [hg]))⟩
    have hall:∀ f∈fields.toList,P.info? f.type≠none:=hti.fields hu
    obtain ⟨places,h1,h2⟩:=hmap fields.toList
    obtain ⟨h3,h4⟩:=h2 hall
    have h1:(fields.toList.mapM fun f=>(do pure (f.offset,<- Go.sizeOf f.type):Sem (Nat × Nat))).run P w=.ok places w:=by
     rcases h1 with h1 | ⟨g,hg,hgi⟩
     · exact h1
     · exact absurd hgi (hall g hg)
    have hmapA:(fields.mapM fun f=>(do pure (f.offset,<- Go.sizeOf f.type):Sem (Nat × Nat))).run P w=.ok places.toArray w:=by
     rw [Array.mapM_eq_mapM_toList]
     simp only [Sem.run_map,h1,Result.andThen_ok]
    obtain ⟨us,hus,hcf⟩:=sZ (act:=act) hF (place':=fun i=>places.toArray[i]?) (fun i p hp=>by
     rw [<- hm,List.getElem?_map] at hp
     cases hfi:fields.toList[i]? with
     | none=>simp [hfi] at hp
     | some f =>
      obtain ⟨k,hk,hpl⟩:=h4 i f hfi
      simp [hfi] at hp
      obtain ⟨k',hk',rfl⟩:=hp
      obtain ⟨tf,_,hks,hszf⟩:=dR hT hk'
      rw [hszf w] at hk
      simp at hk
      subst hk
      simpa using hpl) hzc hb
    refine ⟨.agg us,?_,.agg _ _ _ hcf.1 (fun i hi=>(hcf.2 i hi).1) fun i hi=>(hcf.2 i hi).2⟩
    simp only [Instr.build,Sem.run_bind,hz,Result.andThen_ok,run_underlying hu,hmapA,Array.toList_map,hus,Sem.run_pure]
 · rename_i n e size bytes zero eqok ht
   have hti:=hT _ _ ht
   have hu:P.underlying t=some (.array n e):=hti.und
   obtain ⟨z,hz,hzc,hzl,hzs,hza,_⟩:=sK.zeros (G:=G) (w:=w) (C:=C) hti
   obtain ⟨cs,rfl⟩:=hza rfl
   split at h
   · rename_i k hk
     obtain ⟨te,hte,hks,hsz⟩:=dR hT hk
     cases hb:Y6 T F (fun i=>some (i * k,k)) parts.toList zero with
     | none=>simp [hb] at h
     | some ys =>
      simp [hb] at h; subst h
      obtain ⟨us,hus,hcf⟩:=sZ (act:=act) hF (place':=fun i=>some (i * k,k)) (fun i p hp=>hp) hzc hb
      refine ⟨.agg us,?_,.agg _ _ _ hcf.1 (fun i hi=>(hcf.2 i hi).1) fun i hi=>(hcf.2 i hi).2⟩
      simp only [Instr.build,Sem.run_bind,hz,Result.andThen_ok,run_underlying hu,hsz,Array.toList_map,hus,Sem.run_pure]
   · simp at h
 · simp at h
end
section
variable {P:Program} {T:TT} {G:Nat->Prop} {w:World} {C:Cx} {F:Fr} {act:Act} {H:Heap}
theorem CF.free {xs:List AV} {vs:Array Value} (h:CF G w C xs vs) (hb:AV.bdds 0 xs=true):CF G w Cx.none xs vs:=⟨h.1,fun i hi=>⟨(h.2 i hi).1,(h.2 i hi).2.free (bI _ hb i hi)⟩⟩
theorem c2K (hH:HR G w C H) {xs:List AV} {vs:Array Value} (h:CF G w Cx.none xs vs) (e:TypeId) (k n:Nat) (hn:xs.length=n * k) :
 VR (fun b=>G b\/b=w.heap.size) (w.alloc (.cells vs e)) C (.sl .clip k (rowsOf k n xs)) (.slice (some ⟨w.heap.size,0,none⟩) n n):=by
 have key:=VR.sl (G:=fun b=>G b\/b=w.heap.size) (w:=w.alloc (.cells vs e)) C .clip (rowsOf k n xs) k ⟨w.heap.size,0,none⟩ n ye_ (by simp [kN]) (by simp [kN])
 rw [kN] at key
 have hb:∀ i j,i < n->j < k->i * k+j < xs.length:=by
  intro i j hi hj
  rw [hn]
  calc i * k+j < i * k+k:=by omega
   _=(i+1) * k:=by rw [Nat.add_mul]; omega
   _<=n * k:=Nat.mul_le_mul_right k ya_
 refine key (fun _=>⟨rfl,.inr rfl⟩) (fun i j=>vs.getD (i * k+j) undef) (fun i hi=>?_) (fun i j hi hj=>?_) (fun i j hi hj=>(h.2 _ (hb i j hi hj)).1) fun i j hi hj=>?_
 · rw [zJ k n i _ hi]
   have:(i+1) * k<=n * k:=Nat.mul_le_mul_right k ya_
   rw [Nat.add_mul] at this
   simp [hn]; omega
 · have:=hb i j hi hj
   rw [World.cell?_alloc_new]
   simp [Array.getD_eq_getD_getElem?,show i * k+j < vs.size by rw [h.1]; exact this]
 · have:=(h.2 _ (hb i j hi hj)).2
   rw [zJ k n i _ hi]
   have e2:((xs.drop (i * k)).take k).getD j .skip=xs.getD (i * k+j) .skip:=by
    simp only [List.getD_eq_getElem?_getD,List.getElem?_take,List.getElem?_drop,if_pos hj]
   rw [e2]
   exact this.mono (fun b hb=>.inl hb) (fun b hb=>Go.RowKit.Below.heap_alloc w _ b (hH.gsz b hb)) (Y5.refl _)
theorem yL {place:Nat->Option (Nat × Nat)}:∀ {parts:List (Nat × Operand)} {xs ys:List AV},Y6 T F place parts xs=some ys->ys.length=xs.length
 | [],xs,ys,h=>by simp [Y6] at h; rw [h]
 | (i,x) :: rest,xs,ys,h=>by
  simp only [Y6] at h
  split at h
  · rename_i o size v hp hv
    split at h
    · rename_i cs hfit
      split at h
      · rename_i hsz
        have hl:cs.length=size:=by
         unfold AV.fit at hfit
         split at hfit
         · split at hfit
           · simp only [Option.some.injEq] at hfit; subst hfit; assumption
           · simp at hfit
         · simp at hfit
         · simp at hfit
         · simp at hfit
         · split at hfit
           · simp only [Option.some.injEq] at hfit; subst hfit; simp; omega
           · simp at hfit
        rw [yL h]
        simp [dI]; omega
      · simp at h
    · simp at h
  · simp at h
theorem a3R (hT:TOk P T) (hF:FrR G w C F act.tmps) (hH:HR G w C H) {t:TypeId} {len:Nat} {parts:Array (Nat × Operand)} {a:AV} (h:evP T F (.buildSlice t len parts)=some a) :
 Out P G w C H (do pure (.value (<- Instr.buildSlice t len (parts.map fun p=>(p.1,act.eval p.2))))) a:=by
 simp only [evP] at h
 split at h
 · rename_i e _ _ _ _ ht
   have hu:P.underlying t=some (.slice e):=(hT _ _ ht).und
   split at h
   · rename_i te hte
     have hte':=hT _ _ hte
     split at h
     · rename_i hsz
       obtain ⟨z,hz,hzc,hzl,hzs,_,_⟩:=sK.zeros (G:=G) (w:=w) (C:=C) hte'
       cases hb:Y6 T F (fun i=>some (i * te.size,te.size)) parts.toList (zeros te.zero len) with
       | none=>simp [hb] at h
       | some ys =>
        simp only [hb,Option.bind_some] at h
        split at h
        · rename_i hfree
          simp only [Option.some.injEq] at h
          subst h
          have hcf0:CF G w C (zeros te.zero len) ((Array.range (len * te.size)).map (z.cells[· % z.cells.size]!)):=by
           refine ⟨by simp [zeros_length,hzl],fun i hi=>?_⟩
           rw [zeros_length] at hi
           rw [a7d _ _ _ hi]
           have hm:i % te.zero.length < te.zero.length:=Nat.mod_lt _ (by rw [hzl]; exact hsz.2)
           have:=hzc.2 _ hm
           rw [hzl] at hi hm this ⊢
           have hi':i < len * te.size:=hi
           have e3:((Array.range (len * te.size)).map (z.cells[· % z.cells.size]!)).getD i undef=z.cells.getD (i % te.size) undef:=by
            rw [Array.getD_eq_getD_getElem?,Array.getElem?_map,Array.getElem?_range,if_pos hi']
            simp only [Option.map_some,Option.getD_some,hzs]
            rw [getElem!_pos _ _ (by rw [hzs]; exact hm),Array.getD_eq_getD_getElem?,Array.getElem?_eq_getElem (by rw [hzs]; exact hm),Option.getD_some]
           rw [e3]
           exact this
          obtain ⟨us,hus,hcf⟩:=sZ (act:=act) hF (place':=fun i=>some (i * te.size,te.size)) (fun i p hp=>hp) hcf0 hb
          refine ⟨_,w.alloc (.cells us e),_,?_,Ev.alloc hH,hH.alloc,c2K hH (hcf.free hfree) e te.size len ?_⟩
          · have hle:¬ len * te.size > 2 ^ 24:=by omega
            have hz0:len * te.size=0->((Array.range (len * te.size)).map ((#[]:Array Value)[· % (#[]:Array Value).size]!))=(Array.range (len * te.size)).map (z.cells[· % z.cells.size]!):=by
             intro h0; rw [h0]; simp
            simp only [Instr.buildSlice,Sem.run_bind,run_underlying hu,Result.andThen_ok,hte'.sizeOf,Sem.run_ite,if_neg hle]
            by_cases hl:len * te.size=0
            · simp only [if_pos hl,Sem.run_pure,Result.andThen_ok,Array.toList_map,hz0 hl,hus]
              simp [newRow]
            · simp only [if_neg hl,Sem.run_bind,hz,Sem.run_pure,Result.andThen_ok,Array.toList_map,hus]
              simp [newRow]
          · rw [yL hb,zeros_length,hzl]
        · simp at h
     · simp at h
   · simp at h
 · simp at h
theorem a0G:∀ {xs:List (List AV)} {l:List UInt8} {cv:Nat->Nat->Value},bytesOf xs=some l->(∀ i j,i < xs.length->j < 1->VR G w Cx.none ((xs.getD i []).getD j .skip) (cv i j)) ->
 ∃ ns:List Int,ns.length=xs.length/\l=ns.map (fun n=>UInt8.ofNat n.toNat)/\∀ i,i < xs.length->cv i 0=.int .u8 (ns.getD i 0)
 | [],l,cv,h,_=>by simp [bytesOf] at h; subst h; exact ⟨[],rfl,rfl,by simp⟩
 | x :: xs,l,cv,h,hv=>by
  unfold bytesOf at h
  split at h
  · simp at *
  · rename_i n xs' heq
    simp only [List.cons.injEq] at heq
    obtain ⟨rfl,rfl⟩:=heq
    cases hb:bytesOf xs with
    | none=>simp [hb] at h
    | some l' =>
     simp [hb] at h; subst h
     obtain ⟨ns,h1,h2,h3⟩:=a0G (cv:=fun i j=>cv (i+1) j) hb fun i j hi hj=>by simpa using hv (i+1) j yg_ hj
     have h0:=hv 0 0 ye_ ya_
     simp at h0
     refine ⟨n :: ns,by simp [h1],by simp [h2],fun i hi=>?_⟩
     cases i with
     | zero=>generalize hc:cv 0 0=c at h0; cases h0; simp
     | succ i=>simpa using h3 i yb_
  · simp at h
theorem a4V:∀ (ns:List Int) (s:ByteArray),ns.foldl (fun r n=>r.push (UInt8.ofNat n.toNat)) s=⟨s.data++(ns.map fun n=>UInt8.ofNat n.toNat).toArray⟩
 | [],s=>by simp
 | n :: ns,s=>by
  rw [List.foldl_cons,a4V ns]
  simp [ByteArray.push]
theorem a4X (hT:TOk P T) {src dst:TypeId} {x a:AV} {u:Value} (hx:VR G w C x u) (h:wC T src dst x=some a) (hsrc:∃ ti,T src=some ti):∃ v,(Go.convert src dst u).run P w=.ok v w/\VR G w C a v:=by
 obtain ⟨ts,hts⟩:=hsrc
 have hsd:∃ ds,P.underlying src=some ds:=by
  have:=(hT _ _ hts).und
  revert this
  generalize ts.d=d
  intro hu
  cases d <;> simp only [b2H] at hu <;> first | exact ⟨_,hu⟩ | exact ⟨_,hu.choose_spec.1⟩ | exact ⟨_,hu.choose_spec⟩ | exact ⟨_,hu.choose_spec.choose_spec.choose_spec⟩
 obtain ⟨ds,hds⟩:=hsd
 unfold wC at h
 split at h
 · rename_i k _ _ _ _ _ n hs1 hd
   simp only [Option.some.injEq] at h
   subst h
   have hdu:P.underlying dst=some (.int k):=(hT _ _ hd).und
   cases hx
   refine ⟨.int k (k.wrap n),?_,.int ..⟩
   simp only [Go.convert,Sem.run_bind,run_underlying hds,run_underlying hdu,Result.andThen_ok,Conv.intToInt,Sem.run_pure]
 · rename_i s hs1 hd
   simp only [Option.some.injEq] at h
   subst h
   have hdu:P.underlying dst=some .string:=(hT _ _ hd).und
   cases hx
   refine ⟨.string s,?_,.str ..⟩
   simp only [Go.convert,Sem.run_bind,run_underlying hds,run_underlying hdu,Result.andThen_ok,Sem.run_pure]
 · rename_i e _ _ _ _ _ _ _ _ g k xs hs hd
   have hsu:P.underlying src=some (.slice e):=(hT _ _ hs).und
   have hdu:P.underlying dst=some .string:=(hT _ _ hd).und
   split at h
   · rename_i he
     have heu:P.underlying e=some (.int .u8):=(hT _ _ he).und
     split at h
     · rename_i hk1
       cases hb:bytesOf xs with
       | none=>simp [hb] at h
       | some l =>
        simp [hb] at h; subst h
        cases hx with
        | nils =>
         simp [bytesOf] at hb; subst hb
         refine ⟨.string ByteArray.empty,?_,.str ..⟩
         simp [Go.convert,run_underlying hsu,run_underlying hdu,run_underlying heu,Conv.bytesToString]
        | sl _ _ _ _ ad cap hg hclip hle hs' cv hkk hc h1c hv =>
         have hk2:k=1\/xs=[]:=by simpa using hk1
         obtain ⟨ns,h1,h2,h3⟩:=a0G (cv:=cv) hb fun i j hi hj=>by
          rcases hk2 with rfl | rfl
          · exact hv i j hi hj
          · simp at hi
         have hload:(loadCells ad xs.length).run P w=.ok (ns.map (Value.int .u8)).toArray w:=by
          rw [run_loadCells w ad xs.length (fun j=>.int .u8 (ns.getD j 0))]
          · congr 2
            apply List.ext_getElem
            · simp [h1]
            · intro i hi1 hi2
              simp [List.getD_eq_getElem?_getD,show i < ns.length by simpa using hi2]
          · intro j hj
            have hne:xs≠[]:=by intro e; simp [e] at hj
            obtain ⟨h4,h5⟩:=hs' hne
            obtain rfl:=hk2.resolve_right hne
            obtain ⟨ab,ao,asp⟩:=ad
            simp only at h4
            subst h4
            rw [Z6,<- h3 j hj]
            simpa using hc j 0 hj ya_
         refine ⟨_,?_,.str ..⟩
         simp only [Go.convert,Sem.run_bind,run_underlying hsu,run_underlying hdu,run_underlying heu,Result.andThen_ok]
         rw [run_bytesToString w ad xs.length cap ns hload,a4V]
         subst h2
         simp
     · simp at h
   · simp at h
 · simp at h
end
section
variable {P:Program} {T:TT} {G:Nat->Prop} {w:World} {C:Cx} {F:Fr} {act:Act} {H:Heap}
theorem Out.of {s:Sem Value} {a:AV} (hH:HR G w C H) (h:∃ v,s.run P w=.ok v w/\VR G w C a v):Out P G w C H (do pure (.value (<- s))) a:=by
 obtain ⟨v,h1,h2⟩:=h
 exact .still hH (by simp [h1]) h2
theorem c4B (hT:TOk P T) (hF:FrR G w C F act.tmps) (hH:HR G w C H) {o:Oper} {a:AV} (h:evP T F o.op=some a):Out P G w C H (execOp act.eval o) a:=by
 cases hop:o.op with
 | move x=>rw [hop] at h; simp only [evP] at h; exact .still hH (by simp [execOp,hop]) (H8 hF h)
 | assign x=>rw [hop] at h; simp only [evP] at h; exact .still hH (by simp [execOp,hop]) (H8 hF h)
 | pick c x y =>
  rw [hop] at h
  simp only [evP] at h
  split at h
  · rename_i b hc
    have hcb:=H8 (act:=act) hF hc
    generalize hce:act.eval c=cv at hcb
    cases hcb
    have hrun:(execOp act.eval o).run P w=.ok (.value (if b then act.eval x else act.eval y)) w:=by
     simp [execOp,hop,hce,asBool]
    refine .still hH hrun ?_
    split at h
    · rename_i p q hx hy
      simp only [Option.some.injEq] at h
      subst h
      have h1:=H8 (act:=act) hF hx
      have h2:=H8 (act:=act) hF hy
      cases b
      · simpa using h2
      · simpa using h1
    · cases b
      · exact H8 hF h
      · exact H8 hF h
  · simp at h
 | nilCheck x =>
  rw [hop] at h
  simp only [evP] at h
  split at h
  · rename_i v hv
    cases hn:isNil v with
    | none=>simp [hn] at h
    | some b =>
     cases b
     · simp [hn] at h; subst h
       have:=H8 (act:=act) hF hv
       refine .still hH ?_ this
       generalize hxe:act.eval x=u at this
       simp only [execOp,hop,hxe]
       cases this <;> simp [isNil] at hn <;> rfl
     · simp [hn] at h
  · simp at h
 | binOp op t x y ty =>
  rw [hop] at h
  simp only [evP] at h
  have key:∀ {p q:AV},opv F x=some p->opv F y=some q->a4Y T op t p q=some a->(p=.nili->q=.nili->isConst x=true\/isConst y=true)->Out P G w C H (execOp act.eval o) a:=by
   intro p q hx hy hb hc
   have:=Out.of hH (b3N hT (op:=op) (t:=t) (H8 (act:=act) hF hx) (H8 (act:=act) hF hy) hb hc)
   simpa only [execOp,hop] using this
  split at h
  · rename_i hx hy
    split at h
    · rename_i hc
      exact key hx hy h fun _ _=>by simpa using hc
    · simp at h
  · rename_i p q hne hx hy
    refine key hx hy h fun e1 e2=>?_
    exact absurd e2 (fun e2=>hne e1 e2)
  · simp at h
 | unOp op t x =>
  rw [hop] at h
  simp only [evP] at h
  cases hx:opv F x with
  | none=>simp [hx] at h
  | some p =>
   simp only [hx,Option.bind_some] at h
   have hp:=H8 (act:=act) hF hx
   have:∃ v,(Op.unary op (act.eval x)).run P w=.ok v w/\VR G w C a v:=by
    unfold d6P at h
    split at h
    · simp only [Option.some.injEq] at h; subst h
      generalize act.eval x=u at hp
      cases hp
      exact ⟨_,rfl,.bool ..⟩
    · simp only [Option.some.injEq] at h; subst h
      generalize act.eval x=u at hp
      cases hp
      exact ⟨_,rfl,.int ..⟩
    · simp at h
   have:=Out.of hH this
   simpa only [execOp,hop] using this
 | convert src dst x =>
  rw [hop] at h
  simp only [evP] at h
  cases hx:opv F x with
  | none=>simp [hx] at h
  | some p =>
   simp only [hx,Option.bind_some] at h
   have hsrc:∃ ti,T src=some ti:=by
    cases ht:T src with
    | some ti=>exact ⟨ti,rfl⟩
    | none=>simp [wC,ht] at h
   have:=Out.of hH (a4X hT (H8 (act:=act) hF hx) h hsrc)
   simpa only [execOp,hop] using this
 | makeInterface t x =>
  rw [hop] at h
  simp only [evP] at h
  split at h
  · simp at h
  · rename_i ti v hni ht hx
    simp only [Option.some.injEq] at h
    subst h
    have:∃ u,(Instr.makeInterface t (act.eval x)).run P w=.ok u w/\VR G w C (.iface t v) u:=by
     refine ⟨.iface t (act.eval x),?_,.iface _ _ _ _ (H8 hF hx)⟩
     have hu:=(hT _ _ ht).und
     revert hu
     cases htd:ti.d with
     | iface=>obtain ⟨d,s,b,z⟩:=ti; simp at htd; subst htd; exact absurd rfl (hni _ _ _ _)
     | struct fs=>intro hu; obtain ⟨f,hf,_⟩:=hu; simp [Instr.makeInterface,run_underlying hf]
     | func=>intro hu; obtain ⟨p,q,r,hf⟩:=hu; simp [Instr.makeInterface,run_underlying hf]
     | other =>
      intro hu
      obtain ⟨d,hf,h1,h2,h3⟩:=hu
      simp only [Instr.makeInterface,Sem.run_bind,run_underlying hf,Result.andThen_ok]
      cases d <;> first | rfl | exact absurd rfl (h3 _)
     | _=>intro hu; simp only [b2H] at hu; simp [Instr.makeInterface,run_underlying hu]
    have:=Out.of hH this
    simpa only [execOp,hop] using this
  · simp at h
 | makeFunc fn first captured =>
  rw [hop] at h
  cases fn with
  | func f =>
   simp only [evP] at h
   cases hl:rR F (first.toList++captured.toList) with
   | none=>simp [hl] at h
   | some l =>
    simp only [hl,Option.bind_some] at h
    split at h
    · rename_i hfe
      simp only [Option.some.injEq] at h
      subst h
      have hfe':first = #[]:=by simpa using hfe
      subst hfe'
      obtain ⟨h1,h2⟩:=zR (act:=act) hF hl
      have:∃ u,(Instr.makeFunc (.func f) ((#[]:Array Operand).map act.eval) (captured.map act.eval)).run P w=.ok u w/\VR G w C (.func f l) u:=by
       refine ⟨.func (.func f) #[] (captured.map act.eval),by simp [Instr.makeFunc],.func _ _ _ _ yf_ fun i hi=>?_⟩
       have:=h2 i hi
       simpa [Array.getD_eq_getD_getElem?,List.getD_eq_getElem?_getD] using this
      have:=Out.of hH this
      simpa only [execOp,hop] using this
    · simp at h
  | _=>simp [evP] at h
 | slice t x lo hi mx =>
  rw [hop] at h
  simp only [evP] at h
  split at h
  · simp at h
  · rename_i hmx
    have hhi:mx≠none->hi≠none:=by
     intro h1 h2
     cases mx with
     | none=>exact h1 rfl
     | some m=>simp [h2] at hmx
    split at h
    · rename_i ht
      cases hx:opv F x with
      | none=>simp [hx] at h
      | some p =>
       simp only [hx,Option.bind_some] at h
       have:=Out.of hH (a2I hT hF ht rfl (H8 (act:=act) hF hx) h)
       simpa only [execOp,hop] using this
    · rename_i e _ _ _ _ ht
      cases hk:AM.sizeOf T e with
      | none=>simp [hk] at h
      | some k =>
       cases hx:opv F x with
       | none=>simp [hk,hx] at h
       | some p =>
        simp only [hk,hx,Option.bind_some] at h
        have:=Out.of hH (a3G hT hF ht rfl hk (H8 (act:=act) hF hx) h hhi)
        simpa only [execOp,hop] using this
    · simp at h
 | fieldAddr s x f =>
  rw [hop] at h
  simp only [evP] at h
  cases hx:opv F x with
  | none=>simp [hx] at h
  | some p =>
   simp only [hx,Option.bind_some] at h
   have:=Out.of hH (a2K hT (H8 (act:=act) hF hx) h)
   simpa only [execOp,hop] using this
 | field s x f =>
  rw [hop] at h
  simp only [evP] at h
  split at h
  · rename_i t o' cs hf hx
    have hp:=H8 (act:=act) hF hx
    have:∃ v,(Instr.field s (act.eval x) f).run P w=.ok v w/\VR G w C a v:=by
     generalize act.eval x=u at hp
     cases hp with
     | agg _ _ vs hs h1 hv =>
      obtain ⟨v,hv1,hv2⟩:=a4L (P:=P) hT h hs h1 hv
      unfold a2w at hf
      split at hf
      · rename_i fs _ _ _ _ hts
        obtain ⟨fields,hu,hm,_⟩:=(hT _ _ hts).und
        rw [<- hm,List.getElem?_map] at hf
        cases hg:fields.toList[f]? with
        | none=>simp [hg] at hf
        | some fl =>
         simp [hg] at hf
         obtain ⟨rfl,rfl⟩:=hf
         have hg':fields[f]?=some fl:=by simpa using hg
         exact ⟨v,by simp [Instr.field,run_underlying hu,hg',asAgg,hv1],hv2⟩
      · simp at hf
    have:=Out.of hH this
    simpa only [execOp,hop] using this
  · simp at h
 | indexAddr t x i =>
  rw [hop] at h
  simp only [evP] at h
  split at h
  · rename_i p k n hx hi
    have hp:=H8 (act:=act) hF hi
    generalize hie:act.eval i=u at hp
    cases hp
    have:=Out.of hH (a2J hT (k:=k) (H8 (act:=act) hF hx) h)
    simpa only [execOp,hop,hie] using this
  · simp at h
 | index t x i =>
  rw [hop] at h
  simp only [evP] at h
  split at h
  · rename_i p k n hx hi
    have hp:=H8 (act:=act) hF hi
    generalize hie:act.eval i=u at hp
    cases hp
    have:=Out.of hH (a8z hT (k:=k) (H8 (act:=act) hF hx) h)
    simpa only [execOp,hop,hie] using this
  · simp at h
 | extract x i =>
  rw [hop] at h
  simp only [evP] at h
  split at h
  · rename_i vs hx
    have hp:=H8 (act:=act) hF hx
    have:∃ v,(Instr.extract (act.eval x) i).run P w=.ok v w/\VR G w C a v:=by
     generalize act.eval x=u at hp
     cases hp with
     | tup _ _ us hs hv =>
      have hi:i < vs.length:=by
       rcases Nat.lt_or_ge i vs.length with h' | h'
       · exact h'
       · rw [List.getElem?_eq_none h'] at h; simp at h
      have:=hv i hi
      refine ⟨us.getD i undef,?_,by simpa [List.getD_eq_getElem?_getD,h] using this⟩
      have hlt:i < us.size:=by omega
      simp [Instr.extract,Array.getD_eq_getD_getElem?,Array.getElem?_eq_getElem hlt]
    have:=Out.of hH this
    simpa only [execOp,hop] using this
  · simp at h
 | build t parts =>
  rw [hop] at h
  have:=Out.of hH (b4m hT (act:=act) hF h)
  simpa only [execOp,hop] using this
 | buildSlice t len parts =>
  rw [hop] at h
  have:=a3R hT (act:=act) hF hH h
  simpa only [execOp,hop] using this
 | load t x =>
  rw [hop] at h
  simp only [evP] at h
  split at h
  · rename_i cs c hx
    have:=Out.of hH (yG hT (H8 (act:=act) hF hx) h)
    simpa only [execOp,hop] using this
  · simp at h
 | call c =>
  rw [hop] at h
  obtain ⟨callee,args,argTypes⟩:=c
  cases callee with
  | builtin b =>
   cases b with
   | len =>
    simp only [evP] at h
    split at h
    · rename_i x t hx ht
      have hxa:args = #[x]:=Array.ext' hx
      have hta:argTypes = #[t]:=Array.ext' ht
      subst hxa hta
      have key:∀ (n:Nat),(Builtin.len_ #[t] o.type #[act.eval x]).run P w=.ok (.int .i64 n) w->a=.int .i64 n->Out P G w C H (execOp act.eval o) a:=by
       intro n h1 h2
       subst h2
       have:=Out.of hH ⟨_,h1,VR.int C .i64 n⟩
       simpa [execOp,hop,resolve,invoke,builtin] using this
      split at h
      · rename_i s hts hxs
        simp only [Option.some.injEq] at h
        have hp:=H8 (act:=act) hF hxs
        have hu:P.underlying t=some .string:=(hT _ _ hts).und
        refine key _ ?_ h.symm
        generalize act.eval x=u at hp
        cases hp
        simp [Builtin.len_,run_underlying hu,goInt]
      · rename_i g k xs hts hxs
        simp only [Option.some.injEq] at h
        have hp:=H8 (act:=act) hF hxs
        have hu:P.underlying t=some (.slice _):=(hT _ _ hts).und
        refine key _ ?_ h.symm
        generalize act.eval x=u at hp
        cases hp <;> simp [Builtin.len_,run_underlying hu,goInt]
      · rename_i id g k e n hts hxs
        simp only [Option.some.injEq] at h
        have hp:=H8 (act:=act) hF hxs
        have hu:P.underlying t=some (.slice _):=(hT _ _ hts).und
        refine key _ ?_ h.symm
        generalize act.eval x=u at hp
        cases hp <;> simp [Builtin.len_,run_underlying hu,goInt]
      · simp at h
    · simp at h
   | max =>
    simp only [evP] at h
    split at h
    · rename_i x y hx
      have hxa:args = #[x,y]:=Array.ext' hx
      subst hxa
      split at h
      · rename_i k m k' n h1 h2
        simp only [Option.some.injEq] at h
        subst h
        have hp:=H8 (act:=act) hF h1
        have hq:=H8 (act:=act) hF h2
        have:∃ v,(Builtin.max_ argTypes o.type #[act.eval x,act.eval y]).run P w=.ok v w/\VR G w C (.int k (if n > m then n else m)) v:=by
         generalize act.eval x=u at hp
         generalize act.eval y=v at hq
         cases hp
         cases hq
         exact ⟨.int k (if n > m then n else m),by simp [Builtin.max_,Builtin.max2],.int ..⟩
        have:=Out.of hH this
        simpa [execOp,hop,resolve,invoke,builtin] using this
      · simp at h
    · simp at h
   | min =>
    simp only [evP] at h
    split at h
    · rename_i x y hx
      have hxa:args = #[x,y]:=Array.ext' hx
      subst hxa
      split at h
      · rename_i k m k' n h1 h2
        simp only [Option.some.injEq] at h
        subst h
        have hp:=H8 (act:=act) hF h1
        have hq:=H8 (act:=act) hF h2
        have:∃ v,(Builtin.min_ argTypes o.type #[act.eval x,act.eval y]).run P w=.ok v w/\VR G w C (.int k (if n < m then n else m)) v:=by
         generalize act.eval x=u at hp
         generalize act.eval y=v at hq
         cases hp
         cases hq
         exact ⟨.int k (if n < m then n else m),by simp [Builtin.min_,Builtin.min2],.int ..⟩
        have:=Out.of hH this
        simpa [execOp,hop,resolve,invoke,builtin] using this
      · simp at h
    · simp at h
   | _=>simp [evP] at h
  | value f=>simp [evP] at h
  | invoke r n=>simp [evP] at h
 | _=>rw [hop] at h; simp [evP] at h
end
def Pd (S:Nat->Prop) (C:Cx) (H:Heap) (C':Cx) (H':Heap):Prop :=
 H.length<=H'.length/\∀ id,id < H.length->S id->C.ι id=none->C'.ι id=none/\C'.γ id=C.γ id/\H'[id]?=H[id]?
theorem Pd.refl {S:Nat->Prop} {C:Cx} {H:Heap}:Pd S C H C H:=⟨Nat.le_refl _,fun _ _ _ h=>⟨h,rfl,rfl⟩⟩
theorem Pd.trans {S:Nat->Prop} {C C' C'':Cx} {H H' H'':Heap} (h:Pd S C H C' H') (k:Pd S C' H' C'' H''):Pd S C H C'' H'' :=
 ⟨Nat.le_trans h.1 k.1,fun id hl hs hi=>by
  obtain ⟨h1,h2,h3⟩:=h.2 id hl hs hi
  obtain ⟨k1,k2,k3⟩:=k.2 id (Nat.lt_of_lt_of_le hl h.1) hs h1
  exact ⟨k1,k2.trans h2,k3.trans h3⟩⟩
theorem Pd.weaken {S S':Nat->Prop} {C C':Cx} {H H':Heap} (h:Pd S C H C' H') (hs:∀ id,S' id->S id):Pd S' C H C' H':=⟨h.1,fun id hl h'=>h.2 id hl (hs id h')⟩
def V5:Nat->Prop:=fun _=>True
section
variable {P:Program} {T:TT} {G G':Nat->Prop} {w w':World} {C C':Cx} {F:Fr} {act:Act} {H H':Heap}
theorem ObR.ev {o:Ob} {l:Loc} (h:ObR G w C o l) (e:Ev G w C G' w' C') (hb:∀ b,l.b=some b->w'.heap[b]?=w.heap[b]?):ObR G' w' C' o l:=by
 obtain ⟨hk,hrm,hno,hlen,hrow,hcs⟩:=h
 refine ⟨hk,hrm,hno,hlen,hrow,fun b hlb=>?_⟩
 obtain ⟨cs,t,hc,hcs,hcell⟩:=hcs b hlb
 exact ⟨cs,t,(hb b hlb).trans hc,hcs,fun i j hi hj=>⟨(hcell i j hi hj).1,(hcell i j hi hj).2.ev e⟩⟩
theorem HR.upd (h:HR G w C H) (id:Nat) (o':Ob)
 (hos:w'.os=w.os) (htape:w'.tape=w.tape) (hout:w'.output=w.output)
 (hC:∀ j,j≠id->C'.ι j=C.ι j/\C'.γ j=C.γ j) (hγ:C.γ id<=C'.γ id) (hι:C'.γ id=C.γ id->∀ l,C.ι id=some l->C'.ι id=some l)
 (hH:∀ j,j≠id->H'[j]?=H[j]?) (hid:H'[id]?=some o') (hlen:H.length<=H'.length) (hle:id<=H.length) (hgen:o'.gen=C'.γ id)
 (hG:∀ b,G b->G' b) (hG':∀ b,G' b->G b\/(∃ l,C.ι id=some l/\l.b=some b)\/w.heap.size<=b)
 (hw:∀ b,b < w.heap.size->(∀ l,C.ι id=some l->l.b≠some b)->w'.heap[b]?=w.heap[b]?) (hsz:w.heap.size<=w'.heap.size) (hGs:∀ b,G' b->b < w'.heap.size)
 (hown:∀ l' b,C'.ι id=some l'->l'.b=some b->(∃ l,C.ι id=some l/\l.b=some b)\/w.heap.size<=b)
 (hfrz:∀ a,w'.frozen? a=w.frozen? a)
 (hob:∀ l',C'.ι id=some l'->(∀ b,l'.b=some b->b < w'.heap.size/\¬ G' b/\(∀ j,j≠id->∀ l,C.ι j=some l->l.b≠some b))/\ObR G' w' C' o' l') :
 Ev G w C G' w' C'/\HR G' w' C' H':=by
 have hidlt:id < H'.length:=by
  rcases Nat.lt_or_ge id H'.length with h' | h'
  · exact h'
  · rw [List.getElem?_eq_none h'] at hid; simp at hid
 have hev:Ev G w C G' w' C':=by
  refine ⟨hos,htape,hout,hsz,hG,fun b hb=>hw b (h.gsz b hb) fun l hl e=>(h.own id l b hl e).2 hb,fun j=>?_,fun b hb hn=>hw b hb fun l hl e=>hn id l hl e,
   fun b hb=>(hG' b hb).imp (fun h=>h) fun h=>h.imp (fun ⟨l,hl,e⟩=>⟨id,l,hl,e⟩) fun h=>h,fun j l b hl hlb=>?_,hfrz⟩
  · by_cases e:j=id
    · subst e; exact ⟨hγ,hι⟩
    obtain ⟨h1,h2⟩:=hC j e
    exact ⟨Nat.le_of_eq h2.symm,fun _ l hl=>by rw [h1]; exact hl⟩
  · by_cases e:j=id
    · subst e
      exact (hown l b hl hlb).imp (fun ⟨l0,hl0,e⟩=>⟨j,l0,hl0,e⟩) fun h=>h
    · rw [(hC j e).1] at hl
      exact .inl ⟨j,l,hl,hlb⟩
 have hkept:∀ j,j≠id->∀ l,C.ι j=some l->∀ b,l.b=some b->w'.heap[b]?=w.heap[b]?:=fun j hj l hl b hlb=>hw _ (h.own j l b hl hlb).1 fun l2 hl2 e=>hj (h.inj _ _ _ _ b hl hl2 hlb e)
 refine ⟨hev,fun j o ho=>?_,fun j hj=>?_,fun j l b hl hlb=>?_,fun i j l l2 b hi hj e1b e2b=>?_,fun j o l ho hl=>?_,hGs⟩
 · by_cases e:j=id
   · subst e; rw [hid] at ho; cases ho; exact hgen
   · rw [hH j e] at ho; rw [(hC j e).2]; exact h.gen j o ho
 · have e:j≠id:=by omega
   rw [(hC j e).1,(hC j e).2]
   exact h.out j ya_
 · by_cases e:j=id
   · subst e; exact ⟨((hob l hl).1 b hlb).1,((hob l hl).1 b hlb).2.1⟩
   · rw [(hC j e).1] at hl
     obtain ⟨h1,h2⟩:=h.own j l b hl hlb
     refine ⟨by omega,fun hg=>?_⟩
     rcases hG' _ hg with hg | ⟨l2,hl2,hb⟩ | hg
     · exact h2 hg
     · exact e (h.inj _ _ _ _ b hl hl2 hlb hb)
     · omega
 · by_cases e1:i=id
   · by_cases e2:j=id
     · omega
     · subst e1
       rw [(hC j e2).1] at hj
       exact absurd e2b (((hob l hi).1 b e1b).2.2 j e2 l2 hj)
   · by_cases e2:j=id
     · subst e2
       rw [(hC i e1).1] at hi
       exact absurd e1b (((hob l2 hj).1 b e2b).2.2 i e1 l hi)
     · rw [(hC i e1).1] at hi
       rw [(hC j e2).1] at hj
       exact h.inj _ _ _ _ b hi hj e1b e2b
 · by_cases e:j=id
   · subst e; rw [hid] at ho; cases ho; exact (hob l hl).2
   · rw [hH j e] at ho
     rw [(hC j e).1] at hl
     exact (h.ob j o l ho hl).ev hev (hkept j e l hl)
theorem HR.lt (h:HR G w C H) {id:Nat} {l:Loc} (hl:C.ι id=some l):id < H.length:=by
 rcases Nat.lt_or_ge id H.length with h' | h'
 · exact h'
 · rw [(h.out id h').2] at hl; simp at hl
def Cx.lay (C:Cx) (id:Nat) (l:Option Loc) (g:Nat):Cx:=⟨fun j=>if j=id then l else C.ι j,fun j=>if j=id then g else C.γ j⟩
theorem Cx.U3 (C:Cx) (id:Nat) (l:Option Loc) (g:Nat):(C.lay id l g).ι id=l:=by simp [Cx.lay]
theorem Cx.bG (C:Cx) (id:Nat) (l:Option Loc) (g:Nat):(C.lay id l g).γ id=g:=by simp [Cx.lay]
theorem Cx.L6 (C:Cx) (id:Nat) (l:Option Loc) (g:Nat) {j:Nat} (h:j≠id):(C.lay id l g).ι j=C.ι j/\(C.lay id l g).γ j=C.γ j:=by simp [Cx.lay,h]
theorem HR.add (h:HR G w C H) (al:Heap) (hg:∀ o∈al,o.gen=0):HR G w C (H++al):=by
 refine ⟨fun id o ho=>?_,fun id hid=>h.out id (by simp at hid; omega),h.own,h.inj,fun id o l ho hl=>?_,h.gsz⟩
 · rcases Nat.lt_or_ge id H.length with h' | h'
   · rw [List.getElem?_append_left h'] at ho; exact h.gen id o ho
   · rw [List.getElem?_append_right h'] at ho
     rw [(h.out id h').1]
     exact hg _ (List.mem_of_getElem? ho)
 · have:=h.lt hl
   rw [List.getElem?_append_left this] at ho
   exact h.ob id o l ho hl
theorem a0q:∀ {ops:List Oper} {al:Heap},iK T ops=some al->∀ o∈al,o.gen=0
 | [],al,h=>by simp [iK] at h; subst h; simp
 | o :: os,al,h=>by
  unfold iK at h
  split at h
  · split at h
    · rename_i ti l _ hl
      simp only [Option.some.injEq] at h
      subst h
      intro x hx
      simp only [List.mem_cons] at hx
      rcases hx with rfl | hx
      · rfl
      · exact a0q hl x hx
    · simp at h
  · exact a0q h
theorem HR.made (h:HR G w C H) (id:Nat) (k:Nat) (els:List (List AV)) (cells:Array Value) (e:TypeId)
 (hdr:w'.heap=(w.alloc (.cells cells e (0,0))).heap) (hos:w'.os=w.os) (htape:w'.tape=w.tape) (hout:w'.output=w.output)
 (room g:Nat) (hroom:els.length<=room) (hcs:room * k<=cells.size) (hrow:∀ i,i < els.length->(els.getD i []).length=k)
 (hg:C.γ id<=g) (hgι:g=C.γ id->C.ι id=none)
 (hH:∀ j,j≠id->H'[j]?=H[j]?) (hid:H'[id]?=some ⟨g,k,els,none⟩) (hlen:H.length<=H'.length) (hle:id<=H.length)
 (hcell:∀ i j,i < els.length->j < k->(cells.getD (i * k+j) undef).oneCell'=true/\VR G w C ((els.getD i []).getD j .skip) (cells.getD (i * k+j) undef)) :
 Ev G w C G w' (C.lay id (some ⟨some w.heap.size,0,k,room⟩) g)/\HR G w' (C.lay id (some ⟨some w.heap.size,0,k,room⟩) g) H':=by
 have hnew:w'.heap[w.heap.size]?=some (.cells cells e (0,0)):=by rw [hdr]; exact heap_alloc_new w _
 have hold:∀ b,b < w.heap.size->w'.heap[b]?=w.heap[b]?:=fun b hb=>by rw [hdr]; exact heap_alloc_old w _ hb
 have hfr:∀ a,w'.frozen? a=w.frozen? a:=fun a=>by
  rw [<- Go.RowKit.frozen?_alloc_cells w cells e a]
  unfold World.frozen?
  rw [hdr]
 have hsz:w'.heap.size=w.heap.size+1:=by rw [hdr]; simp
 have hCle:Y5 C (C.lay id (some ⟨some w.heap.size,0,k,room⟩) g):=fun j=>by
  by_cases e:j=id
  · subst e
    rw [Cx.bG,Cx.U3]
    refine ⟨hg,fun e l hl=>?_⟩
    rw [hgι e] at hl; simp at hl
  · rw [(Cx.L6 _ _ _ _ e).1,(Cx.L6 _ _ _ _ e).2]; exact ⟨Nat.le_refl _,fun _ _ h=>h⟩
 have hev:Mv G w C G w' (C.lay id (some ⟨some w.heap.size,0,k,room⟩) g):=⟨fun _ h=>h,fun b hb=>hold b (h.gsz b hb),hCle⟩
 refine h.upd (G':=G) id ⟨g,k,els,none⟩ hos htape hout (fun j hj=>Cx.L6 _ _ _ _ hj) (by rw [Cx.bG]; exact hg) (fun e l hl=>?_) hH hid hlen hle (by rw [Cx.bG]) (fun _ h=>h) (fun b hb=>.inl hb)
  (fun b hb _=>hold b hb) ya_ (fun b hb=>by have:=h.gsz b hb; omega) (fun l' b hl' hlb=>?_) hfr fun l' hl'=>?_
 · rw [Cx.bG] at e
   rw [hgι e] at hl; simp at hl
 · rw [Cx.U3] at hl'
   simp only [Option.some.injEq] at hl'
   subst hl'
   simp only [Option.some.injEq] at hlb
   exact .inr ya_
 · rw [Cx.U3] at hl'
   simp only [Option.some.injEq] at hl'
   subst hl'
   refine ⟨fun b hb=>?_,rfl,fun r hr=>by simp at hr,fun hn=>by simp at hn,hroom,hrow,fun b hb=>⟨cells,e,?_,by simp; omega,fun i j hi hj=>?_⟩⟩
   · simp only [Option.some.injEq] at hb
     subst hb
     refine ⟨by omega,fun hb=>?_,fun j hj l hl e=>?_⟩
     · have:=h.gsz _ hb; simp at this
     · have:=(h.own j l _ hl e).1; omega
   · simp only [Option.some.injEq] at hb
     subst hb
     exact hnew
   · have:=hcell i j hi hj
     simp only [Nat.zero_add]
     exact ⟨this.1,this.2.mv hev⟩
end
theorem a2i {α:Type} (l vs:List α) (o i:Nat) (d:α) (h:o+vs.length<=l.length) :
 (l.take o++vs++l.drop (o+vs.length)).getD i d=if o<=i/\i < o+vs.length then vs.getD (i - o) d else l.getD i d:=by
 simp only [List.getD_eq_getElem?_getD]
 by_cases h1:i < o
 · rw [List.append_assoc,List.getElem?_append_left yg_,List.getElem?_take,if_pos h1,if_neg ya_]
 · by_cases h2:i < o+vs.length
   · rw [List.append_assoc,List.getElem?_append_right yg_,List.getElem?_append_left yg_,if_pos ya_]
     simp [show min o l.length=o by omega]
   · rw [List.append_assoc,List.getElem?_append_right yg_,List.getElem?_append_right yg_,if_neg ya_,List.getElem?_drop]
     simp only [List.length_take,show min o l.length=o by omega]
     congr 2
     omega
theorem kD {i e j k:Nat} (h:i < e) (hj:j < k):i * k+j < e * k:=by
 have:(i+1) * k<=e * k:=Nat.mul_le_mul_right k h
 rw [Nat.add_mul] at this
 omega
theorem rU (w:World) (g:Nat) (cur cs:Array Value) (t:TypeId) (fr:Nat × Nat) (hg:w.heap[g]?=some (.cells cur t fr)) (a:Addr):(w.setRow g cs).frozen? a=w.frozen? a:=by
 unfold World.frozen?
 by_cases h:a.block=g
 · rw [h,setRow_heap w g cur cs t fr hg,hg]
 · rw [setRow_other w g a.block cs h]
section
variable {P:Program} {T:TT} {G G':Nat->Prop} {w w':World} {C C':Cx} {F:Fr} {act:Act} {H H':Heap}
theorem zK (hH:HR G w C H) {id g e c:Nat} {u:Value} {cs:List AV} (hu:VR G w C (.obj id g e c) u) (h:rowAt H id g e=some cs) :
 ∃ o l b,H[id]?=some o/\o.gen=g/\e < o.els.length/\o.els.getD e []=cs/\C.ι id=some l/\l.b=some b/\C.γ id=g/\u=.pointer (some ⟨b,l.sh+e * l.k+c,none⟩)/\ObR G w C o l:=by
 unfold rowAt at h
 split at h
 · rename_i o ho
   split at h
   · rename_i hg
     have hlt:e < o.els.length:=by
      rcases Nat.lt_or_ge e o.els.length with h' | h'
      · exact h'
      · rw [List.getElem?_eq_none h'] at h; simp at h
     cases hu with
     | obj _ _ _ _ _ ad hle hl =>
      have hγ:=hH.gen id o ho
      obtain ⟨l,b,hι,hlb,rfl⟩:=hl ya_
      exact ⟨o,l,b,ho,hg,hlt,by simp [List.getD_eq_getElem?_getD,h],hι,hlb,by omega,rfl,hH.ob id o l ho hι⟩
   · simp at h
 · simp at h
theorem a8u (hT:TOk P T) {t:TypeId} {cs:List AV} {c:Nat} {a:AV} {b o:Nat} (cv:Nat->Value) (hc:∀ j,j < cs.length->w.cell? ⟨b,o+j,none⟩=some (cv j)) (h1:∀ j,j < cs.length->(cv j).oneCell'=true)
 (hv:∀ j,j < cs.length->VR G w C (cs.getD j .skip) (cv j)) (h:AM.part T t cs c=some a):∃ v,(Instr.loadAt t (.pointer (some ⟨b,o+c,none⟩))).run P w=.ok v w/\VR G w C a v:=by
 unfold AM.part at h
 split at h
 · simp at h
 · rename_i ti ht
   have hti:=hT t ti ht
   simp only [Instr.loadAt,Instr.sureAddr,loadVar,Sem.run_bind,Sem.run_pure,Result.andThen_ok,hti.isAgg]
   split at h
   · rename_i hagg
     split at h
     · rename_i hle
       simp only [Option.some.injEq] at h
       subst h
       simp only [hagg,if_true,Sem.run_bind,hti.sizeOf,Result.andThen_ok]
       rw [run_loadCells w _ ti.size (fun j=>cv (c+j)) (fun j hj=>by rw [Z6,Nat.add_assoc]; exact hc _ ya_)]
       refine ⟨_,rfl,.agg _ _ _ yg_ (fun i hi=>?_) fun i hi=>?_⟩
       · have hi':i < ti.size:=by simp at hi; omega
         simpa [Array.getD_eq_getD_getElem?,hi'] using h1 (c+i) ya_
       · have hi':i < ti.size:=by simp at hi; omega
         have:=hv (c+i) ya_
         simpa [Array.getD_eq_getD_getElem?,List.getD_eq_getElem?_getD,List.getElem?_take,List.getElem?_drop,hi'] using this
     · simp at h
   · rename_i hagg
     have hc':c < cs.length:=by
      rcases Nat.lt_or_ge c cs.length with h' | h'
      · exact h'
      · rw [List.getElem?_eq_none h'] at h; simp at h
     simp only [hagg,Bool.false_eq_true,if_false,run_load,hc c hc']
     exact ⟨_,rfl,by simpa [List.getD_eq_getElem?_getD,h] using hv c hc'⟩
theorem ObR.there {o:Ob} {l:Loc} (h:ObR G w C o l) {b:Nat} (hlb:l.b=some b) {i j:Nat} (hi:i < o.els.length) (hj:j < l.k) :
 ∃ v,w.cell? ⟨b,l.sh+i * l.k+j,none⟩=some v/\v.oneCell'=true/\VR G w C ((o.els.getD i []).getD j .skip) v:=by
 obtain ⟨hk,hrm,hno,hlen,hrow,hcs⟩:=h
 obtain ⟨cs,t,hc,hcs,hcell⟩:=hcs b hlb
 obtain ⟨h1,h2⟩:=hcell i j hi hj
 have h3:i * l.k+j < l.room * l.k:=kD ya_ hj
 refine ⟨cs.getD (l.sh+i * l.k+j) undef,?_,h1,h2⟩
 simp [World.cell?,hc,Array.getElem?_eq_getElem (show l.sh+i * l.k+j < cs.size by omega)]
theorem yH (hT:TOk P T) (hH:HR G w C H) {t:TypeId} {id g e c:Nat} {cs:List AV} {a:AV} {u:Value} (hu:VR G w C (.obj id g e c) u) (hr:rowAt H id g e=some cs) (h:AM.part T t cs c=some a) :
 ∃ v,(Instr.loadAt t u).run P w=.ok v w/\VR G w C a v:=by
 obtain ⟨o,l,b,ho,hg,hlt,hcs,hι,hlb,_,rfl,hob⟩:=zK hH hu hr
 have hlen:cs.length=l.k:=by rw [<- hcs]; exact hob.row e hlt
 have key:∀ j,j < cs.length->∃ v,w.cell? ⟨b,l.sh+e * l.k+j,none⟩=some v/\v.oneCell'=true/\VR G w C (cs.getD j .skip) v:=fun j hj=>by
  have:=hob.there hlb hlt (j:=j) ya_
  rwa [hcs] at this
 refine a8u hT (fun j=>(w.cell? ⟨b,l.sh+e * l.k+j,none⟩).getD undef) (fun j hj=>?_) (fun j hj=>?_) (fun j hj=>?_) h
 all_goals
  obtain ⟨v,h1,h2,h3⟩:=key j hj
  simp only [h1,Option.getD_some]
 · exact h2
 · exact h3
theorem a4a (hT:TOk P T) (hH:HR G w C H) {t:TypeId} {ti:TI} (ht:T t=some ti) {id g e c:Nat} {cs us:List AV} {b:AV} {u v:Value} (hu:VR G w C (.obj id g e c) u) (hv:VR G w C b v)
 (hr:rowAt H id g e=some cs) (hfit:b.fit ti.size=some us) (hle:c+ti.size<=cs.length) :
 ∃ w',(Instr.storeAt t u v).run P w=.ok () w'/\Ev G w C G w' C/\HR G w' C (setAt H id e (dI cs c us)):=by
 obtain ⟨o,l,bb,ho,hg,hlt,hcs,hι,hlb,hγ,rfl,hob⟩:=zK hH hu hr
 have hlen:cs.length=l.k:=by rw [<- hcs]; exact hob.row e hlt
 obtain ⟨hus,hvs,hcells⟩:=hv.fit hfit
 have hti:=hT t ti ht
 obtain ⟨hk,hrmm,hno,hrm,hrow,hcs0⟩:=hob
 obtain ⟨cur,et,hc,hsz,hcell⟩:=hcs0 bb hlb
 have hin:(e+1) * l.k<=l.room * l.k:=Nat.mul_le_mul_right _ ya_
 rw [Nat.add_mul] at hin
 have hone:∀ x∈v.cells.toList,x.oneCell'=true:=fun x hx=>by
  obtain ⟨i,hi,rfl⟩:=List.getElem_of_mem hx
  have:=(hcells i (by simpa [hvs] using hi)).1
  simpa [Array.getD_eq_getD_getElem?,Array.getElem?_eq_getElem (show i < v.cells.size by simpa using hi)] using this
 have hst:=run_storeCells_at P bb (l.sh+e * l.k+c) et v.cells.toList 0 cur w hc (by simp [hvs]; omega) hone
 simp only [Nat.add_zero] at hst
 refine ⟨w.setRow bb (cur.toList.take (l.sh+e * l.k+c)++v.cells.toList++cur.toList.drop (l.sh+e * l.k+c+v.cells.toList.length)).toArray,?_,?_⟩
 · simp only [Instr.storeAt,Instr.sureAddr,storeVar,Sem.run_bind,Sem.run_pure,Result.andThen_ok,hti.sizeOf,hvs,ne_eq,not_true_eq_false,if_false]
   exact hst
 · have hHlt:id < H.length:=by
    rcases Nat.lt_or_ge id H.length with h' | h'
    · exact h'
    · rw [List.getElem?_eq_none h'] at ho; simp at ho
   have hev:Mv G w C G (w.setRow bb (cur.toList.take (l.sh+e * l.k+c)++v.cells.toList++cur.toList.drop (l.sh+e * l.k+c+v.cells.toList.length)).toArray) C :=
    ⟨fun _ h=>h,fun b' hb=>setRow_other w _ _ _ fun e'=>(hH.own id l bb hι hlb).2 (e' ▸ hb),Y5.refl _⟩
   refine hH.upd (G':=G) id { o with els:=o.els.set e (dI cs c us) } rfl rfl rfl (fun _ _=>⟨rfl,rfl⟩) (Nat.le_refl _) (fun _ _ h=>h) (fun j hj=>?_) ?_ (by simp [setAt]) ya_ (by simpa using hH.gen id o ho) (fun _ h=>h) (fun _ h=>.inl h)
    (fun b' _ hb=>setRow_other w _ _ _ fun e'=>hb l hι (by rw [hlb,e'])) ye_ (fun b' hb=>by simpa using hH.gsz b' hb) (fun l' b' hl' hb'=>.inl ⟨l',hl',hb'⟩) (rU w _ _ _ _ _ hc) fun l' hl'=>?_
   · simp [setAt,List.getElem?_modify,Ne.symm hj]
   · simp [setAt,List.getElem?_modify,ho]
   · rw [hι] at hl'
     simp only [Option.some.injEq] at hl'
     subst hl'
     refine ⟨fun b' hb'=>?_,hk,hrmm,hno,by simpa using hrm,fun i hi=>?_,fun b' hb'=>?_⟩
     · rw [hlb] at hb'
       simp only [Option.some.injEq] at hb'
       subst hb'
       exact ⟨by simpa using (hH.own id l bb hι hlb).1,(hH.own id l bb hι hlb).2,fun j hj l2 hl2 e'=>hj (hH.inj _ _ _ _ bb hl2 hι e' hlb)⟩
     rotate_left
     rw [hlb] at hb'
     simp only [Option.some.injEq] at hb'
     subst hb'
     refine ⟨_,et,setRow_heap w _ _ _ _ _ hc,?_,fun i j hi hj=>?_⟩
     rotate_right
     · simp only [List.length_set] at hi
       rw [List.getD_eq_getElem?_getD,List.getElem?_set]
       by_cases e1:e=i
       · subst e1
         simp only [if_true,hlt,Option.getD_some]
         simp [dI]; omega
       · simp only [e1,if_false]
         rw [<- List.getD_eq_getElem?_getD]; exact hrow i hi
     · simp [hvs]; omega
     · simp only [List.length_set] at hi
       have hsl:l.sh+e * l.k+c+v.cells.toList.length<=cur.toList.length:=by simp [hvs]; omega
       have hA:((cur.toList.take (l.sh+e * l.k+c)++v.cells.toList++cur.toList.drop (l.sh+e * l.k+c+v.cells.toList.length)).toArray).getD (l.sh+i * l.k+j) undef =
        if l.sh+e * l.k+c<=l.sh+i * l.k+j/\l.sh+i * l.k+j < l.sh+e * l.k+c+v.cells.toList.length then v.cells.toList.getD (l.sh+i * l.k+j - (l.sh+e * l.k+c)) undef else cur.toList.getD (l.sh+i * l.k+j) undef:=by
        rw [<- a2i _ _ _ _ _ hsl]
        simp [Array.getD_eq_getD_getElem?,List.getD_eq_getElem?_getD]
       rw [hA]
       have hvl:v.cells.toList.length=ti.size:=by simpa using hvs
       have hcur:∀ x,cur.toList.getD x undef=cur.getD x undef:=fun x=>by simp [Array.getD_eq_getD_getElem?,List.getD_eq_getElem?_getD]
       have hvv:∀ x,v.cells.toList.getD x undef=v.cells.getD x undef:=fun x=>by simp [Array.getD_eq_getD_getElem?,List.getD_eq_getElem?_getD]
       rw [List.getD_eq_getElem?_getD (l:=o.els.set e (dI cs c us)),List.getElem?_set]
       by_cases e1:e=i
       · subst e1
         simp only [if_true,hlt,Option.getD_some]
         have hB:(dI cs c us).getD j .skip=if c<=j/\j < c+us.length then us.getD (j - c) .skip else cs.getD j .skip:=a2i _ _ _ _ _ ya_
         rw [hB]
         by_cases h2:c<=j/\j < c+us.length
         · rw [if_pos h2,if_pos ya_,hvv]
           obtain ⟨h3,h4⟩:=hcells (j - c) ya_
           rw [show l.sh+e * l.k+j - (l.sh+e * l.k+c)=j - c by omega]
           exact ⟨h3,h4.mv hev⟩
         · rw [if_neg h2,if_neg ya_,hcur]
           obtain ⟨h3,h4⟩:=hcell e j hlt hj
           rw [hcs] at h4
           exact ⟨h3,h4.mv hev⟩
       · simp only [e1,if_false]
         have hne:¬ (l.sh+e * l.k+c<=l.sh+i * l.k+j/\l.sh+i * l.k+j < l.sh+e * l.k+c+v.cells.toList.length):=by
          rcases Nat.lt_or_gt_of_ne e1 with h' | h'
          · have:=kD (i:=e) (e:=i) (j:=c+ti.size - 1) (k:=l.k) h'
            rcases Nat.eq_zero_or_pos ti.size with h0 | h0
            · omega
            · have:=this ya_; omega
          · have:=kD (i:=i) (e:=e) (j:=j) (k:=l.k) h' hj
            omega
         rw [if_neg hne,hcur,<- List.getD_eq_getElem?_getD]
         obtain ⟨h3,h4⟩:=hcell i j hi hj
         exact ⟨h3,h4.mv hev⟩
theorem yi_ {p:Prop} (h:p:=by rw [Cx.bG]; exact Nat.le_refl _):p:=h
theorem a8t (hH:HR G w C H) {b:AV} {v:Value} {size:Nat} {us:List AV} (hv:VR G w C b v) (hfit:b.fit size=some us) (e:TypeId) (id:Nat)
 (hH':∀ j,j≠id->H'[j]?=H[j]?) (hid:H'[id]?=some ⟨0,size,[us],none⟩) (hlen:H.length<=H'.length) (hle:id<=H.length) (hγ:C.γ id=0) (hι:C.ι id=none) :
 let C':=C.lay id (some ⟨some w.heap.size,0,size,1⟩) 0
 Ev G w C G (w.alloc (.cells v.cells e (0,0))) C'/\HR G (w.alloc (.cells v.cells e (0,0))) C' H'/\VR G (w.alloc (.cells v.cells e (0,0))) C' (.obj id 0 0 0) (.pointer (some ⟨w.heap.size,0,none⟩)):=by
 obtain ⟨hus,hvs,hcells⟩:=hv.fit hfit
 have:=hH.made id size [us] v.cells e (w':=w.alloc (.cells v.cells e (0,0))) (H':=H') rfl rfl rfl rfl 1 0 ye_ ya_ (fun i hi=>by simp at hi; subst hi; simpa using hus) ya_ (fun _=>hι) hH' hid hlen hle
  (fun i j hi hj=>by simp at hi; subst hi; simpa using hcells j hj)
 refine ⟨this.1,this.2,.obj _ _ _ _ _ _ yi_ fun _=>⟨_,_,Cx.U3 ..,rfl,by simp⟩⟩
end
section
variable {P:Program} {T:TT} {G G':Nat->Prop} {w w':World} {C C':Cx} {F:Fr} {act:Act} {H H':Heap}
theorem nN (size n:Nat) (b:Addr) (len cap:Nat) (cs:List Value) (hl:cs.length=n * size) (h:∀ j v,cs[j]?=some v->w.cell? (b.add j)=some v) (w2:World) (hw:w2.heap=w.heap) :
 (Builtin.firstCells size n (.slice (some b) len cap)).run P w2=.ok cs.toArray w2 :=
 run_firstCells_some (P:=P) w2 size n b len cap cs hl (fun j v hj=>by simpa [World.cell?,hw] using h j v hj)
def flat (k n:Nat) (f:Nat->Nat->Value):List Value:=(List.range (n * k)).map fun q=>f (q / k) (q % k)
theorem pI (k n:Nat) (f:Nat->Nat->Value):(flat k n f).length=n * k:=by simp [flat]
theorem flat_get (k n:Nat) (f:Nat->Nat->Value) {i j:Nat} (hi:i < n) (hj:j < k):(flat k n f).getD (i * k+j) undef=f i j:=by
 have h:=kD hi hj
 have h1:(i * k+j) / k=i:=by rw [Nat.mul_comm,Nat.mul_add_div ya_,Nat.div_eq_of_lt hj,Nat.add_zero]
 have h2:(i * k+j) % k=j:=by rw [Nat.mul_comm,Nat.mul_add_mod,Nat.mod_eq_of_lt hj]
 simp [flat,List.getD_eq_getElem?_getD,h,h1,h2]
theorem b0H {k n:Nat} {f:Nat->Nat->Value} {q:Nat} {v:Value} (h:(flat k n f)[q]?=some v):q < n * k/\v=f (q / k) (q % k):=by
 unfold flat at h
 rw [List.getElem?_map] at h
 cases hq:(List.range (n * k))[q]? with
 | none=>simp [hq] at h
 | some x =>
  have hlt:q < n * k:=by
   rcases Nat.lt_or_ge q (n * k) with h' | h'
   · exact h'
   · rw [List.getElem?_eq_none (by simpa using h')] at hq; simp at hq
  rw [List.getElem?_range hlt] at hq
  simp only [Option.some.injEq] at hq
  subst hq
  rw [List.getElem?_range hlt] at h
  simp only [Option.map_some,Option.some.injEq] at h
  exact ⟨hlt,h.symm⟩
theorem b0N {q n k:Nat} (h:q < n * k):q / k < n/\q % k < k/\q / k * k+q % k=q:=by
 rcases Nat.eq_zero_or_pos k with rfl | hk
 · simp at h
 · exact ⟨(Nat.div_lt_iff_lt_mul hk).2 h,Nat.mod_lt _ hk,by rw [Nat.mul_comm]; exact Nat.div_add_mod q k⟩
structure Src (P:Program) (G:Nat->Prop) (w:World) (C:Cx) (k:Nat) (u:Value) (xs:List (List AV)) (nv:List Value):Prop where
 len:∀ w2:World,(Builtin.lenOf u).run P w2=.ok xs.length w2
 length:nv.length=xs.length * k
 cells:∀ w2:World,w2.heap=w.heap->(Builtin.firstCells k xs.length u).run P w2=.ok nv.toArray w2
 row:∀ i,i < xs.length->(xs.getD i []).length=k
 rel:∀ i j,i < xs.length->j < k->(nv.getD (i * k+j) undef).oneCell'=true/\VR G w C ((xs.getD i []).getD j .skip) (nv.getD (i * k+j) undef)
theorem yj_ {p:Prop} (h:p:=by simpa using h):p:=h
theorem a4h {g:Tg} {k k':Nat} {xs:List (List AV)} {u:Value} (hu:VR G w C (.sl g k' xs) u) (hk:k=k'\/xs.isEmpty=true):∃ nv,Src P G w C k u xs nv:=by
 cases hu with
 | nils=>exact ⟨[],fun w2=>by simp [Builtin.lenOf],by simp,fun w2 _=>by simp [run_firstCells_none],fun i hi=>by simp at hi,fun i j hi=>by simp at hi⟩
 | sl _ _ _ _ ad cap hg hclip hle hs cv hkl hc h1 hv =>
  rcases List.eq_nil_or_concat xs with rfl | ⟨ys,y,hxs⟩
  · exact ⟨[],fun w2=>by simp [Builtin.lenOf],by simp,fun w2 _=>run_firstCells_some (P:=P) w2 k 0 ad 0 cap [] ye_ ye_,fun i hi=>by simp at hi,fun i j hi=>by simp at hi⟩
  · have hne:xs≠[]:=by rw [hxs]; simp
    have hkk:k=k':=by
     rcases hk with h | h
     · exact h
     · exact absurd yj_ hne
    subst hkk
    obtain ⟨hsp,hG⟩:=hs hne
    obtain ⟨ab,ao,asp⟩:=ad
    simp only at hsp hc
    subst hsp
    refine ⟨flat k xs.length cv,fun w2=>by simp [Builtin.lenOf],pI ..,fun w2 hw2=>nN k xs.length _ _ _ _ (pI ..) (fun q v hq=>?_) w2 hw2,hkl,fun i j hi hj=>?_⟩
    · obtain ⟨h2,rfl⟩:=b0H hq
      obtain ⟨h3,h4,h5⟩:=b0N h2
      rw [Z6,<- h5,<- Nat.add_assoc]
      have:=hc _ _ h3 h4
      rw [h5]
      exact this
    · rw [flat_get k _ cv hi hj]
      exact ⟨h1 i j hi hj,(hv i j hi hj).lift C⟩
theorem a6q (k:Nat) (base:Option Addr) (xs:List (List AV)) (hx:xs=[]):∃ nv,Src P G w C k (.slice base 0 0) xs nv:=by
 subst hx
 refine ⟨[],fun w2=>by simp [Builtin.lenOf],by simp,fun w2 _=>?_,fun i hi=>by simp at hi,fun i j hi=>by simp at hi⟩
 cases base with
 | none=>simp [run_firstCells_none]
 | some ad=>exact run_firstCells_some (P:=P) w2 k 0 ad 0 0 [] ye_ ye_
theorem b4u {id g k e n:Nat} {u:Value} {o:Ob} {l:Loc} {b:Nat} (hι:C.ι id=some l) (hlb:l.b=some b) (hγ:g=C.γ id) (hob:ObR G w C o l) (hu:VR G w C (.osl id g k e n) u) (hk:k=l.k) (hn:e+n<=o.els.length) :
 ∃ nv,Src P G w C k u ((o.els.drop e).take n) nv:=by
 cases hu with
 | osl _ _ _ _ _ _ ad cap hnc hle hl =>
  obtain ⟨l',b',hl',hlb',hlk,hen,hcap,had⟩:=hl hγ
  rw [hι] at hl'
  simp only [Option.some.injEq] at hl'
  subst hl'
  rw [hlb] at hlb'
  simp only [Option.some.injEq] at hlb'
  subst hlb'
  have hln:((o.els.drop e).take n).length=n:=by simp; omega
  have hrow:∀ i,i < n->((o.els.drop e).take n).getD i []=o.els.getD (e+i) []:=fun i hi=>by
   simp [List.getD_eq_getElem?_getD,List.getElem?_take,List.getElem?_drop,hi]
  rcases Nat.eq_zero_or_pos n with rfl | hpos
  · exact ⟨[],fun w2=>by simp [Builtin.lenOf],by simp,fun w2 _=>by simpa using run_firstCells_some (P:=P) w2 k 0 ad 0 cap [] ye_ ye_,fun i hi=>by simp at hi,fun i j hi=>by simp at hi⟩
  · obtain rfl:=had (by have:=hob.len; omega)
    subst hk
    refine ⟨flat l.k n fun i j=>(w.cell? ⟨b,l.sh+(e+i) * l.k+j,none⟩).getD undef,fun w2=>by simp [Builtin.lenOf]; omega,by rw [pI,hln],fun w2 hw2=>?_,fun i hi=>?_,fun i j hi hj=>?_⟩
    · rw [hln]
      refine nN l.k n _ _ _ _ (pI ..) (fun q v hq=>?_) w2 hw2
      obtain ⟨h2,rfl⟩:=b0H hq
      obtain ⟨h3,h4,h5⟩:=b0N h2
      obtain ⟨v,hv,_,_⟩:=hob.there hlb (i:=e+q / l.k) (j:=q % l.k) ya_ h4
      rw [hv,Z6,Option.getD_some,<- hv]
      congr 2
      rw [Nat.add_mul]
      omega
    · rw [hln] at hi
      rw [hrow i hi]
      exact hob.row _ ya_
    · rw [hln] at hi
      rw [flat_get _ _ _ hi hj,hrow i hi]
      obtain ⟨v,hv,h2,h3⟩:=hob.there hlb (i:=e+i) (j:=j) ya_ hj
      rw [hv]
      exact ⟨h2,h3⟩
 | osl0=>exact a6q k _ _ ye_
theorem d5G {s:ByteArray} {xs:List (List AV)} (hx:s.data.toList.map (fun b=>[AV.int .u8 b.toNat])=xs):∃ nv,Src P G w C 1 (.string s) xs nv:=by
 subst hx
 have hsd:s.data.toList.length=s.size:=by rw [Array.length_toList]; rfl
 have hlen:(s.data.toList.map (fun b=>[AV.int .u8 b.toNat])).length=s.size:=by rw [List.length_map,hsd]
 have hget:∀ i,i < s.size->∃ b,s.data.toList[i]?=some b:=fun i hi=>by
  have:i < s.data.toList.length:=by omega
  exact ⟨_,List.getElem?_eq_getElem this⟩
 refine ⟨s.data.toList.map fun b=>.int .u8 b.toNat,fun w2=>by rw [hlen]; simp [Builtin.lenOf],by simp,fun w2 _=>?_,fun i hi=>?_,fun i j hi hj=>?_⟩
 · rw [hlen]
   have:(s.extract 0 s.size)=s:=ByteArray.extract_zero_size
   simp only [Builtin.firstCells,this,Sem.run_pure]
   congr 1
   apply Array.ext'
   simp
 · rw [hlen] at hi
   obtain ⟨b,hb⟩:=hget i hi
   simp [List.getD_eq_getElem?_getD,hb]
 · rw [hlen] at hi
   obtain ⟨b,hb⟩:=hget i hi
   obtain rfl:j=0:=by omega
   simp only [Nat.mul_one,Nat.add_zero,List.getD_eq_getElem?_getD,List.getElem?_map,hb,Option.map_some,Option.getD_some]
   exact ⟨rfl,.int ..⟩
theorem jT (hH:HR G w C H) {k:Nat} {x:AV} {u:Value} {xs:List (List AV)} (hu:VR G w C x u) (h:I5 H k x=some xs):∃ nv,Src P G w C k u xs nv:=by
 unfold I5 at h
 split at h
 · rename_i g k' ys
   split at h
   · rename_i hk
     simp only [Option.some.injEq] at h
     subst h
     exact a4h hu hk
   · simp at h
 · rename_i id g k' e n
   split at h
   · rename_i o ho
     split at h
     · rename_i hk
       simp only [Option.some.injEq] at h
       subst h
       obtain ⟨h1,rfl,h3⟩:=hk
       have hγ:=hH.gen id o ho
       cases hu with
       | osl _ _ _ _ _ _ ad cap hnc hle hl =>
        obtain ⟨l,b,hι,hlb,hlk,hr⟩:=hl ya_
        exact b4u hι hlb ya_ (hH.ob id o l ho hι) (.osl _ _ _ _ _ _ _ _ hnc hle hl) hlk.symm h3
       | osl0=>exact a6q k _ _ ye_
     · simp at h
   · simp at h
 · rename_i s
   split at h
   · rename_i hk
     subst hk
     simp only [Option.some.injEq] at h
     cases hu
     exact d5G h
   · simp at h
 · simp at h
structure ApT (P:Program) (t t' e:TypeId) (i:TypeInfo) (z:Value):Prop where
 ht:P.underlying t=some (.slice e)
 ht':P.underlying t'=some .string\/∃ e',P.underlying t'=some (.slice e')
 hi:P.info? e=some i
 hz:i.zero=some z
theorem run_append_room' {t t' ty e:TypeId} {i:TypeInfo} {z:Value} (hA:ApT P t t' e i z) (x:Value) {xs:List (List AV)} {nv:List Value} (hx:Src P G w C i.size x xs nv)
 (g o sLen sCap:Nat) (cur:Array Value) (et:TypeId) (hg:w.heap[g]?=some (.cells cur et (0,0))) (h1:∀ u∈nv,u.oneCell'=true)
 (hroom:sLen+xs.length<=sCap) (hfit:o+sLen * i.size+nv.length<=cur.size) :
 (Builtin.append_ #[t,t'] ty #[.slice (some ⟨g,o,none⟩) sLen sCap,x]).run P w =
  .ok (.slice (some ⟨g,o,none⟩) (sLen+xs.length) sCap) (w.setRow g (cur.toList.take (o+sLen * i.size)++nv++cur.toList.drop (o+sLen * i.size+nv.length)).toArray):=by
 have hf:=hx.cells w rfl
 have hst:=run_storeCells_at P g (o+sLen * i.size) et nv 0 cur w hg (by simpa using hfit) h1
 simp only [Nat.add_zero] at hst
 rcases hA.ht' with h | ⟨e',h⟩ <;> simp [Builtin.append_,run_underlying hA.ht,run_underlying h,Go.sizeOf,typeInfo,hA.hi,hx.len w,hroom,hf,Z6,hst]
theorem bC {t t' ty e:TypeId} {i:TypeInfo} {z:Value} (hA:ApT P t t' e i z) (x:Value) {nv:List Value} (hx:Src P G w C i.size x [] nv) (base:Option Addr) (sLen sCap:Nat) (hroom:sLen<=sCap) :
 (Builtin.append_ #[t,t'] ty #[.slice base sLen sCap,x]).run P w=.ok (.slice base sLen sCap) w:=by
 have hf:=hx.cells w rfl
 have hl:=hx.len w
 have hn:nv=[]:=List.eq_nil_of_length_eq_zero (by simpa using hx.length)
 subst hn
 simp only [List.length_nil] at hf hl
 cases base <;> rcases hA.ht' with h | ⟨e',h⟩ <;> simp [Builtin.append_,run_underlying hA.ht,run_underlying h,Go.sizeOf,typeInfo,hA.hi,hl,hroom,hf,storeCells]
theorem run_append_grow' {t t' ty e:TypeId} {i:TypeInfo} {z:Value} (hA:ApT P t t' e i z) (x:Value) {xs ys:List (List AV)} {nv ov:List Value} (hx:Src P G w C i.size x xs nv)
 (base:Option Addr) (sLen sCap:Nat) (ho:Src P G w C i.size (.slice base sLen sCap) ys ov) (hlen:ys.length=sLen)
 (hg:sCap < sLen+xs.length) (hb:0 < i.bytes) (hby:(sLen+xs.length) * i.bytes<=140737488355328) :
 (Builtin.append_ #[t,t'] ty #[.slice base sLen sCap,x]).run P w =
  .ok (.slice (some ⟨w.heap.size,0,none⟩) (sLen+xs.length) (grownCap w (sLen+xs.length) sCap e))
   (w.drew.alloc (.cells (ov.toArray++nv.toArray++Builtin.zeroCells z.cells (grownCap w (sLen+xs.length) sCap e - (sLen+xs.length))) e)):=by
 subst hlen
 have hn:¬ (ys.length+xs.length<=sCap):=by omega
 have hfit:=growslice_fits hg hby
 have h48':¬ (281474976710656 < Builtin.nextslicecap (ys.length+xs.length) sCap * i.bytes):=by omega
 have hb0:¬ i.bytes=0:=by omega
 have hf:=hx.cells w.drew rfl
 have hfo:=ho.cells w.drew rfl
 rcases hA.ht' with h | ⟨e',h⟩ <;>
  simp [Builtin.append_,run_underlying hA.ht,run_underlying h,Go.sizeOf,typeInfo,zeroValue,hA.hi,hA.hz,hx.len w,hn,hb0,h48',Question.forced,hf,hfo,newRow,grownCap] <;>
  (congr 2; apply Array.ext'; simp [List.append_assoc])
end
section
variable {P:Program} {T:TT} {G G':Nat->Prop} {w w':World} {C C':Cx} {F:Fr} {act:Act} {H H':Heap}
theorem Src.oneCell {k:Nat} {u:Value} {xs:List (List AV)} {nv:List Value} (h:Src P G w C k u xs nv):∀ v∈nv,v.oneCell'=true:=fun v hv=>by
 obtain ⟨q,hq,rfl⟩:=List.getElem_of_mem hv
 rw [h.length] at hq
 obtain ⟨h1,h2,h3⟩:=b0N hq
 have:=(h.rel _ _ h1 h2).1
 rw [h3] at this
 simpa [List.getD_eq_getElem?_getD,List.getElem?_eq_getElem (show q < nv.length by rw [h.length]; exact hq)] using this
theorem ApT.of (hT:TOk P T) {t t' e:TypeId} {ti te:TI} (ht:T t=some ti) (htd:ti.d=.slice e) (hte:T e=some te) (h:xZ T t'=true) :
 ∃ i z,ApT P t t' e i z/\i.size=te.size/\i.bytes=te.bytes/\z.cells.size=te.size:=by
 have hu:P.underlying t=some (.slice e):=by have:=(hT _ _ ht).und; rw [htd] at this; exact this
 obtain ⟨i,hi,hsz,hby,z,hz,hzs,hzl,_⟩:=(hT _ _ hte).info
 refine ⟨i,z,⟨hu,?_,hi,hz⟩,hsz,hby,?_⟩
 · unfold xZ at h
   split at h
   · rename_i e' _ _ _ _ h2
     exact .inr ⟨e',(hT _ _ h2).und⟩
   · rename_i _ _ _ h2
     exact .inl (hT _ _ h2).und
   · simp at h
 · have:=(dB (G:=fun _=>True) (w:=default) (C:=Cx.none) hzs).1
   simpa [hzl] using this
theorem b4I {k:Nat} {xs ys:List (List AV)} {ov nv zs:List Value} (hov:ov.length=ys.length * k) (hnv:nv.length=xs.length * k) {i j:Nat} (hi:i < ys.length+xs.length) (hj:j < k) :
 (ov++nv++zs).getD (i * k+j) undef=if i < ys.length then ov.getD (i * k+j) undef else nv.getD ((i - ys.length) * k+j) undef:=by
 have h:=kD hi hj
 rw [Nat.add_mul] at h
 simp only [List.getD_eq_getElem?_getD]
 by_cases h1:i < ys.length
 · have h2:=kD h1 hj
   rw [if_pos h1,List.append_assoc,List.getElem?_append_left ya_]
 · have h2:ys.length * k<=i * k:=Nat.mul_le_mul_right k ya_
   rw [if_neg h1,List.append_assoc,List.getElem?_append_right ya_,List.getElem?_append_left ya_,Nat.sub_mul]
   congr 2
   omega
theorem yO {xs ys:List (List AV)} (i:Nat):(ys++xs).getD i []=if i < ys.length then ys.getD i [] else xs.getD (i - ys.length) []:=by
 simp only [List.getD_eq_getElem?_getD]
 split
 · rename_i h; rw [List.getElem?_append_left h]
 · rename_i h; rw [List.getElem?_append_right ya_]
theorem fB (hH:HR G w C H) {t t' ty e:TypeId} {i:TypeInfo} {z:Value} (hA:ApT P t t' e i z) (hzc:z.cells.size=i.size) (x:Value) {xs ys:List (List AV)} {nv ov:List Value} (hx:Src P G w C i.size x xs nv)
 (base:Option Addr) (sLen sCap:Nat) (ho:Src P G w C i.size (.slice base sLen sCap) ys ov) (hlen:ys.length=sLen)
 (hgr:sCap < sLen+xs.length) (hb:0 < i.bytes) (hby:(sLen+xs.length) * i.bytes<=140737488355328)
 (id g:Nat) (hg:C.γ id<=g) (hgι:g=C.γ id->C.ι id=none) (hH':∀ j,j≠id->H'[j]?=H[j]?) (hid:H'[id]?=some ⟨g,i.size,ys++xs,none⟩) (hl:H.length<=H'.length) (hle:id<=H.length) :
 ∃ v w' C',(Builtin.append_ #[t,t'] ty #[.slice base sLen sCap,x]).run P w=.ok v w'/\Ev G w C G w' C'/\HR G w' C' H'/\VR G w' C' (.osl id g i.size 0 (sLen+xs.length)) v/\(∀ j,j≠id->C'.ι j=C.ι j/\C'.γ j=C.γ j):=by
 subst hlen
 have hr:=run_append_grow' (ty:=ty) hA x hx base ys.length sCap ho rfl hgr hb hby
 have hge:=grownCap_ge w (ys.length+xs.length) sCap e
 generalize grownCap w (ys.length+xs.length) sCap e=cap at hr hge
 have hcells:∀ q,(ov.toArray++nv.toArray++Builtin.zeroCells z.cells (cap - (ys.length+xs.length))).getD q undef=(ov++nv++(Builtin.zeroCells z.cells (cap - (ys.length+xs.length))).toList).getD q undef:=fun q=>by
  rw [List.getD_eq_getElem?_getD,Array.getD_eq_getD_getElem?]
  congr 1
  rw [<- Array.getElem?_toList]
  simp
 have hm:=hH.made (w':=w.drew.alloc (.cells (ov.toArray++nv.toArray++Builtin.zeroCells z.cells (cap - (ys.length+xs.length))) e)) (H':=H') id i.size (ys++xs)
  (ov.toArray++nv.toArray++Builtin.zeroCells z.cells (cap - (ys.length+xs.length))) e rfl rfl rfl rfl cap g (by simpa using hge) ?_ (fun q hq=>?_) hg hgι hH' hid hl hle fun q j hq hj=>?_
 · refine ⟨_,_,_,hr,hm.1,hm.2,.osl _ _ _ _ _ _ _ _ hge yi_ fun _=>⟨_,_,Cx.U3 ..,rfl,rfl,by simpa using hge,by simp,fun _=>by simp⟩,fun j hj=>Cx.L6 _ _ _ _ hj⟩
 · simp only [Array.size_append,List.size_toArray,size_zeroCells,hzc,ho.length,hx.length,<- Nat.add_mul]
   refine Nat.mul_le_mul_right _ ?_
   omega
 · simp only [List.length_append] at hq
   rw [yO]
   split
   · rename_i h; exact ho.row _ h
   · exact hx.row _ ya_
 · simp only [List.length_append] at hq
   rw [hcells,b4I ho.length hx.length hq hj,yO]
   split
   · rename_i h; exact ho.rel _ _ h hj
   · exact hx.rel _ _ ya_ hj
theorem b0d {k sh q:Nat} {cur nv:List Value} {xs:List (List AV)} (hnv:nv.length=xs.length * k) (hfit:sh+q * k+nv.length<=cur.length) {i j:Nat} (hj:j < k) :
 (cur.take (sh+q * k)++nv++cur.drop (sh+q * k+nv.length)).getD (sh+i * k+j) undef=if q<=i/\i < q+xs.length then nv.getD ((i - q) * k+j) undef else cur.getD (sh+i * k+j) undef:=by
 rw [a2i _ _ _ _ _ hfit]
 by_cases h:q<=i/\i < q+xs.length
 · have h1:q * k<=i * k:=Nat.mul_le_mul_right k h.1
   have h2:=kD (i:=i) (e:=q+xs.length) h.2 hj
   rw [Nat.add_mul] at h2
   rw [if_pos h,if_pos ya_,Nat.sub_mul]
   congr 1
   omega
 · rw [if_neg h,if_neg]
   intro h3
   apply h
   rcases Nat.lt_or_ge i q with h' | h'
   · have:=kD h' hj; omega
   · refine ⟨h',?_⟩
     rcases Nat.lt_or_ge i (q+xs.length) with h4 | h4
     · exact h4
     · have:=Nat.mul_le_mul_right k h4
       rw [Nat.add_mul] at this
       omega
theorem yk_ {p:Prop} (h:p:=by simpa [most] using hc.1):p:=h
theorem yM (hT : TOk P T) (hH : HR G w C H) {t t' ty : TypeId} {s x a : AV} {us ux : Value} (hs : VR G w C s us) (hx : VR G w C x ux) (ht' : xZ T t' = true) (h : dZ T H t s x = some (a, H')) :
    ∃ v w' C', (Builtin.append_ #[t, t'] ty #[us, ux]).run P w = .ok v w' ∧ Ev G w C G w' C' ∧ HR G w' C' H' ∧ VR G w' C' a v ∧ Pd V5 C H C' H' := by
  unfold dZ at h
  split at h
  case h_2 => simp at h
  rename_i e _ _ _ _ ht
  split at h
  case h_2 => simp at h
  rename_i te hte
  split at h
  case h_2 => simp at h
  rename_i new hnew
  obtain ⟨i, z, hA, hsz, hby, hzc⟩ := ApT.of hT ht rfl hte ht'
  rw [← hsz] at hnew hzc h
  rw [← hby] at h
  obtain ⟨nv, hsrc⟩ := jT (P := P) hH hx hnew
  split at h
  · -- nothing is appended
    split at h
    · rename_i g k xs
      simp only [Option.some.injEq, Prod.mk.injEq] at h
      obtain ⟨rfl, rfl⟩ := h
      cases hs with
      | nils _ _ _ hgn => exact ⟨_, w, C, bC hA ux hsrc _ _ _ (Nat.le_refl _), Ev.refl .., hH, .nils _ _ _ hgn, Pd.refl⟩
      | sl _ _ _ _ ad cap hg hclip hle hs cv hk hc h1 hv => exact ⟨_, w, C, bC hA ux hsrc _ _ _ hle, Ev.refl .., hH, .sl _ _ _ _ _ _ hg hclip hle hs cv hk hc h1 hv, Pd.refl⟩
    · rename_i id g k e n
      simp only [Option.some.injEq, Prod.mk.injEq] at h
      obtain ⟨rfl, rfl⟩ := h
      cases hs with
      | osl _ _ _ _ _ _ ad cap hnc hle hl => exact ⟨_, w, C, bC hA ux hsrc _ _ _ hnc, Ev.refl .., hH, .osl _ _ _ _ _ _ _ _ hnc hle hl, Pd.refl⟩
      | osl0 _ _ _ _ _ base hle hl => exact ⟨_, w, C, bC hA ux hsrc _ _ _ (Nat.le_refl _), Ev.refl .., hH, .osl0 _ _ _ _ _ _ hle hl, Pd.refl⟩
    · simp at h
  · rename_i hne
    have hpos : 0 < new.length := by
      cases new with
      | nil => exact absurd rfl hne
      | cons => simp
    have hpd : ∀ {C' : Cx} {o : Ob}, (∀ j, j ≠ H.length → C'.ι j = C.ι j ∧ C'.γ j = C.γ j) → Pd V5 C H C' (H ++ [o]) := fun hj =>
      ⟨by simp, fun id hl _ hi => ⟨by rw [(hj id ya_).1]; exact hi, (hj id ya_).2, by rw [List.getElem?_append_left hl]⟩⟩
    have hnone := hH.out H.length (Nat.le_refl _)
    have hother : ∀ (o : Ob) (j : Nat), j ≠ H.length → (H ++ [o])[j]? = H[j]? := fun o j hj => by
      rcases Nat.lt_or_ge j H.length with h' | h'
      · rw [List.getElem?_append_left h']
      · rw [List.getElem?_eq_none yg_, List.getElem?_eq_none ya_]
    split at h
    · -- a nil slice
      split at h
      · rename_i hc
        simp only [Option.some.injEq, Prod.mk.injEq] at h
        obtain ⟨rfl, rfl⟩ := h
        have ho := a4h (P := P) (k := i.size) hs (.inr rfl)
        cases hs with
        | sl _ _ _ _ ad cap hg => exact absurd rfl hg
        | nils =>
          obtain ⟨ov, ho⟩ := ho
          obtain ⟨v, w', C', h1, h2, h3, h4, h5⟩ := fB (H' := H ++ [⟨0, i.size, [] ++ new, none⟩]) (ty := ty) hH hA hzc ux hsrc none 0 0 ho rfl ya_ hc.2.2 yk_ H.length 0 ya_ (fun _ => hnone.2) (hother _) ye_ ye_ (Nat.le_refl _)
          simp only [Nat.zero_add, List.nil_append] at h3 h4
          exact ⟨v, w', C', h1, h2, h3, h4, hpd h5⟩
      · simp at h
    · -- a slice without room
      rename_i k xs
      split at h
      · rename_i hc
        simp only [Option.some.injEq, Prod.mk.injEq] at h
        obtain ⟨rfl, rfl⟩ := h
        have ho := a4h (P := P) (k := i.size) hs (hc.2.2.2.imp Eq.symm id)
        cases hs with
        | nils _ _ _ hgn => simp at hgn
        | sl _ _ _ _ ad cap hg hclip hle =>
          obtain ⟨ov, ho⟩ := ho
          obtain rfl := hclip ye_
          obtain ⟨v, w', C', h1, h2, h3, h4, h5⟩ := fB (H' := H ++ [⟨0, i.size, xs ++ new, none⟩]) (ty := ty) hH hA hzc ux hsrc (some ad) xs.length xs.length ho rfl ya_ hc.2.2.1 yk_ H.length 0 ya_ (fun _ => hnone.2) (hother _) ye_ ye_ (Nat.le_refl _)
          exact ⟨v, w', C', h1, h2, h3, h4, hpd h5⟩
      · simp at h
    · -- a slice without room, or nil
      rename_i k xs
      split at h
      · rename_i hc
        simp only [Option.some.injEq, Prod.mk.injEq] at h
        obtain ⟨rfl, rfl⟩ := h
        have ho := a4h (P := P) (k := i.size) hs (hc.2.2.2.imp Eq.symm id)
        cases hs with
        | nils _ _ _ hgn =>
          obtain ⟨ov, ho⟩ := ho
          obtain ⟨v, w', C', h1, h2, h3, h4, h5⟩ := fB (H' := H ++ [⟨0, i.size, [] ++ new, none⟩]) (ty := ty) hH hA hzc ux hsrc none 0 0 ho rfl ya_ hc.2.2.1 yk_ H.length 0 ya_ (fun _ => hnone.2) (hother _) ye_ ye_ (Nat.le_refl _)
          exact ⟨v, w', C', h1, h2, h3, h4, hpd h5⟩
        | sl _ _ _ _ ad cap hg hclip hle =>
          obtain ⟨ov, ho⟩ := ho
          obtain rfl := hclip ye_
          obtain ⟨v, w', C', h1, h2, h3, h4, h5⟩ := fB (H' := H ++ [⟨0, i.size, xs ++ new, none⟩]) (ty := ty) hH hA hzc ux hsrc (some ad) xs.length xs.length ho rfl ya_ hc.2.2.1 yk_ H.length 0 ya_ (fun _ => hnone.2) (hother _) ye_ ye_ (Nat.le_refl _)
          exact ⟨v, w', C', h1, h2, h3, h4, hpd h5⟩
      · simp at h
    · -- an exclusive slice
      rename_i id g k e n
      split at h
      case h_2 => simp at h
      rename_i o ho
      split at h
      case isFalse => simp at h
      rename_i hc0
      obtain ⟨hog, rfl, hk0⟩ := hc0
      have hγ := hH.gen id o ho
      have hlt : id < H.length := by
        rcases Nat.lt_or_ge id H.length with h' | h'
        · exact h'
        · rw [List.getElem?_eq_none h'] at ho; simp at ho
      have hgγ : g = C.γ id := by omega
      have hself := hs
      have hsetne : ∀ (o' : Ob) (j : Nat), j ≠ id → (H.set id o')[j]? = H[j]? := fun o' j hj => by rw [List.getElem?_set_ne (Ne.symm hj)]
      have hsetid : ∀ (o' : Ob), (H.set id o')[id]? = some o' := fun o' => by rw [List.getElem?_set_self hlt]
      have hpdS : ∀ {C' : Cx} {o' : Ob} {l : Loc}, C.ι id = some l → (∀ j, j ≠ id → C'.ι j = C.ι j ∧ C'.γ j = C.γ j) → Pd V5 C H C' (H.set id o') := fun hι hj =>
          ⟨by simp, fun j hl _ hi => by
            have hne : j ≠ id := fun e => by subst e; rw [hι] at hi; simp at hi
            exact ⟨by rw [(hj j hne).1]; exact hi, (hj j hne).2, by rw [List.getElem?_set_ne (Ne.symm hne)]⟩⟩
      split at h
      · -- there is no place
        rename_i rm hrm
        split at h
        case isFalse => simp at h
        rename_i hc
        simp only [Option.some.injEq, Prod.mk.injEq] at h
        obtain ⟨rfl, rfl⟩ := h
        obtain ⟨ov, hov⟩ := jT (P := P) (k := i.size) (xs := (o.els.drop e).take n) hH hs (by simp [I5, ho, hog, hc.1])
        have hyl : ((o.els.drop e).take n).length = n := by simp; omega
        cases hs with
        | osl _ _ _ _ _ _ ad cap hnc hle hl =>
          obtain ⟨l, b, hι, hlb, hlk, hen, hcap, had⟩ := hl hgγ
          have := (hH.ob id o l ho hι).rm rm hrm
          obtain ⟨v, w', C', h1, h2, h3, h4, h5⟩ := fB (H' := H ++ [⟨0, i.size, (o.els.drop e).take n ++ new, none⟩]) (ty := ty) hH hA hzc ux hsrc (some ad) n cap hov hyl ya_ hc.2.2.2 (by simpa [most] using hc.2.2.1) H.length 0 ya_ (fun _ => hnone.2) (hother _) ye_ ye_ (Nat.le_refl _)
          exact ⟨v, w', C', h1, h2, h3, h4, hpd h5⟩
        | osl0 _ _ _ _ _ base =>
          obtain ⟨v, w', C', h1, h2, h3, h4, h5⟩ := fB (H' := H ++ [⟨0, i.size, (o.els.drop e).take 0 ++ new, none⟩]) (ty := ty) hH hA hzc ux hsrc base 0 0 hov hyl ya_ hc.2.2.2 (by simpa [most] using hc.2.2.1) H.length 0 ya_ (fun _ => hnone.2) (hother _) ye_ ye_ (Nat.le_refl _)
          exact ⟨v, w', C', h1, h2, h3, h4, hpd h5⟩
      cases hs with
      | osl0 _ _ _ _ _ base hle hl =>
        obtain ⟨l, hι, hlb, hlk⟩ := hl hgγ
        have hob := hH.ob id o l ho hι
        have h0 := hob.no hlb
        have h1 := hob.len
        split at h
        · rename_i hend
          split at h
          case isFalse => simp at h
          rename_i hc
          simp only [Option.some.injEq, Prod.mk.injEq] at h
          obtain ⟨rfl, rfl⟩ := h
          have hnil : o.els = [] := List.eq_nil_of_length_eq_zero ya_
          obtain ⟨ov, hov⟩ := a6q (P := P) (G := G) (w := w) (C := C) i.size base (o.els.drop e) (by simp [hnil])
          obtain ⟨v, w', C', h1, h2, h3, h4, h5⟩ := fB (H' := H.set id ⟨g + 1, i.size, o.els.drop e ++ new, none⟩) (ty := ty) hH hA hzc ux hsrc base 0 0 hov (by simp [hnil]) ya_ hc.2 yk_ id (g + 1) ya_ (fun e' => by omega) (hsetne _) (hsetid _) ye_ ya_
          exact ⟨v, w', C', h1, h2, h3, h4, hpdS hι h5⟩
        · split at h
          · rename_i hc
            omega
          · simp at h
      | osl _ _ _ _ _ _ ad cap hnc hle hl =>
        obtain ⟨l, bb, hι, hlb, hlk, hen, hcap, had⟩ := hl hgγ
        have hob := hH.ob id o l ho hι
        have hwid := hob.len
        -- in place: the rows from row q on are laid anew
        have place : ∀ (q : Nat) (hq : q = e + n) (o' : Ob) (l' : Loc) (g' : Nat), o'.gen = g' → C.γ id ≤ g' → (g' = C.γ id → l' = l) → l'.b = l.b → o'.room = none → l'.k = l.k → (∃ d, l'.sh = l.sh + d * l.k ∧ l'.room + d = l.room ∧ o'.k = l.k ∧ d + o'.els.length ≤ l.room ∧ d ≤ q ∧
              q + new.length ≤ d + o'.els.length ∧ ∀ r, r < o'.els.length → if q ≤ d + r ∧ d + r < q + new.length then o'.els.getD r [] = new.getD (d + r - q) [] else d + r < o.els.length ∧ o'.els.getD r [] = o.els.getD (d + r) []) → n + new.length ≤ cap → (e + n + new.length ≤ l.room) →
            ∃ v w' C', (Builtin.append_ #[t, t'] ty #[.slice (some ad) n cap, ux]).run P w = .ok v w' ∧ Ev G w C G w' C' ∧ HR G w' C' (H.set id o') ∧ v = .slice (some ⟨bb, l.sh + e * i.size, none⟩) (n + new.length) cap ∧ C' = C.lay id (some l') g' := by
          intro q hq o' l' g' hg' hγ' hl'l hb hrn hk' hd hroom hroom2
          obtain ⟨d, hsh, hrm, hok, hln, hdq, hqd, hrows⟩ := hd
          obtain ⟨hk1, hrm1, hno1, hlen1, hrow1, hcs1⟩ := hob
          obtain ⟨cur, et, hcur, hcsz, hcell⟩ := hcs1 bb hlb
          have hm : (q + new.length) * l.k ≤ l.room * l.k := Nat.mul_le_mul_right _ ya_
          rw [Nat.add_mul] at hm
          have hnvl : nv.length = new.length * l.k := by rw [hsrc.length, hlk]
          have hqk : q * l.k = e * l.k + n * l.k := by rw [hq, Nat.add_mul]
          have hr := run_append_room' (ty := ty) hA ux hsrc bb (l.sh + e * i.size) n cap cur et hcur hsrc.oneCell hroom (by rw [← hlk]; omega)
          have hoff : l.sh + e * i.size + n * i.size = l.sh + q * l.k := by rw [← hlk]; omega
          rw [hoff] at hr
          rw [had ya_]
          suffices hs2 : Ev G w C G (w.setRow bb (cur.toList.take (l.sh + q * l.k) ++ nv ++ cur.toList.drop (l.sh + q * l.k + nv.length)).toArray) (C.lay id (some l') g') ∧ HR G (w.setRow bb (cur.toList.take (l.sh + q * l.k) ++ nv ++ cur.toList.drop (l.sh + q * l.k + nv.length)).toArray) (C.lay id (some l') g') (H.set id o') from ⟨_, (w.setRow bb (cur.toList.take (l.sh + q * l.k) ++ nv ++ cur.toList.drop (l.sh + q * l.k + nv.length)).toArray), C.lay id (some l') g', hr, hs2.1, hs2.2, rfl, rfl⟩
          have hev : Mv G w C G (w.setRow bb (cur.toList.take (l.sh + q * l.k) ++ nv ++ cur.toList.drop (l.sh + q * l.k + nv.length)).toArray) (C.lay id (some l') g') :=
            ⟨fun _ h => h, fun b' hb' => setRow_other w _ _ _ fun e' => (hH.own id l bb hι hlb).2 (e' ▸ hb'), fun j => by
                by_cases e' : j = id
                · subst e'
                  rw [Cx.bG, Cx.U3]
                  exact ⟨hγ', fun e2 l2 hl2 => by rw [hι] at hl2; rw [hl'l e2]; exact hl2⟩
                · rw [(Cx.L6 _ _ _ _ e').1, (Cx.L6 _ _ _ _ e').2]; exact ⟨Nat.le_refl _, fun _ _ h => h⟩⟩
          · refine (hH.upd (G' := G) (w' := (w.setRow bb (cur.toList.take (l.sh + q * l.k) ++ nv ++ cur.toList.drop (l.sh + q * l.k + nv.length)).toArray)) (C' := C.lay id (some l') g') id o' rfl rfl rfl (fun j hj => Cx.L6 _ _ _ _ hj) (by rw [Cx.bG]; exact hγ') (fun e2 l2 hl2 => ?_) (hsetne _) (hsetid _) ye_ ya_ (by rw [Cx.bG]; exact hg') (fun _ h => h) (fun _ h => .inl h)
              (fun b' _ hb' => setRow_other w _ _ _ fun e' => hb' l hι (by rw [hlb, e'])) ye_ (fun b' hb' => by simpa using hH.gsz b' hb') (fun l2 b2 hl2 hb2 => by rw [Cx.U3] at hl2; simp only [Option.some.injEq] at hl2; subst hl2; exact .inl ⟨l, hι, by rw [← hb]; exact hb2⟩) (rU w _ _ _ _ _ hcur) fun l2 hl2 => ?_)
            · rw [Cx.bG] at e2
              rw [Cx.U3, hl'l e2]
              rw [hι] at hl2
              exact hl2
            · rw [Cx.U3] at hl2
              simp only [Option.some.injEq] at hl2
              subst hl2
              have hlsz : (cur.toList.take (l.sh + q * l.k) ++ nv ++ cur.toList.drop (l.sh + q * l.k + nv.length)).length = cur.size := by simp; omega
              have hlb' : ∀ b2, l'.b = some b2 → b2 = bb := fun b2 h2 => by rw [hb, hlb] at h2; simpa using h2.symm
              refine ⟨fun b2 hb2 => ?_, by rw [hok, hk'], fun r hr => by rw [hrn] at hr; simp at hr, fun hn => by rw [hb, hlb] at hn; simp at hn, by omega, fun r hr' => ?_, fun b2 hb2 => ?_⟩
              · rw [hlb' b2 hb2]
                exact ⟨by simpa using (hH.own id l bb hι hlb).1, (hH.own id l bb hι hlb).2, fun j hj l2 hl2 e' => hj (hH.inj _ _ _ _ bb hl2 hι e' hlb)⟩
              rotate_left
              rw [hlb' b2 hb2]
              refine ⟨_, et, setRow_heap w _ _ _ _ _ hcur, ?_, fun r j hr' hj => ?_⟩
              rotate_right
              · have := hrows r hr'
                split at this
                · rw [this, hk', hlk]; exact hsrc.row _ ya_
                · rw [this.2, hk']; exact hrow1 _ this.1
              · rw [hsh, hk']
                have : l.room * l.k = l'.room * l.k + d * l.k := by rw [← hrm, Nat.add_mul]
                have h2 : (cur.toList.take (l.sh + q * l.k) ++ nv ++ cur.toList.drop (l.sh + q * l.k + nv.length)).toArray.size = cur.size := by simpa using hlsz
                rw [h2]
                omega
              · rw [hk'] at hj ⊢
                have hidx : l'.sh + r * l.k + j = l.sh + (d + r) * l.k + j := by rw [hsh, Nat.add_mul]; omega
                rw [hidx]
                have hA2 : ((cur.toList.take (l.sh + q * l.k) ++ nv ++ cur.toList.drop (l.sh + q * l.k + nv.length)).toArray).getD (l.sh + (d + r) * l.k + j) undef = if q ≤ d + r ∧ d + r < q + new.length then nv.getD ((d + r - q) * l.k + j) undef else cur.toList.getD (l.sh + (d + r) * l.k + j) undef := by
                  rw [← b0d (xs := new) hnvl (by rw [hnvl]; simp; omega) hj]
                  simp [Array.getD_eq_getD_getElem?, List.getD_eq_getElem?_getD]
                rw [hA2]
                have := hrows r hr'
                split at this
                · rename_i hin
                  rw [if_pos hin, this]
                  obtain ⟨h3, h4⟩ := hsrc.rel (d + r - q) j ya_ ya_
                  rw [← hlk] at h3 h4
                  exact ⟨h3, h4.mv hev⟩
                · rename_i hin
                  rw [if_neg hin, this.2]
                  have hcg : cur.toList.getD (l.sh + (d + r) * l.k + j) undef = cur.getD (l.sh + (d + r) * l.k + j) undef := by simp [Array.getD_eq_getD_getElem?, List.getD_eq_getElem?_getD]
                  rw [hcg]
                  obtain ⟨h3, h4⟩ := hcell (d + r) j this.1 hj
                  exact ⟨h3, h4.mv hev⟩
        split at h
        · -- at its end
          rename_i hend
          split at h
          case isFalse => simp at h
          rename_i hc
          simp only [Option.some.injEq, Prod.mk.injEq] at h
          obtain ⟨rfl, rfl⟩ := h
          rcases Nat.lt_or_ge cap (n + new.length) with hgrow | hroom
          · obtain ⟨ov, hov⟩ := b4u (P := P) hι hlb hgγ hob hself hlk.symm ya_
            have hys : (o.els.drop e).take n = o.els.drop e := List.take_of_length_le yg_
            rw [hys] at hov
            obtain ⟨v, w', C', h1, h2, h3, h4, h5⟩ := fB (H' := H.set id ⟨g + 1, i.size, o.els.drop e ++ new, none⟩) (ty := ty) hH hA hzc ux hsrc (some ad) n cap hov yg_ hgrow hc.2 yk_ id (g + 1) ya_ (fun e' => by omega) (hsetne _) (hsetid _) ye_ ya_
            exact ⟨v, w', C', h1, h2, h3, h4, hpdS hι h5⟩
          · obtain ⟨v, w', C', h1, h2, h3, rfl, rfl⟩ := place (e + n) rfl ⟨g + 1, i.size, o.els.drop e ++ new, none⟩ ⟨l.b, l.sh + e * l.k, l.k, l.room - e⟩ (g + 1) rfl ya_ (fun e' => by omega) rfl rfl rfl
              ⟨e, rfl, by simp; omega, hlk.symm, by simp; omega, by omega, by simp; omega, fun r hr' => by
                simp only [List.length_append, List.length_drop] at hr'
                rw [yO]
                simp only [List.length_drop]
                split
                · rename_i h2
                  rw [if_neg ya_]
                  congr 1
                  omega
                · rename_i h2
                  rw [if_pos ya_]
                  refine ⟨by omega, ?_⟩
                  simp [List.getD_eq_getElem?_getD, List.getElem?_drop]⟩ hroom ya_
            refine ⟨_, w', _, h1, h2, h3, .osl _ _ _ _ _ _ _ _ hroom yi_ fun _ => ⟨_, bb, Cx.U3 .., hlb, hlk, by simp; omega, by simp; omega, fun _ => by simp [hlk]⟩, hpdS hι fun j hj => Cx.L6 _ _ _ _ hj⟩
        · rename_i hend
          split at h
          case isFalse => simp at h
          rename_i hc
          simp only [Option.some.injEq, Prod.mk.injEq] at h
          obtain ⟨rfl, rfl⟩ := h
          obtain ⟨v, w', C', h1, h2, h3, rfl, rfl⟩ := place (e + n) rfl { o with els := o.els.take (e + n) ++ new ++ o.els.drop (e + n + new.length) } l g (by simpa using hog) ya_ (fun _ => rfl) rfl (by assumption) rfl
            ⟨0, by simp, by simp, by simpa using hob.k, by simp; omega, by omega, by simp; omega, fun r hr' => by
              rw [a2i _ _ _ _ _ ya_]
              simp only [Nat.zero_add]
              split
              · rfl
              · rename_i h2
                refine ⟨?_, rfl⟩
                simp at hr'
                omega⟩ ya_ ya_
          refine ⟨_, w', _, h1, h2, h3, .osl _ _ _ _ _ _ _ _ ya_ yi_ fun _ => ⟨l, bb, Cx.U3 .., hlb, hlk, by omega, hcap, fun _ => rfl⟩, hpdS hι fun j hj => Cx.L6 _ _ _ _ hj⟩
    · simp at h
end
section
variable {P:Program} {T:TT} {G G':Nat->Prop} {w w':World} {C C':Cx} {F:Fr} {act:Act} {H H':Heap}
theorem yl_ {p:Prop} (h:p:=by rw [Cx.bG]; omega):p:=h
theorem HR.virt (hH:HR G w C H) (k:Nat) (base:Option Addr) :
 ∃ C',Ev G w C G w C'/\HR G w C' (H++[{ gen:=0,k:=k,els:=[] }])/\VR G w C' (.osl H.length 0 k 0 0) (.slice base 0 0)/\Pd V5 C H C' (H++[{ gen:=0,k:=k,els:=[] }]):=by
 obtain ⟨h1,h2⟩:=hH.out H.length (Nat.le_refl _)
 have hne:∀ j,j≠H.length->(H++[({ gen:=0,k:=k,els:=[] }:Ob)])[j]?=H[j]?:=fun j hj=>by
  rcases Nat.lt_or_ge j H.length with h' | h'
  · rw [List.getElem?_append_left h']
  · rw [List.getElem?_eq_none yg_,List.getElem?_eq_none ya_]
 have hHH:=hH.upd (G':=G) (w':=w) (C':=C.lay H.length (some ⟨none,0,k,0⟩) 0) (H':=H++[{ gen:=0,k:=k,els:=[] }]) H.length { gen:=0,k:=k,els:=[] } rfl rfl rfl
  (fun j hj=>Cx.L6 _ _ _ _ hj) yl_ (fun _ l hl=>by rw [h2] at hl; simp at hl) hne ye_ ye_ (Nat.le_refl _)
  (by rw [Cx.bG]) (fun _ h=>h) (fun b hb=>.inl hb) (fun _ _ _=>rfl) (Nat.le_refl _) (fun b hb=>hH.gsz b hb) (fun l' b hl' hb=>by rw [Cx.U3] at hl'; simp at hl'; subst hl'; simp at hb) (fun _=>rfl)
  (fun l' hl'=>by
   rw [Cx.U3] at hl'
   simp only [Option.some.injEq] at hl'
   subst hl'
   exact ⟨fun b hb=>by simp at hb,rfl,fun r hr=>by simp at hr,fun _=>rfl,by simp,fun i hi=>by simp at hi,fun b hb=>by simp at hb⟩)
 refine ⟨_,hHH.1,hHH.2,.osl0 _ _ _ _ _ _ yi_ fun _=>⟨_,Cx.U3 ..,rfl,rfl⟩,⟨by simp,fun j hj _ hi=>?_⟩⟩
 have hj':j≠H.length:=by omega
 exact ⟨by rw [(Cx.L6 _ _ _ _ hj').1]; exact hi,(Cx.L6 _ _ _ _ hj').2,hne j hj'⟩
theorem HR.trim (hH:HR G w C H) {id g k e n:Nat} {v:Value} {o:Ob} (hv:VR G w C (.osl id g k e n) v) (ho:H[id]?=some o) (hog:o.gen=g) (hen:e+n=o.els.length) :
 ∃ C',Ev G w C G w C'/\HR G w C' (H.set id { gen:=g+1,k:=k,els:=o.els.drop e })/\VR G w C' (.osl id (g+1) k 0 n) v/\Pd V5 C H C' (H.set id { gen:=g+1,k:=k,els:=o.els.drop e }):=by
 have hγ:=hH.gen id o ho
 have hlt:id < H.length:=by
  rcases Nat.lt_or_ge id H.length with h' | h'
  · exact h'
  · rw [List.getElem?_eq_none h'] at ho; simp at ho
 have hset:∀ (l l':Loc),C.ι id=some l->l'.b=l.b->l'.k=l.k->l.k=k->l'.sh=l.sh+e * l.k->l'.room+e=l.room\/(l'.room=0/\l.b=none) ->
  Ev G w C G w (C.lay id (some l') (g+1))/\HR G w (C.lay id (some l') (g+1)) (H.set id { gen:=g+1,k:=k,els:=o.els.drop e })/\Pd V5 C H (C.lay id (some l') (g+1)) (H.set id { gen:=g+1,k:=k,els:=o.els.drop e }):=by
  intro l l' hι hb hk hlk hsh hroom
  have hCle:Y5 C (C.lay id (some l') (g+1)):=fun j=>by
   by_cases e':j=id
   · subst e'
     rw [Cx.bG,Cx.U3]
     exact ⟨by omega,fun e2=>by omega⟩
   · rw [(Cx.L6 _ _ _ _ e').1,(Cx.L6 _ _ _ _ e').2]; exact ⟨Nat.le_refl _,fun _ _ h=>h⟩
  have hHH:=hH.upd (G':=G) (w':=w) (C':=C.lay id (some l') (g+1)) (H':=H.set id { gen:=g+1,k:=k,els:=o.els.drop e }) id { gen:=g+1,k:=k,els:=o.els.drop e } rfl rfl rfl
   (fun j hj=>Cx.L6 _ _ _ _ hj) yl_ (fun e2=>by rw [Cx.bG] at e2; omega) (fun j hj=>by rw [List.getElem?_set_ne (Ne.symm hj)]) (by rw [List.getElem?_set_self hlt]) ye_ ya_
   (by rw [Cx.bG]) (fun _ h=>h) (fun b hb=>.inl hb) (fun _ _ _=>rfl) (Nat.le_refl _) (fun b hb=>hH.gsz b hb) (fun l2 b hl2 hb2=>by rw [Cx.U3] at hl2; simp at hl2; subst hl2; exact .inl ⟨l,hι,by rw [<- hb]; exact hb2⟩) (fun _=>rfl)
   (fun l2 hl2=>by
    rw [Cx.U3] at hl2
    simp only [Option.some.injEq] at hl2
    subst hl2
    obtain ⟨hk0,hrm,hno,hlen,hrow,hcs⟩:=hH.ob id o l ho hι
    refine ⟨fun b hb2=>?_,by simp [hk,hlk],fun r hr=>by simp at hr,fun hn=>?_,?_,fun i hi=>?_,fun b hb2=>?_⟩
    · rw [hb] at hb2
      exact ⟨(hH.own id l b hι hb2).1,(hH.own id l b hι hb2).2,fun j hj l3 hl3 e'=>hj (hH.inj _ _ _ _ b hl3 hι e' hb2)⟩
    · have:=hno (by rw [<- hb]; exact hn)
      rcases hroom with h | h <;> omega
    · simp only [List.length_drop]
      rcases hroom with h | ⟨h,h'⟩
      · omega
      · have:=hno h'
        omega
    · simp only [List.length_drop] at hi
      have:(o.els.drop e).getD i []=o.els.getD (e+i) []:=by simp [List.getD_eq_getElem?_getD,List.getElem?_drop]
      rw [this,hk]
      exact hrow _ ya_
    · rw [hb] at hb2
      obtain ⟨cs,t,hc,hcs,hcell⟩:=hcs b hb2
      refine ⟨cs,t,hc,?_,fun i j hi hj=>?_⟩
      · rcases hroom with h | ⟨_,h⟩
        · have h5:l.room * l.k=l'.room * l.k+e * l.k:=by rw [<- h,Nat.add_mul]
          rw [hsh,hk]
          omega
        · rw [h] at hb2; simp at hb2
      · simp only [List.length_drop] at hi
        have h2:(o.els.drop e).getD i []=o.els.getD (e+i) []:=by simp [List.getD_eq_getElem?_getD,List.getElem?_drop]
        have h3:l'.sh+i * l'.k+j=l.sh+(e+i) * l.k+j:=by rw [hsh,hk,Nat.add_mul]; omega
        rw [h2,h3]
        rw [hk] at hj
        obtain ⟨h4,h5⟩:=hcell (e+i) j ya_ hj
        exact ⟨h4,h5.mono (fun _ h=>h) (fun _ _=>rfl) hCle⟩)
  refine ⟨hHH.1,hHH.2,⟨by simp,fun j hj _ hi=>?_⟩⟩
  have hne:j≠id:=fun e=>by subst e; rw [hι] at hi; simp at hi
  exact ⟨by rw [(Cx.L6 _ _ _ _ hne).1]; exact hi,(Cx.L6 _ _ _ _ hne).2,by rw [List.getElem?_set_ne (Ne.symm hne)]⟩
 cases hv with
 | osl _ _ _ _ _ _ ad cap hnc hle hl =>
  obtain ⟨l,b,hι,hlb,hlk,hen',hcap,had⟩:=hl ya_
  obtain ⟨h1,h2,h3⟩:=hset l ⟨l.b,l.sh+e * l.k,l.k,l.room - e⟩ hι rfl rfl hlk rfl (.inl yg_)
  refine ⟨_,h1,h2,.osl _ _ _ _ _ _ _ _ hnc yi_ fun _=>⟨_,b,Cx.U3 ..,hlb,hlk,by simp; omega,by simp; omega,fun hr=>?_⟩,h3⟩
  simp only at hr ⊢
  rw [had ya_,hlk]
  simp
 | osl0 _ _ _ _ _ base hle hl =>
  obtain ⟨l,hι,hlb,hlk⟩:=hl ya_
  obtain ⟨h1,h2,h3⟩:=hset l ⟨l.b,l.sh+e * l.k,l.k,0⟩ hι rfl rfl hlk rfl (.inr ⟨rfl,hlb⟩)
  exact ⟨_,h1,h2,.osl0 _ _ _ _ _ _ yi_ fun _=>⟨_,Cx.U3 ..,hlb,hlk⟩,h3⟩
theorem a4Z (hT:TOk P T) (hH:HR G w C H) {t t' ty:TypeId} {s x a:AV} {us ux:Value} (hs:VR G w C s us) (hx:VR G w C x ux) (ht':xZ T t'=true) (h:fC T H t s x=some (a,H')) :
 ∃ v w' C',(Builtin.append_ #[t,t'] ty #[us,ux]).run P w=.ok v w'/\Ev G w C G w' C'/\HR G w' C' H'/\VR G w' C' a v/\Pd V5 C H C' H':=by
 have h0:=h
 unfold fC at h
 split at h
 case h_2=>simp at h
 rename_i e _ _ _ _ ht
 split at h
 case h_2=>simp at h
 rename_i te hte
 split at h
 case h_2=>simp at h
 rename_i new hnew
 obtain ⟨i,z,hA,hsz,hby,hzc⟩:=ApT.of hT ht rfl hte ht'
 have hnew':=hnew
 rw [<- hsz] at hnew'
 obtain ⟨nv,hsrc⟩:=jT (P:=P) hH hx hnew'
 by_cases hne:new=[]
 · -- nothing is appended
   subst hne
   split at h
   · rename_i g k
     have hcase:∃ base,us=.slice base 0 0:=by
      cases hs with
      | nils _ _ _ hg=>exact ⟨_,rfl⟩
      | sl _ _ _ _ ad cap hg hclip hle =>
       have:cap=0:=by
        cases g with
        | nil=>exact absurd rfl hg
        | clip=>simpa using hclip ye_
        | cn=>simpa using hclip ye_
        | op=>simp at h
        | any=>simp at h
       subst this
       exact ⟨_,rfl⟩
     obtain ⟨base,rfl⟩:=hcase
     have hr:a=.osl H.length 0 te.size 0 0/\H'=H++[{ gen:=0,k:=te.size,els:=[] }]:=by
      cases g <;> simp at h <;> exact ⟨h.2.1.symm,h.2.2.symm⟩
     obtain ⟨rfl,rfl⟩:=hr
     obtain ⟨C',h1,h2,h3,h4⟩:=hH.virt te.size base
     exact ⟨_,w,C',bC hA ux hsrc base 0 0 (Nat.le_refl _),h1,h2,h3,h4⟩
   · rename_i id g k e' n
     split at h
     case h_2=>simp at h
     rename_i o ho
     split at h
     case isFalse=>simp at h
     rename_i hc
     obtain ⟨hog,hk,_,hrm,hen,_⟩:=hc
     simp only [List.length_nil,Nat.add_zero,List.append_nil,Option.some.injEq,Prod.mk.injEq] at h
     obtain ⟨rfl,rfl⟩:=h
     obtain ⟨C',h1,h2,h3,h4⟩:=hH.trim hs ho hog hen
     cases hs with
     | osl _ _ _ _ _ _ ad cap hnc=>exact ⟨_,w,C',bC hA ux hsrc _ _ _ hnc,h1,h2,h3,h4⟩
     | osl0 _ _ _ _ _ base=>exact ⟨_,w,C',bC hA ux hsrc _ _ _ (Nat.le_refl _),h1,h2,h3,h4⟩
   · simp at h
 · have key:dZ T H t s x=some (a,H'):=by
    unfold dZ
    simp only [ht,hte,hnew]
    cases new with
    | nil=>exact absurd rfl hne
    | cons r new =>
     split at h
     · rename_i g k
       cases g <;> simp at h ⊢ <;> first | exact h | (obtain ⟨h1,h2⟩:=h; exact ⟨h1,h2⟩)
     · rename_i id g k e' n
       split at h
       case h_2=>simp at h
       rename_i o ho
       split at h
       case isFalse=>simp at h
       rename_i hc
       obtain ⟨hog,hk,hk0,hrm,hen,hm,hb⟩:=hc
       simp only [ho]
       rw [if_pos ⟨hog,hk,hk0⟩]
       simp only [hrm]
       rw [if_pos hen,if_pos ⟨hm,hb⟩]
       exact h
     · simp at h
   exact yM hT hH hs hx ht' key
end
def After (G:Nat->Prop) (w:World) (C:Cx) (H:Heap) (r:AV × Heap) (v:Value) (w':World):Prop :=
 ∃ G' C',Ev G w C G' w' C'/\HR G' w' C' r.2/\VR G' w' C' r.1 v/\Pd V5 C H C' r.2
def fI (P:Program) (f:FuncId) (vs:Array Value) (w:World) (R:Value->World->Prop):Prop :=
 match (callFunc f vs).run P w with
 | .ok (.enter g args) w'=>Calls P g args w' fun e w''=>∃ v,e=.returned v/\R v w''
 | .ok (.value v) w'=>R v w'
 | _=>False
def j5 (P:Program) (f:FuncId) (args:List AV) (H:Heap) (r:AV × Heap):Prop :=
 ∀ (G:Nat->Prop) (w:World) (C:Cx) (vs:Array Value),vs.size=args.length->(∀ i,i < args.length->VR G w C (args.getD i .skip) (vs.getD i undef))->HR G w C H->fI P f vs w (After G w C H r)
def Mok (P:Program) (M:TypeId->String->Option FuncId):Prop:=∀ t m f,M t m=some f->∀ v w,(method (P.types.size+Made.depth) t v m).run P w=.ok (f,v) w
def lS (P:Program) (F:Fr) (H:Heap) (o:Oper) (r:AV × Heap):Prop :=
 ∀ (G:Nat->Prop) (w:World) (C:Cx) (f:Operand->Value),(∀ x∈o.op.operands,∀ a,opv F x=some a->VR G w C a (f x))->HR G w C H ->
  ∃ v w',(execOp f o).run P w=.ok (.value v) w'/\After G w C H r v w'
def dP (P:Program) (X:Env) (F:Fr) (H:Heap) (ar:Nat) (o:Oper) (a:AV) (H':Heap):Prop :=
 match o.op with
 | .call { callee:=.value f,args,.. }=>match opv F f,rR F args.toList with
  | some (.func f xs),some as_=>j5 P f (as_++xs) H (a,H')
  | _,_=>False
 | .call { callee:=.invoke r m,args,.. }=>match opv F r,rR F args.toList with
  | some (.iface t v),some as_=>match X.M t m with
   | some f=>j5 P f (v :: as_) H (a,H')
   | none=>False
  | _,_=>False
 | _=>ev1 X F H ar o=some (a,H')
section
variable {P:Program} {X:Env} {G G':Nat->Prop} {w w':World} {C C':Cx} {F:Fr} {act:Act} {H H':Heap}
theorem fI.upon {o:Oper} {f:FuncId} {vs:Array Value} {R:Value->World->Prop} (h:fI P f vs w R) {s:Sem Next} (hs:s.run P w=(callFunc f vs).run P w) {K:Act->World->Prop} {Q:Exit->Act->World->Prop}
 (hK:∀ v w',R v w'->K (act.put o.dst v) w'):o.upon P act K Q (s.run P w):=by
 unfold fI at h
 rw [hs]
 split at h
 · rename_i g args w2 hr
   rw [hr,Oper.upon_enter]
   exact Calls.mono h fun e w'' ⟨v,he,hR⟩=>by subst he; exact hK _ _ hR
 · rename_i v w2 hr
   rw [hr,Oper.upon_value]
   exact hK _ _ h
 · exact h.elim
theorem b0f (hF:FrR G w C F act.tmps) {xs:Array Operand} {l:List AV} (h:rR F xs.toList=some l):(xs.map act.eval).size=l.length/\∀ i,i < l.length->VR G w C (l.getD i .skip) ((xs.map act.eval).getD i undef):=by
 obtain ⟨h1,h2⟩:=zR (act:=act) hF h
 refine ⟨by simpa using h1,fun i hi=>?_⟩
 have:=h2 i hi
 simpa [Array.getD_eq_getD_getElem?,List.getD_eq_getElem?_getD] using this
theorem b1E {as_ xs:List AV} {us vs:Array Value} (h1:us.size=as_.length) (h2:vs.size=xs.length) (h3:∀ i,i < as_.length->VR G w C (as_.getD i .skip) (us.getD i undef)) (h4:∀ i,i < xs.length->VR G w C (xs.getD i .skip) (vs.getD i undef)) :
 (us++vs).size=(as_++xs).length/\∀ i,i < (as_++xs).length->VR G w C ((as_++xs).getD i .skip) ((us++vs).getD i undef):=by
 refine ⟨by simp [h1,h2],fun i hi=>?_⟩
 simp only [List.length_append] at hi
 rw [List.getD_eq_getElem?_getD,Array.getD_eq_getD_getElem?]
 by_cases h:i < as_.length
 · rw [List.getElem?_append_left h,Array.getElem?_append_left ya_]
   simpa [Array.getD_eq_getD_getElem?,List.getD_eq_getElem?_getD] using h3 i h
 · rw [List.getElem?_append_right ya_,Array.getElem?_append_right ya_,h1]
   simpa [Array.getD_eq_getD_getElem?,List.getD_eq_getElem?_getD] using h4 (i - as_.length) ya_
theorem dP.of {ar:Nat} {o:Oper} {a:AV} (h:ev1 X F H ar o=some (a,H')):dP P X F H ar o a H':=by
 obtain ⟨dst,op,type,pos,after,guard⟩:=o
 cases op with
 | call c =>
  obtain ⟨callee,args,argTypes⟩:=c
  cases callee with
  | value f=>simp [ev1,evP] at h
  | invoke r m=>simp [ev1,evP] at h
  | builtin b=>exact h
 | _=>exact h
theorem dP.sound (hT:TOk P X.T) (hM:Mok P X.M) (hF:FrR G w C F act.tmps) (hH:HR G w C H) {ar:Nat} {o:Oper} {a:AV} (h:dP P X F H ar o a H')
 (har:∀ t,o.op=.alloc t->∃ ti,X.T t=some ti/\H[ar]?=some ⟨0,ti.size,[ti.zero],none⟩/\C.ι ar=none)
 {K:Act->World->Prop} {Q:Exit->Act->World->Prop}
 (hK:∀ v w' G' C',Ev G w C G' w' C'->HR G' w' C' H'->VR G' w' C' a v->Pd (fun id=>R5 o=true->id≠ar) C H C' H'->K (act.put o.dst v) w'):o.wp P act w K Q:=by
 have viaP:∀ {a:AV},evP X.T F o.op=some a->(∀ v w' G' C',Ev G w C G' w' C'->HR G' w' C' H->VR G' w' C' a v->Pd (fun id=>R5 o=true->id≠ar) C H C' H->K (act.put o.dst v) w')->o.wp P act w K Q:=by
  intro a ha hk
  obtain ⟨v,w',G',hr,he,hh,hv⟩:=c4B (act:=act) hT hF hH ha
  unfold Oper.wp
  rw [hr,Oper.upon_value]
  exact hk v w' G' C he hh hv Pd.refl
 have hnew:∀ (o':Ob) (j:Nat),j≠H.length->(H++[o'])[j]?=H[j]?:=fun o j hj=>by
  rcases Nat.lt_or_ge j H.length with h' | h'
  · rw [List.getElem?_append_left h']
  · rw [List.getElem?_eq_none yg_,List.getElem?_eq_none ya_]
 obtain ⟨dst,op,type,pos,after,guard⟩:=o
 have ofP:(evP X.T F op).map (fun a=>(a,H))=some (a,H')->Oper.wp P ⟨dst,op,type,pos,after,guard⟩ act w K Q:=by
  intro h
  cases ha:evP X.T F op with
  | none=>simp [ha] at h
  | some b =>
   simp only [ha,Option.map_some,Option.some.injEq,Prod.mk.injEq] at h
   obtain ⟨rfl,rfl⟩:=h
   exact viaP ha hK
 cases op with
 | alloc t =>
  simp only [dP,ev1,Option.some.injEq,Prod.mk.injEq] at h
  obtain ⟨rfl,rfl⟩:=h
  obtain ⟨ti,ht,hob,hι⟩:=har t rfl
  obtain ⟨i,hi,hsz,hby,z,hz,hzs,hzl,hza⟩:=(hT _ _ ht).info
  have hγ:C.γ ar=0:=by have:=hH.gen _ _ hob; simpa using this.symm
  have hlt:ar < H.length:=by
   rcases Nat.lt_or_ge ar H.length with h' | h'
   · exact h'
   · rw [List.getElem?_eq_none h'] at hob; simp at hob
  have hzr:=dB (G:=G) (w:=w) (C:=C) hzs
  have hm:=hH.made (H':=H) (w':=w.alloc (.cells z.cells t (0,0))) ar ti.size [ti.zero] z.cells t rfl rfl rfl rfl 1 0 ye_ (by have:=hzr.1; simp at this; omega)
   (fun i hi=>by simp at hi; subst hi; simpa using hzl) ya_ (fun _=>hι) (fun _ _=>rfl) hob (Nat.le_refl _) ya_ (fun i j hi hj=>by
    simp at hi
    subst hi
    have:=hzr.2 j ya_
    simpa [Array.getD_eq_getD_getElem?,List.getD_eq_getElem?_getD] using this)
  have hr:(execOp act.eval (⟨dst,.alloc t,type,pos,after,guard⟩:Oper)).run P w=.ok (.value (.pointer (some ⟨w.heap.size,0,none⟩))) (w.alloc (.cells z.cells t (0,0))):=by
   simp [execOp,Instr.alloc,zeroValue,typeInfo,hi,hz,newVar,newRow]
  unfold Oper.wp
  rw [hr,Oper.upon_value]
  refine hK _ _ _ _ hm.1 hm.2 (.obj _ _ _ _ _ _ yi_ fun _=>⟨_,_,Cx.U3 ..,rfl,by simp⟩) ⟨Nat.le_refl _,fun id _ hs hi=>?_⟩
  have hne:id≠ar:=hs rfl
  exact ⟨by rw [(Cx.L6 _ _ _ _ hne).1]; exact hi,(Cx.L6 _ _ _ _ hne).2,rfl⟩
 | box t x =>
  simp only [dP,ev1] at h
  split at h
  case h_2=>simp at h
  rename_i b ti hb ht
  split at h
  case h_2=>simp at h
  rename_i cs d hfit
  have hv:=H8 (act:=act) hF hb
  obtain ⟨hus,hvs,hcells⟩:=hv.fit hfit
  have hr:(execOp act.eval (⟨some d,.box t x,type,pos,after,guard⟩:Oper)).run P w=.ok (.value (.pointer (some ⟨w.heap.size,0,none⟩))) (w.alloc (.cells (act.eval x).cells t (0,0))):=by
   simp [execOp,Instr.box,newVar,newRow]
  unfold Oper.wp
  rw [hr,Oper.upon_value]
  split at h
  · split at h
    case isFalse=>simp at h
    rename_i hbd
    simp only [Option.some.injEq,Prod.mk.injEq] at h
    obtain ⟨rfl,rfl⟩:=h
    refine hK _ _ _ C (Ev.alloc hH) hH.alloc ?_ Pd.refl
    have:=VR.ref C (G:=fun b=>G b\/b=w.heap.size) (w:=w.alloc (.cells (act.eval x).cells t (0,0))) cs 0 w.heap.size 0 (.inr rfl) (fun j=>(act.eval x).cells.getD j undef) (fun j hj=>?_) (fun j hj=>(hcells j ya_).1) fun j hj=>?_
    · simpa using this
    · have hj':j < (act.eval x).cells.size:=by omega
      unfold World.cell?
      rw [heap_alloc_new]
      simp [hj']
    · have h1:=((hcells j ya_).2.cut 0 (bI _ hbd j hj)).mono (fun b hb=>(.inl hb:G b\/b=w.heap.size)) (fun b hb=>heap_alloc_old w _ (hH.gsz b hb)) (w':=w.alloc (.cells (act.eval x).cells t (0,0))) (C':=Cx.none) (fun id=>by
       simp only [Cx.cut,Nat.not_lt_zero,if_false,Cx.none]
       exact ⟨Nat.le_refl _,fun _ l hl=>by simp at hl⟩)
      exact h1
  · simp only [Option.some.injEq,Prod.mk.injEq] at h
    obtain ⟨rfl,rfl⟩:=h
    have hnone:=hH.out H.length (Nat.le_refl _)
    obtain ⟨h1,h2,h3⟩:=a8t (H':=H++[⟨0,ti.size,[cs],none⟩]) hH hv hfit t H.length (hnew _) ye_ ye_ (Nat.le_refl _) hnone.1 hnone.2
    refine hK _ _ _ _ h1 h2 h3 ⟨by simp,fun id hl _ hi=>?_⟩
    have hne:id≠H.length:=by omega
    exact ⟨by rw [(Cx.L6 _ _ _ _ hne).1]; exact hi,(Cx.L6 _ _ _ _ hne).2,hnew _ _ hne⟩
 | load t x =>
  simp only [dP,ev1] at h
  split at h
  · rename_i cs c hx
    cases hp:part X.T t cs c with
    | none=>simp [hp] at h
    | some b =>
     simp only [hp,Option.map_some,Option.some.injEq,Prod.mk.injEq] at h
     obtain ⟨rfl,rfl⟩:=h
     exact viaP (by simp only [evP,hx]; exact hp) hK
  · rename_i id g e c hx
    split at h
    case h_2=>simp at h
    rename_i cs hrow
    cases hp:part X.T t cs c with
    | none=>simp [hp] at h
    | some b =>
     simp only [hp,Option.map_some,Option.some.injEq,Prod.mk.injEq] at h
     obtain ⟨rfl,rfl⟩:=h
     obtain ⟨v,hr,hv⟩:=yH hT hH (H8 (act:=act) hF hx) hrow hp
     unfold Oper.wp
     have:(execOp act.eval (⟨dst,.load t x,type,pos,after,guard⟩:Oper)).run P w=.ok (.value v) w:=by simp [execOp,hr]
     rw [this,Oper.upon_value]
     exact hK _ _ _ _ (Ev.refl ..) hH hv Pd.refl
  · simp at h
 | store t x y =>
  simp only [dP,ev1] at h
  split at h
  case h_2=>simp at h
  rename_i id g e c b ti hx hy ht
  split at h
  case h_2=>simp at h
  rename_i cs us hrow hfit
  split at h
  case isFalse=>simp at h
  rename_i hle
  simp only [Option.some.injEq,Prod.mk.injEq] at h
  obtain ⟨rfl,rfl⟩:=h
  have hx':=H8 (act:=act) hF hx
  obtain ⟨w',hr,he,hh⟩:=a4a hT hH ht hx' (H8 (act:=act) hF hy) hrow hfit hle
  unfold Oper.wp
  have:(execOp act.eval (⟨dst,.store t x y,type,pos,after,guard⟩:Oper)).run P w=.ok .skip w':=by simp [execOp,hr]
  rw [this,Oper.upon_skip]
  refine hK _ _ _ _ he hh (.skip _) ⟨by simp [setAt],fun j hl _ hi=>⟨hi,rfl,?_⟩⟩
  obtain ⟨_,l,_,_,_,_,_,hι,_⟩:=zK hH hx' hrow
  have hne:id≠j:=fun e'=>by subst e'; rw [hι] at hi; simp at hi
  simp [setAt,List.getElem?_modify,hne]
 | call c =>
  obtain ⟨callee,args,argTypes⟩:=c
  cases callee with
  | value f =>
   simp only [dP] at h
   split at h
   case h_2=>exact h.elim
   rename_i fid xs as_ hf has
   have hfv:=H8 (act:=act) hF hf
   obtain ⟨h1,h2⟩:=b0f (act:=act) hF has
   generalize hu:act.eval f=u at hfv
   cases hfv with
   | func _ _ _ vs hs hv =>
    obtain ⟨h3,h4⟩:=b1E h1 hs h2 hv
    unfold Oper.wp
    refine fI.upon (f:=fid) (h G w C _ h3 h4 hH) ?_ fun v w' ⟨G',C',he,hh,hv',hp⟩=>hK v w' G' C' he hh hv' (hp.weaken fun _ _=>trivial)
    simp [execOp,resolve,hu,Deferred.ofValue,invoke]
  | invoke r m =>
   simp only [dP] at h
   split at h
   case h_2=>exact h.elim
   rename_i t b as_ hr has
   split at h
   case h_2=>exact h.elim
   rename_i fid hm
   have hrv:=H8 (act:=act) hF hr
   obtain ⟨h1,h2⟩:=b0f (act:=act) hF has
   generalize hu:act.eval r=u at hrv
   cases hrv with
   | iface _ _ _ v hv =>
    have h3:=b1E (as_:=[b]) (us:=#[v]) rfl h1 (fun i hi=>by simp at hi; subst hi; simpa using hv) h2
    unfold Oper.wp
    refine fI.upon (f:=fid) (h G w C _ h3.1 h3.2 hH) ?_ fun v w' ⟨G',C',he,hh,hv',hp⟩=>hK v w' G' C' he hh hv' (hp.weaken fun _ _=>trivial)
    have hm':=hM t m fid hm v w
    have hx:((#[Value.iface t v]++args.map act.eval).extract 1 (args.size+1))=args.map act.eval:=by
     apply Array.ext'
     simp
     try exact List.take_of_length_le ye_
    have hx':((#[Value.iface t v]++args.map act.eval).extract 1 (1+args.size))=args.map act.eval:=by rw [Nat.add_comm]; exact hx
    have h0:(#[Value.iface t v]++args.map act.eval)[0]?=some (.iface t v):=by
     rw [Array.getElem?_append_left ye_]; rfl
    have h1:(#[Value.iface t v]++args.map act.eval).size=args.size+1:=by simp [Nat.add_comm]
    simp only [execOp,resolve,hu,invoke,callMethod,Sem.run_bind,Sem.run_pure,Result.andThen_ok,h0,h1,hx,run_program,hm']
  | builtin b =>
   cases b with
   | append =>
    simp only [dP,ev1] at h
    split at h
    case h_2=>simp at h
    rename_i s x t t' hargs htypes
    split at h
    case h_2=>simp at h
    rename_i sa xa hs hx
    split at h
    case h_2=>simp at h
    rename_i hst
    have hargs':args = #[s,x]:=Array.ext' hargs
    have htypes':argTypes = #[t,t']:=Array.ext' htypes
    subst hargs' htypes'
    have hboth:∃ v w' C',(Builtin.append_ #[t,t'] type #[act.eval s,act.eval x]).run P w=.ok v w'/\Ev G w C G w' C'/\HR G w' C' H'/\VR G w' C' a v/\Pd V5 C H C' H':=by
     split at h
     · exact a4Z (ty:=type) hT hH (H8 (act:=act) hF hs) (H8 (act:=act) hF hx) hst h
     · exact yM (ty:=type) hT hH (H8 (act:=act) hF hs) (H8 (act:=act) hF hx) hst h
    obtain ⟨v,w',C',hr,he,hh,hv,hp⟩:=hboth
    unfold Oper.wp
    have:(execOp act.eval (⟨dst,.call { callee:=.builtin .append,args:=#[s,x],argTypes:=#[t,t'] },type,pos,after,guard⟩:Oper)).run P w=.ok (.value v) w':=by
     simp [execOp,resolve,invoke,builtin,hr]
    rw [this,Oper.upon_value]
    exact hK _ _ _ _ he hh hv (hp.weaken fun _ _=>trivial)
   | _=>exact ofP h
 | _=>exact ofP h
end
def Sat (P:Program) (X:Env) (F:Fr) (H:Heap) (ar:Nat) (o:Oper) (a:AV) (H':Heap):Prop :=
 match dM X o with
 | true=>lS P F H o (a,H')\/dP P X F H ar o a H'
 | false=>dP P X F H ar o a H'
section
variable {P:Program} {X:Env} {G G':Nat->Prop} {w w':World} {C C':Cx} {F:Fr} {act:Act} {H H':Heap}
theorem Sat.of {ar:Nat} {o:Oper} {a:AV} (h:ev1 X F H ar o=some (a,H')):Sat P X F H ar o a H':=by
 unfold Sat
 split
 · exact .inr (dP.of h)
 · exact dP.of h
theorem Sat.sound (hT:TOk P X.T) (hM:Mok P X.M) (hF:FrR G w C F act.tmps) (hH:HR G w C H) {ar:Nat} {o:Oper} {a:AV} (h:Sat P X F H ar o a H')
 (har:∀ t,o.op=.alloc t->∃ ti,X.T t=some ti/\H[ar]?=some ⟨0,ti.size,[ti.zero],none⟩/\C.ι ar=none)
 {K:Act->World->Prop} {Q:Exit->Act->World->Prop}
 (hK:∀ v w' G' C',Ev G w C G' w' C'->HR G' w' C' H'->VR G' w' C' a v->Pd (fun id=>R5 o=true->id≠ar) C H C' H'->K (act.put o.dst v) w'):o.wp P act w K Q:=by
 unfold Sat at h
 split at h
 · rcases h with h | h
   · obtain ⟨v,w',hr,G',C',he,hh,hv,hp⟩:=h G w C act.eval (fun x _ a ha=>H8 (act:=act) hF ha) hH
     unfold Oper.wp
     rw [hr,Oper.upon_value]
     exact hK v w' G' C' he hh hv (hp.weaken fun _ _=>trivial)
   · exact h.sound hT hM hF hH har hK
 · exact h.sound hT hM hF hH har hK
end
end Go.Proofs.YtmghjcbabebanaaGreat.AM
