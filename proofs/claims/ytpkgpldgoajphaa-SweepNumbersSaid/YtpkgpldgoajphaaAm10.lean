/-
  AM: the evaluator: operations on exclusive objects, regions, code, functions. Definitions alone.
-/
import Derived.Test.YtpkgpldgoajphaaAm0
set_option linter.unusedVariables false
namespace Go.Proofs.Ytpkgpldgoajphaa.AM
open Go

/-- Rows that name no exclusive object of number b or more. -/
def AV.bddss (b : Nat) : List (List AV) → Bool
  | [] => true
  | x :: xs => AV.bdds b x && AV.bddss b xs
mutual
def AV.beq : AV → AV → Bool
  | .skip, .skip => true
  | .unk, .unk => true
  | .bool a, .bool b => a == b
  | .int k a, .int j b => decide (k = j) && decide (a = b)
  | .str a, .str b => decide (a = b)
  | .nilp, .nilp => true
  | .nilf, .nilf => true
  | .nili, .nili => true
  | .func f xs, .func g ys => decide (f = g) && AV.beqs xs ys
  | .iface t a, .iface u b => decide (t = u) && AV.beq a b
  | .agg xs, .agg ys => AV.beqs xs ys
  | .tup xs, .tup ys => AV.beqs xs ys
  | .ref xs c, .ref ys d => AV.beqs xs ys && decide (c = d)
  | .sl g k xs, .sl h j ys => decide (g = h) && decide (k = j) && AV.beqss xs ys
  | .obj a b c d, .obj a' b' c' d' => decide (a = a') && decide (b = b') && decide (c = c') && decide (d = d')
  | .osl a b c d e, .osl a' b' c' d' e' => decide (a = a') && decide (b = b') && decide (c = c') && decide (d = d') && decide (e = e')
  | _, _ => false
def AV.beqs : List AV → List AV → Bool
  | [], [] => true
  | a :: as, b :: bs => AV.beq a b && AV.beqs as bs
  | _, _ => false
def AV.beqss : List (List AV) → List (List AV) → Bool
  | [], [] => true
  | a :: as, b :: bs => AV.beqs a b && AV.beqss as bs
  | _, _ => false
end

/-- A step that changes what is said, and not the world: a slice is given up to be frozen; a nil slice becomes an exclusive one; an object's number of turns is raised; objects from number n on are let go; of a slice it is forgotten whether it is nil. -/
inductive Gh where
  | frz (t : Nat) | vir (t k : Nat) | gen (t g : Nat) | cut (n : Nat) | any (t k : Nat)
/-- What a function's body is told beside its code. refs: slots of variables that are never written again; own: slots of appends whose yield is an exclusive slice; big: slots of slices that are cut beyond their length; gh, gha: steps ahead of a region, behind it; base: no object below this number is let go; fin: the objects from this number on are let go at the end; live, out: by a loop's first region, the slots that its head keeps, those that are kept behind it. -/
structure Ann where
  refs : List Nat := []
  own : List Nat := []
  big : List Nat := []
  gh : List (Nat × Gh) := []
  gha : List (Nat × Gh) := []
  base : Nat := 0
  fin : Option Nat := none
  live : List (Nat × List Nat) := []
  out : List (Nat × List Nat) := []
  deriving Inhabited

structure Env where
  T : TT
  M : TypeId → String → Option FuncId
  ann : Ann

def memN (n : Nat) : List Nat → Bool
  | [] => false
  | m :: ms => if Nat.beq n m then true else memN n ms
def assoc {α : Type} (n : Nat) : List (Nat × α) → Option α
  | [] => none
  | (m, a) :: ms => if Nat.beq n m then some a else assoc n ms

/-- The cells of row e of object id, if nothing has turned it. -/
def rowAt (H : Heap) (id g e : Nat) : Option (List AV) :=
  match H[id]? with
  | some o => if o.gen = g then o.els[e]? else none
  | none => none
def setAt (H : Heap) (id e : Nat) (cs : List AV) : Heap := H.modify id fun o => { o with els := o.els.set e cs }
/-- The rows of a slice or the bytes of a string. -/
def rowsIn (H : Heap) (k : Nat) : AV → Option (List (List AV))
  | .sl _ k' xs => if k = k' ∨ xs.isEmpty = true then some xs else none
  | .osl id g k' e n => match H[id]? with
    | some o => if o.gen = g ∧ k = k' ∧ e + n ≤ o.els.length then some ((o.els.drop e).take n) else none
    | none => none
  | .str s => if k = 1 then some (s.data.toList.map fun b => [.int .u8 b.toNat]) else none
  | _ => none
def most : Nat := 140737488355328
def sourceT (T : TT) (t : TypeId) : Bool :=
  match T t with
  | some { d := .slice _, .. } => true
  | some { d := .string, .. } => true
  | _ => false
def evAppend (T : TT) (H : Heap) (t : TypeId) (s x : AV) : Option (AV × Heap) :=
  match T t with
  | some { d := .slice e, .. } => match T e with
    | some te => match rowsIn H te.size x with
      | some new => match new with
        | [] => match s with
          | .sl .. => some (s, H)
          | .osl .. => some (s, H)
          | _ => none
        | _ => match s with
          | .sl .nil _ [] => if new.length * te.bytes ≤ most ∧ 0 < te.size ∧ 0 < te.bytes then some (.osl H.length 0 te.size 0 new.length, H ++ [{ gen := 0, k := te.size, els := new }]) else none
          | .sl .clip k xs => if (xs.length + new.length) * te.bytes ≤ most ∧ 0 < te.size ∧ 0 < te.bytes ∧ (k = te.size ∨ xs.isEmpty = true) then some (.osl H.length 0 te.size 0 (xs.length + new.length), H ++ [{ gen := 0, k := te.size, els := xs ++ new }]) else none
          | .sl .cn k xs => if (xs.length + new.length) * te.bytes ≤ most ∧ 0 < te.size ∧ 0 < te.bytes ∧ (k = te.size ∨ xs.isEmpty = true) then some (.osl H.length 0 te.size 0 (xs.length + new.length), H ++ [{ gen := 0, k := te.size, els := xs ++ new }]) else none
          | .osl id g k e n => match H[id]? with
            | some o => if o.gen = g ∧ k = te.size ∧ 0 < te.size then
                match o.room with
                | some rm => if e + n ≤ o.els.length ∧ rm - e < n + new.length ∧ (n + new.length) * te.bytes ≤ most ∧ 0 < te.bytes then some (.osl H.length 0 te.size 0 (n + new.length), H ++ [{ gen := 0, k := te.size, els := (o.els.drop e).take n ++ new }]) else none
                | none =>
                if e + n = o.els.length then
                  if (n + new.length) * te.bytes ≤ most ∧ 0 < te.bytes then some (.osl id (g + 1) k 0 (n + new.length), H.set id { gen := g + 1, k := k, els := o.els.drop e ++ new }) else none
                else if e + n + new.length ≤ o.els.length then some (.osl id g k e (n + new.length), H.set id { o with els := o.els.take (e + n) ++ new ++ o.els.drop (e + n + new.length) })
                else none
              else none
            | none => none
          | _ => none
      | none => none
    | none => none
  | _ => none
/-- An append whose yield is an exclusive slice, whether rows are appended or not. -/
def evAppendO (T : TT) (H : Heap) (t : TypeId) (s x : AV) : Option (AV × Heap) :=
  match T t with
  | some { d := .slice e, .. } => match T e with
    | some te => match rowsIn H te.size x with
      | some new => match s with
        | .sl g _ [] => match g with
          | .op => none
          | .any => none
          | _ => if new.length * te.bytes ≤ most ∧ 0 < te.size ∧ 0 < te.bytes then some (.osl H.length 0 te.size 0 new.length, H ++ [{ gen := 0, k := te.size, els := new }]) else none
        | .osl id g k e n => match H[id]? with
          | some o => if o.gen = g ∧ k = te.size ∧ 0 < te.size ∧ o.room = none ∧ e + n = o.els.length ∧ (n + new.length) * te.bytes ≤ most ∧ 0 < te.bytes then some (.osl id (g + 1) k 0 (n + new.length), H.set id { gen := g + 1, k := k, els := o.els.drop e ++ new }) else none
          | none => none
        | _ => none
      | none => none
    | none => none
  | _ => none
/-- An operation: what it yields, the objects behind it. ar: the object that an 'alloc' makes. -/
def ev1 (X : Env) (F : Fr) (H : Heap) (ar : Nat) (o : Oper) : Option (AV × Heap) :=
  match o.op with
  | .alloc t => some (.obj ar 0 0 0, H)
  | .box t x => match opv F x, X.T t with
    | some v, some ti => match v.fit ti.size, o.dst with
      | some cs, some d => if memN d X.ann.refs then (if AV.bdds 0 cs then some (.ref cs 0, H) else none)
          else some (.obj H.length 0 0 0, H ++ [{ gen := 0, k := ti.size, els := [cs] }])
      | _, _ => none
    | _, _ => none
  | .load t x => match opv F x with
    | some (.ref cs c) => (part X.T t cs c).map fun a => (a, H)
    | some (.obj id g e c) => match rowAt H id g e with
      | some cs => (part X.T t cs c).map fun a => (a, H)
      | none => none
    | _ => none
  | .store t x y => match opv F x, opv F y, X.T t with
    | some (.obj id g e c), some v, some ti => match rowAt H id g e, v.fit ti.size with
      | some cs, some us => if c + ti.size ≤ cs.length then some (.skip, setAt H id e (fillAt cs c us)) else none
      | _, _ => none
    | _, _, _ => none
  | .call { callee := .builtin .append, args, argTypes } => match args.toList, argTypes.toList with
    | [s, x], [t, t'] => match opv F s, opv F x with
      | some s, some x => match sourceT X.T t' with
        | true => match (match o.dst with
            | some d => memN d X.ann.own
            | none => false) with
          | true => evAppendO X.T H t s x
          | false => evAppend X.T H t s x
        | false => none
      | _, _ => none
    | _, _ => none
  | op => (evP X.T F op).map fun a => (a, H)

def putF (F : Fr) (d : Option Nat) (a : AV) : Fr :=
  match d with
  | some d => F.set d (some a)
  | none => F
def dstOf (all : List Oper) (j : Nat) : Option Nat := (all[j]?).bind (·.dst)
def isAlloc (o : Oper) : Bool := match o.op with | .alloc _ => true | _ => false
/-- The objects that a region's 'alloc's make. -/
def allocs (T : TT) : List Oper → Option Heap
  | [] => some []
  | o :: os => match o.op with
    | .alloc t => match T t, allocs T os with
      | some ti, some l => some ({ gen := 0, k := ti.size, els := [ti.zero] } :: l)
      | _, _ => none
    | _ => allocs T os

/-- How an operation stands to exclusive objects: not at all; it reads them; it may turn them. -/
inductive Cl where
  | P | R | E
def clsOf (X : Env) (F : Fr) (o : Oper) : Cl :=
  match o.op with
  | .load _ x => match opv F x with
    | some (.obj ..) => .R
    | _ => .P
  | .box _ _ => match o.dst with
    | some d => if memN d X.ann.refs then .P else .E
    | none => .E
  | .store .. => .E
  | .call { callee := .value _, .. } => .E
  | .call { callee := .invoke _ _, .. } => .E
  | .call { callee := .builtin .append, .. } => .E
  | _ => .P
/-- What each operation waits for, as bits. -/
def needsOf (edges : List Edge) (acc : List Nat) : Nat :=
  match edges with
  | [] => 0
  | e :: es => if Region.binds .any e then Nat.lor (Nat.lor (2 ^ e.on) (acc.getD e.on 0)) (needsOf es acc) else needsOf es acc
def needs : List Oper → List Nat → List Nat
  | [], acc => acc
  | o :: os, acc => needs os (acc ++ [needsOf o.after.toList acc])
def waits (nd : List Nat) (i j : Nat) : Bool := Nat.testBit (nd.getD i 0) j      -- i waits for j
structure Rd where
  i : Nat
  o : Oper
  F : Fr
  a : AV
  k : Nat
/-- What a drawn region has met: the objects behind each turn, the operations that turned them, the reads. -/
structure Dr where
  hs : List Heap
  es : List Nat
  rs : List Rd
def chain (nd : List Nat) : List Nat → Bool
  | [] => true
  | [_] => true
  | a :: b :: es => waits nd b a && chain nd (b :: es)
def countB (p : Nat → Bool) : List Nat → Nat
  | [] => 0
  | a :: as => if p a then countB p as + 1 else countB p as
def noteD (X : Env) (F : Fr) (i : Nat) (o : Oper) (a : AV) (H' : Heap) (D : Dr) : Dr :=
  match clsOf X F o with
  | .P => D
  | .R => { D with rs := ⟨i, o, F, a, D.es.length⟩ :: D.rs }
  | .E => { D with hs := D.hs ++ [H'], es := D.es ++ [i] }

def addObs (H : Heap) : Heap → Heap
  | [] => H
  | al => H ++ al
inductive Ex where
  | normal | exit (id : Nat) | ret
def keepF (live : List Nat) : Nat → Fr → Fr
  | _, [] => []
  | i, a :: F => (if memN i live then a else none) :: keepF live (i + 1) F
def cutF : Option (List Nat) → Fr → Fr
  | none, F => F
  | some l, F => keepF l 0 F
def firstReg : Code → Nat
  | .region id _ _ => id
  | .seq a b => match a with
    | .skip => firstReg b
    | _ => firstReg a
  | .block _ c => firstReg c
  | .loop c => firstReg c
  | _ => 1000000
mutual
/-- What is handed back is made immutable, as far as it was made here. -/
def frzV (n0 : Nat) : AV → Heap → Option (AV × Heap)
  | .osl id g k e n, H => if n0 ≤ id then match rowsIn H k (.osl id g k e n) with
      | some xs => if AV.bddss 0 xs then some (.sl .any k xs, H.modify id fun o => { gen := o.gen + 1, k := o.k, els := [] }) else none
      | none => none
    else some (.osl id g k e n, H)
  | .agg cs, H => match frzVs n0 cs H with
    | some (cs, H) => some (.agg cs, H)
    | none => none
  | .tup cs, H => match frzVs n0 cs H with
    | some (cs, H) => some (.tup cs, H)
    | none => none
  | v, H => some (v, H)
def frzVs (n0 : Nat) : List AV → Heap → Option (List AV × Heap)
  | [], H => some ([], H)
  | v :: vs, H => match frzV n0 v H with
    | some (v, H) => match frzVs n0 vs H with
      | some (vs, H) => some (v :: vs, H)
      | none => none
    | none => none
end
def result1 (X : Env) (F : Fr) (H : Heap) : ResultVar → Option AV
  | .tmp t => opv F (.tmp t)
  | .cell a t => match opv F (.tmp a) with
    | some (.ref cs c) => part X.T t cs c
    | some (.obj id g e c) => match rowAt H id g e with
      | some cs => part X.T t cs c
      | none => none
    | _ => none
def resultsOf (X : Env) (F : Fr) (H : Heap) : List ResultVar → Option (List AV)
  | [] => some []
  | r :: rs => match result1 X F H r, resultsOf X F H rs with
    | some a, some l => some (a :: l)
    | _, _ => none
def packR : List AV → AV
  | [v] => v
  | vs => .tup vs
end Go.Proofs.Ytpkgpldgoajphaa.AM
