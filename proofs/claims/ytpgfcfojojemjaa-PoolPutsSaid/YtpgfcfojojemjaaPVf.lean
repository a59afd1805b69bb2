/- What one operation that turns nothing comes to. -/
import Derived.Test.YtpgfcfojojemjaaPVe
namespace Go.PV
set_option linter.unusedVariables false

structure St where
  slots : List V
  heap : List (List V)
  own : List (Nat × Nat)
  next : Nat

def ev (s : St) : Operand → Option V
  | .tmp t => s.slots[t]?
  | .const v => absV v
  | .func f => some (.func (.func f) [])
  | .global _ => none
def evL (s : St) : List Operand → Option (List V)
  | [] => some []
  | x :: xs => match ev s x,evL s xs with
    | some v,some vs => some (v :: vs)
    | _,_ => none

def TD.intK? : TD → Option IntKind
  | .int k => some k
  | _ => none

/-- the cells of a pointer's place -/
def cellsOf (s : St) : V → Option (List V)
  | .ptr b off => match s.heap[b]? with
    | some cs => some (cs.drop off)
    | none => none
  | .rptr cs => some cs
  | _ => none

def partV (i : TI) (cs : List V) (off : Nat) : Option V :=
  if i.d.agg then (if off + i.sz ≤ cs.length then some (.agg ((cs.drop off).take i.sz)) else none) else cs[off]?

def byteV (b : UInt8) : V := .int .u8 b.toNat
def unbyte : List V → Option (List UInt8)
  | [] => some []
  | .int .u8 n :: r => match unbyte r with
    | some bs => some (UInt8.ofNat n.toNat :: bs)
    | none => none
  | _ :: _ => none

def boundV (x : Option V) (d : Nat) (most : Nat) : Option Nat :=
  match x with
  | none => some d
  | some (.int _ n) => if 0 ≤ n ∧ n ≤ most then some n.toNat else none
  | _ => none

def evO (s : St) : Option Operand → Option (Option V)
  | none => some none
  | some x => (ev s x).map some

/-- s[lo:hi], s[lo:hi:mx] -/
def sliceV (P : Program) (t : TypeId) (x : V) (lo hi mx : Option V) : Option V :=
  match ti P t with
  | some i =>
    match i.d,x with
    | .str, .str s => if mx.isSome then none else
      match boundV hi s.length s.length with
      | some h => match boundV lo 0 h with
        | some l => some (.str ((s.take h).drop l))
        | none => none
      | none => none
    | .slice e, .nils => if mx.isSome ∨ (ti P e).isNone then none else
      match boundV hi 0 0 with
      | some h => match boundV lo 0 h with
        | some _ => some .nils
        | none => none
      | none => none
    | .slice e, .slice sz l ex _ =>
      match ti P e with
      | some ie => if ie.sz ≠ sz then none else
        match mx with
        | none => match boundV hi l.length l.length with
          | some h => match boundV lo 0 h with
            | some k => some (.slice sz ((l.take h).drop k) (ex && h == l.length) none)
            | none => none
          | none => none
        | some _ => match boundV mx 0 l.length with
          | some m => if hi.isNone then none else match boundV hi 0 m with
            | some h => match boundV lo 0 h with
              | some k => some (.slice sz ((l.take h).drop k) (m == h) none)
              | none => none
            | none => none
          | none => none
      | none => none
    | _,_ => none
  | none => none

def convV (P : Program) (src dst : TypeId) (x : V) : Option V :=
  match ti P src,ti P dst with
  | some i,some j =>
    match j.d,x with
    | .int k, .int _ n => some (.int k (k.wrap n))
    | .str, .str s => some (.str s)
    | .slice e, .str s => match i.d,ti P e with
      | .str,some ie => match ie.d with
        | .int .u8 => if ie.sz = 1 then some (.slice 1 (s.map byteV) false none) else none
        | _ => none
      | _,_ => none
    | .str, .nils => match i.d with
      | .slice e => match ti P e with
        | some ie => match ie.d with
          | .int .u8 => some (.str [])
          | _ => none
        | none => none
      | _ => none
    | .str, .slice 1 l _ _ => match i.d with
      | .slice e => match ti P e with
        | some ie => match ie.d with
          | .int .u8 => (unbyte l).map .str
          | _ => none
        | none => none
      | _ => none
    | _,_ => none
  | _,_ => none

def lenV (P : Program) (t : TypeId) (x : V) : Option V :=
  match ti P t with
  | some i => match i.d,x with
    | .str, .str s => some (.int .i64 s.length)
    | .arr n _,_ => some (.int .i64 n)
    | .slice _, .nils => some (.int .i64 0)
    | .slice _, .slice _ l _ _ => some (.int .i64 l.length)
    | _,_ => none
  | none => none

def mmG (mx : Bool) (k : IntKind) : Int → List V → Option V
  | a, [] => some (.int k a)
  | a, .int k' b :: r => if k = k' then mmG mx k (if mx then (if b > a then b else a) else (if b < a then b else a)) r else none
  | _,_ => none
def mmV (mx : Bool) : List V → Option V
  | .int k a :: r => mmG mx k a r
  | _ => none

def indexAddrV (P : Program) (t : TypeId) (x y : V) : Option V :=
  match ti P t,y with
  | some i, .int _ n =>
    match i.d,x with
    | .arr len e, .ptr b o => match ti P e with
      | some ie => if 0 ≤ n ∧ n < len then some (.ptr b (o + n.toNat * ie.sz)) else none
      | none => none
    | .arr len e, .rptr cs => match ti P e with
      | some ie => if 0 ≤ n ∧ n < len then some (.rptr (cs.drop (n.toNat * ie.sz))) else none
      | none => none
    | .slice e, .slice sz l _ _ => match ti P e with
      | some ie => if ie.sz = sz ∧ 0 ≤ n then
          match l[n.toNat]? with
          | some v => some (.rptr v.cells)
          | none => none
        else none
      | none => none
    | _,_ => none
  | _,_ => none

def indexV (P : Program) (t : TypeId) (x y : V) : Option V :=
  match ti P t,y with
  | some i, .int _ n =>
    match i.d,x with
    | .arr len e, .agg cs => match ti P e with
      | some ie => if 0 ≤ n ∧ n < len then partV ie cs (n.toNat * ie.sz) else none
      | none => none
    | .str, .str s => if 0 ≤ n then
        match s[n.toNat]? with
        | some b => some (byteV b)
        | none => none
      else none
    | _,_ => none
  | _,_ => none

def fieldAddrV (P : Program) (t : TypeId) (x : V) (f : Nat) : Option V :=
  match ti P t with
  | some i => match i.d with
    | .struct fs => match fs[f]? with
      | some (off,ft) => match ti P ft with
        | some fi => if fi.sz = 0 then none else
          match x with
          | .ptr b o => some (.ptr b (o + off))
          | .rptr cs => some (.rptr (cs.drop off))
          | _ => none
        | none => none
      | none => none
    | _ => none
  | none => none

def fieldV (P : Program) (t : TypeId) (x : V) (f : Nat) : Option V :=
  match ti P t,x with
  | some i, .agg cs => match i.d with
    | .struct fs => match fs[f]? with
      | some (off,ft) => match ti P ft with
        | some fi => partV fi cs off
        | none => none
      | none => none
    | _ => none
  | _,_ => none

/-- parts laid into cells, as a composite literal lays them -/
def fillV {α : Type} (place : Nat → Option (Nat × Nat)) : List α → List (Nat × List α) → Option (List α)
  | cells, [] => some cells
  | cells,(i,v) :: r => match place i with
    | none => none
    | some (off,size) => if v.length ≠ size ∨ off + v.length > cells.length then none else fillV place (wrL cells off v) r

def placesOf (P : Program) : List (Nat × TypeId) → Option (List (Nat × Nat))
  | [] => some []
  | (o,t) :: r => match ti P t,placesOf P r with
    | some i,some ps => some ((o,i.sz) :: ps)
    | _,_ => none

def evParts (s : St) : List (Nat × Operand) → Option (List (Nat × List V))
  | [] => some []
  | (i,x) :: r => match ev s x,evParts s r with
    | some v,some vs => if v.cells.all V.isCell then some ((i,v.cells) :: vs) else none
    | _,_ => none

def buildV (P : Program) (s : St) (t : TypeId) (parts : List (Nat × Operand)) : Option V :=
  match ti P t,evParts s parts with
  | some i,some ps => match i.z with
    | some z => match i.d with
      | .struct fs => match placesOf P fs with
        | some pl => (fillV (fun k => pl[k]?) z ps).map .agg
        | none => none
      | .arr _ e => match ti P e with
        | some ie => (fillV (fun k => some (k * ie.sz,ie.sz)) z ps).map .agg
        | none => none
      | _ => none
    | none => none
  | _,_ => none

/-- a slice literal whose elements are all told, in their order -/
def buildSliceV (P : Program) (s : St) (t : TypeId) (len : Nat) (parts : List (Nat × Operand)) : Option V :=
  match ti P t with
  | some i => match i.d with
    | .slice e => match ti P e with
      | some ie => match evL s (parts.map (·.2)) with
        | some vs => if parts.map (·.1) = List.range len ∧ 0 < ie.sz ∧ len * ie.sz ≤ 2 ^ 20 ∧ ie.z.isSome ∧ vs.all (fun v => v.clean && v.cells.length == ie.sz) then some (.slice ie.sz vs true none) else none
        | none => none
      | none => none
    | _ => none
  | none => none

/-- what an operation that turns nothing comes to -/
def opV (P : Program) (s : St) : Op → Option V
  | .move x | .assign x => ev s x
  | .pick c a b => match ev s c with
    | some (.bool t) => if t then ev s a else ev s b
    | _ => none
  | .load t a => match ti P t,ev s a with
    | some i,some p => match cellsOf s p with
      | some cs => loadV i cs
      | none => none
    | _,_ => none
  | .nilCheck x => match ev s x with
    | some (.ptr b o) => some (.ptr b o)
    | some (.rptr cs) => some (.rptr cs)
    | some (.func (.func f) cs) => some (.func (.func f) cs)
    | _ => none
  | .binOp op t x y _ => match ev s x,ev s y with
    | some a,some b => binV P op t a b
    | _,_ => none
  | .unOp op _ x => match ev s x with
    | some a => unV op a
    | none => none
  | .convert src dst x => match ev s x with
    | some a => convV P src dst a
    | none => none
  | .build t parts => buildV P s t parts.toList
  | .buildSlice t len parts => buildSliceV P s t len parts.toList
  | .slice t x lo hi mx => match ev s x,evO s lo,evO s hi,evO s mx with
    | some a,some l,some h,some m => sliceV P t a l h m
    | _,_,_,_ => none
  | .fieldAddr t x f => match ev s x with
    | some a => fieldAddrV P t a f
    | none => none
  | .field t x f => match ev s x with
    | some a => fieldV P t a f
    | none => none
  | .indexAddr t x y => match ev s x,ev s y with
    | some a,some b => indexAddrV P t a b
    | _,_ => none
  | .index t x y => match ev s x,ev s y with
    | some a,some b => indexV P t a b
    | _,_ => none
  | .extract x k => match ev s x with
    | some (.tup vs) => vs[k]?
    | _ => none
  | .makeFunc fn first captured => if first.size = 0 then (evL s captured.toList).map (.func fn) else none
  | .call { callee := .builtin b,args,argTypes } => match b,args.toList with
    | .len, [x] => match ev s x,argTypes[0]? with
      | some a,some t => lenV P t a
      | _,_ => none
    | .max,xs => match evL s xs with
      | some vs => mmV true vs
      | none => none
    | .min,xs => match evL s xs with
      | some vs => mmV false vs
      | none => none
    | _,_ => none
  | _ => none
end Go.PV
