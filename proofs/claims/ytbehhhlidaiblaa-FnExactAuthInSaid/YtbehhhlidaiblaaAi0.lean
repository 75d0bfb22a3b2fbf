/- The abstract machine: values as trees, what a run of the code comes to in them. Definitions alone. -/
import Derived.Calls
import Derived.Orders
import Derived.LoopN
import Derived.Below
import Derived.Laws.Sem
namespace Go.Proofs.Ytbehhhlidaiblaa.Ai
open Go

/-- A value as the abstract machine has it. -/
inductive T where
  | val (v : Value)
  | nil
  | agg (cs : List T)
  | tup (vs : List T)
  | sl (rows : List (List T))
  | ip (cs : List T)
  | ref (i k row off : Nat)
  | os (i k : Nat)
  | fn (f : Nat) (caps : List T)
  | junk

/-- An object of the call's own: rows of cells. -/
structure Ob where
  rows : List (List T)
  sz : Nat
  e : Nat
  froz : Bool
  cl : Bool

def flat : Value → Bool
  | .bool _ => true
  | .int _ _ => true
  | .string _ => true
  | .pointer none => true
  | .nilFunc => true
  | _ => false
def conv1 : Value → T
  | .slice none 0 0 => .nil
  | .bool b => .val (.bool b)
  | .int k n => .val (.int k n)
  | .string s => .val (.string s)
  | .pointer none => .val (.pointer none)
  | .nilFunc => .val .nilFunc
  | _ => .junk
def conv : Value → T
  | .agg cs => .agg (cs.toList.map conv1)
  | v => conv1 v

/-- What is known of a type. -/
structure TI where
  agg : Bool
  size : Nat
  bytes : Nat
  zero : List T
  slice : Option Nat
  arr : Option (Nat × Nat)
  fields : List (Nat × Nat)
  int : Option IntKind
  ptr : Bool
  str : Bool
  bool : Bool

def tiOf (P : Program) (t : TypeId) : Option TI :=
  match P.info? t, P.underlying t with
  | some i, some d =>
    match i.zero with
    | some z => if z.cells.size = i.size ∧ z.cells.all (·.oneCell') = true then some {
        agg := match d with | .struct _ => true | .array _ _ => true | _ => false
        size := i.size, bytes := i.bytes, zero := z.cells.toList.map conv1
        slice := match d with | .slice e => some e | _ => none
        arr := match d with | .array n e => some (n, e) | _ => none
        fields := match d with | .struct fs => fs.toList.map fun f => (f.offset, f.type) | _ => []
        int := match d with | .int k => some k | _ => none
        ptr := match d with | .pointer _ => true | _ => false
        str := match d with | .string => true | _ => false
        bool := match d with | .bool => true | _ => false } else none
    | none => none
  | _, _ => none

/-- What the machine is given: the program, its types, '==' on structs, what it knows of calls. -/
structure Env where
  P : Program
  tt : Nat → Option TI
  eqT : Nat → List T → List T → Option Bool
  inl : Nat → Bool
  ann : Nat → Nat → List Nat × List Nat
  kn : Nat → Bool
  pur : Nat → Bool
structure Ora where
  p : Nat → List T → Option (T × List Ob)
  i : Nat → List T → List Ob → Option (T × List Ob)

/-- A frame: what is known of its slots, the newest first. -/
abbrev Fr := List (Nat × T)
def look : Fr → Nat → T
  | [], _ => .junk
  | (i, x) :: r, t => bif i == t then x else look r t
def ev (F : Fr) : Operand → T
  | .tmp t => look F t
  | .const v => conv v
  | .func f => .fn f []
  | .global _ => .junk

def pureV : Sem Value → Option Value
  | .pure v => some v
  | _ => none
def pureT (s : Sem Value) : Option T := (pureV s).bind fun v => if flat v = true then some (.val v) else none

def leaf : T → Bool
  | .val _ => true
  | .nil => true
  | .sl _ => true
  | .ip _ => true
  | .ref _ _ _ _ => true
  | .os _ _ => true
  | .fn _ _ => true
  | _ => false
/-- no object of the call's own in it -/
def closed1 : T → Bool
  | .val _ => true
  | .nil => true
  | .sl _ => true
  | .ip _ => true
  | _ => false
def cellsT : T → List T
  | .agg cs => cs
  | t => [t]
def mkVar (agg : Bool) (size : Nat) (cs : List T) : Option T :=
  if agg then (if size ≤ cs.length then some (.agg (cs.take size)) else none) else cs[0]?
def newOb (cells : List T) (e : Nat) : Ob := { rows := [cells], sz := cells.length, e := e, froz := false, cl := cells.all closed1 }
def splice (row : List T) (off : Nat) (cs : List T) : List T := row.take off ++ cs ++ row.drop (off + cs.length)

/-- The value of an operand for a callee that only reads. -/
def expo : Nat → List Ob → T → T
  | _, _, .val v => .val v
  | _, _, .nil => .sl []
  | _, _, .sl rows => .sl rows
  | _, _, .ip cs => .ip cs
  | 0, _, _ => .junk
  | d + 1, S, .agg cs => .agg (cs.map (expo d S))
  | d + 1, S, .fn f caps => .fn f (caps.map (expo d S))
  | d + 1, S, .os i k => match S[i]? with
    | some O => if O.rows.length = k then .sl (if O.cl then O.rows else O.rows.map fun r => r.map (expo d S)) else .junk
    | none => .junk
  | d + 1, S, .ref i k row off => match S[i]? with
    | some O => if O.rows.length = k then (match O.rows[row]? with | some r => .ip (if O.cl then r.drop off else (r.drop off).map (expo d S)) | none => .junk) else .junk
    | none => .junk
  | _, _, _ => .junk

def alive (S : List Ob) (i k : Nat) : Option Ob :=
  match S[i]? with
  | some O => if O.rows.length = k then some O else none
  | none => none

def okPart : T → Bool
  | .agg _ => true
  | t => leaf t
def fillRow (places : Nat → Option (Nat × Nat)) (F : Fr) : List T → List (Nat × Operand) → Option (List T)
  | cs, [] => some cs
  | cs, (i, x) :: rest => match places i with
    | none => none
    | some (off, size) => if okPart (ev F x) = true ∧ (cellsT (ev F x)).length = size ∧ off + size ≤ cs.length then fillRow places F (splice cs off (cellsT (ev F x))) rest else none

def fillRows (size : Nat) (F : Fr) : List (List T) → List (Nat × Operand) → Option (List (List T))
  | rows, [] => some rows
  | rows, (i, x) :: rest => if (cellsT (ev F x)).length = size ∧ i < rows.length ∧ (cellsT (ev F x)).all leaf = true then fillRows size F (rows.set i (cellsT (ev F x))) rest else none
def placesA (E : Env) : List (Nat × Nat) → Option (List (Nat × Nat))
  | [] => some []
  | p :: r => (E.tt p.2).bind fun fi => (placesA E r).map fun l => (p.1, fi.size) :: l
def fieldOf (E : Env) (s f : Nat) : Option (Nat × TI) :=
  (E.tt s).bind fun ti => (ti.fields[f]?).bind fun p => (E.tt p.2).bind fun fi => if fi.size = 0 then none else some (p.1, fi)

/-- A row cut out of what is at an address. -/
def cellsAt (S : List Ob) : T → Option (List T)
  | .ip cs => some cs
  | .ref i k row off => (alive S i k).bind fun O => (O.rows[row]?).map fun r => r.drop off
  | _ => none

def storeA (E : Env) (S : List Ob) (t : Nat) (a x : T) : Option (T × List Ob) :=
  match a with
  | .ref i k row off => (alive S i k).bind fun O => (E.tt t).bind fun ti => (O.rows[row]?).bind fun r =>
      if O.froz = false ∧ (cellsT x).length = ti.size ∧ off + ti.size ≤ r.length ∧ (cellsT x).all leaf = true then
        some (.tup [], S.set i { O with rows := O.rows.set row (splice r off (cellsT x)), cl := O.cl && (cellsT x).all closed1 })
      else none
  | _ => none

/-- The rows that a slice has. -/
def rowsT (S : List Ob) : T → Option (List (List T) × Bool)
  | .nil => some ([], true)
  | .sl rows => some (rows, true)
  | .os i k => (alive S i k).map fun O => (O.rows, O.cl)
  | _ => none
def rowsOk (n : Nat) (rows : List (List T)) : Bool := rows.all fun r => r.length == n

def appendA (E : Env) (S : List Ob) (t : Nat) (s x : T) : Option (T × List Ob) :=
  (E.tt t).bind fun ti => (ti.slice).bind fun e => (E.tt e).bind fun ei => (rowsT S x).bind fun ys =>
    if rowsOk ei.size ys.1 = true ∧ 0 < ei.size ∧ 0 < ei.bytes then
      match s with
      | .nil => if (0 + ys.1.length) * ei.bytes ≤ 140737488355328 then
          (if ys.1.isEmpty then some (.nil, S) else some (.os S.length ys.1.length, S ++ [{ rows := ys.1, sz := ei.size, e := e, froz := false, cl := ys.2 }])) else none
      | .os i k => (alive S i k).bind fun O =>
          if O.froz = false ∧ O.sz = ei.size ∧ O.e = e ∧ (k + ys.1.length) * ei.bytes ≤ 140737488355328 then
            some (.os i (k + ys.1.length), S.set i { O with rows := O.rows ++ ys.1, cl := O.cl && ys.2 }) else none
      | _ => none
    else none

def lenA (E : Env) (S : List Ob) (t : Nat) (x : T) : Option T :=
  match x with
  | .nil => (E.tt t).bind fun ti => if ti.slice.isSome then some (.val (.int .i64 0)) else none
  | .sl rows => (E.tt t).bind fun ti => if ti.slice.isSome then some (.val (.int .i64 rows.length)) else none
  | .os i k => (alive S i k).bind fun _ => (E.tt t).bind fun ti => if ti.slice.isSome then some (.val (.int .i64 k)) else none
  | .val (.string s) => (E.tt t).bind fun ti => if ti.str then some (.val (.int .i64 s.size)) else none
  | _ => none

def eqA (E : Env) (xt : Nat) (x y : T) : Option Bool :=
  match x, y with
  | .agg xs, .agg ys => E.eqT xt xs ys
  | .val (.pointer none), .val (.pointer none) => (E.tt xt).bind fun ti => if ti.ptr then some true else none
  | .ip _, .val (.pointer none) => (E.tt xt).bind fun ti => if ti.ptr then some false else none
  | _, _ => none

def binA (E : Env) (S : List Ob) (op : BinOp) (xt : Nat) (x y : T) : Option T :=
  match x, y with
  | .val (.int k a), .val (.int k' b) => pureT (binOp op xt (.int k a) (.int k' b))
  | .val (.string a), .val (.string b) => pureT (binOp op xt (.string a) (.string b))
  | .ref i k _ _, .val (.pointer none) => (alive S i k).bind fun _ => (E.tt xt).bind fun ti => if ti.ptr then (match op with
    | .eql => some (.val (.bool false)) | .neq => some (.val (.bool true)) | _ => none) else none
  | .val (.bool a), .val (.bool b) => (E.tt xt).bind fun ti => if ti.bool then (match op with
    | .eql => some (.val (.bool (a == b))) | .neq => some (.val (.bool (!(a == b)))) | _ => none) else none
  | x, y => (match op with
    | .eql => (eqA E xt x y).map fun b => .val (.bool b)
    | .neq => (eqA E xt x y).map fun b => .val (.bool (!b))
    | _ => none)

def indexAddrA (E : Env) (S : List Ob) (t : Nat) (x ix : T) : Option T :=
  match ix with
  | .val (.int _ i) => (E.tt t).bind fun ti =>
    match ti.slice, ti.arr with
    | some e, _ => (E.tt e).bind fun ei =>
      if 0 ≤ i then
        match x with
        | .sl rows => (rows[i.toNat]?).bind fun r => if r.length = ei.size then some (.ip r) else none
        | .os j k => (alive S j k).bind fun O => if i < k ∧ O.sz = ei.size then some (.ref j k i.toNat 0) else none
        | _ => none
      else none
    | none, some (n, e) => (E.tt e).bind fun ei =>
      if 0 ≤ i ∧ i < n then
        match x with
        | .ip cs => some (.ip (cs.drop (i.toNat * ei.size)))
        | .ref j k row off => (alive S j k).bind fun _ => some (.ref j k row (off + i.toNat * ei.size))
        | _ => none
      else none
    | _, _ => none
  | _ => none

def boundA (y : Nat) (d : Nat) : Option T → Option Nat
  | none => some d
  | some (.val (.int _ i)) => if 0 ≤ i ∧ i ≤ y then some i.toNat else none
  | _ => none
def sliceA (E : Env) (t : Nat) (x : T) (lo hi : Option T) : Option T :=
  (E.tt t).bind fun ti =>
    match x with
    | .sl rows => ti.slice.bind fun e => (E.tt e).bind fun ei =>
        if rowsOk ei.size rows = true then
          (boundA rows.length rows.length hi).bind fun h => (boundA h 0 lo).map fun l => .sl ((rows.take h).drop l)
        else none
    | .val (.string s) => if ti.str then (boundA s.size s.size hi).bind fun h => (boundA h 0 lo).map fun l => .val (.string (s.extract l h)) else none
    | _ => none

/-- One operation that is no call of a function. -/
def opA (E : Env) (o : Op) (F : Fr) (S : List Ob) : Option (T × List Ob) :=
  match o with
  | .move x => some (ev F x, S)
  | .assign x => some (ev F x, S)
  | .pick c a b => match ev F c with
    | .val (.bool t) => if t = true then some (ev F a, S) else some (ev F b, S)
    | _ => none
  | .alloc e => (E.tt e).map fun ti => (.ref S.length 1 0 0, S ++ [newOb ti.zero e])
  | .box e x => (E.tt e).bind fun ti => if (cellsT (ev F x)).length = ti.size ∧ (cellsT (ev F x)).all leaf = true then some (.ref S.length 1 0 0, S ++ [newOb (cellsT (ev F x)) e]) else none
  | .build t parts => (E.tt t).bind fun ti =>
      if ti.fields = [] then none else (placesA E ti.fields).bind fun pl => (fillRow (fun i => pl[i]?) F ti.zero parts.toList).map fun cs => (.agg cs, S)
  | .buildSlice t n parts => (E.tt t).bind fun ti => ti.slice.bind fun e => (E.tt e).bind fun ei =>
      if 0 < ei.size ∧ n * ei.size ≤ 16777216 ∧ ei.zero.length = ei.size then
        (fillRows ei.size F (List.replicate n ei.zero) parts.toList).map fun rows =>
          (.os S.length n, S ++ [{ rows := rows, sz := ei.size, e := e, froz := false, cl := rows.all fun r => r.all closed1 }])
      else none
  | .load t a => (E.tt t).bind fun ti => (cellsAt S (ev F a)).bind fun cs => (mkVar ti.agg ti.size cs).map fun v => (v, S)
  | .store t a x => storeA E S t (ev F a) (ev F x)
  | .nilCheck x => match ev F x with
    | .ip cs => some (.ip cs, S)
    | .ref i k row off => (alive S i k).map fun _ => (.ref i k row off, S)
    | .fn f caps => some (.fn f caps, S)
    | _ => none
  | .binOp op xt x y _ => (binA E S op xt (ev F x) (ev F y)).map fun t => (t, S)
  | .unOp op _ x => match ev F x with
    | .val v => (pureT (Op.unary op v)).map fun t => (t, S)
    | _ => none
  | .convert src dst x => match ev F x with
    | .val (.int _ n) => (E.tt src).bind fun _ => (E.tt dst).bind fun ti => ti.int.map fun k => (.val (.int k (k.wrap n)), S)
    | _ => none
  | .makeFunc (.func f) first caps => if first.size = 0 then some (.fn f (caps.toList.map (ev F)), S) else none
  | .makeSlice t l c => match ev F l, ev F c with
    | .val (.int .i64 n), .val (.int .i64 m) => (E.tt t).bind fun ti => ti.slice.bind fun e => (E.tt e).bind fun ei =>
        if n = m ∧ 0 ≤ n ∧ n * ei.bytes ≤ 140737488355328 ∧ 0 < ei.bytes ∧ 0 < ei.size ∧ ei.zero.length = ei.size ∧ ei.zero.all closed1 = true then
          some (.os S.length n.toNat, S ++ [{ rows := List.replicate n.toNat ei.zero, sz := ei.size, e := e, froz := false, cl := true }]) else none
    | _, _ => none
  | .slice t x lo hi mx => match mx with
    | none => (sliceA E t (ev F x) (lo.map (ev F)) (hi.map (ev F))).map fun t => (t, S)
    | some _ => none
  | .fieldAddr s x f => (fieldOf E s f).bind fun p => match ev F x with
    | .ip cs => some (.ip (cs.drop p.1), S)
    | .ref i k row off => (alive S i k).bind fun _ => some (.ref i k row (off + p.1), S)
    | _ => none
  | .field s x f => (fieldOf E s f).bind fun p => match ev F x with
    | .agg cs => (mkVar p.2.agg p.2.size (cs.drop p.1)).map fun v => (v, S)
    | _ => none
  | .indexAddr t x ix => (indexAddrA E S t (ev F x) (ev F ix)).map fun v => (v, S)
  | .index t x ix => match ev F x, ev F ix with
    | .agg cs, .val (.int _ i) => (E.tt t).bind fun ti => ti.arr.bind fun ne => (E.tt ne.2).bind fun ei =>
        if 0 ≤ i ∧ i < ne.1 then (mkVar ei.agg ei.size (cs.drop (i.toNat * ei.size))).map fun v => (v, S) else none
    | .val (.string s), .val (.int _ i) => (E.tt t).bind fun ti => if ti.str then
        (if 0 ≤ i then (s[i.toNat]?).map fun b => (.val (.int .u8 b.toNat), S) else none) else none
    | _, _ => none
  | .extract x i => match ev F x with
    | .tup vs => (vs[i]?).map fun v => (v, S)
    | _ => none
  | .call c => match c.callee with
    | .builtin .len => match c.args.toList, c.argTypes.toList with
      | [x], [t] => (lenA E S t (ev F x)).map fun v => (v, S)
      | _, _ => none
    | .builtin .append => match c.args.toList, c.argTypes.toList with
      | [s, x], [t, t'] => if t = t' then appendA E S t (ev F s) (ev F x) else none
      | _, _ => none
    | .builtin .max => match c.args.toList with
      | [x, y] => (match ev F x, ev F y with
        | .val (.int k a), .val (.int k' b) => (pureT (Builtin.max2 (.int k a) (.int k' b))).map fun t => (t, S)
        | _, _ => none)
      | _ => none
    | .builtin .min => match c.args.toList with
      | [x, y] => (match ev F x, ev F y with
        | .val (.int k a), .val (.int k' b) => (pureT (Builtin.min2 (.int k a) (.int k' b))).map fun t => (t, S)
        | _, _ => none)
      | _ => none
    | _ => none
  | _ => none

/-- What a call hands back, with the objects that it made. -/
def expOb (S : List Ob) (O : Ob) : Ob := { O with rows := if O.cl then O.rows else O.rows.map fun r => r.map (expo 3 S), froz := O.froz || !O.cl, cl := true }
def finFr (objs : List Ob) : List Ob := bif objs.all (fun O => !O.froz) then objs else objs.map fun O => { O with froz := true }
def finLeaf (S : List Ob) (used : List Nat) (objs : List Ob) : T → Option (T × List Nat × List Ob)
  | .val v => some (.val v, used, objs)
  | .nil => some (.nil, used, objs)
  | .sl rows => some (.sl rows, used, objs)
  | .ip cs => some (.ip cs, used, objs)
  | .os i k => (alive S i k).bind fun O => if used.contains i then none else
      some (.os objs.length k, i :: used, objs ++ [expOb S O])
  | .ref i k row off => (alive S i k).bind fun O => if used.contains i then none else
      some (.ref objs.length k row off, i :: used, objs ++ [expOb S O])
  | _ => none
def finList (S : List Ob) : List Nat → List Ob → List T → Option (List T × List Nat × List Ob)
  | used, objs, [] => some ([], used, objs)
  | used, objs, t :: ts => (finLeaf S used objs t).bind fun x => (finList S x.2.1 x.2.2 ts).map fun y => (x.1 :: y.1, y.2)
def finVal (S : List Ob) (used : List Nat) (objs : List Ob) : T → Option (T × List Nat × List Ob)
  | .agg cs => (finList S used objs cs).map fun y => (.agg y.1, y.2)
  | t => finLeaf S used objs t
def finVals (S : List Ob) : List Nat → List Ob → List T → Option (List T × List Nat × List Ob)
  | used, objs, [] => some ([], used, objs)
  | used, objs, t :: ts => (finVal S used objs t).bind fun x => (finVals S x.2.1 x.2.2 ts).map fun y => (x.1 :: y.1, y.2)
def fin (S : List Ob) : T → Option (T × List Ob)
  | .tup vs => (finVals S [] [] vs).map fun y => (.tup y.1, finFr y.2.2)
  | t => (finVal S [] [] t).map fun y => (y.1, finFr y.2.2)

/-- nothing in it lies in memory that must stay as it is -/
def free1 : T → Bool
  | .val _ => true
  | .nil => true
  | .os _ _ => true
  | .ref _ _ _ _ => true
  | _ => false
def freeT : T → Bool
  | .agg cs => cs.all free1
  | .tup vs => vs.all fun t => match t with | .agg cs => cs.all free1 | t => free1 t
  | t => free1 t
def scal1 : T → Bool
  | .val _ => true
  | .nil => true
  | _ => false
def scalT : T → Bool
  | .agg cs => cs.all scal1
  | .tup vs => vs.all fun t => match t with | .agg cs => cs.all scal1 | t => scal1 t
  | t => scal1 t
def freeOb (O : Ob) : Bool := O.rows.all fun r => r.all free1
def shift1 (n : Nat) : T → T
  | .os i k => .os (i + n) k
  | .ref i k row off => .ref (i + n) k row off
  | t => t
def shiftV (n : Nat) : T → T
  | .agg cs => .agg (cs.map (shift1 n))
  | t => shift1 n t
def shift (n : Nat) : T → T
  | .tup vs => .tup (vs.map (shiftV n))
  | t => shiftV n t

/-- A call of a function. -/
def callA (E : Env) (ora : Ora) (fv : T) (args : List T) (S : List Ob) : Option (T × List Ob) :=
  match fv with
  | .fn f caps =>
    if E.inl f = true then ora.i f (args ++ caps) S
    else (ora.p f ((args ++ caps).map (expo 4 S))).bind fun r =>
      if E.pur f = true then (if r.2.isEmpty && scalT r.1 then some (r.1, S) else none)
      else some (shift S.length r.1, (if freeT r.1 && r.2.all freeOb then S else S.map fun O => { O with froz := true }) ++ r.2)
  | _ => none

def opX (E : Env) (ora : Ora) (o : Op) (F : Fr) (S : List Ob) : Option (T × List Ob) :=
  match o with
  | .call c => match c.callee with
    | .value f => callA E ora (ev F f) (c.args.toList.map (ev F)) S
    | _ => opA E o F S
  | _ => opA E o F S

/-- Is the operation wanted? -/
def wantT (want : Bool) : T → Option Bool
  | .val (.bool b) => some (match want with | true => b | false => !b)
  | .tup [] => some false
  | _ => none
def dstAt : List Oper → Nat → Option Nat
  | [], _ => none
  | o :: _, 0 => o.dst
  | _ :: r, j + 1 => dstAt r j
def wantD (w : Bool) (F : Fr) : Option Nat → Option Bool
  | some d => wantT w (look F d)
  | none => none
def wantA (ops : List Oper) (g : Option (Nat × Bool)) (F : Fr) : Option Bool :=
  match g with
  | none => some true
  | some p => wantD p.2 F (dstAt ops p.1)
def putA (F : Fr) (dst : Option Nat) (t : T) : Fr :=
  match dst with
  | some d => (d, t) :: F
  | none => F
/-- What follows an operation. -/
def regB {R : Type} (nx : Fr → List Ob → (Fr → List Ob → Option R) → Option R) (d : Option Nat) (F : Fr) (k : Fr → List Ob → Option R) : Option (T × List Ob) → Option R
  | some r => nx (putA F d r.1) r.2 k
  | none => none
/-- What follows a guard. -/
def regG {R : Type} (E : Env) (ora : Ora) (nx : Fr → List Ob → (Fr → List Ob → Option R) → Option R) (op : Op) (d : Option Nat) (F : Fr) (S : List Ob) (k : Fr → List Ob → Option R) : Option Bool → Option R
  | some b => if b = true then regB nx d F k (opX E ora op F S) else nx (putA F d (.tup [])) S k
  | none => none
def regionK {R : Type} (E : Env) (ora : Ora) (ops : List Oper) : List Oper → Fr → List Ob → (Fr → List Ob → Option R) → Option R
  | [], F, S, k => k F S
  | o :: rest, F, S, k => regG E ora (regionK E ora ops rest) o.op o.dst F S k (wantA ops o.guard F)

inductive Ex where
  | normal
  | exit (id : Nat)
  | ret

/-- A loop, as far as it ends. -/
def iterN {σ ρ : Type} (step : σ → Option (σ ⊕ ρ)) : Nat → σ → Option ρ
  | 0, _ => none
  | n + 1, s => (step s).bind fun r => match r with
    | .inl s' => iterN step n s'
    | .inr x => some x
open Classical in
noncomputable def iter {σ ρ : Type} (step : σ → Option (σ ⊕ ρ)) (s : σ) : Option ρ :=
  if h : ∃ n, (iterN step n s).isSome then iterN step (Classical.choose h) s else none

def clean (keep : List Nat) (F : Fr) : Fr := keep.map fun i => (i, look F i)
def firstId : Code → Nat
  | .region id _ _ => id
  | .seq a _ => firstId a
  | .block _ a => firstId a
  | .loop a => firstId a
  | _ => 0

def seqK {R : Type} (nx : Fr → List Ob → (Ex → Fr → List Ob → Option R) → Option R) (k : Ex → Fr → List Ob → Option R) : Ex → Fr → List Ob → Option R
  | .normal, F, S => nx F S k
  | .exit id, F, S => k (.exit id) F S
  | .ret, F, S => k .ret F S
def blockK {R : Type} (id : Nat) (k : Ex → Fr → List Ob → Option R) : Ex → Fr → List Ob → Option R
  | .normal, F, S => k .normal F S
  | .exit id', F, S => if id' = id then k .normal F S else k (.exit id') F S
  | .ret, F, S => k .ret F S
def condK {R : Type} (x y : Fr → List Ob → (Ex → Fr → List Ob → Option R) → Option R) (F : Fr) (S : List Ob) (k : Ex → Fr → List Ob → Option R) : T → Option R
  | .val (.bool t) => if t = true then x F S k else y F S k
  | _ => none
def loopK {R : Type} (k : Ex → Fr → List Ob → Option R) : Option (Ex × Fr × List Ob) → Option R
  | some r => k r.1 r.2.1 r.2.2
  | none => none
/-- The code of a body; what a loop comes to is told by lp; k: what follows. -/
def exec {R : Type} (E : Env) (ora : Ora) (lp : Code → Fr → List Ob → Option (Ex × Fr × List Ob)) : Code → Fr → List Ob → (Ex → Fr → List Ob → Option R) → Option R
  | .skip, F, S, k => k .normal F S
  | .region _ ops _, F, S, k => regionK E ora ops.toList ops.toList F S (k .normal)
  | .seq a b, F, S, k => exec E ora lp a F S (seqK (exec E ora lp b) k)
  | .cond c a b, F, S, k => condK (exec E ora lp a) (exec E ora lp b) F S k (ev F c)
  | .block id c, F, S, k => exec E ora lp c F S (blockK id k)
  | .loop c, F, S, k => loopK k (lp c F S)
  | .exit id, F, S, k => k (.exit id) F S
  | .ret, F, S, k => k .ret F S
  | _, _, _, _ => none
def handed (m : List Nat × List Nat) (e : Ex) (F : Fr) (S : List Ob) : Option ((Fr × List Ob) ⊕ (Ex × Fr × List Ob)) :=
  match e with
  | .normal => some (.inl (clean m.1 F, S))
  | .exit id => some (.inr (.exit id, clean m.2 F, S))
  | .ret => some (.inr (.ret, clean m.2 F, S))
/-- One round of a loop; d: how deep loops may lie in one another. -/
noncomputable def step (E : Env) (ora : Ora) (ann : Nat → List Nat × List Nat) : Nat → Code → Fr × List Ob → Option ((Fr × List Ob) ⊕ (Ex × Fr × List Ob))
  | 0, _, _ => none
  | d + 1, c, s => exec E ora (fun c' F S => iter (step E ora ann d c') (clean (ann (firstId c')).1 F, S)) c s.1 s.2 (handed (ann (firstId c)))
noncomputable def lpOf (E : Env) (ora : Ora) (ann : Nat → List Nat × List Nat) (d : Nat) (c : Code) (F : Fr) (S : List Ob) : Option (Ex × Fr × List Ob) :=
  iter (step E ora ann d c) (clean (ann (firstId c)).1 F, S)

def resOne (E : Env) (F : Fr) (S : List Ob) : ResultVar → Option T
  | .tmp t => some (look F t)
  | .cell a t => (E.tt t).bind fun ti => (cellsAt S (look F a)).bind fun cs => mkVar ti.agg ti.size cs
def resA (E : Env) (F : Fr) (S : List Ob) (rs : List ResultVar) : Option T :=
  (rs.mapM (resOne E F S)).map fun vs => match vs with
    | [v] => v
    | vs => .tup vs

def bodyEnd (E : Env) (rs : List ResultVar) (e : Ex) (F : Fr) (S : List Ob) : Option (T × List Ob) :=
  match e with
  | .exit _ => none
  | .normal => (resA E F S rs).map fun v => (v, S)
  | .ret => (resA E F S rs).map fun v => (v, S)
def start : Nat → List T → Fr
  | _, [] => []
  | i, t :: ts => (i, t) :: start (i + 1) ts
def finK : Option (T × List Ob) → Option (T × List Ob)
  | some r => fin r.2 r.1
  | none => none
noncomputable def bodyF (E : Env) (ora : Ora) (f : Nat) (args : List T) (S : List Ob) (fn : Func) : Option Code → Option (T × List Ob)
  | some c => exec E ora (lpOf E ora (E.ann f) 8) c (start 0 args) S (bodyEnd E fn.results.toList)
  | none => none
noncomputable def bodyC (E : Env) (ora : Ora) (f : Nat) (args : List T) (S : List Ob) : Option Func → Option (T × List Ob)
  | some fn => bodyF E ora f args S fn fn.body
  | none => none
noncomputable def bodyA (E : Env) (ora : Ora) (f : Nat) (args : List T) (S : List Ob) : Option (T × List Ob) :=
  if E.kn f = true then bodyC E ora f args S (E.P.funcs[f]?) else none

noncomputable def callN (E : Env) : Nat → Ora
  | 0 => ⟨fun _ _ => none, fun _ _ _ => none⟩
  | n + 1 => ⟨fun f args => finK (bodyA E (callN E n) f args []), fun f args S => bodyA E (callN E n) f args S⟩

end Go.Proofs.Ytbehhhlidaiblaa.Ai
