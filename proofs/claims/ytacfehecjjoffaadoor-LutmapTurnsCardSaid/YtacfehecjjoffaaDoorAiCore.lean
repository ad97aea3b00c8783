/- The abstract interpreter: definitions alone. Values are lists and numbers; what is mutated is a numbered resource. -/
import Derived.Orders
import Derived.Below
namespace Go.AI

/-- May a slice be appended to? no: nothing is known; exact: it has no spare; tail r: resource r says how long its longest view is. -/
inductive Tok where
  | no | exact | tail (r : Nat)
  deriving DecidableEq, Repr

inductive Cell where
  | int (k : IntKind) (n : Int)
  | bool (b : Bool)
  | str (s : ByteArray)
  | slice (tok : Tok) (esz : Nat) (rows : List (List Cell))
  | own (r g esz : Nat) (cp : Bool) (off len : Nat)
  | ptr (r g off : Nat)
  | fp (cells : List Cell)
  | nilp
  | map (r : Nat)
  | nilm
  | func (f : FuncId) (first captured : List Cell)
  | nilf
  | iface (t : TypeId) (agg : Bool) (cells : List Cell)
  | nili

inductive AV where
  | any
  | one (c : Cell)
  | agg (cs : List Cell)
  | tup (vs : List AV)

inductive Res where
  | dead
  | row (t : TypeId) (g : Nat) (cells : List Cell)
  | nrow (t : TypeId) (g : Nat)
  | tail (n esz : Nat)
  | map (kt et : TypeId) (es : List (Cell × List Cell))

inductive Ty where
  | int (k : IntKind)
  | bool
  | string
  | slice (e : TypeId)
  | array (n : Nat) (e : TypeId)
  | struct (fs : List (Nat × TypeId))
  | map (k e : TypeId)
  | other

structure TyInfo where
  ty : Ty
  size : Nat
  bytes : Nat
  zero : List Cell
  eqFlat : Bool

structure FnInfo where
  ntmps : Nat
  results : List ResultVar
  body : Code

inductive Kind where
  | plain | tok | own
  deriving DecidableEq, Repr

/-- How a function is called: std: alone, on values, or, if it is handed something that may change, reading that; exact: likewise, but it is told that what has no spare has none; mt: it may change what it is handed. -/
inductive CMode where
  | std | exact | mt
  deriving DecidableEq, Repr

structure Cfg where
  ty : TypeId → Option TyInfo
  fn : FuncId → Option FnInfo
  glob : Nat → Option (List Cell)
  kind : FuncId → Nat → Nat → Kind
  live : FuncId → Nat → Option (List Nat)
  head : FuncId → Nat → Option (List Nat)
  mode : FuncId → CMode
  fresh : FuncId → Kind
  prim : FuncId → Option (List AV → Option AV)
  primS : FuncId → Option (List AV → List Res → Option (AV × List Res))

abbrev Fr := List (Nat × AV)
abbrev St := List Res

def Fr.get : Fr → Nat → AV
  | [], _ => .any
  | (k, v) :: r, t => if k = t then v else Fr.get r t
def Fr.set (fr : Fr) (t : Nat) (v : AV) : Fr := (t, v) :: fr
/-- These temporaries alone, in this order. -/
def Fr.keep (l : List Nat) (fr : Fr) : Fr := l.map fun t => (t, fr.get t)

def AV.cells : AV → Option (List Cell)
  | .one c => some [c]
  | .agg cs => some cs
  | _ => none

def constAV : Value → AV
  | .int k n => .one (.int k n)
  | .bool b => .one (.bool b)
  | .string s => .one (.str s)
  | .slice none 0 0 => .one (.slice .exact 0 [])
  | .pointer none => .one .nilp
  | .map none => .one .nilm
  | .nilFunc => .one .nilf
  | .nilIface => .one .nili
  | _ => .any

namespace Cfg
variable (c : Cfg)
def size (t : TypeId) : Option Nat := (c.ty t).map (·.size)
def isAgg (t : TypeId) : Option Bool := (c.ty t).map fun i => match i.ty with | .struct _ | .array _ _ => true | _ => false
def eval (fr : Fr) : Operand → AV
  | .tmp t => fr.get t
  | .const v => constAV v
  | .global g => match c.glob g with | some cs => .one (.fp cs) | none => .any
  | .func f => .one (.func f [] [])
end Cfg

/-- What a cell may be inside a slice that never changes; it loses its leave to be appended to. -/
def Cell.pure1 : Cell → Option Cell
  | .int k n => some (.int k n)
  | .bool b => some (.bool b)
  | .str s => some (.str s)
  | .slice _ e rows => some (.slice .no e rows)
  | .nilp => some .nilp
  | .nilm => some .nilm
  | .nili => some .nili
  | .nilf => some .nilf
  | _ => none
def purify : List Cell → Option (List Cell)
  | [] => some []
  | c :: l => match c.pure1, purify l with | some c, some l => some (c :: l) | _, _ => none

/-- All that it refers to lies below n. -/
def Cell.refs (n : Nat) : Cell → Bool
  | .slice (.tail r) _ _ => r < n
  | .own r _ _ _ _ _ | .ptr r _ _ | .map r => r < n
  | .func _ first captured => belowAll first && belowAll captured
  | _ => true
where belowAll : List Cell → Bool
  | [] => true
  | x :: l => x.refs n && belowAll l
def AV.refs (n : Nat) : AV → Bool
  | .any => true
  | .one c => c.refs n
  | .agg cs => cs.all (·.refs n)
  | .tup vs => all vs
where all : List AV → Bool
  | [] => true
  | x :: l => x.refs n && all l
def Res.refs (n : Nat) : Res → Bool
  | .row _ _ cells => cells.all (·.refs n)
  | .map _ _ es => es.all fun e => e.1.refs n && e.2.all (·.refs n)
  | _ => true

/-- What a step wants of the resources; it doesn't hang on them itself. -/
inductive Plan where
  | fail
  | val (v : AV)
  | rd (r : Nat) (k : Res → Option AV)
  | wr (r : Nat) (k : Res → Option (AV × Res))
  | new (xs : Nat → List Res) (k : Nat → AV)
  | call (f : FuncId) (args : List AV)

def Plan.ofOpt : Option AV → Plan
  | some v => .val v
  | none => .fail

def intBin (op : BinOp) (k : IntKind) (a b : Int) : Option Cell :=
  match op with
  | .add => some (.int k (k.wrap (a + b)))
  | .sub => some (.int k (k.wrap (a - b)))
  | .mul => some (.int k (k.wrap (a * b)))
  | .quo => if b = 0 then none else some (.int k (k.wrap (a.tdiv b)))
  | .rem => if b = 0 then none else some (.int k (a.tmod b))
  | .and => some (.int k (k.wrap (BitVec.ofInt k.bits a &&& BitVec.ofInt k.bits b).toNat))
  | .or => some (.int k (k.wrap (BitVec.ofInt k.bits a ||| BitVec.ofInt k.bits b).toNat))
  | .xor => some (.int k (k.wrap (BitVec.ofInt k.bits a ^^^ BitVec.ofInt k.bits b).toNat))
  | .andNot => some (.int k (k.wrap (BitVec.ofInt k.bits a &&& ~~~BitVec.ofInt k.bits b).toNat))
  | .eql => some (.bool (a == b))
  | .neq => some (.bool (a != b))
  | .lss => some (.bool (a < b))
  | .leq => some (.bool (a ≤ b))
  | .gtr => some (.bool (a > b))
  | .geq => some (.bool (a ≥ b))
  | _ => none

def shiftBin (op : BinOp) (k : IntKind) (a b : Int) : Option Cell :=
  if b < 0 then none else
  match op with
  | .shl => some (.int k (k.wrap (a * 2 ^ min b.toNat k.bits)))
  | .shr => some (.int k (a.fdiv (2 ^ min b.toNat k.bits)))
  | _ => none

/-- Cells that are whole numbers and bools: are they alike? -/
def eqCells : List Cell → List Cell → Option Bool
  | [], [] => some true
  | .int k a :: l, .int k' b :: m => if k = k' then (eqCells l m).map fun r => (a == b) && r else none
  | .bool a :: l, .bool b :: m => (eqCells l m).map fun r => (a == b) && r
  | _, _ => none

/-- Are these of the kinds of a type's zero cells? -/
def kindsOK : List Cell → List Cell → Bool
  | [], [] => true
  | .int k _ :: l, .int k' _ :: m => k == k' && kindsOK l m
  | .bool _ :: l, .bool _ :: m => kindsOK l m
  | _, _ => false

def binAV (c : Cfg) (op : BinOp) (t : TypeId) (x y : AV) : Option AV :=
  match x, y with
  | .one (.int k a), .one (.int k' b) =>
    match op with
    | .shl | .shr => (shiftBin op k a b).map .one
    | _ => if k = k' then (intBin op k a b).map .one else none
  | .one (.bool a), .one (.bool b) =>
    match c.ty t with
    | some { ty := .bool, .. } =>
      (match op with
      | .eql => some (.one (.bool (a == b)))
      | .neq => some (.one (.bool (!(a == b))))
      | _ => none)
    | _ => none
  | .agg a, .agg b =>
    match c.ty t with
    | some i => if i.eqFlat ∧ kindsOK i.zero a then
        (match op with
        | .eql => (eqCells a b).map fun r => .one (.bool r)
        | .neq => (eqCells a b).map fun r => .one (.bool (!r))
        | _ => none)
      else none
    | none => none
  | _, _ => none

def unAV (op : UnOp) (x : AV) : Option AV :=
  match op, x with
  | .not, .one (.bool b) => some (.one (.bool !b))
  | .neg, .one (.int k n) => some (.one (.int k (k.wrap (0 - n))))
  | .xor, .one (.int k n) => some (.one (.int k (k.wrap (BitVec.ofInt k.bits (if k.signed then -1 else k.max) ^^^ BitVec.ofInt k.bits n).toNat)))
  | _, _ => none

def convAV (c : Cfg) (src dst : TypeId) (x : AV) : Option AV :=
  match c.ty src, c.ty dst, x with
  | some _, some { ty := .int k, .. }, .one (.int _ n) => some (.one (.int k (k.wrap n)))
  | _, _, _ => none

/-- A variable of type t out of cells. -/
def readCells (c : Cfg) (t : TypeId) (cells : List Cell) : Option AV :=
  match c.ty t with
  | none => none
  | some i => match i.ty with
    | .struct _ | .array _ _ => if i.size ≤ cells.length then some (.agg (cells.take i.size)) else none
    | _ => match cells with
      | x :: _ => some (.one x)
      | [] => none

def putCells : Nat → List Cell → List Cell → Option (List Cell)
  | 0, [], cells => some cells
  | 0, v :: vs, _ :: cells => (putCells 0 vs cells).map (v :: ·)
  | 0, _ :: _, [] => none
  | o + 1, vs, x :: cells => (putCells o vs cells).map (x :: ·)
  | _ + 1, _, [] => none

def loadPlan (c : Cfg) (t : TypeId) (a : AV) : Plan :=
  match a with
  | .one (.ptr r g off) => .rd r fun
    | .row _ g' cells => if g = g' then (if off ≤ cells.length then readCells c t (cells.drop off) else none) else none
    | _ => none
  | .one (.fp cells) => .ofOpt (readCells c t cells)
  | _ => .fail

def storePlan (c : Cfg) (t : TypeId) (a x : AV) : Plan :=
  match a, x.cells, c.size t with
  | .one (.ptr r g off), some vs, some n =>
    if vs.length = n then .wr r fun
      | .row t g' cells => if g = g' then (putCells off vs cells).map fun cells => (.any, .row t g' cells) else none
      | _ => none
    else .fail
  | _, _, _ => .fail

def fieldOff (c : Cfg) (s : TypeId) (f : Nat) : Option (Nat × TypeId) :=
  match c.ty s with
  | some { ty := .struct fs, .. } => fs[f]?
  | _ => none

def addPtr (x : AV) (n : Nat) : Option AV :=
  match x with
  | .one (.ptr r g off) => some (.one (.ptr r g (off + n)))
  | .one (.fp cells) => if n ≤ cells.length then some (.one (.fp (cells.drop n))) else none
  | _ => none

def fieldAddrAV (c : Cfg) (s : TypeId) (x : AV) (f : Nat) : Option AV :=
  match fieldOff c s f with
  | some (o, ft) => match c.size ft with
    | some (_ + 1) => addPtr x o
    | _ => none
  | none => none

def indexAddrAV (c : Cfg) (t : TypeId) (x ix : AV) : Option AV :=
  match ix, c.ty t with
  | .one (.int _ i), some { ty := .array n e, .. } =>
    if 0 ≤ i ∧ i < n then (c.size e).bind fun s => addPtr x (i.toNat * s) else none
  | .one (.int _ i), some { ty := .slice e, .. } =>
    match x, c.size e with
    | .one (.slice _ esz rows), some s => if 0 ≤ i ∧ i < rows.length ∧ esz = s then some (.one (.fp (rows.getD i.toNat []))) else none
    | .one (.own r g esz _ off len), some s => if 0 ≤ i ∧ i < len ∧ esz = s then some (.one (.ptr r g (off + i.toNat * s))) else none
    | _, _ => none
  | _, _ => none

def indexAV (c : Cfg) (t : TypeId) (x ix : AV) : Option AV :=
  match ix, c.ty t, x with
  | .one (.int _ i), some { ty := .array n e, .. }, .agg cs =>
    if 0 ≤ i ∧ i < n then (c.size e).bind fun s => readCells c e (cs.drop (i.toNat * s)) else none
  | .one (.int _ i), some { ty := .string, .. }, .one (.str s) =>
    if 0 ≤ i then (s[i.toNat]?).map fun b => .one (.int .u8 b.toNat) else none
  | _, _, _ => none

def fieldAV (c : Cfg) (t : TypeId) (x : AV) (f : Nat) : Option AV :=
  match x, fieldOff c t f with
  | .agg cs, some (o, ft) => readCells c ft (cs.drop o)
  | _, _ => none

def fillAll (place : Nat → Option (Nat × Nat)) : List (Nat × AV) → List Cell → Option (List Cell)
  | [], cells => some cells
  | (i, v) :: l, cells =>
    match place i, v.cells with
    | some (o, s), some vs => if vs.length = s then (putCells o vs cells).bind (fillAll place l) else none
    | _, _ => none

def placesOf (c : Cfg) (t : TypeId) : Nat → Option (Nat × Nat) := fun i =>
  match c.ty t with
  | some inf => match inf.ty with
    | .struct fs => (fs[i]?).bind fun (o, ft) => (c.size ft).map fun s => (o, s)
    | .array _ e => (c.size e).map fun s => (i * s, s)
    | _ => none
  | none => none

def buildAV (c : Cfg) (t : TypeId) (parts : List (Nat × AV)) : Option (List Cell) :=
  match c.ty t with
  | some i => match i.ty with
    | .struct _ => fillAll (placesOf c t) parts i.zero
    | .array _ e => if (c.size e).isSome then fillAll (placesOf c t) parts i.zero else none
    | _ => none
  | none => none

def chunk (s : Nat) : Nat → List Cell → List (List Cell)
  | 0, _ => []
  | n + 1, l => l.take s :: chunk s n (l.drop s)

def zeros (z : List Cell) : Nat → List Cell
  | 0 => []
  | n + 1 => z ++ zeros z n

def buildSlicePlan (c : Cfg) (kd : Kind) (t : TypeId) (len : Nat) (parts : List (Nat × AV)) : Plan :=
  match c.ty t with
  | some { ty := .slice e, .. } =>
    match c.ty e with
    | some i =>
      if len * i.size ≤ 16777216 then
        match fillAll (fun j => some (j * i.size, i.size)) parts (zeros i.zero len) with
        | some cells =>
          match kd with
          | .own => .new (fun _ => [.row e 0 cells]) fun r => .one (.own r 0 i.size true 0 len)
          | _ => match purify cells with
            | some cells => .val (.one (.slice .exact i.size (chunk i.size len cells)))
            | none => .fail
        | none => .fail
      else .fail
    | none => .fail
  | _ => .fail

def makeSlicePlan (c : Cfg) (kd : Kind) (t : TypeId) (l cp : AV) : Plan :=
  match c.ty t, l, cp with
  | some { ty := .slice e, .. }, .one (.int .i64 n), .one (.int .i64 m) =>
    match c.ty e with
    | some i =>
      if 0 ≤ n ∧ n ≤ m ∧ m * i.bytes ≤ 140737488355328 ∧ m ≤ 9223372036854775807 then
        match kd with
        | .tok => match purify i.zero with
          | some z => .new (fun _ => [.tail n.toNat i.size]) fun r => .one (.slice (.tail r) i.size (List.replicate n.toNat z))
          | none => .fail
        | _ => .new (fun _ => [.row e 0 (zeros i.zero n.toNat)]) fun r => .one (.own r 0 i.size true 0 n.toNat)
      else .fail
    | none => .fail
  | _, _, _ => .fail

/-- A slice's bound. -/
def bound (x : Option AV) (top dflt : Nat) : Option Nat :=
  match x with
  | none => some dflt
  | some (.one (.int _ i)) => if 0 ≤ i ∧ i ≤ top then some i.toNat else none
  | _ => none

def slicePlan (c : Cfg) (t : TypeId) (x : AV) (lo hi mx : Option AV) : Plan :=
  match c.ty t, x with
  | some { ty := .slice e, .. }, .one (.slice tok esz rows) =>
    match c.size e with
    | some s =>
      if esz = s ∨ rows = [] then
        match bound hi rows.length rows.length with
        | some h => match bound lo h 0 with
          | some l =>
            match mx with
            | none =>
              .val (.one (.slice (if tok = .exact ∧ h = rows.length then .exact else if hi.isNone && lo.isNone then tok else .no) esz ((rows.take h).drop l)))
            | some (.one (.int _ m)) => if (h : Int) = m ∧ h ≤ rows.length ∧ hi.isSome = true then .val (.one (.slice .exact esz ((rows.take h).drop l))) else .fail
            | _ => .fail
          | none => .fail
        | none => .fail
      else .fail
    | none => .fail
  | some { ty := .slice e, .. }, .one (.own r g esz cp off len) =>
    match mx, bound hi len len, c.size e with
    | none, some h, some s => match bound lo h 0 with
      | some l => if esz = s then .val (.one (.own r g esz cp (off + l * s) (h - l))) else .fail
      | none => .fail
    | _, _, _ => .fail
  | some { ty := .array n e, .. }, .one (.ptr r g off) =>
    match mx, bound hi n n, c.size e with
    | none, some h, some s => match bound lo h 0 with
      | some l => .val (.one (.own r g s false (off + l * s) (h - l)))
      | none => .fail
    | _, _, _ => .fail
  | _, _ => .fail

/-- All of a list, or none. -/
def purifyRows : List (List Cell) → Option (List (List Cell))
  | [] => some []
  | x :: l => match purify x, purifyRows l with | some x, some l => some (x :: l) | _, _ => none

/-- What is appended; 'zeros' of a make. -/
def appendNews (c : Cfg) (i : TyInfo) (xt : Option TypeId) (x : AV) : Option (List (List Cell)) :=
  match xt.bind c.ty, x with
  | some { ty := .int _, .. }, .one (.int _ n) => if 0 ≤ n ∧ n * i.bytes ≤ 140737488355328 ∧ n ≤ 9223372036854775807 then (purify i.zero).map fun z => List.replicate n.toNat z else none
  | some { ty := .slice _, .. }, .one (.slice _ esz rows) => if esz = i.size ∨ rows = [] then some rows else none
  | _, _ => none
def fits (i : TyInfo) (n : Nat) : Bool := n * i.bytes ≤ 140737488355328 && n ≤ 9223372036854775807
def appendTo (kd : Kind) (e : TypeId) (i : TyInfo) (ns : List (List Cell)) (s : AV) : Plan :=
  match s with
  | .one (.slice .exact esz rows) =>
    if (esz = i.size ∨ rows = []) ∧ fits i (rows.length + ns.length) then
      match kd with
      | .own => match ns with
        | [] => .fail
        | _ :: _ => .new (fun _ => [.row e 0 (rows ++ ns).flatten]) fun r => .one (.own r 0 i.size true 0 (rows.length + ns.length))
      | _ => .new (fun _ => [.tail (rows.length + ns.length) i.size]) fun r => .one (.slice (.tail r) i.size (rows ++ ns))
    else .fail
  | .one (.slice (.tail r) esz rows) =>
    if esz = i.size ∧ fits i (rows.length + ns.length) then
      .wr r fun
        | .tail n z => if n = rows.length ∧ z = i.size then some (.one (.slice (.tail r) i.size (rows ++ ns)), .tail (rows.length + ns.length) z) else none
        | _ => none
    else .fail
  | .one (.own r g esz cp off len) =>
    if off = 0 ∧ cp = true ∧ esz = i.size ∧ fits i (len + ns.length) then
      .wr r fun
        | .row t' g' cells =>
          if g = g' ∧ t' = e ∧ len * i.size ≤ cells.length then
            some (.one (.own r (g + 1) esz true 0 (len + ns.length)), .row t' (g + 1) (cells.take (len * i.size) ++ ns.flatten))
          else none
        | .nrow t' g' =>
          if g = g' ∧ t' = e ∧ len = 0 then
            match ns with
            | [] => some (.one (.own r g esz true 0 0), .nrow t' g')
            | _ :: _ => some (.one (.own r (g + 1) esz true 0 ns.length), .row t' (g + 1) ns.flatten)
          else none
        | _ => none
    else .fail
  | _ => .fail
def appendPlan (c : Cfg) (kd : Kind) (t : TypeId) (xt : Option TypeId) (s x : AV) : Plan :=
  match c.ty t with
  | some { ty := .slice e, .. } =>
    match c.ty e with
    | some i => match appendNews c i xt x with
      | none => .fail
      | some ns => appendTo kd e i ns s
    | none => .fail
  | _ => .fail

def lenPlan (c : Cfg) (t : TypeId) (x : AV) : Plan :=
  match c.ty t, x with
  | some { ty := .slice _, .. }, .one (.slice _ _ rows) => .val (.one (.int .i64 rows.length))
  | some { ty := .slice _, .. }, .one (.own _ _ _ _ _ len) => .val (.one (.int .i64 len))
  | some { ty := .array n _, .. }, _ => .val (.one (.int .i64 n))
  | some { ty := .string, .. }, .one (.str s) => .val (.one (.int .i64 s.size))
  | some { ty := .map _ _, .. }, .one (.map r) => .rd r fun | .map _ _ es => some (.one (.int .i64 es.length)) | _ => none
  | _, _ => .fail

def capPlan (c : Cfg) (t : TypeId) (x : AV) : Plan :=
  match c.ty t, x with
  | some { ty := .slice _, .. }, .one (.slice .exact _ rows) => .val (.one (.int .i64 rows.length))
  | _, _ => .fail

def minmaxAV (mx : Bool) : List AV → Option AV
  | .one (.int k a) :: l => go k a l
  | _ => none
where go (k : IntKind) (a : Int) : List AV → Option AV
  | [] => some (.one (.int k a))
  | .one (.int _ b) :: l => go k (if mx then (if b > a then b else a) else (if b < a then b else a)) l
  | _ => none

def copyPlan (c : Cfg) (t : TypeId) (dst src : AV) : Plan :=
  match c.ty t, dst, src with
  | some { ty := .slice e, .. }, .one (.own r g s _ off len), .one (.slice _ esz rows) =>
    if c.size e = some s ∧ (esz = s ∨ rows = []) then
      .wr r fun
        | .row t' g' cells => if g = g' then
            (putCells off (rows.take (min rows.length len)).flatten cells).map fun cells => (.one (.int .i64 (min rows.length len : Nat)), .row t' g' cells)
          else none
        | _ => none
    else .fail
  | _, _, _ => .fail

def clearPlan (c : Cfg) (t : TypeId) (x : AV) : Plan :=
  match c.ty t, x with
  | some { ty := .slice e, .. }, .one (.own r g s _ off len) =>
    match c.ty e with
    | some i => .wr r fun
      | .row t' g' cells => if g = g' ∧ s = i.size then (putCells off (zeros i.zero len) cells).map fun cells => (.tup [], .row t' g' cells) else none
      | _ => none
    | none => .fail
  | _, _ => .fail

/-- Keys of maps: whole numbers, bools, strings of the map's own key type. -/
def keyOf (c : Cfg) (kt : TypeId) (x : AV) : Option Cell :=
  match c.ty kt, x with
  | some { ty := .int k, .. }, .one (.int k' n) => if k = k' then some (.int k' n) else none
  | some { ty := .bool, .. }, .one (.bool b) => some (.bool b)
  | some { ty := .string, .. }, .one (.str s) => some (.str s)
  | _, _ => none
def sameKey : Cell → Cell → Bool
  | .int _ a, .int _ b => a == b
  | .bool a, .bool b => a == b
  | .str a, .str b => a == b
  | _, _ => false
def mapFind (k : Cell) : List (Cell × List Cell) → Option (List Cell)
  | [] => none
  | e :: es => if sameKey k e.1 then some e.2 else mapFind k es
def mapPut (k : Cell) (v : List Cell) : List (Cell × List Cell) → List (Cell × List Cell)
  | [] => [(k, v)]
  | e :: es => if sameKey k e.1 then (k, v) :: es else e :: mapPut k v es
def mapDel (k : Cell) : List (Cell × List Cell) → List (Cell × List Cell)
  | [] => []
  | e :: es => if sameKey k e.1 then es else e :: mapDel k es

def avOf (c : Cfg) (t : TypeId) (cs : List Cell) : Option AV :=
  match c.isAgg t with
  | some true => some (.agg cs)
  | some false => match cs with | [x] => some (.one x) | _ => none
  | none => none

def lookupPlan (c : Cfg) (t : TypeId) (m k : AV) (ok : Bool) : Plan :=
  match c.ty t, m with
  | some { ty := .map kt e, .. }, .one (.map r) =>
    match keyOf c kt k, c.ty e with
    | some key, some i => .rd r fun
      | .map kt' et' es =>
        if kt' = kt ∧ et' = e then
        match mapFind key es with
        | some v => (avOf c e v).map fun v => if ok then .tup [v, .one (.bool true)] else v
        | none => (avOf c e i.zero).map fun v => if ok then .tup [v, .one (.bool false)] else v
        else none
      | _ => none
    | _, _ => .fail
  | _, _ => .fail

def sameShape : AV → Option AV → Bool
  | .one _, some (.one _) => true
  | .agg _, some (.agg _) => true
  | _, _ => false
def updatePlan (c : Cfg) (t : TypeId) (m k v : AV) : Plan :=
  match c.ty t, m with
  | some { ty := .map kt e, .. }, .one (.map r) =>
    match keyOf c kt k, v.cells, c.size e with
    | some key, some vs, some n =>
      if vs.length = n ∧ sameShape v (avOf c e vs) then .wr r fun
        | .map kt' et' es => if kt' = kt ∧ et' = e then some (.any, .map kt' et' (mapPut key vs es)) else none
        | _ => none
      else .fail
    | _, _, _ => .fail
  | _, _ => .fail

def deletePlan (c : Cfg) (t : TypeId) (m k : AV) : Plan :=
  match c.ty t, m with
  | some { ty := .map kt _, .. }, .one (.map r) =>
    match keyOf c kt k with
    | some key => .wr r fun
      | .map kt' et' es => if kt' = kt then some (.tup [], .map kt' et' (mapDel key es)) else none
      | _ => none
    | none => .fail
  | _, _ => .fail

/-- nil slices among cells that are made anew get a resource each: 'n' the next number. -/
def tokz (n : Nat) : List Cell → List Cell × List Res
  | [] => ([], [])
  | .slice .exact e [] :: l => let r := tokz (n + 1) l; (.slice (.tail n) e [] :: r.1, .tail 0 e :: r.2)
  | x :: l => let r := tokz n l; (x :: r.1, r.2)

def isNil : Operand → Bool
  | .const (.slice none 0 0) => true
  | _ => false
def constPlan (c : Cfg) (kd : Kind) (t : TypeId) (nil : Bool) (x : AV) : Plan :=
  match kd, x, c.ty t with
  | .plain, _, _ => .val x
  | .tok, .one (.slice .exact _ []), some { ty := .slice e, .. } =>
    match c.size e with
    | some s => .new (fun _ => [.tail 0 s]) fun r => .one (.slice (.tail r) s [])
    | none => .fail
  | .own, .one (.slice .exact _ []), some { ty := .slice e, .. } =>
    if nil then
      match c.size e with
      | some s => .new (fun _ => [.nrow e 0]) fun r => .one (.own r 0 s true 0 0)
      | none => .fail
    else .val x
  | _, _, _ => .val x

def varPlan (kd : Kind) (e : TypeId) (cells : List Cell) : Plan :=
  match kd with
  | .tok => .new (fun n => .row e 0 (tokz (n + 1) cells).1 :: (tokz (n + 1) cells).2) fun r => .one (.ptr r 0 0)
  | _ => .new (fun _ => [.row e 0 cells]) fun r => .one (.ptr r 0 0)

def buildPlan (kd : Kind) (x : Option (List Cell)) : Plan :=
  match x, kd with
  | some cells, .tok => .new (fun n => (tokz n cells).2) fun n => .agg (tokz n cells).1
  | some cells, _ => .val (.agg cells)
  | none, _ => .fail

def callPlan (c : Cfg) (kd : Kind) (fr : Fr) (cl : Call) : Plan :=
  let args := cl.args.toList.map (c.eval fr)
  match cl.callee with
  | .value f => match c.eval fr f with
    | .one (.func f first captured) => .call f (first.map .one ++ args ++ captured.map .one)
    | _ => .fail
  | .invoke _ _ => .fail
  | .builtin b =>
    match b, cl.argTypes.toList, args with
    | .append, t :: ts, [s, x] => appendPlan c kd t ts.head? s x
    | .len, t :: _, [x] => lenPlan c t x
    | .cap, t :: _, [x] => capPlan c t x
    | .copy, t :: _, [d, s] => copyPlan c t d s
    | .clear, t :: _, [x] => clearPlan c t x
    | .delete, t :: _, [m, k] => deletePlan c t m k
    | .max, _, l => .ofOpt (minmaxAV true l)
    | .min, _, l => .ofOpt (minmaxAV false l)
    | _, _, _ => .fail

def opPlan (c : Cfg) (kd : Kind) (o : Oper) (fr : Fr) : Plan :=
  let ρ := c.eval fr
  match o.op with
  | .move x | .assign x => constPlan c kd o.type (isNil x) (ρ x)
  | .pick b x y => match ρ b with
    | .one (.bool true) => .val (ρ x)
    | .one (.bool false) => .val (ρ y)
    | _ => .fail
  | .alloc e => match c.ty e with
    | some i => varPlan kd e i.zero
    | none => .fail
  | .box e x => match (ρ x).cells with
    | some cs => varPlan kd e cs
    | none => .fail
  | .build t parts => buildPlan kd (buildAV c t (parts.toList.map fun (i, x) => (i, ρ x)))
  | .buildSlice t len parts => buildSlicePlan c kd t len (parts.toList.map fun (i, x) => (i, ρ x))
  | .load t a => loadPlan c t (ρ a)
  | .store t a x => storePlan c t (ρ a) (ρ x)
  | .nilCheck x => match ρ x with
    | .one (.ptr r g o) => .val (.one (.ptr r g o))
    | .one (.fp cs) => .val (.one (.fp cs))
    | .one (.func f a b) => .val (.one (.func f a b))
    | _ => .fail
  | .binOp op t x y _ => .ofOpt (binAV c op t (ρ x) (ρ y))
  | .unOp op _ x => .ofOpt (unAV op (ρ x))
  | .convert s d x => .ofOpt (convAV c s d (ρ x))
  | .makeFunc (.func f) first captured =>
    match (first.toList.map ρ), (captured.toList.map ρ) with
    | fs, cs => match oneAll fs, oneAll cs with
      | some fs, some cs => .val (.one (.func f fs cs))
      | _, _ => .fail
  | .makeMap t none => match c.ty t with
    | some { ty := .map kt et, .. } => .new (fun _ => [.map kt et []]) fun r => .one (.map r)
    | _ => .fail
  | .makeSlice t l m => makeSlicePlan c kd t (ρ l) (ρ m)
  | .slice t x lo hi mx => slicePlan c t (ρ x) (lo.map ρ) (hi.map ρ) (mx.map ρ)
  | .fieldAddr s x f => .ofOpt (fieldAddrAV c s (ρ x) f)
  | .field t x f => .ofOpt (fieldAV c t (ρ x) f)
  | .indexAddr t x ix => .ofOpt (indexAddrAV c t (ρ x) (ρ ix))
  | .index t x ix => .ofOpt (indexAV c t (ρ x) (ρ ix))
  | .lookup t m k ok => lookupPlan c t (ρ m) (ρ k) ok
  | .mapUpdate t m k v | .insert t m k v => updatePlan c t (ρ m) (ρ k) (ρ v)
  | .extract x i => match ρ x with
    | .tup vs => match vs[i]? with | some v => .val v | none => .fail
    | _ => .fail
  | .call cl => callPlan c kd fr cl
  | _ => .fail
where oneAll : List AV → Option (List Cell)
  | [] => some []
  | .one x :: l => (oneAll l).map (x :: ·)
  | _ => none

/-! Running. 'Task': a piece of code, or a call. wb: resources below it may not be written. -/
inductive Ex where
  | normal | exit (id : Nat) | ret
  deriving DecidableEq, Repr

inductive Task where
  | code (f : FuncId) (wb : Nat) (c : Code) (fr : Fr) (st : St)
  | call (f : FuncId) (wb : Nat) (args : List AV) (st : St)

inductive Out where
  | code (e : Ex) (fr : Fr) (st : St)
  | call (v : AV) (st : St)

def Plan.exec (wb : Nat) (callf : FuncId → List AV → St → Option (AV × St)) (st : St) : Plan → Option (AV × St)
  | .fail => none
  | .val v => some (v, st)
  | .rd r k => (st[r]?).bind fun x => (k x).map fun v => (v, st)
  | .wr r k => if wb ≤ r then (st[r]?).bind fun x => (k x).map fun (v, x') => (v, st.set r x') else none
  | .new xs k => some (k st.length, st ++ xs st.length)
  | .call f args => callf f args st

def putFr (n : Nat) (fr : Fr) (d : Option Tmp) (v : AV) : Option Fr :=
  match d with
  | none => some fr
  | some d => if d < n then some (fr.set d v) else none

/-- Is the operation done? Its guard's value is looked up where it was put. -/
def wantedIn (ops : List Oper) (o : Oper) (fr : Fr) : Option Bool :=
  match o.guard with
  | none => some true
  | some (j, want) =>
    match (ops[j]?).bind (·.dst) with
    | some d => match fr.get d with
      | .one (.bool b) => some (b == want)
      | _ => none
    | none => none

/-- As pure1, but what has no spare still has none. -/
def Cell.pureX : Cell → Option Cell
  | .slice .exact e rows => some (.slice .exact e rows)
  | x => x.pure1
def purifyX : List Cell → Option (List Cell)
  | [] => some []
  | c :: l => match c.pureX, purifyX l with | some c, some l => some (c :: l) | _, _ => none
def AV.pureX : AV → Option AV
  | .one c => c.pureX.map .one
  | .agg cs => (purifyX cs).map .agg
  | _ => none
def pureArgsX : List AV → Option (List AV)
  | [] => some []
  | x :: l => match x.pureX, pureArgsX l with | some x, some l => some (x :: l) | _, _ => none
def AV.pure1 : AV → Option AV
  | .one c => c.pure1.map .one
  | .agg cs => (purify cs).map .agg
  | _ => none
def pureArgs : List AV → Option (List AV)
  | [] => some []
  | x :: l => match x.pure1, pureArgs l with | some x, some l => some (x :: l) | _, _ => none

/-- An operation's effect on the resources, as far as an open order asks: 'all': it reads whatever it likes; 'bad': such an operation may not stand where the order is open. -/
inductive Eff where
  | none | rd (r : Nat) | wr (r : Nat) | all | bad
  deriving DecidableEq, Repr

def Cfg.alone (c : Cfg) (f : FuncId) (args : List AV) : Bool :=
  (c.prim f).isSome || ((c.primS f).isNone && c.mode f != .mt && c.fresh f == .plain && (pureArgs args).isSome)

def Plan.eff (c : Cfg) : Plan → Eff
  | .fail | .val _ => .none
  | .rd r _ => .rd r
  | .wr r _ => .wr r
  | .new _ _ => .bad
  | .call f args => if c.alone f args then .none else if (c.primS f).isSome || c.mode f == .mt || c.fresh f != .plain then .bad else .all

def Eff.clash : Eff → Eff → Bool
  | .bad, _ | _, .bad => true
  | .none, _ | _, .none => false
  | .rd _, .rd _ | .rd _, .all | .all, .rd _ | .all, .all => false
  | .rd r, .wr s | .wr r, .rd s | .wr r, .wr s => r == s
  | .all, .wr _ | .wr _, .all => true

def opsRun (c : Cfg) (f : FuncId) (n wb rid : Nat) (callf : FuncId → List AV → St → Option (AV × St)) (ops : List Oper) : Nat → List Oper → Fr → St → Option (Fr × St)
  | _, [], fr, st => some (fr, st)
  | i, o :: rest, fr, st =>
    match wantedIn ops o fr with
    | none => none
    | some false => (putFr n fr o.dst .any).bind fun fr => opsRun c f n wb rid callf ops (i + 1) rest fr st
    | some true =>
      ((opPlan c (c.kind f rid i) o fr).exec wb callf st).bind fun (v, st) =>
        (putFr n fr o.dst v).bind fun fr => opsRun c f n wb rid callf ops (i + 1) rest fr st

/-- The effects along that run. -/
def opsEff (c : Cfg) (f : FuncId) (n wb rid : Nat) (callf : FuncId → List AV → St → Option (AV × St)) (ops : List Oper) : Nat → List Oper → Fr → St → List Eff
  | _, [], _, _ => []
  | i, o :: rest, fr, st =>
    match wantedIn ops o fr with
    | none => [.bad]
    | some false => match putFr n fr o.dst .any with
      | some fr => .none :: opsEff c f n wb rid callf ops (i + 1) rest fr st
      | none => [.bad]
    | some true =>
      let p := opPlan c (c.kind f rid i) o fr
      match p.exec wb callf st with
      | some (v, st) => match putFr n fr o.dst v with
        | some fr => p.eff c :: opsEff c f n wb rid callf ops (i + 1) rest fr st
        | none => [.bad]
      | none => [.bad]

/-- No two operations whose order is open stand in each other's way. -/
def clashFree (ops : Array Oper) (es : List Eff) : Bool :=
  let b := Region.before ops
  es.zipIdx.all fun (ej, j) => (ej != .bad) && es.zipIdx.all fun (ei, i) => !(i < j) || !(ei.clash ej) || (b.getD j 0).testBit i

def freezeList (f : Cell → Option Cell) : List Cell → Option (List Cell)
  | [] => some []
  | x :: l => match f x, freezeList f l with | some x, some l => some (x :: l) | _, _ => none
/-- What a cell that leaves a call comes to; 'ok': the resources that may be frozen for it. -/
def freezeCell (ok : Nat → Bool) (st : St) : Nat → Cell → Option Cell
  | 0, x => x.pure1
  | n + 1, .own r g s _ off len =>
    match st[r]? with
    | some (.row _ g' cells) =>
      if ok r ∧ g = g' ∧ off + len * s ≤ cells.length then (freezeList (freezeCell ok st n) ((cells.drop off).take (len * s))).map fun cs => .slice .no s (chunk s len cs) else none
    | some (.nrow _ g') => if g = g' ∧ len = 0 then some (.slice .no s []) else none
    | _ => none
  | _ + 1, x => x.pure1
def freezeCells (ok : Nat → Bool) (st : St) (n : Nat) (l : List Cell) : Option (List Cell) := freezeList (freezeCell ok st n) l

def outCell (st : St) (n0 : Nat) (x : Cell) : Option Cell :=
  if 0 < n0 ∧ x.refs n0 then some x else freezeCell (fun r => n0 ≤ r) st 6 x
def outCells (st : St) (n0 : Nat) : List Cell → Option (List Cell)
  | [] => some []
  | x :: l => match outCell st n0 x, outCells st n0 l with | some x, some l => some (x :: l) | _, _ => none
def outAV (st : St) (n0 : Nat) : AV → Option AV
  | .one x => (outCell st n0 x).map .one
  | .agg cs => (outCells st n0 cs).map .agg
  | .tup vs => (outAll vs).map .tup
  | .any => none
where outAll : List AV → Option (List AV)
  | [] => some []
  | x :: l => match outAV st n0 x, outAll l with | some x, some l => some (x :: l) | _, _ => none

def resultsAV (c : Cfg) (fr : Fr) (st : St) : List ResultVar → Option (List AV)
  | [] => some []
  | .tmp t :: l => (resultsAV c fr st l).map (fr.get t :: ·)
  | .cell a t :: l =>
    match loadPlan c t (fr.get a) with
    | .rd r k => (st[r]?).bind fun x => (k x).bind fun v => (resultsAV c fr st l).map (v :: ·)
    | _ => none
def tupAV : List AV → AV
  | [v] => v
  | vs => .tup vs

def argFr : Nat → List AV → Fr
  | _, [] => []
  | i, x :: l => (i, x) :: argFr (i + 1) l

/-- A fresh slice is handed on as the caller's own. -/
def handOn (kd : Kind) (v : AV) (st' st : St) : Option (AV × St) :=
  match kd with
  | .plain => (outAV st' 0 v).map fun v => (v, st)
  | .own => match v with
    | .one (.own r g s true 0 len) => match st'[r]? with
      | some (.row t g' cells) => if g = g' then (freezeCells (fun q => q != r) st' 6 cells).map fun cells => (.one (.own st.length 0 s true 0 len), st ++ [.row t 0 cells]) else none
      | some (.nrow t g') => if g = g' ∧ len = 0 then some (.one (.own st.length 0 s true 0 0), st ++ [.nrow t 0]) else none
      | _ => none
    | .one (.slice .exact e rows) => some (.one (.slice .exact e rows), st)
    | .one (.slice _ e rows) => some (.one (.slice .no e rows), st)
    | _ => none
  | .tok => match v with
    | .one (.slice (.tail r) e rows) => match st'[r]? with
      | some (.tail n e') => if n = rows.length ∧ e = e' then some (.one (.slice (.tail st.length) e rows), st ++ [.tail n e]) else none
      | _ => none
    | .one (.own r g s true 0 len) => match st'[r]? with
      | some (.row _ g' cells) => if g = g' ∧ len * s ≤ cells.length then
          (freezeCells (fun q => q != r) st' 6 (cells.take (len * s))).map fun cells => (.one (.slice (.tail st.length) s (chunk s len cells)), st ++ [.tail len s])
        else none
      | some (.nrow _ g') => if g = g' ∧ len = 0 then some (.one (.slice (.tail st.length) s []), st ++ [.tail 0 s]) else none
      | _ => none
    | _ => none

/-- What nobody refers to any more falls away. -/
def trim (n : Nat) (ok : Bool) (st : St) : St :=
  if st.length ≤ n then st else if ok && (st.take n).all (·.refs n) then st.take n else st

def Fr.refs (n : Nat) (fr : Fr) : Bool := fr.all fun p => p.2.refs n

def callBody (c : Cfg) (rec : Task → Option Out) (f : FuncId) (fi : FnInfo) (wb : Nat) (args : List AV) (st : St) : Option (AV × St) :=
  if args.length ≤ fi.ntmps then
    match rec (.code f wb fi.body (argFr 0 args) st) with
    | some (.code e fr' st') => if e = .ret ∨ e = .normal then (resultsAV c fr' st' fi.results).map fun vs => (tupAV vs, st') else none
    | _ => none
  else none

def callStep (c : Cfg) (rec : Task → Option Out) (f : FuncId) (wb : Nat) (args : List AV) (st : St) : Option (AV × St) :=
  match c.prim f with
  | some p => (pureArgs args).bind fun args => (p args).map fun v => (v, st)
  | none =>
    match c.primS f with
    | some p => if wb = 0 then p args st else none
    | none =>
    match c.fn f with
    | none => none
    | some fi =>
      match c.mode f, (if c.mode f = .exact then pureArgsX args else pureArgs args) with
      | .mt, _ => (callBody c rec f fi wb args st).map fun (v, st') => (v, trim st.length (v.refs st.length) st')
      | _, some args => (callBody c rec f fi 0 args []).bind fun (v, st') => handOn (c.fresh f) v st' st
      | _, none => (callBody c rec f fi st.length args st).bind fun (v, st') => (outAV st' st.length v).bind fun v => if v.refs st.length then some (v, st) else none

def Cfg.ntmps (c : Cfg) (f : FuncId) : Nat := match c.fn f with | some fi => fi.ntmps | none => 0
/-- How a region asks for a call. -/
def callfOf (rec : Task → Option Out) (wb : Nat) : FuncId → List AV → St → Option (AV × St) := fun g args st => match rec (.call g wb args st) with | some (.call v st) => some (v, st) | _ => none

/-- The first region of a piece of code. -/
def firstReg : Code → Option Nat
  | .region id _ _ => some id
  | .seq a b => match firstReg a with | some i => some i | none => firstReg b
  | .cond _ a b => match firstReg a with | some i => some i | none => firstReg b
  | .block _ b => firstReg b
  | .loop b => firstReg b
  | .scope b => firstReg b
  | _ => none
/-- At a loop's head nothing is kept but what it may ask for. -/
def Cfg.atHead (c : Cfg) (f : FuncId) (body : Code) (fr : Fr) : Fr :=
  match (firstReg body).bind (c.head f) with
  | some l => fr.keep l
  | none => fr

def step (c : Cfg) (rec : Task → Option Out) : Task → Option Out
  | .call f wb args st => (callStep c rec f wb args st).map fun (v, st) => .call v st
  | .code f wb code fr st =>
    match code with
    | .skip => some (.code .normal fr st)
    | .region id ops draw =>
      if draw && !clashFree ops (opsEff c f (c.ntmps f) wb id (callfOf rec wb) ops.toList 0 ops.toList fr st) then none
      else (opsRun c f (c.ntmps f) wb id (callfOf rec wb) ops.toList 0 ops.toList fr st).map fun (fr, st) =>
        .code .normal (match c.live f id with | some l => fr.keep l | none => fr) st
    | .seq a b =>
      match rec (.code f wb a fr st) with
      | some (.code .normal fr st) => rec (.code f wb b fr st)
      | r => r
    | .cond x a b =>
      match c.eval fr x with
      | .one (.bool true) => rec (.code f wb a fr st)
      | .one (.bool false) => rec (.code f wb b fr st)
      | _ => none
    | .block id body =>
      match rec (.code f wb body fr st) with
      | some (.code (.exit id') fr st) => some (.code (if id' = id then .normal else .exit id') fr st)
      | r => r
    | .loop body =>
      match rec (.code f wb body (c.atHead f body fr) st) with
      | some (.code .normal fr' st') => rec (.code f wb (.loop body) (c.atHead f body fr') (trim st.length ((c.atHead f body fr').refs st.length) st'))
      | r => r
    | .scope body => rec (.code f wb body fr st)
    | .label _ => some (.code .normal fr st)
    | .exit id => some (.code (.exit id) fr st)
    | .ret => some (.code .ret fr st)
    | _ => none

def run (c : Cfg) : Nat → Task → Option Out
  | 0, _ => none
  | n + 1, t => step c (run c n) t

end Go.AI
