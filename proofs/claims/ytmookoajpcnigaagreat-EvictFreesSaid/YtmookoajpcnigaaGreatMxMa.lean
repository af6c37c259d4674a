/- Parts of the abstract interpreter, in the order in which they build. -/
import GoSem.Core.Code
import GoSem.Core.View
import Derived.Calls
import Derived.Orders
import Derived.Laws.Sem
import Derived.Laws.World
import Derived.Laws.Cells
/- The abstract interpreter 'Mx': definitions alone. What it computes is tied to the model's own runs in the texts behind this one. -/
namespace Go.Mx
open Go

inductive PT (α : Type) where
  | leaf
  | node (l : PT α) (v : Option α) (r : PT α)

def PT.get {α : Type} : PT α → Nat → Option α
  | .leaf, _ => none
  | .node l v r, k => bif Nat.beq k 0 then v else bif Nat.beq (k % 2) 1 then l.get (k / 2) else r.get (k / 2 - 1)

def PT.sing {α : Type} (v : α) : Nat → Nat → PT α
  | 0, _ => .leaf
  | n + 1, k => bif Nat.beq k 0 then .node .leaf (some v) .leaf
    else bif Nat.beq (k % 2) 1 then .node (sing v n (k / 2)) none .leaf else .node .leaf none (sing v n (k / 2 - 1))

def PT.set {α : Type} : PT α → Nat → α → PT α
  | .leaf, k, v => PT.sing v (k + 1) k
  | .node l x r, k, v => bif Nat.beq k 0 then .node l (some v) r
    else bif Nat.beq (k % 2) 1 then .node (l.set (k / 2) v) x r else .node l x (r.set (k / 2 - 1) v)

def PT.del {α : Type} : PT α → Nat → PT α
  | .leaf, _ => .leaf
  | .node l x r, k => bif Nat.beq k 0 then .node l none r
    else bif Nat.beq (k % 2) 1 then .node (l.del (k / 2)) x r else .node l x (r.del (k / 2 - 1))

/-- what one cell holds -/
inductive Sc where
  | b (x : Bool)
  | i (k : IntKind) (n : Int)
  | s (l : List Nat)
  | p (a : Option (Nat × Nat))
  | sl (a : Option (Nat × Nat)) (len cap : Nat) (op : Bool)
  /-- no elements, at the very end of a row that may have room behind it -/
  | se (a : Nat × Nat) (d : Nat)
  | m (r : Option Nat)
  | ch (r : Option Nat)
  | fn (f : Nat) (first cap : List (Nat × Nat))
  | nilfn
  | nilifc
  /-- a byte of an argument, or, where the argument is not so long, another one -/
  | y (k old : Nat)
  /-- a number that is not known, plus c; it lies between two -/
  | ln (g : Nat) (c lo hi : Int)
  /-- a number that is not known but for what it leaves -/
  | md (g : Nat) (k : IntKind) (r m : Nat)
  /-- as many elements as the argument has, of one cell each; how much room there is: by m -/
  | sn (a : Nat × Nat) (lo hi m : Nat)
  /-- what is behind these: nothing, but for room -/
  | sz (a : Nat × Nat) (lo hi m : Nat)
  deriving DecidableEq

/-- a value that a variable may hold: cells, and whether it is an aggregate -/
abbrev Vv := Bool × List Sc

inductive AV where
  | one (c : Sc)
  | agg (l : List Sc)
  | zag (t : Nat)
  | tup (l : List Vv)
  deriving DecidableEq

/-- what cells hold where nothing was stored: runs, again and again -/
structure Zr where
  per : Nat
  runs : List (Nat × Sc)

def Zr.at : List (Nat × Sc) → Nat → Sc
  | [], _ => .b false
  | (n, c) :: r, k => bif Nat.ble (k + 1) n then c else Zr.at r (k - n)

/-- an entry of a map: key, value, stamp -/
abbrev Me := Vv × Vv × Nat

inductive AO where
  | arr (n : Nat) (z : Zr) (t : PT Sc) (e : Nat) (op : Bool)
  | ro (n : Nat) (c : Nat → Sc)
  | map (es : List Me) (clk : Nat)
  | chan (cap : Nat) (buf : List Vv)
  /-- as many cells as the argument has -/
  | sy (c : Nat → Sc)

structure St where
  next : Nat
  hp : PT AO

inductive TK where
  | int (k : IntKind) | bool | str | ptr | slice (e : Nat) | arr (n e : Nat) | map (k e : Nat) | struct (fs : List (Nat × Nat × Bool)) | chan | fn | other

structure TI where
  size : Nat
  agg : Bool
  kind : TK
  zero : List (Nat × Sc)
  plain : Bool

abbrev Intr := List AV → St → Option (AV × St)

/-- of a region whose order is drawn: the order that is followed here; the reads that may come at several places, and from where to where -/
structure Dr where
  anc : List Nat
  order : List Nat
  free : List (Nat × Nat × Nat)

structure Env where
  ty : PT TI
  fns : PT Func
  intr : PT Intr
  free : PT (PT Dr)

abbrev Tm := PT AV

def undefV : AV := .tup []

def cellV (z : Zr) (t : PT Sc) (k : Nat) : Sc :=
  match t.get k with | some v => v | none => Zr.at z.runs (k % z.per)

def cellsV (z : Zr) (t : PT Sc) : Nat → Nat → List Sc
  | _, 0 => []
  | k, c + 1 => cellV z t k :: cellsV z t (k + 1) c

def cellsR (f : Nat → Sc) : Nat → Nat → List Sc
  | _, 0 => []
  | k, c + 1 => f k :: cellsR f (k + 1) c

def setCells (t : PT Sc) : Nat → List Sc → PT Sc
  | _, [] => t
  | k, v :: r => setCells (t.set k v) (k + 1) r

def ldCells (s : St) (a : Nat × Nat) (c : Nat) : Option (List Sc) :=
  match s.hp.get a.1 with
  | some (.arr n z t _ _) => bif Nat.ble (a.2 + c) n then some (cellsV z t a.2 c) else none
  | some (.ro n f) => bif Nat.ble (a.2 + c) n then some (cellsR f a.2 c) else none
  | _ => none

def stCells (s : St) (a : Nat × Nat) (vs : List Sc) : Option St :=
  match s.hp.get a.1 with
  | some (.arr n z t e o) => bif Nat.ble (a.2 + vs.length) n then some { s with hp := s.hp.set a.1 (.arr n z (setCells t a.2 vs) e o) } else none
  | _ => none

def alloc (s : St) (o : AO) : Nat × St := (s.next, { next := s.next + 1, hp := s.hp.set s.next o })

def zeroCells (ti : TI) : List Sc := ti.zero.flatMap fun p => List.replicate p.1 p.2

/-- the cells of a value -/
def cellsAs (E : Env) : AV → Option (List Sc)
  | .one c => some [c]
  | .agg l => some l
  | .zag t => match E.ty.get t with | some ti => some (zeroCells ti) | none => none
  | .tup _ => none

def mkV (agg : Bool) (l : List Sc) : Option AV := bif agg then some (.agg l) else match l with | [c] => some (.one c) | _ => none

def toV (v : Vv) : Option AV := mkV v.1 v.2
def ofV (E : Env) : AV → Option Vv
  | .one c => some (false, [c])
  | .agg l => some (true, l)
  | .zag t => match E.ty.get t with | some ti => bif ti.agg then some (true, zeroCells ti) else none | none => none
  | .tup _ => none

def zeroOf (ti : TI) : Zr := ⟨ti.size, ti.zero⟩

def newVar (E : Env) (s : St) (t : Nat) (v : AV) : Option (AV × St) :=
  match E.ty.get t with
  | none => none
  | some ti =>
    match v with
    | .zag t' => bif Nat.beq t' t then some (.one (.p (some (s.next, 0))), (alloc s (.arr ti.size (zeroOf ti) .leaf t false)).2) else none
    | _ => match cellsAs E v with
      | none => none
      | some cs => bif Nat.beq cs.length ti.size then
          some (.one (.p (some (s.next, 0))), (alloc s (.arr ti.size (zeroOf ti) (setCells .leaf 0 cs) t false)).2) else none

def ofConst : Value → Option AV
  | .bool x => some (.one (.b x))
  | .int k n => some (.one (.i k n))
  | .string x => some (.one (.s (x.data.toList.map (·.toNat))))
  | .pointer none => some (.one (.p none))
  | .slice none 0 0 => some (.one (.sl none 0 0 false))
  | .map none => some (.one (.m none))
  | .nilFunc => some (.one .nilfn)
  | .nilIface => some (.one .nilifc)
  | _ => none

def ev (tm : Tm) : Operand → Option AV
  | .tmp t => match tm.get t with | some v => some v | none => some undefV
  | .const v => ofConst v
  | .func f => some (.one (.fn f [] []))
  | .global _ => none

def evI (tm : Tm) (o : Operand) : Option (IntKind × Int) :=
  match ev tm o with | some (.one (.i k n)) => some (k, n) | _ => none
def evB (tm : Tm) (o : Operand) : Option Bool :=
  match ev tm o with | some (.one (.b n)) => some n | _ => none
def evP (tm : Tm) (o : Operand) : Option (Nat × Nat) :=
  match ev tm o with | some (.one (.p (some a))) => some a | _ => none
def evC (E : Env) (tm : Tm) (o : Operand) : Option (List Sc) :=
  match ev tm o with | some v => cellsAs E v | none => none
def evV (E : Env) (tm : Tm) (o : Operand) : Option Vv :=
  match ev tm o with | some v => ofV E v | none => none

def intOp (op : BinOp) (k : IntKind) (a b : Int) : Option Sc :=
  match op with
  | .add => some (.i k (k.wrap (a + b)))
  | .sub => some (.i k (k.wrap (a - b)))
  | .mul => some (.i k (k.wrap (a * b)))
  | .quo => bif decide (b = 0) then none else some (.i k (k.wrap (a.tdiv b)))
  | .rem => bif decide (b = 0) then none else some (.i k (a.tmod b))
  | .and => some (.i k (k.wrap ((BitVec.ofInt k.bits a &&& BitVec.ofInt k.bits b).toNat)))
  | .or => some (.i k (k.wrap ((BitVec.ofInt k.bits a ||| BitVec.ofInt k.bits b).toNat)))
  | .xor => some (.i k (k.wrap ((BitVec.ofInt k.bits a ^^^ BitVec.ofInt k.bits b).toNat)))
  | .andNot => some (.i k (k.wrap ((BitVec.ofInt k.bits a &&& ~~~(BitVec.ofInt k.bits b)).toNat)))
  | .eql => some (.b (a == b))
  | .neq => some (.b (a != b))
  | .lss => some (.b (decide (a < b)))
  | .leq => some (.b (decide (a ≤ b)))
  | .gtr => some (.b (decide (a > b)))
  | .geq => some (.b (decide (a ≥ b)))
  | _ => none

/-- '==' of two plain cells -/
def eqSc : Sc → Sc → Option Bool
  | .b x, .b y => some (x == y)
  | .i j x, .i k y => bif decide (j = k) then some (x == y) else none
  | _, _ => none

/-- is a cell of the kind of another one, both plain? -/
def sameKd : Sc → Sc → Bool
  | .b _, .b _ => true
  | .i j _, .i k _ => decide (j = k)
  | _, _ => false

def confL : List Sc → List Sc → Bool
  | [], [] => true
  | a :: r, b :: q => sameKd a b && confL r q
  | _, _ => false

def eqL : List Sc → List Sc → Option Bool
  | [], [] => some true
  | a :: r, b :: q => match eqSc a b, eqL r q with
    | some x, some y => some (x && y)
    | _, _ => none
  | _, _ => none

/-- '==' of two values of a type of one cell, one of them nil, or both bools -/
def eqOne (k : TK) (x y : Sc) : Option Bool :=
  match k, x, y with
  | .bool, .b a, .b b => some (a == b)
  | .ptr, .p none, .p b => some b.isNone
  | .ptr, .p (some _), .p none => some false
  | .slice _, .sl none _ _ _, .sl b _ _ _ => some b.isNone
  | .slice _, .sl (some _) _ _ _, .sl none _ _ _ => some false
  | .slice _, .se _ _, .sl none _ _ _ => some false
  | .slice _, .sl none _ _ _, .se _ _ => some false
  | .map _ _, .m none, .m b => some b.isNone
  | .map _ _, .m (some _), .m none => some false
  | .fn, .nilfn, .nilfn => some true
  | .fn, .nilfn, .fn _ _ _ => some false
  | .fn, .fn _ _ _, .nilfn => some false
  | _, _, _ => none

/-- is a key one of a type? -/
def keyOk (E : Env) (kt : Nat) (k : Vv) : Bool :=
  match E.ty.get kt with
  | some tk => tk.plain && (k.1 == tk.agg) && confL (zeroCells tk) k.2
  | none => false

def eqK (a b : Vv) : Option Bool := bif a.1 == b.1 then eqL a.2 b.2 else none

/-- the place of a key among entries -/
def findK (k : Vv) : List Me → Option (Option Me)
  | [] => some none
  | e :: r => match eqK k e.1 with
    | some true => some (some e)
    | some false => findK k r
    | none => none

def putK (k v : Vv) : List Me → List Me
  | [] => []
  | e :: r => match eqK k e.1 with
    | some true => (k, v, e.2.2) :: r
    | _ => e :: putK k v r

def delK (k : Vv) : List Me → List Me
  | [] => []
  | e :: r => match eqK k e.1 with
    | some true => r
    | _ => e :: delK k r

/-- a store by stamp -/
def putB (b : Nat) (v : Vv) : List Me → Option (List Me)
  | [] => none
  | e :: r => bif Nat.beq e.2.2 b then some ((e.1, v, b) :: r) else match putB b v r with
    | some q => some (e :: q)
    | none => none

def bound (tm : Tm) (o : Option Operand) (d : Nat) (hi : Nat) : Option Nat :=
  match o with
  | none => some d
  | some x => match evI tm x with
    | some (_, .ofNat n) => bif Nat.ble n hi then some n else none
    | _ => none

/-- s[lo:hi:max]: the three numbers -/
def bounds3 (tm : Tm) (lo hi mx : Option Operand) (len cap : Nat) : Option (Nat × Nat × Nat) :=
  match bound tm mx cap cap with
  | some m => match (bif mx.isSome && hi.isNone then none else bound tm hi len m) with
    | some h => match bound tm lo 0 h with
      | some l => bif Nat.ble l m && Nat.ble h m then some (l, h, m) else none
      | none => none
    | none => none
  | none => none

def sliceOp0 (E : Env) (tm : Tm) (t : Nat) (x : Operand) (lo hi mx : Option Operand) : Option AV :=
  match E.ty.get t, ev tm x with
  | some ⟨_, _, .slice e, _, _⟩, some (.one (.sl a len cap op)) =>
    match E.ty.get e, bounds3 tm lo hi mx len cap with
    | some te, some (l, h, m) => match a with
      | none => some (.one (.sl none (h - l) (m - l) (op && mx.isNone)))
      | some (i, o) => bif op && mx.isNone && Nat.beq m l then some (.one (.se (i, o) (l * te.size)))
        else some (.one (.sl (some (bif Nat.beq m l then (i, o) else (i, o + l * te.size))) (h - l) (m - l) (op && mx.isNone)))
    | _, _ => none
  | some ⟨_, _, .arr n e, _, _⟩, some (.one (.p (some (i, o)))) =>
    match E.ty.get e, bounds3 tm lo hi mx n n with
    | some te, some (l, h, m) => some (.one (.sl (some (bif Nat.beq m l then (i, o) else (i, o + l * te.size))) (h - l) (m - l) false))
    | _, _ => none
  | _, _ => none

/-- the number that is not known, without more: how long the argument is -/
def lnOf (tm : Tm) (x : Operand) : Option (Int × Int × Int) :=
  match ev tm x with | some (.one (.ln 0 c lo hi)) => some (c, lo, hi) | _ => none
def natOf (x : Int) : Option Nat := match x with | .ofNat n => some n | _ => none
def lowOf (tm : Tm) (lo : Option Operand) : Option Nat :=
  match lo with
  | none => some 0
  | some x => match ev tm x with | some (.one (.i _ n)) => natOf n | _ => none

/-- slices whose length is not known -/
def symSlice (E : Env) (tm : Tm) (t : Nat) (x : Operand) (lo hi mx : Option Operand) : Option AV :=
  match E.ty.get t, ev tm x with
  | some ⟨_, _, .arr n e, _, _⟩, some (.one (.p (some (i, o)))) => match hi, mx with
    | some hi, some mx => match lnOf tm hi, lnOf tm mx, lowOf tm lo, E.ty.get e with
      | some (c, l, u), some (c', _, _), some k, some te => match natOf l, natOf u with
        | some l, some u => bif decide (c = (k : Int)) && decide (c' = c) && Nat.beq te.size 1 && Nat.ble 1 l && Nat.ble (k + u) n then some (.one (.sn (i, o + k) l u 0)) else none
        | _, _ => none
      | _, _, _, _ => none
    | _, _ => none
  | some ⟨_, _, .slice e, _, _⟩, some (.one (.sn a l u m)) => match E.ty.get e with
    | some te => bif Nat.beq te.size 1 then (match lo, hi, mx with
      | none, some hi, none => match lnOf tm hi with
        | some (c, _, _) => bif decide (c = 0) && Nat.ble 1 l then some (.one (.sn a l u m)) else none
        | none => none
      | some lo, none, none => match lnOf tm lo with
        | some (c, _, _) => bif decide (c = 0) then some (.one (.sz a l u m)) else none
        | none => none
      | _, _, _ => none) else none
    | none => none
  | some ⟨_, _, .slice e, _, _⟩, some (.one (.sl (some a) _ cap op)) => match E.ty.get e with
    | some te => bif Nat.beq te.size 1 then (match lo, hi, mx with
      | none, some hi, none => match lnOf tm hi with
        | some (c, l, u) => match natOf l, natOf u with
          | some l, some u => bif decide (c = 0) && Nat.ble 1 l && Nat.ble u cap then some (.one (.sn a l u (4 + (2 * cap + (bif op then 1 else 0))))) else none
          | _, _ => none
        | none => none
      | _, _, _ => none) else none
    | none => none
  | _, _ => none

def sliceOp (E : Env) (tm : Tm) (t : Nat) (x : Operand) (lo hi mx : Option Operand) : Option AV :=
  match symSlice E tm t x lo hi mx with
  | some v => some v
  | none => sliceOp0 E tm t x lo hi mx

def splice (cells : List Sc) (off : Nat) (vs : List Sc) : List Sc :=
  cells.take off ++ vs ++ cells.drop (off + vs.length)

def fillOp (E : Env) (tm : Tm) (place : Nat → Option (Nat × Nat)) : List (Nat × Operand) → List Sc → Option (List Sc)
  | [], cs => some cs
  | (i, x) :: r, cs => match place i, evC E tm x with
    | some (off, sz), some vs => bif Nat.beq vs.length sz && Nat.ble (off + sz) cs.length then fillOp E tm place r (splice cs off vs) else none
    | _, _ => none

def repCells (n : Nat) (l : List Sc) : List Sc :=
  match n with | 0 => [] | n + 1 => l ++ repCells n l

def place2 (fs : List (Nat × Nat × Bool)) (i : Nat) : Option (Nat × Nat) :=
  match fs[i]? with | some f => some (f.1, f.2.1) | none => none

def nilOk : AV → Bool
  | .one (.p (some _)) => true
  | .one (.fn _ _ _) => true
  | _ => false

def lim : Nat := 1048576

def appendOp (te : TI) (e : Nat) (s : St) (a : Option (Nat × Nat)) (len cap : Nat) (op : Bool) (new : List Sc) (n : Nat) : Option (AV × St) :=
  bif Nat.ble (len + n) cap then
    match a with
    | none => bif Nat.beq n 0 then some (.one (.sl none (len + n) cap op), s) else none
    | some (i, o) => match stCells s (i, o + len * te.size) new with
      | some s => some (.one (.sl a (len + n) cap op), s)
      | none => none
  else bif Nat.ble (len + n) lim then
    match a with
    | none => bif Nat.beq len 0 then
        some (.one (.sl (some (s.next, 0)) n n true), (alloc s (.arr (n * te.size) (zeroOf te) (setCells .leaf 0 new) e true)).2) else none
    | some (i, o) => match s.hp.get i with
      | some (.arr k z t e' md) =>
        bif Nat.ble (o + len * te.size) k then
        bif op then
          bif md && Nat.beq e' e && Nat.beq o 0 && Nat.beq (cap * te.size) k && Nat.beq len cap then
            some (.one (.sl (some (s.next, 0)) (len + n) (len + n) true),
              (alloc { s with hp := s.hp.del i } (.arr ((len + n) * te.size) z (setCells t (len * te.size) new) e true)).2)
          else none
        else
          some (.one (.sl (some (s.next, 0)) (len + n) (len + n) true),
            (alloc s (.arr ((len + n) * te.size) (zeroOf te) (setCells .leaf 0 (cellsV z t o (len * te.size) ++ new)) e true)).2)
        else none
      | some (.ro k f) =>
        bif Nat.ble (o + len * te.size) k && !op then
          some (.one (.sl (some (s.next, 0)) (len + n) (len + n) true),
            (alloc s (.arr ((len + n) * te.size) (zeroOf te) (setCells .leaf 0 (cellsR f o (len * te.size) ++ new)) e true)).2)
        else none
      | _ => none
  else none

def lenV (s : St) (k : TK) (v : AV) : Option Nat :=
  match k, v with
  | .slice _, .one (.sl _ n _ _) => some n
  | .slice _, .one (.se _ _) => some 0
  | .str, .one (.s l) => some l.length
  | .map _ _, .one (.m none) => some 0
  | .map _ _, .one (.m (some r)) => match s.hp.get r with | some (.map es _) => some es.length | _ => none
  | _, _ => none

/-- the cells that are appended, or copied -/
def srcCells (s : St) (sz : Nat) (n : Nat) : AV → Option (List Sc)
  | .one (.sl (some a) _ _ _) => ldCells s a (n * sz)
  | .one (.sl none _ _ _) => some []
  | .one (.se _ _) => some []
  | .one (.s l) => some ((l.take n).map fun (x : Nat) => Sc.i .u8 (Int.ofNat (x % 256)))
  | _ => none

def lenS : AV → Option Nat
  | .one (.sl _ n _ _) => some n
  | .one (.se _ _) => some 0
  | .one (.s l) => some l.length
  | _ => none

def minI (x y : Int) : Int := bif decide (y < x) then y else x
def maxI (x y : Int) : Int := bif decide (x < y) then y else x

def foldMM (mn : Bool) (tm : Tm) (k : IntKind) : Int → List Operand → Option Int
  | v, [] => some v
  | v, x :: r => match evI tm x with
    | some (_, w) => foldMM mn tm k (bif mn then minI v w else maxI v w) r
    | none => none

def evs (tm : Tm) : List Operand → Option (List AV)
  | [] => some []
  | x :: r => match ev tm x, evs tm r with
    | some v, some l => some (v :: l)
    | _, _ => none

def ptrs : List AV → Option (List (Nat × Nat))
  | [] => some []
  | .one (.p (some a)) :: r => match ptrs r with | some q => some (a :: q) | none => none
  | _ => none

def bytesOf : List Sc → Option (List Nat)
  | [] => some []
  | .i .u8 n :: r => match bytesOf r with | some q => some (n.toNat :: q) | none => none
  | _ => none

abbrev CF := Nat → List AV → St → Option (AV × St)

def ov (x : Option AV) (s : St) : Option (AV × St) := match x with | some v => some (v, s) | none => none

def builtinOp0 (E : Env) (tm : Tm) (s : St) (b : Builtin) (tys : List Nat) (args : List Operand) : Option (AV × St) :=
  match b, tys, args with
  | .len, t :: _, x :: _ =>
    match E.ty.get t with
    | some ⟨_, _, .arr n _, _, _⟩ => some (.one (.i .i64 n), s)
    | some ti => match ev tm x with
      | some v => match lenV s ti.kind v with | some n => some (.one (.i .i64 n), s) | none => none
      | none => none
    | none => none
  | .cap, t :: _, x :: _ =>
    match E.ty.get t, ev tm x with
    | some ⟨_, _, .slice _, _, _⟩, some (.one (.sl _ _ c false)) => some (.one (.i .i64 c), s)
    | _, _ => none
  | .append, [t, t'], [x, y] =>
    match E.ty.get t, E.ty.get t', ev tm x, ev tm y with
    | some ⟨_, _, .slice e, _, _⟩, some ti', some (.one (.sl a len cap op)), some w =>
      match E.ty.get e with
      | some te => match ti'.kind, w with
        | .int _, .one (.i _ (.ofNat n)) => bif Nat.ble n lim then appendOp te e s a len cap op (repCells n (zeroCells te)) n else none
        | .int _, _ => none
        | .other, _ => none
        | _, w => match lenS w with
          | some n => match srcCells s te.size n w with
            | some new => bif Nat.beq new.length (n * te.size) then appendOp te e s a len cap op new n else none
            | none => none
          | none => none
      | none => none
    | _, _, _, _ => none
  | .copy, t :: _, x :: y :: _ =>
    match E.ty.get t, ev tm x, ev tm y with
    | some ⟨_, _, .slice e, _, _⟩, some (.one (.sl a len _ _)), some w =>
      match E.ty.get e, lenS w with
      | some te, some wl =>
        match srcCells s te.size (Nat.min wl len) w with
        | some cs => match a with
          | none => some (.one (.i .i64 (Nat.min wl len : Nat)), s)
          | some a => match stCells s a cs with
            | some s => some (.one (.i .i64 (Nat.min wl len : Nat)), s)
            | none => none
        | none => none
      | _, _ => none
    | _, _, _ => none
  | .clear, t :: _, x :: _ =>
    match E.ty.get t, ev tm x with
    | some ⟨_, _, .map _ _, _, _⟩, some (.one (.m none)) => some (undefV, s)
    | some ⟨_, _, .map _ _, _, _⟩, some (.one (.m (some r))) => match s.hp.get r with
      | some (.map _ c) => some (undefV, { s with hp := s.hp.set r (.map [] c) })
      | _ => none
    | some ⟨_, _, .slice _, _, _⟩, some (.one (.sl none _ _ _)) => some (undefV, s)
    | some ⟨_, _, .slice _, _, _⟩, some (.one (.sl (some _) 0 _ _)) => some (undefV, s)
    | some ⟨_, _, .slice e, _, _⟩, some (.one (.sl (some a) n _ _)) => match E.ty.get e with
      | some te => match stCells s a (repCells n (zeroCells te)) with
        | some s => some (undefV, s)
        | none => none
      | none => none
    | _, _ => none
  | .delete, t :: _, x :: y :: _ =>
    match E.ty.get t, ev tm x, evV E tm y with
    | some ⟨_, _, .map kt _, _, _⟩, some (.one (.m none)), some k => bif keyOk E kt k then some (undefV, s) else none
    | some ⟨_, _, .map kt _, _, _⟩, some (.one (.m (some r))), some k => match s.hp.get r with
      | some (.map es c) => match bif keyOk E kt k then findK k es else none with
        | some _ => some (undefV, { s with hp := s.hp.set r (.map (delK k es) c) })
        | none => none
      | _ => none
    | _, _, _ => none
  | .min, _, x :: r => match evI tm x with
    | some (k, v) => match foldMM true tm k v r with | some n => some (.one (.i k n), s) | none => none
    | none => none
  | .max, _, x :: r => match evI tm x with
    | some (k, v) => match foldMM false tm k v r with | some n => some (.one (.i k n), s) | none => none
    | none => none
  | _, _, _ => none

/-- the address of an element of a slice whose length is not known -/
def symIdx (E : Env) (tm : Tm) (t : Nat) (x i : Operand) : Option AV :=
  match E.ty.get t, ev tm x, ev tm i with
  | some ⟨_, _, .slice e, _, _⟩, some (.one (.sn a l _ _)), some (.one (.i _ (.ofNat k))) => match E.ty.get e with
    | some te => bif Nat.beq te.size 1 && Nat.ble (k + 1) l then some (.one (.p (some (a.1, a.2 + k)))) else none
    | none => none
  | _, _, _ => none

/-- one byte behind a copy -/
def mixS (i : Nat) (new old : Sc) : Option Sc :=
  match new, old with
  | .y k _, .i .u8 (.ofNat b) => bif Nat.beq (k % 64) i then some (.y k b) else none
  | .y k _, .y k' b => bif Nat.beq (k % 64) i && Nat.beq (k' % 64) i then some (.y k b) else none
  | _, _ => none
def mixL : Nat → List Sc → List Sc → Option (List Sc)
  | _, [], [] => some []
  | i, a :: r, b :: q => match mixS i a b, mixL (i + 1) r q with
    | some c, some l => some (c :: l)
    | _, _ => none
  | _, _, _ => none
/-- the first u cells from a place on, as far as they are there -/
def symSrc (s : St) (a : Nat × Nat) (u : Nat) : Option (List Sc) :=
  match s.hp.get a.1 with
  | some (.arr n z t _ _) => bif Nat.ble (a.2 + u) n then some (cellsV z t a.2 u) else none
  | some (.sy c) => bif Nat.beq a.2 0 then some (cellsR c 0 u) else none
  | _ => none
def symDst (s : St) (a : Nat × Nat) (u : Nat) : Option (List Sc) :=
  match s.hp.get a.1 with
  | some (.arr n z t _ _) => bif Nat.ble (a.2 + u) n then some (cellsV z t a.2 u) else none
  | _ => none
def nthS (l : List Sc) (k : Nat) : Sc := match l[k]? with | some c => c | none => .b false

def symCopy (E : Env) (tm : Tm) (s : St) : List Nat → List Operand → Option (AV × St)
  | t :: _, x :: y :: _ => match E.ty.get t, ev tm x, ev tm y with
    | some ⟨_, _, .slice e, _, _⟩, some (.one (.sn d l u _)), some (.one (.sn q _ _ _)) => match E.ty.get e, symSrc s q u, symDst s d u with
      | some te, some new, some old => match mixL 0 new old with
        | some cs => match stCells s d cs with
          | some s' => bif Nat.beq te.size 1 && Nat.ble u 64 then some (.one (.ln 0 0 l u), s') else none
          | none => none
        | none => none
      | _, _, _ => none
    | _, _, _ => none
  | _, _ => none
def apRoom (s : St) (a : Option (Nat × Nat)) (op : Bool) : Bool :=
  match a with
  | none => true
  | some p => match s.hp.get p.1 with | some (.arr k _ _ _ _) => Nat.ble p.2 k && !op | _ => false
def symAppend (E : Env) (tm : Tm) (s : St) : List Nat → List Operand → Option (AV × St)
  | [t, t'], [x, y] => match E.ty.get t, E.ty.get t', ev tm x, ev tm y with
    | some ⟨_, _, .slice e, _, _⟩, some ⟨_, _, .slice _, _, _⟩, some (.one (.sl a 0 0 op)), some (.one (.sn q l u _)) => match E.ty.get e, symSrc s q u with
      | some te, some new => bif Nat.beq te.size 1 && Nat.ble u 64 && Nat.ble 1 l && apRoom s a op then
          some (.one (.sn (s.next, 0) l u 1), (alloc s (.sy (nthS new))).2) else none
      | _, _ => none
    | _, _, _, _ => none
  | _, _ => none
def symLen (E : Env) (tm : Tm) (s : St) : List Nat → List Operand → Option (AV × St)
  | t :: _, x :: _ => match E.ty.get t, ev tm x with
    | some ⟨_, _, .slice _, _, _⟩, some (.one (.sn _ l u _)) => some (.one (.ln 0 0 l u), s)
    | _, _ => none
  | _, _ => none
def symMin (tm : Tm) (s : St) : List Operand → Option (AV × St)
  | [x, y] => match ev tm x, ev tm y with
    | some (.one (.ln g c l u)), some (.one (.i .i64 b)) => bif decide (u + c ≤ b) then some (.one (.ln g c l u), s) else bif decide (b ≤ l + c) then some (.one (.i .i64 b), s) else none
    | _, _ => none
  | _ => none
def symB (E : Env) (tm : Tm) (s : St) (b : Builtin) (tys : List Nat) (args : List Operand) : Option (AV × St) :=
  match b with
  | .len => symLen E tm s tys args
  | .copy => symCopy E tm s tys args
  | .append => symAppend E tm s tys args
  | .min => symMin tm s args
  | _ => none

def builtinOp (E : Env) (tm : Tm) (s : St) (b : Builtin) (tys : List Nat) (args : List Operand) : Option (AV × St) :=
  match symB E tm s b tys args with
  | some r => some r
  | none => builtinOp0 E tm s b tys args

def isAg (E : Env) : AV → Bool
  | .agg _ => true
  | .zag t => match E.ty.get t with | some ti => ti.agg | none => false
  | _ => false

def binOp0 (E : Env) (op : BinOp) (t : Nat) (v w : AV) : Option AV :=
  match v, w with
  | .one (.i k a), .one (.i k' b) =>
    match op with
    | .shl => match b with
      | .ofNat n => some (.one (.i k (k.wrap (a * 2 ^ (Nat.min n k.bits)))))
      | _ => none
    | .shr => match b with
      | .ofNat n => some (.one (.i k (a.fdiv (2 ^ (Nat.min n k.bits)))))
      | _ => none
    | _ => bif decide (k = k') then (match intOp op k a b with | some c => some (.one c) | none => none) else none
  | .one (.s x), .one (.s y) => bif x.all (Nat.ble · 255) && y.all (Nat.ble · 255) then (match op with
    | .eql => some (.one (.b (x == y)))
    | .neq => some (.one (.b (!(x == y))))
    | _ => none) else none
  | .one x, .one y => match E.ty.get t with
    | some ti => match eqOne ti.kind x y with
      | some r => match op with
        | .eql => some (.one (.b r))
        | .neq => some (.one (.b !r))
        | _ => none
      | none => none
    | none => none
  | _, _ => match E.ty.get t with
    | some ti => bif ti.agg && ti.plain && (isAg E v && isAg E w) then
        match cellsAs E v, cellsAs E w with
        | some a, some b => bif confL (zeroCells ti) a && confL (zeroCells ti) b then (match eqL a b with
          | some r => match op with
            | .eql => some (.one (.b r))
            | .neq => some (.one (.b !r))
            | _ => none
          | none => none) else none
        | _, _ => none
      else none
    | none => none

/-- a number between two, held against another one -/
def symCmp (op : BinOp) (lo hi b : Int) : Option Bool :=
  match op with
  | .lss => bif decide (hi < b) then some true else bif decide (b ≤ lo) then some false else none
  | .leq => bif decide (hi ≤ b) then some true else bif decide (b < lo) then some false else none
  | .gtr => bif decide (b < lo) then some true else bif decide (hi ≤ b) then some false else none
  | .geq => bif decide (b ≤ lo) then some true else bif decide (hi < b) then some false else none
  | .eql => bif decide (hi < b) || decide (b < lo) then some false else bif decide (lo = b) && decide (hi = b) then some true else none
  | .neq => bif decide (hi < b) || decide (b < lo) then some true else bif decide (lo = b) && decide (hi = b) then some false else none
  | _ => none
def turned : BinOp → BinOp
  | .lss => .gtr | .leq => .geq | .gtr => .lss | .geq => .leq | op => op
def inR (lo hi : Int) : Bool := decide (-9223372036854775808 ≤ lo) && decide (hi < 9223372036854775808)
def symSc (op : BinOp) (k : TK) (v w : Sc) : Option Sc :=
  match v, w with
  | .ln g c l u, .i .i64 b => match op with
    | .add => bif inR (l + (c + b)) (u + (c + b)) then some (.ln g (c + b) l u) else none
    | .sub => bif inR (l + (c - b)) (u + (c - b)) then some (.ln g (c - b) l u) else none
    | op => (symCmp op (l + c) (u + c) b).map .b
  | .i .i64 b, .ln g c l u => match op with
    | .add => bif inR (l + (c + b)) (u + (c + b)) then some (.ln g (c + b) l u) else none
    | op => (symCmp (turned op) (l + c) (u + c) b).map .b
  | .ln g c _ _, .ln g' c' _ _ => bif Nat.beq g g' then (match op with
    | .sub => bif inR (c - c') (c - c') then some (.i .i64 (c - c')) else none
    | op => (symCmp op c c c').map .b) else none
  | .md _ k r m, .i k' b => match op with
    | .rem => bif decide (k = k') && decide (b = (m : Int)) && Nat.ble 1 m then some (.i k r) else none
    | _ => none
  | .y a b, .y a' b' => bif Nat.beq a a' && Nat.beq b b' then (match op with
    | .eql => some (.b true)
    | .neq => some (.b false)
    | _ => none) else none
  | .sn _ _ _ _, .sl none 0 0 _ => match k, op with
    | .slice _, .eql => some (.b false)
    | .slice _, .neq => some (.b true)
    | _, _ => none
  | _, _ => none
def symBin (E : Env) (op : BinOp) (t : Nat) (v w : AV) : Option AV :=
  match v, w with
  | .one x, .one y => match E.ty.get t with
    | some ti => match symSc op ti.kind x y with
      | some c => some (.one c)
      | none => none
    | none => none
  | _, _ => none
def binOp1 (E : Env) (op : BinOp) (t : Nat) (v w : AV) : Option AV :=
  match symBin E op t v w with
  | some r => some r
  | none => binOp0 E op t v w

/-- a map's entries -/
def mapOf (s : St) : Option Nat → Option (List Me)
  | none => some []
  | some r => match s.hp.get r with | some (.map es _) => some es | _ => none

def structFields : TK → Option (List (Nat × Nat × Bool))
  | .struct fs => some fs
  | _ => none

def idxOp (E : Env) (tm : Tm) (s : St) (t : Nat) (x i : Operand) : Option (AV × St) :=
  match E.ty.get t, ev tm x, evI tm i with
    | some ⟨_, _, .arr n e, _, _⟩, some (.one (.p (some (b, o)))), some (_, .ofNat k) => match E.ty.get e with
      | some te => bif Nat.ble (k + 1) n then some (.one (.p (some (b, o + k * te.size))), s) else none
      | none => none
    | some ⟨_, _, .slice e, _, _⟩, some (.one (.sl (some (b, o)) n _ _)), some (_, .ofNat k) => match E.ty.get e with
      | some te => bif Nat.ble (k + 1) n then some (.one (.p (some (b, o + k * te.size))), s) else none
      | none => none
    | _, _, _ => none

def doOp (E : Env) (cf : CF) (tm : Tm) (s : St) (o : Oper) : Option (AV × St) :=
  match o.op with
  | .move x => ov (ev tm x) s
  | .assign x => ov (ev tm x) s
  | .pick c a b => match evB tm c with | some true => ov (ev tm a) s | some false => ov (ev tm b) s | none => none
  | .alloc t => newVar E s t (.zag t)
  | .box t x => match ev tm x with | some v => newVar E s t v | none => none
  | .build t ps => match E.ty.get t with
    | none => none
    | some ti => match ti.kind with
      | .struct fs => bif ps.isEmpty then some (.zag t, s) else
        match fillOp E tm (place2 fs) ps.toList (zeroCells ti) with
          | some cs => some (.agg cs, s) | none => none
      | .arr _ e => match E.ty.get e with
        | some te => bif ps.isEmpty then some (.zag t, s) else
          match fillOp E tm (fun i => some (i * te.size, te.size)) ps.toList (zeroCells ti) with
            | some cs => some (.agg cs, s) | none => none
        | none => none
      | _ => none
  | .buildSlice t len ps => match E.ty.get t with
    | some ⟨_, _, .slice e, _, _⟩ => match E.ty.get e with
      | some te => bif Nat.ble (len * te.size) lim then
        match fillOp E tm (fun i => some (i * te.size, te.size)) ps.toList (repCells len (zeroCells te)) with
          | some cs => some (.one (.sl (some (s.next, 0)) len len false), (alloc s (.arr (len * te.size) (zeroOf te) (setCells .leaf 0 cs) e false)).2)
          | none => none
        else none
      | none => none
    | _ => none
  | .load t x => match E.ty.get t, evP tm x with
    | some ti, some a => match ldCells s a ti.size with
      | some cs => ov (mkV ti.agg cs) s
      | none => none
    | _, _ => none
  | .store t x y => match E.ty.get t, evP tm x, evC E tm y with
    | some ti, some a, some vs => bif Nat.beq vs.length ti.size then (match stCells s a vs with | some s => some (undefV, s) | none => none) else none
    | _, _, _ => none
  | .nilCheck x => match ev tm x with | some v => bif nilOk v then some (v, s) else none | none => none
  | .binOp op t x y _ =>
    match ev tm x, ev tm y with
    | some v, some w => ov (binOp1 E op t v w) s
    | _, _ => none
  | .unOp op _ x => match op, ev tm x with
    | .not, some (.one (.b v)) => some (.one (.b !v), s)
    | .neg, some (.one (.i k n)) => some (.one (.i k (k.wrap (0 - n))), s)
    | _, _ => none
  | .convert src dst x => match E.ty.get src, E.ty.get dst, ev tm x with
    | some _, some ⟨_, _, .int k, _, _⟩, some (.one (.i _ n)) => some (.one (.i k (k.wrap n)), s)
    | some ⟨_, _, .slice e, _, _⟩, some ⟨_, _, .str, _, _⟩, some (.one (.sl a n _ _)) => match E.ty.get e with
      | some ⟨_, _, .int .u8, _, _⟩ => match a with
        | none => some (.one (.s []), s)
        | some a => match ldCells s a n with
          | some l => match bytesOf l with
            | some l => some (.one (.s l), s)
            | none => none
          | none => none
      | _ => none
    | some ⟨_, _, .slice e, _, _⟩, some ⟨_, _, .slice e', _, _⟩, some (.one (.sl (some a) n c o)) => match E.ty.get e with
      | some ⟨_, _, .int .u8, _, _⟩ => bif Nat.beq e e' && Nat.beq src dst then (match s.hp.get a.1 with
        | some (.arr _ _ _ _ _) => some (.one (.sl (some a) n c o), s)
        | _ => none) else none
      | _ => none
    | _, _, _ => none
  | .sliceToArrayPointer t x => match E.ty.get t, ev tm x with
    | some ⟨_, _, .arr n _, _, _⟩, some (.one (.sl a len _ _)) => bif Nat.ble n len then some (.one (.p a), s) else none
    | _, _ => none
  | .makeFunc fn first cap => match fn with
    | .func f => match evs tm first.toList, evs tm cap.toList with
      | some a, some b => match ptrs a, ptrs b with
        | some a, some b => some (.one (.fn f a b), s)
        | _, _ => none
      | _, _ => none
    | _ => none
  | .makeMap _ none => some (.one (.m (some s.next)), (alloc s (.map [] 0)).2)
  | .makeChan t x => match E.ty.get t, evI tm x with
    | some ⟨_, _, .chan, _, _⟩, some (_, .ofNat n) => bif Nat.ble n lim then some (.one (.ch (some s.next)), (alloc s (.chan n [])).2) else none
    | _, _ => none
  | .makeSlice t l c => match E.ty.get t, evI tm l, evI tm c with
    | some ⟨_, _, .slice e, _, _⟩, some (_, .ofNat n), some (_, .ofNat m) => match E.ty.get e with
      | some te => bif Nat.ble n m && Nat.ble m lim then
          some (.one (.sl (some (s.next, 0)) n m false), (alloc s (.arr (m * te.size) (zeroOf te) .leaf e false)).2) else none
      | none => none
    | _, _, _ => none
  | .slice t x lo hi mx => ov (sliceOp E tm t x lo hi mx) s
  | .fieldAddr t x f => match E.ty.get t, evP tm x with
    | some ti, some (i, o) => match structFields ti.kind with
      | some fs => match fs[f]? with
        | some (off, sz, _) => bif Nat.beq sz 0 then none else some (.one (.p (some (i, o + off))), s)
        | none => none
      | none => none
    | _, _ => none
  | .field t x f => match E.ty.get t, ev tm x with
    | some ti, some (.agg cs) => match structFields ti.kind with
      | some fs => match fs[f]? with
        | some (off, sz, ag) => bif Nat.ble (off + sz) cs.length then ov (mkV ag ((cs.drop off).take sz)) s else none
        | none => none
      | none => none
    | _, _ => none
  | .indexAddr t x i => match symIdx E tm t x i with
    | some v => some (v, s)
    | none => idxOp E tm s t x i
  | .index t x i => match E.ty.get t, ev tm x, evI tm i with
    | some ⟨_, _, .arr n e, _, _⟩, some (.agg cs), some (_, .ofNat k) => match E.ty.get e with
      | some te => bif Nat.ble (k + 1) n && Nat.ble (k * te.size + te.size) cs.length then ov (mkV te.agg ((cs.drop (k * te.size)).take te.size)) s else none
      | _ => none
    | some ⟨_, _, .str, _, _⟩, some (.one (.s l)), some (_, .ofNat k) => match l[k]? with
      | some c => some (.one (.i .u8 (Int.ofNat (c % 256))), s)
      | none => none
    | _, _, _ => none
  | .lookup t x i ok => match E.ty.get t, ev tm x, evV E tm i with
    | some ⟨_, _, .map kt e, _, _⟩, some (.one (.m r)), some k =>
      match mapOf s r with
      | some es => match bif keyOk E kt k then findK k es else none with
        | some (some e) => bif ok then some (.tup [e.2.1, (false, [.b true])], s) else ov (toV e.2.1) s
        | some none => match E.ty.get e with
          | some te => bif ok then some (.tup [(te.agg, zeroCells te), (false, [.b false])], s) else ov (mkV te.agg (zeroCells te)) s
          | none => none
        | none => none
      | none => none
    | _, _, _ => none
  | .mapUpdate t x i v => match E.ty.get t, ev tm x, evV E tm i, evV E tm v with
    | some ⟨_, _, .map kt _, _, _⟩, some (.one (.m (some r))), some k, some v => match s.hp.get r with
      | some (.map es c) => match bif keyOk E kt k then findK k es else none with
        | some (some _) => some (undefV, { s with hp := s.hp.set r (.map (putK k v es) c) })
        | some none => some (undefV, { s with hp := s.hp.set r (.map (es ++ [(k, v, c)]) (c + 1)) })
        | none => none
      | _ => none
    | _, _, _, _ => none
  | .mapEntry t x i => match E.ty.get t, ev tm x, evV E tm i with
    | some ⟨_, _, .map kt e, _, _⟩, some (.one (.m (some r))), some k => match s.hp.get r, E.ty.get e with
      | some (.map es c), some te => match bif keyOk E kt k then findK k es else none with
        | some (some e) => some (.tup [e.2.1, (false, [.i .i64 e.2.2])], { s with hp := s.hp.set r (.map (putK k e.2.1 es) c) })
        | some none => some (.tup [(te.agg, zeroCells te), (false, [.i .i64 c])], { s with hp := s.hp.set r (.map (es ++ [(k, (te.agg, zeroCells te), c)]) (c + 1)) })
        | none => none
      | _, _ => none
    | _, _, _ => none
  | .entryStore _ x st v => match ev tm x, evI tm st, evV E tm v with
    | some (.one (.m (some r))), some (_, .ofNat b), some v => match s.hp.get r with
      | some (.map es c) => match putB b v es with
        | some es => some (undefV, { s with hp := s.hp.set r (.map es c) })
        | none => none
      | _ => none
    | _, _, _ => none
  | .extract x i => match ev tm x with
    | some (.tup l) => match l[i]? with
      | some v => ov (toV v) s
      | none => none
    | _ => none
  | .call c => match c.callee with
    | .builtin b => builtinOp E tm s b c.argTypes.toList c.args.toList
    | .value f => match ev tm f, evs tm c.args.toList with
      | some (.one (.fn g first cap)), some args => cf g (first.map (fun a => .one (.p (some a))) ++ args ++ cap.map (fun a => .one (.p (some a)))) s
      | _, _ => none
    | _ => none
  | _ => none

def put (tm : Tm) (d : Option Nat) (v : AV) : Tm := match d with | some d => tm.set d v | none => tm

/-- is an operation done? (nothing: the guard's value cannot be told) -/
def wanted (tm : Tm) (ops : Array Oper) (o : Oper) : Option Bool :=
  match o.guard with
  | none => some true
  | some (j, w) => match ops[j]? with
    | some q => match q.dst with
      | some d => match tm.get d with
        | some (.one (.b x)) => some (x == w)
        | some (.zag _) => none
        | _ => some false
      | none => some false
    | none => some false

def runOps (E : Env) (cf : CF) (ops : Array Oper) : List Oper → Tm → St → Option (Tm × St)
  | [], tm, s => some (tm, s)
  | o :: r, tm, s => match wanted tm ops o with
    | some true => (match doOp E cf tm s o with
       | some (v, s) => runOps E cf ops r (put tm o.dst v) s
       | none => none)
    | some false => runOps E cf ops r (put tm o.dst undefV) s
    | none => none

inductive Ex where | norm | brk (id : Nat) | ret

def iter (f : Tm → St → Option (Ex × Tm × St)) : Nat → Tm → St → Option (Ex × Tm × St)
  | 0, _, _ => none
  | n + 1, tm, s => match f tm s with
    | some (.norm, tm, s) => iter f n tm s
    | r => r

/-- is an operation one that changes what is there, or runs code? -/
def isE : Op → Bool
  | .store .. | .mapUpdate .. | .mapEntry .. | .entryStore .. => true
  | .call c => match c.callee with
    | .builtin .len | .builtin .cap | .builtin .min | .builtin .max => false
    | _ => true
  | _ => false

/-- the states ahead of each operation that changes something, and the last one -/
def runOpsT (E : Env) (cf : CF) (ops : Array Oper) : List Nat → Tm → St → Option (Tm × St × List St)
  | [], tm, s => some (tm, s, [s])
  | i :: r, tm, s => match ops[i]? with
    | none => none
    | some o => match wanted tm ops o with
      | some true => (match doOp E cf tm s o with
         | some (v, s') => bif Nat.ble s.next s'.next then (match runOpsT E cf ops r (put tm o.dst v) s' with
           | some (tm', s'', l) => some (tm', s'', bif isE o.op then s :: l else l)
           | none => none) else none
         | none => none)
      | some false => (match runOpsT E cf ops r (put tm o.dst undefV) s with
        | some (tm', s'', l) => some (tm', s'', bif isE o.op then s :: l else l)
        | none => none)
      | none => none

/-- reads that may come at several places among the changes read the same at each -/
def freeOk (E : Env) (cf : CF) (ops : Array Oper) (tm : Tm) (l : List St) : List (Nat × Nat × Nat) → Bool
  | [] => true
  | (i, lo, hi) :: r => (match ops[i]? with
      | some o => (match wanted tm ops o with
          | some true => (match o.dst with
           | some d => (List.range (hi + 1)).all fun k => Nat.ble (k + 1) lo || (match l[k]? with
              | some s => (match doOp E cf tm s o, tm.get d with
                | some (v, _), some v' => decide (v = v')
                | _, _ => false)
              | none => false)
           | none => false)
          | some false => true
          | none => false)
      | none => false) && freeOk E cf ops tm l r

def runDraw (E : Env) (cf : CF) (ops : Array Oper) (d : Dr) (tm : Tm) (s : St) : Option (Tm × St) :=
  match runOpsT E cf ops d.order tm s with
  | some (tm', s', l) => bif freeOk E cf ops tm' l d.free then some (tm', s') else none
  | none => none

def exec (E : Env) (cf : CF) (fr : PT Dr) (fuel : Nat) : Code → Tm → St → Option (Ex × Tm × St)
  | .skip, tm, s => some (.norm, tm, s)
  | .label _, tm, s => some (.norm, tm, s)
  | .region id ops draw, tm, s =>
    match (bif draw then (match fr.get id with | some d => runDraw E cf ops d tm s | none => none) else runOps E cf ops ops.toList tm s) with
    | some (tm, s) => some (.norm, tm, s)
    | none => none
  | .seq a b, tm, s => match exec E cf fr fuel a tm s with
    | some (.norm, tm, s) => exec E cf fr fuel b tm s
    | r => r
  | .cond c a b, tm, s => match evB tm c with
    | some true => exec E cf fr fuel a tm s
    | some false => exec E cf fr fuel b tm s
    | none => none
  | .block id b, tm, s => match exec E cf fr fuel b tm s with
    | some (.brk j, tm, s) => bif Nat.beq j id then some (.norm, tm, s) else some (.brk j, tm, s)
    | r => r
  | .loop b, tm, s => iter (exec E cf fr fuel b) fuel tm s
  | .exit id, tm, s => some (.brk id, tm, s)
  | .scope b, tm, s => exec E cf fr fuel b tm s
  | .ret, tm, s => some (.ret, tm, s)
  | _, _, _ => none

def tmOf : Nat → List AV → Tm → Tm
  | _, [], t => t
  | k, v :: r, t => tmOf (k + 1) r (t.set k v)

def resOf (E : Env) (tm : Tm) (s : St) : List ResultVar → Option (List Vv)
  | [] => some []
  | .tmp t :: r => match ev tm (.tmp t), resOf E tm s r with
    | some v, some l => match ofV E v with | some v => some (v :: l) | none => none
    | _, _ => none
  | .cell a t :: r => match evP tm (.tmp a), E.ty.get t, resOf E tm s r with
    | some a, some ti, some l => match ldCells s a ti.size with
      | some cs => bif ti.agg || Nat.beq cs.length 1 then some ((ti.agg, cs) :: l) else none
      | none => none
    | _, _, _ => none

def freeOf (E : Env) (f : Nat) : PT Dr := match E.free.get f with | some t => t | none => .leaf

def call (E : Env) (fuel : Nat) : Nat → CF
  | 0, _, _, _ => none
  | d + 1, f, args, s =>
    match E.intr.get f with
    | some F => F args s
    | none => match E.fns.get f with
      | none => none
      | some fn => match fn.body with
        | none => none
        | some c => match exec E (call E fuel d) (freeOf E f) fuel c (tmOf 0 args .leaf) s with
          | some (.brk _, _, _) => none
          | some (_, tm, s) => match resOf E tm s fn.results.toList with
            | some [v] => ov (toV v) s
            | some l => some (.tup l, s)
            | none => none
          | none => none

end Go.Mx

/- The relation between the abstract states and the model's worlds. -/
namespace Go.Mx
open Go

section pt
variable {α : Type}

theorem PT.get_node (l : PT α) (v : Option α) (r : PT α) (k : Nat) :
    (PT.node l v r).get k = if k = 0 then v else if k % 2 = 1 then l.get (k / 2) else r.get (k / 2 - 1) := by
  simp only [PT.get, cond_eq_ite, Nat.beq_eq]

theorem PT.set_node (l : PT α) (x : Option α) (r : PT α) (k : Nat) (v : α) :
    (PT.node l x r).set k v = if k = 0 then .node l (some v) r else if k % 2 = 1 then .node (l.set (k / 2) v) x r else .node l x (r.set (k / 2 - 1) v) := by
  simp only [PT.set, cond_eq_ite, Nat.beq_eq]

theorem PT.del_node (l : PT α) (x : Option α) (r : PT α) (k : Nat) :
    (PT.node l x r).del k = if k = 0 then .node l none r else if k % 2 = 1 then .node (l.del (k / 2)) x r else .node l x (r.del (k / 2 - 1)) := by
  simp only [PT.del, cond_eq_ite, Nat.beq_eq]

theorem PT.get_sing (v : α) : ∀ (n k j : Nat), k < n → (PT.sing v n k).get j = if j = k then some v else none := by
  intro n
  induction n with
  | zero => intro k j h; omega
  | succ n ih =>
    intro k j h
    simp only [PT.sing, cond_eq_ite, Nat.beq_eq]
    by_cases hk : k = 0
    · subst hk
      simp only [if_true, PT.get_node, PT.get]
      by_cases hj : j = 0 <;> simp [hj]
    · rw [if_neg hk]
      by_cases ho : k % 2 = 1
      · rw [if_pos ho, PT.get_node]
        by_cases hj : j = 0
        · rw [if_pos hj, if_neg (by omega)]
        · rw [if_neg hj]
          by_cases hjo : j % 2 = 1
          · rw [if_pos hjo, ih _ _ (by omega)]
            by_cases e : j = k
            · subst e; simp
            · rw [if_neg e, if_neg (by omega)]
          · rw [if_neg hjo, if_neg (by intro e; subst e; exact hjo ho)]; rfl
      · rw [if_neg ho, PT.get_node]
        by_cases hj : j = 0
        · rw [if_pos hj, if_neg (by omega)]
        · rw [if_neg hj]
          by_cases hjo : j % 2 = 1
          · rw [if_pos hjo, if_neg (by intro e; subst e; exact ho hjo)]; rfl
          · rw [if_neg hjo, ih _ _ (by omega)]
            by_cases e : j = k
            · subst e; simp
            · rw [if_neg e, if_neg (by omega)]

theorem PT.get_set (t : PT α) : ∀ (k : Nat) (v : α) (j : Nat), (t.set k v).get j = if j = k then some v else t.get j := by
  induction t with
  | leaf => intro k v j; simp only [PT.set]; rw [PT.get_sing v (k + 1) k j (by omega)]; rfl
  | node l x r ihl ihr =>
    intro k v j
    rw [PT.set_node]
    by_cases hk : k = 0
    · rw [if_pos hk]; subst hk; rw [PT.get_node, PT.get_node]
      by_cases hj : j = 0 <;> simp [hj]
    · rw [if_neg hk]
      by_cases ho : k % 2 = 1
      · rw [if_pos ho, PT.get_node, PT.get_node]
        by_cases hj : j = 0
        · rw [if_pos hj, if_pos hj, if_neg (by omega)]
        · rw [if_neg hj, if_neg hj]
          by_cases hjo : j % 2 = 1
          · rw [if_pos hjo, if_pos hjo, ihl]
            by_cases e : j = k
            · subst e; simp
            · rw [if_neg e, if_neg (by omega)]
          · rw [if_neg hjo, if_neg hjo, if_neg (by intro e; subst e; exact hjo ho)]
      · rw [if_neg ho, PT.get_node, PT.get_node]
        by_cases hj : j = 0
        · rw [if_pos hj, if_pos hj, if_neg (by omega)]
        · rw [if_neg hj, if_neg hj]
          by_cases hjo : j % 2 = 1
          · rw [if_pos hjo, if_pos hjo, if_neg (by intro e; subst e; exact ho hjo)]
          · rw [if_neg hjo, if_neg hjo, ihr]
            by_cases e : j = k
            · subst e; simp
            · rw [if_neg e, if_neg (by omega)]

theorem PT.get_del (t : PT α) : ∀ (k j : Nat), (t.del k).get j = if j = k then none else t.get j := by
  induction t with
  | leaf => intro k j; simp [PT.del, PT.get]
  | node l x r ihl ihr =>
    intro k j
    rw [PT.del_node]
    by_cases hk : k = 0
    · rw [if_pos hk]; subst hk; rw [PT.get_node, PT.get_node]
      by_cases hj : j = 0 <;> simp [hj]
    · rw [if_neg hk]
      by_cases ho : k % 2 = 1
      · rw [if_pos ho, PT.get_node, PT.get_node]
        by_cases hj : j = 0
        · rw [if_pos hj, if_pos hj, if_neg (by omega)]
        · rw [if_neg hj, if_neg hj]
          by_cases hjo : j % 2 = 1
          · rw [if_pos hjo, if_pos hjo, ihl]
            by_cases e : j = k
            · subst e; simp
            · rw [if_neg e, if_neg (by omega)]
          · rw [if_neg hjo, if_neg hjo, if_neg (by intro e; subst e; exact hjo ho)]
      · rw [if_neg ho, PT.get_node, PT.get_node]
        by_cases hj : j = 0
        · rw [if_pos hj, if_pos hj, if_neg (by omega)]
        · rw [if_neg hj, if_neg hj]
          by_cases hjo : j % 2 = 1
          · rw [if_pos hjo, if_pos hjo, if_neg (by intro e; subst e; exact ho hjo)]
          · rw [if_neg hjo, if_neg hjo, ihr]
            by_cases e : j = k
            · subst e; simp
            · rw [if_neg e, if_neg (by omega)]
end pt

def PT.mp {α : Type} (f : α → α) : PT α → PT α
  | .leaf => .leaf
  | .node l v r => .node (l.mp f) (v.map f) (r.mp f)
theorem PT.mp_get {α : Type} (f : α → α) : ∀ (t : PT α) (k : Nat), (t.mp f).get k = (t.get k).map f := by
  intro t
  induction t with
  | leaf => intro k; rfl
  | node l v r ihl ihr =>
    intro k
    simp only [PT.mp, PT.get_node, ihl, ihr]
    split
    · rfl
    · split <;> rfl

/-- where a thing lies: its block, the place of its first cell, how many elements there is room for beyond -/
structure Lo where
  blk : Nat
  base : Nat
  spare : Nat

abbrev Phi := Nat → Option Lo

def Phi.le (φ ψ : Phi) : Prop := ∀ i L, φ i = some L → ψ i = some L

theorem Phi.le_refl (φ : Phi) : φ.le φ := fun _ _ h => h
theorem Phi.le_trans {φ ψ χ : Phi} (h : φ.le ψ) (k : ψ.le χ) : φ.le χ := fun i L e => k i L (h i L e)

def concA (φ : Phi) (a : Nat × Nat) : Option Addr :=
  match φ a.1 with
  | some L => some ⟨L.blk, L.base + a.2, none⟩
  | none => none

def concPs (φ : Phi) : List (Nat × Nat) → Option (List Value)
  | [] => some []
  | a :: r => match concA φ a, concPs φ r with
    | some x, some l => some (.pointer (some x) :: l)
    | _, _ => none

def str (l : List Nat) : ByteArray := ⟨(l.map UInt8.ofNat).toArray⟩

/-- a number that φ bears -/
def gval (L : Lo) : Int := (L.blk : Int) - (L.base : Int)
/-- how long the argument is -/
def nlen (L : Lo) : Nat := (gval L).toNat
/-- how much room there is -/
def roomOf (φ : Phi) (N L : Lo) (m : Nat) : Option Nat :=
  match m with
  | 0 => some (nlen N)
  | 1 => some (nlen N + L.spare)
  | 2 => (φ 1).map (·.blk)
  | 3 => (φ 2).map (·.blk)
  | k + 4 => some (if k % 2 = 0 then k / 2 else k / 2 + L.spare)

/-- what a cell holds in the model -/
def concS (φ : Phi) : Sc → Option Value
  | .b x => some (.bool x)
  | .i k n => some (.int k n)
  | .s l => some (.string (str l))
  | .p none => some (.pointer none)
  | .p (some a) => match concA φ a with | some x => some (.pointer (some x)) | none => none
  | .sl none n c _ => some (.slice none n c)
  | .sl (some a) n c op => match φ a.1 with
    | some L => some (.slice (some ⟨L.blk, L.base + a.2, none⟩) n (c + (if op then L.spare else 0)))
    | none => none
  | .se a d => match φ a.1 with
    | some L => some (.slice (some ⟨L.blk, L.base + (if L.spare = 0 then a.2 else a.2 + d), none⟩) 0 L.spare)
    | none => none
  | .m none => some (.map none)
  | .m (some r) => match φ r with | some L => some (.map (some L.blk)) | none => none
  | .ch none => some (.chan none)
  | .ch (some r) => match φ r with | some L => some (.chan (some L.blk)) | none => none
  | .fn f a b => match concPs φ a, concPs φ b with
    | some x, some y => some (.func (.func f) x.toArray y.toArray)
    | _, _ => none
  | .nilfn => some .nilFunc
  | .nilifc => some .nilIface
  | .y k old => match φ 0 with
    | some N => if k % 64 < nlen N then (match φ (16 + k) with | some L => some (.int .u8 ((L.blk % 256 : Nat) : Int)) | none => none) else some (.int .u8 (old : Int))
    | none => none
  | .ln g c lo hi => match φ g with
    | some L => if lo ≤ gval L ∧ gval L ≤ hi then some (.int .i64 (gval L + c)) else none
    | none => none
  | .md g k r m => match φ g with
    | some L => if 0 ≤ gval L ∧ gval L % (m : Int) = (r : Int) then some (.int k (gval L)) else none
    | none => none
  | .sn a lo hi m => match φ 0, φ a.1 with
    | some N, some L => match roomOf φ N L m with
      | some c => if (lo ≤ nlen N ∧ nlen N ≤ hi) ∧ nlen N ≤ c ∧ 0 ≤ gval N then some (.slice (some ⟨L.blk, L.base + a.2, none⟩) (nlen N) c) else none
      | none => none
    | _, _ => none
  | .sz a lo hi m => match φ 0, φ a.1 with
    | some N, some L => match roomOf φ N L m with
      | some c => if (lo ≤ nlen N ∧ nlen N ≤ hi) ∧ nlen N ≤ c ∧ 0 ≤ gval N then some (.slice (some ⟨L.blk, L.base + (if c = nlen N then a.2 else a.2 + nlen N), none⟩) 0 (c - nlen N)) else none
      | none => none
    | _, _ => none

def concL (φ : Phi) : List Sc → Option (List Value)
  | [] => some []
  | c :: r => match concS φ c, concL φ r with
    | some x, some l => some (x :: l)
    | _, _ => none

/-- a value of cells -/
def concV (φ : Phi) (v : Vv) : Option Value :=
  match concL φ v.2 with
  | some l => if v.1 then some (.agg l.toArray) else match l with | [x] => some x | _ => none
  | none => none

def concVs (φ : Phi) : List Vv → Option (List Value)
  | [] => some []
  | v :: r => match concV φ v, concVs φ r with
    | some x, some l => some (x :: l)
    | _, _ => none

/-- a type's zero value -/
def zeroP (P : Program) (t : Nat) : Option Value := (P.info? t).bind (·.zero)

def conc (P : Program) (φ : Phi) : AV → Option Value
  | .one c => concS φ c
  | .agg l => match concL φ l with | some l => some (.agg l.toArray) | none => none
  | .zag t => zeroP P t
  | .tup l => match concVs φ l with | some l => some (.tuple l.toArray) | none => none

def concs (P : Program) (φ : Phi) : List AV → Option (List Value)
  | [] => some []
  | v :: r => match conc P φ v, concs P φ r with
    | some x, some l => some (x :: l)
    | _, _ => none

section mono
variable {φ ψ : Phi} (h : φ.le ψ)
include h

theorem concA_mono {a : Nat × Nat} {x : Addr} (e : concA φ a = some x) : concA ψ a = some x := by
  unfold concA at *
  cases hq : φ a.1 with
  | none => simp [hq] at e
  | some L => rw [h _ _ hq]; simpa [hq] using e

theorem concPs_mono : ∀ {l : List (Nat × Nat)} {x : List Value}, concPs φ l = some x → concPs ψ l = some x := by
  intro l
  induction l with
  | nil => intro x e; simpa [concPs] using e
  | cons a r ih =>
    intro x e
    simp only [concPs] at e ⊢
    cases ha : concA φ a with
    | none => simp [ha] at e
    | some y =>
      cases hr : concPs φ r with
      | none => simp [ha, hr] at e
      | some z => rw [concA_mono h ha, ih hr]; simpa [ha, hr] using e

theorem roomOf_mono {N L : Lo} {m c : Nat} (e : roomOf φ N L m = some c) : roomOf ψ N L m = some c := by
  match m with
  | 0 => exact e
  | 1 => exact e
  | 2 =>
    simp only [roomOf] at e ⊢
    cases ha : φ 1 with
    | none => simp [ha] at e
    | some M => rw [h _ _ ha]; simpa [ha] using e
  | 3 =>
    simp only [roomOf] at e ⊢
    cases ha : φ 2 with
    | none => simp [ha] at e
    | some M => rw [h _ _ ha]; simpa [ha] using e
  | k + 4 => exact e

theorem concS_mono {c : Sc} {x : Value} (e : concS φ c = some x) : concS ψ c = some x := by
  cases c with
  | p a =>
    cases a with
    | none => exact e
    | some a =>
      simp only [concS] at e ⊢
      cases ha : concA φ a with
      | none => simp [ha] at e
      | some y => rw [concA_mono h ha]; simpa [ha] using e
  | sl a n c op =>
    cases a with
    | none => exact e
    | some a =>
      simp only [concS] at e ⊢
      cases ha : φ a.1 with
      | none => simp [ha] at e
      | some y => rw [h _ _ ha]; simpa [ha] using e
  | se a d =>
    simp only [concS] at e ⊢
    cases ha : φ a.1 with
    | none => simp [ha] at e
    | some y => rw [h _ _ ha]; simpa [ha] using e
  | m r =>
    cases r with
    | none => exact e
    | some r =>
      simp only [concS] at e ⊢
      cases ha : φ r with
      | none => simp [ha] at e
      | some y => rw [h _ _ ha]; simpa [ha] using e
  | ch r =>
    cases r with
    | none => exact e
    | some r =>
      simp only [concS] at e ⊢
      cases ha : φ r with
      | none => simp [ha] at e
      | some y => rw [h _ _ ha]; simpa [ha] using e
  | fn f a b =>
    simp only [concS] at e ⊢
    cases ha : concPs φ a with
    | none => simp [ha] at e
    | some y =>
      cases hb : concPs φ b with
      | none => simp [ha, hb] at e
      | some z => rw [concPs_mono h ha, concPs_mono h hb]; simpa [ha, hb] using e
  | y k old =>
    simp only [concS] at e ⊢
    cases ha : φ 0 with
    | none => simp [ha] at e
    | some N =>
      rw [h _ _ ha]
      simp only [ha] at e ⊢
      split at e
      · rename_i hk
        rw [if_pos hk]
        cases hb : φ (16 + k) with
        | none => simp [hb] at e
        | some L => rw [h _ _ hb]; simpa [hb] using e
      · rename_i hk
        rw [if_neg hk]; exact e
  | ln g c lo hi =>
    simp only [concS] at e ⊢
    cases ha : φ g with
    | none => simp [ha] at e
    | some L => rw [h _ _ ha]; simpa [ha] using e
  | md g k r m =>
    simp only [concS] at e ⊢
    cases ha : φ g with
    | none => simp [ha] at e
    | some L => rw [h _ _ ha]; simpa [ha] using e
  | sn a lo hi m =>
    simp only [concS] at e ⊢
    cases ha : φ 0 with
    | none => simp [ha] at e
    | some N =>
      cases hb : φ a.1 with
      | none => simp [ha, hb] at e
      | some L =>
        rw [h _ _ ha, h _ _ hb]
        simp only [ha, hb] at e ⊢
        cases hr : roomOf φ N L m with
        | none => simp [hr] at e
        | some c => rw [roomOf_mono h hr]; simpa [hr] using e
  | sz a lo hi m =>
    simp only [concS] at e ⊢
    cases ha : φ 0 with
    | none => simp [ha] at e
    | some N =>
      cases hb : φ a.1 with
      | none => simp [ha, hb] at e
      | some L =>
        rw [h _ _ ha, h _ _ hb]
        simp only [ha, hb] at e ⊢
        cases hr : roomOf φ N L m with
        | none => simp [hr] at e
        | some c => rw [roomOf_mono h hr]; simpa [hr] using e
  | _ => exact e

theorem concL_mono : ∀ {l : List Sc} {x : List Value}, concL φ l = some x → concL ψ l = some x := by
  intro l
  induction l with
  | nil => intro x e; simpa [concL] using e
  | cons a r ih =>
    intro x e
    simp only [concL] at e ⊢
    cases ha : concS φ a with
    | none => simp [ha] at e
    | some y =>
      cases hr : concL φ r with
      | none => simp [ha, hr] at e
      | some z => rw [concS_mono h ha, ih hr]; simpa [ha, hr] using e

theorem concV_mono {v : Vv} {x : Value} (e : concV φ v = some x) : concV ψ v = some x := by
  unfold concV at *
  cases hl : concL φ v.2 with
  | none => simp [hl] at e
  | some l => rw [concL_mono h hl]; simpa [hl] using e

theorem concVs_mono : ∀ {l : List Vv} {x : List Value}, concVs φ l = some x → concVs ψ l = some x := by
  intro l
  induction l with
  | nil => intro x e; simpa [concVs] using e
  | cons a r ih =>
    intro x e
    simp only [concVs] at e ⊢
    cases ha : concV φ a with
    | none => simp [ha] at e
    | some y =>
      cases hr : concVs φ r with
      | none => simp [ha, hr] at e
      | some z => rw [concV_mono h ha, ih hr]; simpa [ha, hr] using e

theorem conc_mono (P : Program) {v : AV} {x : Value} (e : conc P φ v = some x) : conc P ψ v = some x := by
  cases v with
  | one c => exact concS_mono h e
  | agg l =>
    simp only [conc] at e ⊢
    cases hl : concL φ l with
    | none => simp [hl] at e
    | some y => rw [concL_mono h hl]; simpa [hl] using e
  | zag t => exact e
  | tup l =>
    simp only [conc] at e ⊢
    cases hl : concVs φ l with
    | none => simp [hl] at e
    | some y => rw [concVs_mono h hl]; simpa [hl] using e

theorem concs_mono (P : Program) : ∀ {l : List AV} {x : List Value}, concs P φ l = some x → concs P ψ l = some x := by
  intro l
  induction l with
  | nil => intro x e; simpa [concs] using e
  | cons a r ih =>
    intro x e
    simp only [concs] at e ⊢
    cases ha : conc P φ a with
    | none => simp [ha] at e
    | some y =>
      cases hr : concs P φ r with
      | none => simp [ha, hr] at e
      | some z => rw [conc_mono h P ha, ih hr]; simpa [ha, hr] using e
end mono

theorem concL_length {φ : Phi} : ∀ {l : List Sc} {x : List Value}, concL φ l = some x → x.length = l.length := by
  intro l
  induction l with
  | nil => intro x e; simp [concL] at e; subst e; rfl
  | cons a r ih =>
    intro x e
    simp only [concL] at e
    cases ha : concS φ a with
    | none => simp [ha] at e
    | some y =>
      cases hr : concL φ r with
      | none => simp [ha, hr] at e
      | some z => simp [ha, hr] at e; subst e; simp [ih hr]

theorem concL_cons {φ : Phi} {a : Sc} {r : List Sc} {x : List Value} :
    concL φ (a :: r) = some x ↔ ∃ y z, concS φ a = some y ∧ concL φ r = some z ∧ x = y :: z := by
  simp only [concL]
  cases concS φ a with
  | none => simp
  | some y =>
    cases concL φ r with
    | none => simp
    | some z => simp [eq_comm]

theorem concL_append {φ : Phi} : ∀ {l m : List Sc} {x y : List Value}, concL φ l = some x → concL φ m = some y → concL φ (l ++ m) = some (x ++ y) := by
  intro l
  induction l with
  | nil => intro m x y e f; simp [concL] at e; subst e; simpa using f
  | cons a r ih =>
    intro m x y e f
    obtain ⟨u, v, h1, h2, rfl⟩ := concL_cons.1 e
    exact concL_cons.2 ⟨u, v ++ y, h1, ih h2 f, rfl⟩

theorem concL_get {φ : Phi} : ∀ {l : List Sc} {x : List Value}, concL φ l = some x → ∀ (k : Nat) (c : Sc), l[k]? = some c → ∃ v, x[k]? = some v ∧ concS φ c = some v := by
  intro l
  induction l with
  | nil => intro x e k c h; simp at h
  | cons a r ih =>
    intro x e k c h
    obtain ⟨u, v, h1, h2, rfl⟩ := concL_cons.1 e
    cases k with
    | zero => simp at h; subst h; exact ⟨u, by simp, h1⟩
    | succ k => simp at h; obtain ⟨w, hw, hc⟩ := ih h2 k c h; exact ⟨w, by simpa using hw, hc⟩

/-- from cell to cell -/
theorem concL_of {φ : Phi} : ∀ {l : List Sc} {x : List Value}, x.length = l.length → (∀ (k : Nat) (c : Sc), l[k]? = some c → ∃ v, x[k]? = some v ∧ concS φ c = some v) → concL φ l = some x := by
  intro l
  induction l with
  | nil => intro x e _; cases x with | nil => rfl | cons => simp at e
  | cons a r ih =>
    intro x e h
    cases x with
    | nil => simp at e
    | cons u x =>
      obtain ⟨v, hv, hc⟩ := h 0 a (by simp)
      simp at hv; subst hv
      exact concL_cons.2 ⟨_, _, hc, ih (by simpa using e) (fun k c hk => by simpa using h (k + 1) c (by simpa using hk)), rfl⟩

theorem concS_cell {φ : Phi} {c : Sc} {x : Value} (e : concS φ c = some x) : x.oneCell' = true ∧ x.cells = #[x] := by
  cases c with
  | p a => cases a <;> simp only [concS] at e <;> (try (split at e <;> simp at e)) <;> (try (injection e with e)) <;> subst e <;> exact ⟨rfl, rfl⟩
  | sl a n k op => cases a <;> simp only [concS] at e <;> (try (split at e <;> simp at e)) <;> (try (injection e with e)) <;> subst e <;> exact ⟨rfl, rfl⟩
  | m r => cases r <;> simp only [concS] at e <;> (try (split at e <;> simp at e)) <;> (try (injection e with e)) <;> subst e <;> exact ⟨rfl, rfl⟩
  | ch r => cases r <;> simp only [concS] at e <;> (try (split at e <;> simp at e)) <;> (try (injection e with e)) <;> subst e <;> exact ⟨rfl, rfl⟩
  | fn f a b =>
    simp only [concS] at e
    split at e <;> simp at e
    subst e; exact ⟨rfl, rfl⟩
  | se a d =>
    simp only [concS] at e
    split at e <;> simp at e
    subst e; exact ⟨rfl, rfl⟩
  | y k old =>
    simp only [concS] at e
    split at e
    · split at e
      · split at e <;> simp at e
        subst e; exact ⟨rfl, rfl⟩
      · simp at e; subst e; exact ⟨rfl, rfl⟩
    · simp at e
  | ln g c lo hi =>
    simp only [concS] at e
    split at e
    · split at e <;> simp at e
      subst e; exact ⟨rfl, rfl⟩
    · simp at e
  | md g k r m =>
    simp only [concS] at e
    split at e
    · split at e <;> simp at e
      subst e; exact ⟨rfl, rfl⟩
    · simp at e
  | sn a lo hi m =>
    simp only [concS] at e
    split at e
    · split at e
      · split at e <;> simp at e
        subst e; exact ⟨rfl, rfl⟩
      · simp at e
    · simp at e
  | sz a lo hi m =>
    simp only [concS] at e
    split at e
    · split at e
      · split at e <;> simp at e
        subst e; exact ⟨rfl, rfl⟩
      · simp at e
    · simp at e
  | _ => simp only [concS] at e; injection e with e; subst e; exact ⟨rfl, rfl⟩

/-- two lists, element by element -/
inductive All2 {α β : Type} (R : α → β → Prop) : List α → List β → Prop where
  | nil : All2 R [] []
  | cons {a : α} {b : β} {l : List α} {m : List β} (h : R a b) (t : All2 R l m) : All2 R (a :: l) (b :: m)

def AO.isRo : AO → Bool
  | .ro _ _ => true
  | .sy _ => true
  | _ => false

def entryRel (φ : Phi) (e : Me) (x : MapEntry) : Prop := concV φ e.1 = some x.key ∧ concV φ e.2.1 = some x.val ∧ x.born = e.2.2

/-- what an abstract thing is in the model's memory -/
def objRel (P : Program) (φ : Phi) (o : AO) (L : Lo) (w : World) : Prop :=
  match o with
  | .arr n z t e op => ∃ cs fr, w.heap[L.blk]? = some (.cells cs e fr) ∧ (fr = (0, 0) ∨ fr = (cs.size, cs.size + 1)) ∧
      cs.size = L.base + n + L.spare * P.cellsOf e ∧ (op = false → L.spare = 0) ∧
      ∀ k, k < n → ∃ v, cs[L.base + k]? = some v ∧ concS φ (cellV z t k) = some v
  | .ro n c => ∃ cs e fr, w.heap[L.blk]? = some (.cells cs e fr) ∧ ∀ k, k < n → ∃ v, cs[L.base + k]? = some v ∧ concS φ (c k) = some v
  | .map es clk => ∃ xs, w.heap[L.blk]? = some (.map xs clk) ∧ All2 (entryRel φ) es xs.toList ∧ (es.map (·.2.2)).Nodup ∧ ∀ e ∈ es, e.2.2 < clk
  | .sy c => ∃ N cs e fr, φ 0 = some N ∧ w.heap[L.blk]? = some (.cells cs e fr) ∧ ∀ k, k < nlen N → ∃ v, cs[L.base + k]? = some v ∧ concS φ (c k) = some v
  | .chan cap buf => ∃ xs sent rcvd, w.heap[L.blk]? = some (.chan cap xs false sent rcvd false) ∧ All2 (fun v x => concV φ v = some x) buf xs.toList

structure Sat (P : Program) (φ : Phi) (s : St) (w : World) : Prop where
  obj : ∀ i o L, s.hp.get i = some o → φ i = some L → objRel P φ o L w
  inj : ∀ i j o o' L L', s.hp.get i = some o → s.hp.get j = some o' → φ i = some L → φ j = some L' → L.blk = L'.blk → i ≠ j → o.isRo = true ∧ o'.isRo = true
  bnd : ∀ i L, φ i = some L → i < s.next
  dom : ∀ i o, s.hp.get i = some o → i < s.next

/-- how a step leaves what it does not touch -/
structure Post (P : Program) (φ : Phi) (s : St) (w : World) (ψ : Phi) (s' : St) (w' : World) : Prop where
  sat : Sat P ψ s' w'
  sub : φ.le ψ
  nx : s.next ≤ s'.next
  os : w'.os = w.os
  tape : w'.tape = w.tape
  output : w'.output = w.output
  size : w.heap.size ≤ w'.heap.size
  fr : ∀ b, b < w.heap.size → (∀ i o L, s.hp.get i = some o → φ i = some L → L.blk = b → o.isRo = true) → w'.heap[b]? = w.heap[b]?
  live : ∀ i o L, s'.hp.get i = some o → ψ i = some L → o.isRo = false → w.heap.size ≤ L.blk ∨ ∃ j o' L', s.hp.get j = some o' ∧ φ j = some L' ∧ o'.isRo = false ∧ L'.blk = L.blk
  new : ∀ i L, ψ i = some L → φ i = some L ∨ (φ i = none ∧ s.next ≤ i)
  un : ∀ i o, φ i = none → s.hp.get i = some o → s'.hp.get i = some o
  newdom : ∀ i o, s'.hp.get i = some o → s.hp.get i ≠ none ∨ s.next ≤ i

theorem Post.refl {P : Program} {φ : Phi} {s : St} {w : World} (h : Sat P φ s w) : Post P φ s w φ s w where
  sat := h
  sub := Phi.le_refl φ
  nx := Nat.le_refl _
  os := rfl
  tape := rfl
  output := rfl
  size := Nat.le_refl _
  fr := fun _ _ _ => rfl
  live := fun i o L h1 h2 h3 => .inr ⟨i, o, L, h1, h2, h3, rfl⟩
  new := fun _ _ h => .inl h
  un := fun _ _ _ h => h
  newdom := fun _ _ h => .inl (by simp [h])

theorem Post.trans {P : Program} {φ ψ χ : Phi} {s s' s'' : St} {w w' w'' : World} (hs : Sat P φ s w) (h : Post P φ s w ψ s' w') (k : Post P ψ s' w' χ s'' w'') :
    Post P φ s w χ s'' w'' where
  sat := k.sat
  sub := Phi.le_trans h.sub k.sub
  nx := Nat.le_trans h.nx k.nx
  os := k.os.trans h.os
  tape := k.tape.trans h.tape
  output := k.output.trans h.output
  size := Nat.le_trans h.size k.size
  fr := fun b hb hno => by
    rw [k.fr b (Nat.lt_of_lt_of_le hb h.size), h.fr b hb hno]
    intro i o L hi hL hbl
    cases ho : o.isRo with
    | true => rfl
    | false =>
      rcases h.live i o L hi hL ho with hge | ⟨j, o', L', hj, hL', ho', hbl'⟩
      · omega
      · have := hno j o' L' hj hL' (by rw [hbl', hbl])
        rw [this] at ho'; simp at ho'
  live := fun i o L hi hL ho => by
    rcases k.live i o L hi hL ho with hge | ⟨j, o', L', hj, hL', ho', hbl'⟩
    · exact .inl (Nat.le_trans h.size hge)
    · rcases h.live j o' L' hj hL' ho' with hge | ⟨j2, o2, L2, hj2, hL2, ho2, hbl2⟩
      · exact .inl (by omega)
      · exact .inr ⟨j2, o2, L2, hj2, hL2, ho2, by omega⟩
  new := fun i L hi => by
    rcases k.new i L hi with h1 | ⟨h1, h2⟩
    · exact h.new i L h1
    · right
      refine ⟨?_, Nat.le_trans h.nx h2⟩
      cases hq : φ i with
      | none => rfl
      | some L' => rw [h.sub i L' hq] at h1; simp at h1
  un := fun i o hi ho => by
    have h1 := h.un i o hi ho
    refine k.un i o ?_ h1
    cases hq : ψ i with
    | none => rfl
    | some L =>
      rcases h.new i L hq with h2 | ⟨_, h2⟩
      · rw [hi] at h2; simp at h2
      · have := hs.dom i o ho
        omega
  newdom := fun i o hi => by
    rcases k.newdom i o hi with h1 | h1
    · cases hq : s'.hp.get i with
      | none => simp [hq] at h1
      | some o' => exact h.newdom i o' hq
    · exact .inr (Nat.le_trans h.nx h1)
end Go.Mx

/- How a step on the abstract state and one on the world go together: stores, new things, things that move. -/
namespace Go.Mx
open Go

def Phi.upd (φ : Phi) (i : Nat) (L : Lo) : Phi := fun j => if j = i then some L else φ j

theorem Phi.le_upd {φ : Phi} {i : Nat} (L : Lo) (h : φ i = none) : φ.le (φ.upd i L) := by
  intro j M hj
  unfold Phi.upd
  by_cases e : j = i
  · subst e; rw [h] at hj; simp at hj
  · rw [if_neg e]; exact hj

theorem All2.imp {α β : Type} {R S : α → β → Prop} (h : ∀ a b, R a b → S a b) {l : List α} {m : List β} (k : All2 R l m) : All2 S l m := by
  induction k with
  | nil => exact .nil
  | cons a _ ih => exact .cons (h _ _ a) ih

theorem entryRel_mono {φ ψ : Phi} (h : φ.le ψ) {e : Me} {x : MapEntry} (k : entryRel φ e x) : entryRel ψ e x :=
  ⟨concV_mono h k.1, concV_mono h k.2.1, k.2.2⟩

theorem objRel_mono {P : Program} {φ ψ : Phi} (h : φ.le ψ) {o : AO} {L : Lo} {w w' : World} (hb : w'.heap[L.blk]? = w.heap[L.blk]?) (k : objRel P φ o L w) :
    objRel P ψ o L w' := by
  cases o with
  | arr n z t e op =>
    obtain ⟨cs, fr, h1, h2, h3, h4, h5⟩ := k
    exact ⟨cs, fr, hb.trans h1, h2, h3, h4, fun k hk => let ⟨v, hv, hc⟩ := h5 k hk; ⟨v, hv, concS_mono h hc⟩⟩
  | ro n c =>
    obtain ⟨cs, e, fr, h1, h5⟩ := k
    exact ⟨cs, e, fr, hb.trans h1, fun k hk => let ⟨v, hv, hc⟩ := h5 k hk; ⟨v, hv, concS_mono h hc⟩⟩
  | sy c =>
    obtain ⟨N, cs, e, fr, h0, h1, h5⟩ := k
    exact ⟨N, cs, e, fr, h _ _ h0, hb.trans h1, fun k hk => let ⟨v, hv, hc⟩ := h5 k hk; ⟨v, hv, concS_mono h hc⟩⟩
  | map es clk =>
    obtain ⟨xs, h1, h2, h3, h4⟩ := k
    exact ⟨xs, hb.trans h1, h2.imp fun _ _ => entryRel_mono h, h3, h4⟩
  | chan cap buf =>
    obtain ⟨xs, a, b, h1, h2⟩ := k
    exact ⟨xs, a, b, hb.trans h1, h2.imp fun _ _ => concV_mono h⟩

theorem objRel_lt {P : Program} {φ : Phi} {o : AO} {L : Lo} {w : World} (k : objRel P φ o L w) : L.blk < w.heap.size := by
  have aux : ∀ x, w.heap[L.blk]? = some x → L.blk < w.heap.size := fun x hx => by
    rcases Nat.lt_or_ge L.blk w.heap.size with h | h
    · exact h
    · simp [Array.getElem?_eq_none h] at hx
  cases o with
  | arr => obtain ⟨cs, fr, h1, _⟩ := k; exact aux _ h1
  | ro => obtain ⟨cs, e, fr, h1, _⟩ := k; exact aux _ h1
  | sy => obtain ⟨N, cs, e, fr, _, h1, _⟩ := k; exact aux _ h1
  | map => obtain ⟨xs, h1, _⟩ := k; exact aux _ h1
  | chan => obtain ⟨xs, a, b, h1, _⟩ := k; exact aux _ h1

section
variable {P : Program} {φ : Phi} {s : St} {w : World}

/-- one thing is another one -/
theorem Post.upd (hs : Sat P φ s w) {i : Nat} {o o' : AO} {L : Lo} (hi : s.hp.get i = some o) (hL : φ i = some L) (hro : o.isRo = false)
    {s' : St} (hn : s'.next = s.next) (hg : ∀ j, s'.hp.get j = if j = i then some o' else s.hp.get j) {w' : World} (hos : w'.os = w.os) (htape : w'.tape = w.tape)
    (hout : w'.output = w.output) (hsz : w'.heap.size = w.heap.size) (hother : ∀ b, b ≠ L.blk → w'.heap[b]? = w.heap[b]?) (hobj : objRel P φ o' L w') :
    Post P φ s w φ s' w' where
  sat := {
    obj := fun j q M hj hM => by
      rw [hg] at hj
      by_cases e : j = i
      · subst e; simp at hj; subst hj; rw [hL] at hM; injection hM with hM; subst hM; exact hobj
      · rw [if_neg e] at hj
        have hob := hs.obj j q M hj hM
        refine objRel_mono (Phi.le_refl φ) (hother _ ?_) hob
        intro hbl
        have := (hs.inj j i q o M L hj hi hM hL hbl e).2
        rw [hro] at this; simp at this
    inj := fun j k q r M N hj hk hM hN hbl hne => by
      rw [hg] at hj hk
      by_cases e : j = i
      · subst e
        rw [if_neg (fun h => hne h.symm)] at hk
        have := (hs.inj j k o r M N hi hk hM hN hbl hne).1
        rw [hro] at this; simp at this
      · rw [if_neg e] at hj
        by_cases e2 : k = i
        · subst e2
          have := (hs.inj j k q o M N hj hi hM hN hbl hne).2
          rw [hro] at this; simp at this
        · rw [if_neg e2] at hk
          exact hs.inj j k q r M N hj hk hM hN hbl hne
    bnd := fun j M hM => by rw [hn]; exact hs.bnd j M hM
    dom := fun j q hj => by
      rw [hn]; rw [hg] at hj
      by_cases e : j = i
      · subst e; exact hs.dom j o hi
      · rw [if_neg e] at hj; exact hs.dom j q hj }
  sub := Phi.le_refl φ
  nx := by omega
  os := hos
  tape := htape
  output := hout
  size := by omega
  fr := fun b _ hno => hother b fun e => by
    have := hno i o L hi hL e.symm
    rw [hro] at this; simp at this
  live := fun j q M hj hM hq => by
    right
    rw [hg] at hj
    by_cases e : j = i
    · subst e; rw [hL] at hM; injection hM with hM; subst hM; exact ⟨_, o, L, hi, hL, hro, rfl⟩
    · rw [if_neg e] at hj; exact ⟨j, q, M, hj, hM, hq, rfl⟩
  new := fun _ _ h => .inl h
  un := fun j q hj hq => by
    rw [hg, if_neg]; exact hq
    intro e; subst e; rw [hL] at hj; simp at hj
  newdom := fun j q hj => by
    left
    rw [hg] at hj
    by_cases e : j = i
    · subst e; simp [hi]
    · rw [if_neg e] at hj; simp [hj]

/-- one thing more -/
theorem Post.more (hs : Sat P φ s w) {o : AO} {L : Lo} {s' : St} (hn : s'.next = s.next + 1) (hg : ∀ j, s'.hp.get j = if j = s.next then some o else s.hp.get j)
    {w' : World} (hos : w'.os = w.os) (htape : w'.tape = w.tape) (hout : w'.output = w.output) (hsz : w.heap.size ≤ w'.heap.size)
    (hother : ∀ b, b < w.heap.size → w'.heap[b]? = w.heap[b]?) (hL : w.heap.size ≤ L.blk) (hobj : objRel P (φ.upd s.next L) o L w') :
    Post P φ s w (φ.upd s.next L) s' w' := by
  have hnone : φ s.next = none := by
    cases hq : φ s.next with
    | none => rfl
    | some M => have := hs.bnd _ _ hq; omega
  have hle := Phi.le_upd L hnone
  have hold : ∀ j M, j ≠ s.next → (φ.upd s.next L) j = some M → φ j = some M := fun j M e h => by
    simpa [Phi.upd, e] using h
  have hnew : ∀ M, (φ.upd s.next L) s.next = some M → M = L := fun M h => by simp [Phi.upd] at h; exact h.symm
  refine { sat := ?_, sub := hle, nx := by omega, os := hos, tape := htape, output := hout, size := hsz, fr := ?_, live := ?_, new := ?_, un := ?_, newdom := ?_ }
  · refine { obj := ?_, inj := ?_, bnd := ?_, dom := ?_ }
    · intro j q M hj hM
      rw [hg] at hj
      by_cases e : j = s.next
      · subst e; simp at hj; subst hj; have := hnew M hM; subst this; exact hobj
      · rw [if_neg e] at hj
        have hob := hs.obj j q M hj (hold j M e hM)
        exact objRel_mono hle (hother _ (objRel_lt hob)) hob
    · intro j k q r M N hj hk hM hN hbl hne
      rw [hg] at hj hk
      by_cases e : j = s.next
      · subst e
        rw [if_neg (fun h => hne h.symm)] at hk
        have hob := hs.obj k r N hk (hold k N (fun h => hne h.symm) hN)
        have := objRel_lt hob
        have := hnew M hM; subst this
        omega
      · rw [if_neg e] at hj
        by_cases e2 : k = s.next
        · subst e2
          have hob := hs.obj j q M hj (hold j M e hM)
          have := objRel_lt hob
          have := hnew N hN; subst this
          omega
        · rw [if_neg e2] at hk
          exact hs.inj j k q r M N hj hk (hold j M e hM) (hold k N e2 hN) hbl hne
    · intro j M hM
      by_cases e : j = s.next
      · omega
      · have := hs.bnd j M (hold j M e hM); omega
    · intro j q hj
      rw [hg] at hj
      by_cases e : j = s.next
      · omega
      · rw [if_neg e] at hj; have := hs.dom j q hj; omega
  · intro b hb _; exact hother b hb
  · intro j q M hj hM hq
    rw [hg] at hj
    by_cases e : j = s.next
    · subst e; have := hnew M hM; subst this; exact .inl hL
    · rw [if_neg e] at hj; exact .inr ⟨j, q, M, hj, hold j M e hM, hq, rfl⟩
  · intro j M hM
    by_cases e : j = s.next
    · subst e; exact .inr ⟨hnone, Nat.le_refl _⟩
    · exact .inl (hold j M e hM)
  · intro j q _ hq
    rw [hg, if_neg]; exact hq
    intro e; subst e; have := hs.dom _ _ hq; omega
  · intro j q hj
    rw [hg] at hj
    by_cases e : j = s.next
    · exact .inr (by omega)
    · rw [if_neg e] at hj; exact .inl (by simp [hj])

/-- a thing is another one, under another number -/
theorem Post.moved (hs : Sat P φ s w) {i : Nat} {o o' : AO} {L L' : Lo} (hi : s.hp.get i = some o) (hL : φ i = some L) (hro : o.isRo = false)
    (hbl' : L'.blk = L.blk) {s' : St} (hn : s'.next = s.next + 1) (hg : ∀ j, s'.hp.get j = if j = s.next then some o' else if j = i then none else s.hp.get j)
    {w' : World} (hos : w'.os = w.os) (htape : w'.tape = w.tape) (hout : w'.output = w.output) (hsz : w'.heap.size = w.heap.size)
    (hother : ∀ b, b ≠ L.blk → w'.heap[b]? = w.heap[b]?) (hobj : objRel P (φ.upd s.next L') o' L' w') :
    Post P φ s w (φ.upd s.next L') s' w' := by
  have hnone : φ s.next = none := by
    cases hq : φ s.next with
    | none => rfl
    | some M => have := hs.bnd _ _ hq; omega
  have hle := Phi.le_upd L' hnone
  have hold : ∀ j M, j ≠ s.next → (φ.upd s.next L') j = some M → φ j = some M := fun j M e h => by
    simpa [Phi.upd, e] using h
  have hnew : ∀ M, (φ.upd s.next L') s.next = some M → M = L' := fun M h => by simp [Phi.upd] at h; exact h.symm
  have hget : ∀ j q, s'.hp.get j = some q → j ≠ s.next → j ≠ i ∧ s.hp.get j = some q := fun j q h e => by
    rw [hg, if_neg e] at h
    by_cases e2 : j = i
    · simp [e2] at h
    · rw [if_neg e2] at h; exact ⟨e2, h⟩
  refine { sat := ?_, sub := hle, nx := by omega, os := hos, tape := htape, output := hout, size := by omega, fr := ?_, live := ?_, new := ?_, un := ?_, newdom := ?_ }
  · refine { obj := ?_, inj := ?_, bnd := ?_, dom := ?_ }
    · intro j q M hj hM
      by_cases e : j = s.next
      · subst e; rw [hg] at hj; simp at hj; subst hj; have := hnew M hM; subst this; exact hobj
      · obtain ⟨e2, hj'⟩ := hget j q hj e
        have hM' := hold j M e hM
        have hob := hs.obj j q M hj' hM'
        refine objRel_mono hle (hother _ ?_) hob
        intro hbl
        have := (hs.inj j i q o M L hj' hi hM' hL hbl e2).2
        rw [hro] at this; simp at this
    · intro j k q r M N hj hk hM hN hbl hne
      by_cases e : j = s.next
      · subst e
        have ek : k ≠ s.next := fun h => hne h.symm
        obtain ⟨e2, hk'⟩ := hget k r hk ek
        have := hnew M hM; subst this
        have := (hs.inj k i r o N L hk' hi (hold k N ek hN) hL (by rw [← hbl, hbl']) e2).2
        rw [hro] at this; simp at this
      · obtain ⟨e1, hj'⟩ := hget j q hj e
        by_cases e2 : k = s.next
        · subst e2
          have := hnew N hN; subst this
          have := (hs.inj j i q o M L hj' hi (hold j M e hM) hL (by rw [hbl, hbl']) e1).2
          rw [hro] at this; simp at this
        · obtain ⟨e3, hk'⟩ := hget k r hk e2
          exact hs.inj j k q r M N hj' hk' (hold j M e hM) (hold k N e2 hN) hbl hne
    · intro j M hM
      by_cases e : j = s.next
      · omega
      · have := hs.bnd j M (hold j M e hM); omega
    · intro j q hj
      by_cases e : j = s.next
      · omega
      · have := hs.dom j q (hget j q hj e).2; omega
  · intro b _ hno
    exact hother b fun e => by
      have := hno i o L hi hL e.symm
      rw [hro] at this; simp at this
  · intro j q M hj hM hq
    right
    by_cases e : j = s.next
    · subst e; have := hnew M hM; subst this; exact ⟨i, o, L, hi, hL, hro, hbl'.symm⟩
    · exact ⟨j, q, M, (hget j q hj e).2, hold j M e hM, hq, rfl⟩
  · intro j M hM
    by_cases e : j = s.next
    · subst e; exact .inr ⟨hnone, Nat.le_refl _⟩
    · exact .inl (hold j M e hM)
  · intro j q hj hq
    rw [hg, if_neg, if_neg]; exact hq
    · intro e; subst e; rw [hL] at hj; simp at hj
    · intro e; subst e; have := hs.dom _ _ hq; omega
  · intro j q hj
    by_cases e : j = s.next
    · exact .inr (by omega)
    · exact .inl (by simp [(hget j q hj e).2])
end
end Go.Mx

/- Loads, stores and new variables, on the abstract state and on the world. -/
namespace Go.Mx
open Go

theorem Addr.add_none (b o j : Nat) : (⟨b, o, none⟩ : Addr).add j = ⟨b, o + j, none⟩ := by
  unfold Addr.add
  by_cases h : j = 0
  · subst h; simp
  · rw [if_neg h]

theorem cell?_of {w : World} {b : Nat} {cs : Array Value} {e : TypeId} {fr : Nat × Nat} (h : w.heap[b]? = some (.cells cs e fr)) (o : Nat) :
    w.cell? ⟨b, o, none⟩ = cs[o]? := by
  simp [World.cell?, h]

theorem frozen?_of {w : World} {b : Nat} {cs : Array Value} {e : TypeId} {fr : Nat × Nat} (h : w.heap[b]? = some (.cells cs e fr)) (o : Nat) :
    w.frozen? ⟨b, o, none⟩ = (fr.1 ≤ o && o < fr.2) := by
  simp [World.frozen?, h]

theorem cellsV_length (z : Zr) (t : PT Sc) : ∀ (n k : Nat), (cellsV z t k n).length = n := by
  intro n
  induction n with
  | zero => intro k; rfl
  | succ n ih => intro k; simp [cellsV, ih]

theorem cellsV_get (z : Zr) (t : PT Sc) : ∀ (n k j : Nat), j < n → (cellsV z t k n)[j]? = some (cellV z t (k + j)) := by
  intro n
  induction n with
  | zero => intro k j h; omega
  | succ n ih =>
    intro k j h
    cases j with
    | zero => simp [cellsV]
    | succ j => simp only [cellsV, List.getElem?_cons_succ]; rw [ih _ _ (by omega)]; congr 2; omega

theorem cellsR_length (f : Nat → Sc) : ∀ (n k : Nat), (cellsR f k n).length = n := by
  intro n
  induction n with
  | zero => intro k; rfl
  | succ n ih => intro k; simp [cellsR, ih]

theorem cellsR_get (f : Nat → Sc) : ∀ (n k j : Nat), j < n → (cellsR f k n)[j]? = some (f (k + j)) := by
  intro n
  induction n with
  | zero => intro k j h; omega
  | succ n ih =>
    intro k j h
    cases j with
    | zero => simp [cellsR]
    | succ j => simp only [cellsR, List.getElem?_cons_succ]; rw [ih _ _ (by omega)]; congr 2; omega

theorem setCells_get : ∀ (vs : List Sc) (t : PT Sc) (k j : Nat), (setCells t k vs).get j = if k ≤ j ∧ j < k + vs.length then vs[j - k]? else t.get j := by
  intro vs
  induction vs with
  | nil => intro t k j; simp only [setCells, List.length_nil]; rw [if_neg (by omega)]
  | cons v r ih =>
    intro t k j
    simp only [setCells, ih, PT.get_set, List.length_cons]
    by_cases h1 : k + 1 ≤ j ∧ j < k + 1 + r.length
    · rw [if_pos h1, if_pos (by omega)]
      rw [show j - k = (j - (k + 1)) + 1 from by omega]; simp
    · rw [if_neg h1]
      by_cases h2 : j = k
      · subst h2; rw [if_pos rfl, if_pos (by omega)]; simp
      · rw [if_neg h2, if_neg (by omega)]

theorem cellV_setCells (z : Zr) (vs : List Sc) (t : PT Sc) (k j : Nat) (h : k ≤ j ∧ j < k + vs.length) (c : Sc) (hc : vs[j - k]? = some c) :
    cellV z (setCells t k vs) j = c := by
  unfold cellV; rw [setCells_get, if_pos h, hc]

theorem cellV_setCells_other (z : Zr) (vs : List Sc) (t : PT Sc) (k j : Nat) (h : ¬ (k ≤ j ∧ j < k + vs.length)) :
    cellV z (setCells t k vs) j = cellV z t j := by
  unfold cellV; rw [setCells_get, if_neg h]

section
variable {P : Program} {φ : Phi} {s : St} {w : World}

theorem concA_some {a : Nat × Nat} {A : Addr} (h : concA φ a = some A) : ∃ L, φ a.1 = some L ∧ A = ⟨L.blk, L.base + a.2, none⟩ := by
  unfold concA at h
  cases hq : φ a.1 with
  | none => simp [hq] at h
  | some L => simp [hq] at h; exact ⟨L, rfl, h.symm⟩

/-- cells that are read -/
theorem ld_cells (hs : Sat P φ s w) {a : Nat × Nat} {n : Nat} {cs : List Sc} (h : ldCells s a n = some cs) {A : Addr} (ha : concA φ a = some A) :
    ∃ vs, concL φ cs = some vs ∧ vs.length = n ∧ ∀ (j : Nat) (v : Value), vs[j]? = some v → w.cell? (A.add j) = some v := by
  obtain ⟨L, hL, rfl⟩ := concA_some ha
  unfold ldCells at h
  have fin : ∀ (N : Nat) (f : Nat → Sc) (cells : Array Value) (e : TypeId) (fr : Nat × Nat), w.heap[L.blk]? = some (.cells cells e fr) →
      (∀ k, k < N → ∃ v, cells[L.base + k]? = some v ∧ concS φ (f k) = some v) → a.2 + n ≤ N → cs.length = n → (∀ j, j < n → cs[j]? = some (f (a.2 + j))) →
      ∃ vs, concL φ cs = some vs ∧ vs.length = n ∧ ∀ (j : Nat) (v : Value), vs[j]? = some v → w.cell? ((⟨L.blk, L.base + a.2, none⟩ : Addr).add j) = some v := by
    intro N f cells e fr h1 h5 hle hlen hget
    refine ⟨(List.range n).map fun j => cells.getD (L.base + a.2 + j) undef, ?_, by simp, ?_⟩
    · refine concL_of (by simp [hlen]) fun k c hk => ?_
      have hkn : k < n := by
        rcases Nat.lt_or_ge k n with h | h
        · exact h
        · rw [List.getElem?_eq_none (by omega)] at hk; simp at hk
      obtain ⟨v, hv, hc⟩ := h5 (a.2 + k) (by omega)
      rw [hget k hkn] at hk; injection hk with hk; subst hk
      refine ⟨v, ?_, hc⟩
      have : cells[L.base + a.2 + k]? = some v := by rw [← hv]; congr 1; omega
      simp [hkn, Array.getD_eq_getD_getElem?, this]
    · intro j v hj
      have hjn : j < n := by
        rcases Nat.lt_or_ge j n with h | h
        · exact h
        · rw [List.getElem?_eq_none (by simpa using h)] at hj; simp at hj
      obtain ⟨u, hu, _⟩ := h5 (a.2 + j) (by omega)
      have hu' : cells[L.base + a.2 + j]? = some u := by rw [← hu]; congr 1; omega
      simp [hjn, Array.getD_eq_getD_getElem?, hu'] at hj
      rw [Addr.add_none, cell?_of h1, hu', hj]
  cases hg : s.hp.get a.1 with
  | none => simp [hg] at h
  | some o =>
    have hob := hs.obj _ _ _ hg hL
    cases o with
    | arr N z t e op =>
      simp only [hg, cond_eq_ite, Nat.ble_eq] at h
      split at h
      · rename_i hle
        injection h with h; subst h
        obtain ⟨cells, fr, h1, h2, h3, h4, h5⟩ := hob
        exact fin N (cellV z t) cells e fr h1 h5 hle (cellsV_length _ _ _ _) (fun j hj => cellsV_get _ _ _ _ _ hj)
      · simp at h
    | ro N f =>
      simp only [hg, cond_eq_ite, Nat.ble_eq] at h
      split at h
      · rename_i hle
        injection h with h; subst h
        obtain ⟨cells, e, fr, h1, h5⟩ := hob
        exact fin N f cells e fr h1 h5 hle (cellsR_length _ _ _) (fun j hj => cellsR_get _ _ _ _ hj)
      · simp at h
    | sy => simp [hg] at h
    | map => simp [hg] at h
    | chan => simp [hg] at h

theorem run_loadCells_of {A : Addr} {vs : List Value} {n : Nat} (hn : vs.length = n) (h : ∀ (j : Nat) (v : Value), vs[j]? = some v → w.cell? (A.add j) = some v) :
    (loadCells A n).run P w = .ok vs.toArray w := by
  subst hn; exact run_loadCells_list w A vs h

/-- cells that are written, one behind the other -/
theorem run_storeCells : ∀ (xs : List Value) (i : Nat) (w : World) (b o : Nat) (cs : Array Value) (e : TypeId) (fr : Nat × Nat),
    w.heap[b]? = some (.cells cs e fr) → (fr = (0, 0) ∨ fr = (cs.size, cs.size + 1)) → o + i + xs.length ≤ cs.size → (∀ x ∈ xs, x.oneCell' = true) →
    ∃ cs' : Array Value, (storeCells ⟨b, o, none⟩ xs i).run P w = .ok () { w with heap := w.heap.setIfInBounds b (.cells cs' e fr) } ∧ cs'.size = cs.size ∧
      ∀ k, cs'[k]? = if o + i ≤ k ∧ k < o + i + xs.length then xs[k - (o + i)]? else cs[k]? := by
  intro xs
  induction xs with
  | nil =>
    intro i w b o cs e fr h hf hle hx
    refine ⟨cs, ?_, rfl, fun k => by rw [if_neg (by simp only [List.length_nil]; omega)]⟩
    have : w.heap.setIfInBounds b (.cells cs e fr) = w.heap := by
      apply Array.ext_getElem?
      intro k
      by_cases hk : b = k
      · subst hk
        rw [Array.getElem?_setIfInBounds_self, h]
        rcases Nat.lt_or_ge b w.heap.size with hl | hl
        · simp [hl]
        · simp [Array.getElem?_eq_none hl] at h
      · rw [Array.getElem?_setIfInBounds_ne hk]
    simp [storeCells, this]
  | cons x r ih =>
    intro i w b o cs e fr h hf hle hx
    simp only [List.length_cons] at hle
    have hlt : o + i < cs.size := by omega
    have hfz : w.frozen? ⟨b, o + i, none⟩ = false := by
      rw [frozen?_of h]
      rcases hf with hf | hf <;> subst hf <;> simp <;> omega
    have hcell : w.cell? ⟨b, o + i, none⟩ = some cs[o + i] := by rw [cell?_of h]; simp [hlt]
    have hb : b < w.heap.size := by
      rcases Nat.lt_or_ge b w.heap.size with hl | hl
      · exact hl
      · simp [Array.getElem?_eq_none hl] at h
    have hset : w.setCell ⟨b, o + i, none⟩ x = { w with heap := w.heap.setIfInBounds b (.cells (cs.setIfInBounds (o + i) x) e fr) } := by
      simp only [World.setCell]
      congr 1
      apply Array.ext_getElem?
      intro k
      rw [Array.getElem?_modify]
      by_cases hk : b = k
      · subst hk
        rw [if_pos rfl, h, Array.getElem?_setIfInBounds_self, if_pos hb]; simp
      · rw [if_neg hk, Array.getElem?_setIfInBounds_ne hk]
    obtain ⟨cs', h1, h2, h3⟩ := ih (i + 1) { w with heap := w.heap.setIfInBounds b (.cells (cs.setIfInBounds (o + i) x) e fr) } b o (cs.setIfInBounds (o + i) x) e fr
      (by simp [hb]) (by simpa using hf) (by simp; omega) (fun y hy => hx y (by simp [hy]))
    refine ⟨cs', ?_, by simpa using h2, ?_⟩
    · simp only [storeCells, Sem.run_bind, Addr.add_none]
      rw [run_store P w _ _ _ (hx x (by simp)), hcell]
      simp only [hfz, Bool.false_eq_true, if_false, Result.andThen_ok]
      rw [hset, h1]
      simp [Array.setIfInBounds_setIfInBounds]
    · intro k
      rw [h3]
      by_cases hk : o + (i + 1) ≤ k ∧ k < o + (i + 1) + r.length
      · rw [if_pos hk, if_pos (by simp; omega), show k - (o + i) = (k - (o + (i + 1))) + 1 from by omega]; simp
      · rw [if_neg hk]
        by_cases hk2 : k = o + i
        · subst hk2; rw [if_pos (by simp)]; simp [hlt]
        · rw [if_neg (by simp; omega), Array.getElem?_setIfInBounds_ne (by omega)]

theorem concL_cell {l : List Sc} {x : List Value} (h : concL φ l = some x) : ∀ v ∈ x, v.oneCell' = true := by
  induction l generalizing x with
  | nil => simp [concL] at h; subst h; intro v hv; simp at hv
  | cons a r ih =>
    obtain ⟨u, y, h1, h2, rfl⟩ := concL_cons.1 h
    intro v hv
    rcases List.mem_cons.1 hv with rfl | hv
    · exact (concS_cell h1).1
    · exact ih h2 v hv

/-- a store -/
theorem st_cells (hs : Sat P φ s w) {a : Nat × Nat} {vs : List Sc} {s' : St} (h : stCells s a vs = some s') {A : Addr} (ha : concA φ a = some A) {xs : List Value}
    (hx : concL φ vs = some xs) : ∃ w', (storeCells A xs).run P w = .ok () w' ∧ Post P φ s w φ s' w' := by
  obtain ⟨L, hL, rfl⟩ := concA_some ha
  unfold stCells at h
  cases hg : s.hp.get a.1 with
  | none => simp [hg] at h
  | some ob =>
    have hob := hs.obj _ _ _ hg hL
    cases ob with
    | arr N z t e op =>
      simp only [hg, cond_eq_ite, Nat.ble_eq] at h
      split at h
      · rename_i hle
        injection h with h; subst h
        obtain ⟨cells, fr, h1, h2, h3, h4, h5⟩ := hob
        have hxl := concL_length hx
        obtain ⟨cs', r1, r2, r3⟩ := run_storeCells (P := P) xs 0 w L.blk (L.base + a.2) cells e fr h1 h2 (by omega) (concL_cell hx)
        refine ⟨_, r1, ?_⟩
        refine Post.upd hs hg hL rfl (o' := .arr N z (setCells t a.2 vs) e op) (s' := { s with hp := s.hp.set a.1 (.arr N z (setCells t a.2 vs) e op) }) rfl (fun j => by rw [PT.get_set]) rfl rfl rfl (by simp) ?_ ?_
        · intro b hb; simp only []; rw [Array.getElem?_setIfInBounds_ne (fun e => hb e.symm)]
        · have hb : L.blk < w.heap.size := objRel_lt (φ := φ) (P := P) (o := .arr N z t e op) ⟨cells, fr, h1, h2, h3, h4, h5⟩
          refine ⟨cs', fr, by simp [hb], by rw [r2]; exact h2, by rw [r2]; exact h3, h4, fun k hk => ?_⟩
          rw [r3]
          by_cases hin : a.2 ≤ k ∧ k < a.2 + vs.length
          · rw [if_pos (by omega)]
            have hlt : k - a.2 < vs.length := by omega
            obtain ⟨v, hv, hc⟩ := concL_get hx (k - a.2) vs[k - a.2] (by simp [hlt])
            rw [show L.base + k - (L.base + a.2 + 0) = k - a.2 from by omega]
            exact ⟨v, hv, by rw [cellV_setCells z vs t a.2 k hin vs[k - a.2] (by simp [hlt])]; exact hc⟩
          · rw [if_neg (by omega), cellV_setCells_other z vs t a.2 k hin]
            exact h5 k hk
      · simp at h
    | ro => simp [hg] at h
    | sy => simp [hg] at h
    | map => simp [hg] at h
    | chan => simp [hg] at h
end
end Go.Mx

/- Types: the table of the abstract interpreter against the program's own; zero values; new variables; whole variables read and written. -/
namespace Go.Mx
open Go

def aggD : TypeDesc → Bool
  | .struct _ | .array _ _ => true
  | _ => false

def KindOk (P : Program) : TK → TypeDesc → Prop
  | .int k, d => d = .int k
  | .bool, d => d = .bool
  | .str, d => d = .string
  | .ptr, d => ∃ e, d = .pointer e
  | .slice e, d => d = .slice e
  | .arr n e, d => d = .array n e
  | .map k e, d => d = .map k e
  | .struct fs, d => ∃ fields, d = .struct fields ∧ fs.length = fields.size ∧
      ∀ (j : Nat) (f : Nat × Nat × Bool), fs[j]? = some f → ∃ g fi gd, fields[j]? = some g ∧ g.offset = f.1 ∧ P.info? g.type = some fi ∧ fi.size = f.2.1 ∧
        P.underlying g.type = some gd ∧ aggD gd = f.2.2
  | .chan, d => ∃ a e ei, d = .chan a e ∧ P.info? e = some ei ∧ ei.bytes ≤ 1048576
  | .fn, d => ∃ a b c, d = .func a b c
  | .other, _ => True

/-- the kinds of plain cells -/
inductive Kd where
  | b
  | i (k : IntKind)

/-- the fields of a plain struct, one behind the other -/
def plainFields (P : Program) (chk : TypeId → Option (List Kd)) : List Field → Nat → Option (List Kd)
  | [], _ => some []
  | f :: fs, off => match chk f.type, P.info? f.type with
    | some m, some fi => bif Nat.beq f.offset off && Nat.beq fi.size m.length && f.name != "_" then
        (match plainFields P chk fs (off + m.length) with | some r => some (m ++ r) | none => none) else none
    | _, _ => none

def repK (n : Nat) (l : List Kd) : List Kd :=
  match n with | 0 => [] | n + 1 => l ++ repK n l

/-- a plain type: integers and bools, arrays and structs of these; its cells' kinds -/
def plainChk (P : Program) : Nat → TypeId → Option (List Kd)
  | 0, _ => none
  | m + 1, t => match P.underlying t with
    | some (.int k) => some [.i k]
    | some .bool => some [.b]
    | some (.array n e) => match plainChk P m e, P.info? e with
      | some k, some ei => bif Nat.beq ei.size k.length then some (repK n k) else none
      | _, _ => none
    | some (.struct fields) => bif P.stoodInHeld t then none else plainFields P (plainChk P m) fields.toList 0
    | _ => none

def Kd.ok : Kd → Sc → Bool
  | .b, .b _ => true
  | .i j, .i k _ => decide (j = k)
  | _, _ => false

def confK : List Kd → List Sc → Bool
  | [], [] => true
  | a :: r, b :: q => a.ok b && confK r q
  | _, _ => false

def Phi.nil : Phi := fun _ => none
theorem Phi.nil_le (φ : Phi) : Phi.nil.le φ := fun _ _ h => by simp [Phi.nil] at h

structure TiOk (P : Program) (t : Nat) (ti : TI) : Prop where
  info : ∃ i z, P.info? t = some i ∧ i.size = ti.size ∧ i.bytes ≤ 1048576 ∧ i.zero = some z ∧ concL Phi.nil (zeroCells ti) = some z.cells.toList ∧
    ti.size = (zeroCells ti).length ∧ (ti.agg = true → ∃ cs, z = .agg cs) ∧ (ti.agg = false → z.cells = #[z])
  und : ∃ d, P.underlying t = some d ∧ KindOk P ti.kind d ∧ aggD d = ti.agg
  plain : ti.plain = true → ∃ ks, plainChk P 10 t = some ks ∧ confK ks (zeroCells ti) = true ∧ P.eqGuardType P.depth t = false

def TyOk (P : Program) (E : Env) : Prop := ∀ t ti, E.ty.get t = some ti → TiOk P t ti

section
variable {P : Program} {w : World}

theorem run_typeInfo {t : Nat} {i : TypeInfo} (h : P.info? t = some i) : (typeInfo t).run P w = .ok i w := by simp [typeInfo, h]
theorem run_und {t : Nat} {d : TypeDesc} (h : P.underlying t = some d) : (underlying t).run P w = .ok d w := by simp [underlying, h]
theorem run_sizeOf {t : Nat} {i : TypeInfo} (h : P.info? t = some i) : (sizeOf t).run P w = .ok i.size w := by simp [sizeOf, run_typeInfo h]
theorem run_zeroValue {t : Nat} {i : TypeInfo} {z : Value} (h : P.info? t = some i) (hz : i.zero = some z) : (zeroValue t).run P w = .ok z w := by
  simp [zeroValue, run_typeInfo h, hz]
theorem run_isAgg {t : Nat} {d : TypeDesc} (h : P.underlying t = some d) : (isAgg t).run P w = .ok (aggD d) w := by
  simp only [isAgg, Sem.run_bind, run_und h, Result.andThen_ok]
  cases d <;> rfl

theorem cellsOf_eq {t : Nat} {i : TypeInfo} (h : P.info? t = some i) : P.cellsOf t = i.size := by simp [Program.cellsOf, h]
end

/-- the zero cells, one by one -/
theorem zr_at : ∀ (runs : List (Nat × Sc)) (k : Nat), k < (runs.flatMap fun p => List.replicate p.1 p.2).length →
    (runs.flatMap fun p => List.replicate p.1 p.2)[k]? = some (Zr.at runs k) := by
  intro runs
  induction runs with
  | nil => intro k h; simp at h
  | cons r rs ih =>
    intro k h
    obtain ⟨n, c⟩ := r
    simp only [List.flatMap_cons, List.length_append, List.length_replicate] at h
    simp only [List.flatMap_cons, Zr.at, cond_eq_ite, Nat.ble_eq]
    by_cases hk : k + 1 ≤ n
    · rw [if_pos hk, List.getElem?_append_left (by simp; omega)]
      simp [List.getElem?_replicate]; omega
    · rw [if_neg hk, List.getElem?_append_right (by simp; omega)]
      simp only [List.length_replicate]
      exact ih (k - n) (by omega)

theorem cellV_leaf (ti : TI) (k : Nat) (hk : k < ti.size) (hl : ti.size = (zeroCells ti).length) : (zeroCells ti)[k]? = some (cellV (zeroOf ti) .leaf k) := by
  simp only [cellV, PT.get, zeroOf]
  rw [Nat.mod_eq_of_lt hk]
  exact zr_at ti.zero k (by unfold zeroCells at hl; omega)

section
variable {P : Program} {E : Env} {φ : Phi}

theorem conc_one {c : Sc} {x : Value} (h : concS φ c = some x) : conc P φ (.one c) = some x := h

theorem cellsAs_conc (hE : TyOk P E) {v : AV} {x : Value} {cs : List Sc} (h : conc P φ v = some x) (hc : cellsAs E v = some cs) : concL φ cs = some x.cells.toList := by
  cases v with
  | one c =>
    simp [cellsAs] at hc; subst hc
    have := (concS_cell (show concS φ c = some x from h)).2
    rw [this]
    exact concL_cons.2 ⟨x, [], h, rfl, rfl⟩
  | agg l =>
    simp [cellsAs] at hc; subst hc
    simp only [conc] at h
    cases hl : concL φ l with
    | none => simp [hl] at h
    | some y => simp [hl] at h; subst h; simp [Value.cells]
  | zag t =>
    simp only [cellsAs] at hc
    cases ht : E.ty.get t with
    | none => simp [ht] at hc
    | some ti =>
      simp [ht] at hc; subst hc
      obtain ⟨i, z, h1, _, _, h4, h5, _⟩ := (hE _ _ ht).info
      simp only [conc, zeroP, h1, Option.bind_some, h4] at h
      injection h with h; subst h
      exact concL_mono (Phi.nil_le φ) h5
  | tup l => simp [cellsAs] at hc

theorem ofV_conc (hE : TyOk P E) {v : AV} {x : Value} {u : Vv} (h : conc P φ v = some x) (hc : ofV E v = some u) : concV φ u = some x := by
  cases v with
  | one c =>
    simp [ofV] at hc; subst hc
    have : concL φ [c] = some [x] := concL_cons.2 ⟨x, [], h, rfl, rfl⟩
    simp [concV, this]
  | agg l =>
    simp [ofV] at hc; subst hc
    simp only [conc] at h
    cases hl : concL φ l with
    | none => simp [hl] at h
    | some y => simp [hl] at h; subst h; simp [concV, hl]
  | zag t =>
    simp only [ofV] at hc
    cases ht : E.ty.get t with
    | none => simp [ht] at hc
    | some ti =>
      simp only [ht, cond_eq_ite] at hc
      split at hc
      · rename_i ha
        injection hc with hc; subst hc
        obtain ⟨i, z, h1, _, _, h4, h5, _, h7, _⟩ := (hE _ _ ht).info
        simp only [conc, zeroP, h1, Option.bind_some, h4] at h
        injection h with h; subst h
        obtain ⟨cs, rfl⟩ := h7 ha
        have := concL_mono (Phi.nil_le φ) h5
        simp [concV, this, Value.cells]
      · simp at hc
  | tup l => simp [ofV] at hc

theorem mkV_conc {a : Bool} {l : List Sc} {v : AV} {xs : List Value} (hl : concL φ l = some xs) (h : mkV a l = some v) :
    ∃ x, conc P φ v = some x ∧ ((a = true ∧ x = .agg xs.toArray) ∨ (a = false ∧ xs = [x])) := by
  unfold mkV at h
  cases a with
  | true => simp at h; subst h; exact ⟨.agg xs.toArray, by simp [conc, hl], .inl ⟨rfl, rfl⟩⟩
  | false =>
    simp only [cond_false] at h
    match l, h with
    | [c], h =>
      simp at h; subst h
      obtain ⟨y, z, h1, h2, rfl⟩ := concL_cons.1 hl
      simp [concL] at h2; subst h2
      exact ⟨y, h1, .inr ⟨rfl, rfl⟩⟩

theorem toV_conc {u : Vv} {v : AV} {x : Value} (hu : concV φ u = some x) (h : toV u = some v) : conc P φ v = some x := by
  unfold concV at hu
  cases hl : concL φ u.2 with
  | none => simp [hl] at hu
  | some xs =>
    obtain ⟨y, hy, hc⟩ := mkV_conc (P := P) hl h
    rcases hc with ⟨ha, rfl⟩ | ⟨ha, rfl⟩
    · simp [hl, ha] at hu; rw [hy, hu]
    · simp [hl, ha] at hu; rw [hy, hu]

theorem concV_mk {a : Bool} {l : List Sc} {xs : List Value} (hl : concL φ l = some xs) (x : Value) (h : (a = true ∧ x = .agg xs.toArray) ∨ (a = false ∧ xs = [x])) :
    concV φ (a, l) = some x := by
  rcases h with ⟨rfl, rfl⟩ | ⟨rfl, rfl⟩ <;> simp [concV, hl]

/-- a type's zero value, as cells -/
theorem zero_concV (hE : TyOk P E) {t : Nat} {ti : TI} (ht : E.ty.get t = some ti) : ∃ i z, P.info? t = some i ∧ i.zero = some z ∧ concV φ (ti.agg, zeroCells ti) = some z := by
  obtain ⟨i, z, h1, _, _, h4, h5, _, h7, h8⟩ := (hE _ _ ht).info
  refine ⟨i, z, h1, h4, ?_⟩
  have hl := concL_mono (Phi.nil_le φ) h5
  cases ha : ti.agg with
  | true => obtain ⟨cs, rfl⟩ := h7 ha; simp [concV, hl, Value.cells]
  | false => have := h8 ha; rw [this] at hl; simp [concV, hl]
end

section
variable {P : Program} {E : Env} {φ : Phi} {s : St} {w : World}

/-- a new row of cells -/
theorem new_arr (hs : Sat P φ s w) {n : Nat} {z : Zr} {t : PT Sc} {e : Nat} {cs : List Sc} {vs : Array Value} (hl : concL φ cs = some vs.toList) (hn : n = cs.length)
    (hc : ∀ k c, k < n → cs[k]? = some c → cellV z t k = c) (op : Bool) :
    Post P φ s w (φ.upd s.next ⟨w.heap.size, 0, 0⟩) (alloc s (.arr n z t e op)).2 { w with heap := w.heap.push (.cells vs e) } := by
  have hnone : φ s.next = none := by
    cases hq : φ s.next with
    | none => rfl
    | some M => have := hs.bnd _ _ hq; omega
  refine Post.more hs rfl (o := .arr n z t e op) (fun j => by simp only [alloc]; rw [PT.get_set]) rfl rfl rfl (by simp) ?_ (Nat.le_refl _) ?_
  · intro b hb; simp only []; rw [Array.getElem?_push, if_neg (by omega)]
  · have hlen := concL_length hl
    refine ⟨vs, (0, 0), by simp, .inl rfl, by simp at hlen; simp; omega, fun _ => rfl, fun k hk => ?_⟩
    have hk' : k < cs.length := by omega
    obtain ⟨v, hv, hcv⟩ := concL_get hl k cs[k] (by simp [hk'])
    refine ⟨v, by simpa using hv, ?_⟩
    rw [hc k cs[k] hk (by simp [hk'])]
    exact concS_mono (Phi.le_upd _ hnone) hcv

theorem upd_self (φ : Phi) (i : Nat) (L : Lo) : (φ.upd i L) i = some L := by simp [Phi.upd]

theorem run_newVar (t : Nat) (v : Value) : (Go.newVar t v).run P w = .ok ⟨w.heap.size, 0, none⟩ { w with heap := w.heap.push (.cells v.cells t) } := by
  simp [Go.newVar, newRow]

/-- a new variable -/
theorem new_var (hE : TyOk P E) (hs : Sat P φ s w) {t : Nat} {v u : AV} {x : Value} {s' : St} (hx : conc P φ v = some x) (h : newVar E s t v = some (u, s')) :
    ∃ ψ, Post P φ s w ψ s' { w with heap := w.heap.push (.cells x.cells t) } ∧ conc P ψ u = some (.pointer (some ⟨w.heap.size, 0, none⟩)) := by
  refine ⟨φ.upd s.next ⟨w.heap.size, 0, 0⟩, ?_⟩
  have hptr : conc P (φ.upd s.next ⟨w.heap.size, 0, 0⟩) (.one (.p (some (s.next, 0)))) = some (.pointer (some ⟨w.heap.size, 0, none⟩)) := by
    simp [conc, concS, concA, upd_self]
  unfold newVar at h
  cases ht : E.ty.get t with
  | none => simp [ht] at h
  | some ti =>
    obtain ⟨i, z, h1, h2, h3, h4, h5, h6, h7, h8⟩ := (hE _ _ ht).info
    simp only [ht] at h
    have plain : ∀ cs, cellsAs E v = some cs → cs.length = ti.size →
        Post P φ s w (φ.upd s.next ⟨w.heap.size, 0, 0⟩) (alloc s (.arr ti.size (zeroOf ti) (setCells .leaf 0 cs) t false)).2 { w with heap := w.heap.push (.cells x.cells t) } := by
      intro cs hcs hlen
      refine new_arr hs (cellsAs_conc hE hx hcs) (by omega) (fun k c hk hc => ?_) false
      exact cellV_setCells _ _ _ _ _ (by omega) _ (by simpa using hc)
    cases v with
    | zag t' =>
      simp only [cond_eq_ite, Nat.beq_eq] at h
      split at h
      · rename_i e; subst e
        simp at h; obtain ⟨rfl, rfl⟩ := h
        refine ⟨new_arr hs (cs := zeroCells ti) ?_ h6 (fun k c hk hc => ?_) false, hptr⟩
        · simp only [conc, zeroP, h1, Option.bind_some, h4] at hx
          injection hx with hx; subst hx
          exact concL_mono (Phi.nil_le φ) h5
        · rw [cellV_leaf ti k hk h6] at hc; injection hc
      · simp at h
    | one c =>
      simp only [cellsAs, cond_eq_ite, Nat.beq_eq] at h
      split at h
      · rename_i e; simp at h; obtain ⟨rfl, rfl⟩ := h; exact ⟨plain _ rfl e, hptr⟩
      · simp at h
    | agg l =>
      simp only [cellsAs, cond_eq_ite, Nat.beq_eq] at h
      split at h
      · rename_i e; simp at h; obtain ⟨rfl, rfl⟩ := h; exact ⟨plain _ rfl e, hptr⟩
      · simp at h
    | tup l => simp [cellsAs] at h

/-- a whole variable is read -/
theorem run_loadVar_of (hE : TyOk P E) (hs : Sat P φ s w) {t : Nat} {ti : TI} (ht : E.ty.get t = some ti) {a : Nat × Nat} {A : Addr} (ha : concA φ a = some A)
    {cs : List Sc} (hl : ldCells s a ti.size = some cs) {v : AV} (hv : mkV ti.agg cs = some v) : ∃ x, (loadVar t A).run P w = .ok x w ∧ conc P φ v = some x := by
  obtain ⟨i, z, h1, h2, h3, h4, h5, h6, h7, h8⟩ := (hE _ _ ht).info
  obtain ⟨d, hd, _, hagg⟩ := (hE _ _ ht).und
  obtain ⟨vs, hc, hlen, hcell⟩ := ld_cells hs hl ha
  obtain ⟨x, hx, hcase⟩ := mkV_conc (P := P) hc hv
  refine ⟨x, ?_, hx⟩
  unfold loadVar
  simp only [Sem.run_bind, run_isAgg hd, Result.andThen_ok, hagg, Sem.run_ite]
  rcases hcase with ⟨h, rfl⟩ | ⟨h, rfl⟩
  · simp only [h, if_true, run_sizeOf h1, Result.andThen_ok, h2, run_loadCells_of hlen hcell, Sem.run_pure]
  · simp only [h, Bool.false_eq_true, if_false]
    have := hcell 0 x (by simp)
    rw [show A.add 0 = A from by simp [Addr.add]] at this
    rw [run_load, this]

/-- a whole variable is written -/
theorem run_storeVar_of (hE : TyOk P E) (hs : Sat P φ s w) {t : Nat} {ti : TI} (ht : E.ty.get t = some ti) {a : Nat × Nat} {A : Addr} (ha : concA φ a = some A)
    {vs : List Sc} {x : Value} (hx : concL φ vs = some x.cells.toList) (hlen : vs.length = ti.size) {s' : St} (h : stCells s a vs = some s') :
    ∃ w', (storeVar t A x).run P w = .ok () w' ∧ Post P φ s w φ s' w' := by
  obtain ⟨i, z, h1, h2, _⟩ := (hE _ _ ht).info
  obtain ⟨w', hw, hp⟩ := st_cells hs h ha hx
  refine ⟨w', ?_, hp⟩
  have hl := concL_length hx
  unfold storeVar
  simp only [Sem.run_bind, run_sizeOf h1, Result.andThen_ok]
  rw [if_neg (by simp at hl; simp; omega)]
  simpa using hw
end
end Go.Mx
