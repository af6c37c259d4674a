/- The abstract interpreter 'Mx': definitions alone. What it computes is tied to the model's own runs in the texts behind this one. -/
import GoSem.Core.Code
import GoSem.Core.View
namespace Go.Mx
open Go

inductive PT (α : Type) where
  | leaf
  | node (l : PT α) (v : Option α) (r : PT α)

def PT.get {α : Type} : PT α → Nat → Option α
  | .leaf, _ => none
  | .node l v r, k => bif Nat.beq k 0 then v else bif Nat.beq (k % 2) 1 then l.get (k / 2) else r.get (k / 2 - 1)

def PT.sing {α : Type} (v : α) : Nat → Nat → PT α
  | 0, _ => .leaf
  | n + 1, k => bif Nat.beq k 0 then .node .leaf (some v) .leaf
    else bif Nat.beq (k % 2) 1 then .node (sing v n (k / 2)) none .leaf else .node .leaf none (sing v n (k / 2 - 1))

def PT.set {α : Type} : PT α → Nat → α → PT α
  | .leaf, k, v => PT.sing v (k + 1) k
  | .node l x r, k, v => bif Nat.beq k 0 then .node l (some v) r
    else bif Nat.beq (k % 2) 1 then .node (l.set (k / 2) v) x r else .node l x (r.set (k / 2 - 1) v)

def PT.del {α : Type} : PT α → Nat → PT α
  | .leaf, _ => .leaf
  | .node l x r, k => bif Nat.beq k 0 then .node l none r
    else bif Nat.beq (k % 2) 1 then .node (l.del (k / 2)) x r else .node l x (r.del (k / 2 - 1))

/-- what one cell holds -/
inductive Sc where
  | b (x : Bool)
  | i (k : IntKind) (n : Int)
  | s (l : List Nat)
  | p (a : Option (Nat × Nat))
  | sl (a : Option (Nat × Nat)) (len cap : Nat) (op : Bool)
  /-- no elements, at the very end of a row that may have room behind it -/
  | se (a : Nat × Nat) (d : Nat)
  | m (r : Option Nat)
  | ch (r : Option Nat)
  | fn (f : Nat) (first cap : List (Nat × Nat))
  | nilfn
  | nilifc
  /-- a byte of an argument, or, where the argument is not so long, another one -/
  | y (k old : Nat)
  /-- a number that is not known, plus c; it lies between two -/
  | ln (g : Nat) (c lo hi : Int)
  /-- a number that is not known but for what it leaves -/
  | md (g : Nat) (k : IntKind) (r m : Nat)
  /-- as many elements as the argument has, of one cell each; how much room there is: by m -/
  | sn (a : Nat × Nat) (lo hi m : Nat)
  /-- what is behind these: nothing, but for room -/
  | sz (a : Nat × Nat) (lo hi m : Nat)
  deriving DecidableEq

/-- a value that a variable may hold: cells, and whether it is an aggregate -/
abbrev Vv := Bool × List Sc

inductive AV where
  | one (c : Sc)
  | agg (l : List Sc)
  | zag (t : Nat)
  | tup (l : List Vv)
  deriving DecidableEq

/-- what cells hold where nothing was stored: runs, again and again -/
structure Zr where
  per : Nat
  runs : List (Nat × Sc)

def Zr.at : List (Nat × Sc) → Nat → Sc
  | [], _ => .b false
  | (n, c) :: r, k => bif Nat.ble (k + 1) n then c else Zr.at r (k - n)

/-- an entry of a map: key, value, stamp -/
abbrev Me := Vv × Vv × Nat

inductive AO where
  | arr (n : Nat) (z : Zr) (t : PT Sc) (e : Nat) (op : Bool)
  | ro (n : Nat) (c : Nat → Sc)
  | map (es : List Me) (clk : Nat)
  | chan (cap : Nat) (buf : List Vv)
  /-- as many cells as the argument has -/
  | sy (c : Nat → Sc)

structure St where
  next : Nat
  hp : PT AO

inductive TK where
  | int (k : IntKind) | bool | str | ptr | slice (e : Nat) | arr (n e : Nat) | map (k e : Nat) | struct (fs : List (Nat × Nat × Bool)) | chan | fn | other

structure TI where
  size : Nat
  agg : Bool
  kind : TK
  zero : List (Nat × Sc)
  plain : Bool

abbrev Intr := List AV → St → Option (AV × St)

/-- of a region whose order is drawn: the order that is followed here; the reads that may come at several places, and from where to where -/
structure Dr where
  anc : List Nat
  order : List Nat
  free : List (Nat × Nat × Nat)

structure Env where
  ty : PT TI
  fns : PT Func
  intr : PT Intr
  free : PT (PT Dr)

abbrev Tm := PT AV

def undefV : AV := .tup []

def cellV (z : Zr) (t : PT Sc) (k : Nat) : Sc :=
  match t.get k with | some v => v | none => Zr.at z.runs (k % z.per)

def cellsV (z : Zr) (t : PT Sc) : Nat → Nat → List Sc
  | _, 0 => []
  | k, c + 1 => cellV z t k :: cellsV z t (k + 1) c

def cellsR (f : Nat → Sc) : Nat → Nat → List Sc
  | _, 0 => []
  | k, c + 1 => f k :: cellsR f (k + 1) c

def setCells (t : PT Sc) : Nat → List Sc → PT Sc
  | _, [] => t
  | k, v :: r => setCells (t.set k v) (k + 1) r

def ldCells (s : St) (a : Nat × Nat) (c : Nat) : Option (List Sc) :=
  match s.hp.get a.1 with
  | some (.arr n z t _ _) => bif Nat.ble (a.2 + c) n then some (cellsV z t a.2 c) else none
  | some (.ro n f) => bif Nat.ble (a.2 + c) n then some (cellsR f a.2 c) else none
  | _ => none

def stCells (s : St) (a : Nat × Nat) (vs : List Sc) : Option St :=
  match s.hp.get a.1 with
  | some (.arr n z t e o) => bif Nat.ble (a.2 + vs.length) n then some { s with hp := s.hp.set a.1 (.arr n z (setCells t a.2 vs) e o) } else none
  | _ => none

def alloc (s : St) (o : AO) : Nat × St := (s.next, { next := s.next + 1, hp := s.hp.set s.next o })

def zeroCells (ti : TI) : List Sc := ti.zero.flatMap fun p => List.replicate p.1 p.2

/-- the cells of a value -/
def cellsAs (E : Env) : AV → Option (List Sc)
  | .one c => some [c]
  | .agg l => some l
  | .zag t => match E.ty.get t with | some ti => some (zeroCells ti) | none => none
  | .tup _ => none

def mkV (agg : Bool) (l : List Sc) : Option AV := bif agg then some (.agg l) else match l with | [c] => some (.one c) | _ => none

def toV (v : Vv) : Option AV := mkV v.1 v.2
def ofV (E : Env) : AV → Option Vv
  | .one c => some (false, [c])
  | .agg l => some (true, l)
  | .zag t => match E.ty.get t with | some ti => bif ti.agg then some (true, zeroCells ti) else none | none => none
  | .tup _ => none

def zeroOf (ti : TI) : Zr := ⟨ti.size, ti.zero⟩

def newVar (E : Env) (s : St) (t : Nat) (v : AV) : Option (AV × St) :=
  match E.ty.get t with
  | none => none
  | some ti =>
    match v with
    | .zag t' => bif Nat.beq t' t then some (.one (.p (some (s.next, 0))), (alloc s (.arr ti.size (zeroOf ti) .leaf t false)).2) else none
    | _ => match cellsAs E v with
      | none => none
      | some cs => bif Nat.beq cs.length ti.size then
          some (.one (.p (some (s.next, 0))), (alloc s (.arr ti.size (zeroOf ti) (setCells .leaf 0 cs) t false)).2) else none

def ofConst : Value → Option AV
  | .bool x => some (.one (.b x))
  | .int k n => some (.one (.i k n))
  | .string x => some (.one (.s (x.data.toList.map (·.toNat))))
  | .pointer none => some (.one (.p none))
  | .slice none 0 0 => some (.one (.sl none 0 0 false))
  | .map none => some (.one (.m none))
  | .nilFunc => some (.one .nilfn)
  | .nilIface => some (.one .nilifc)
  | _ => none

def ev (tm : Tm) : Operand → Option AV
  | .tmp t => match tm.get t with | some v => some v | none => some undefV
  | .const v => ofConst v
  | .func f => some (.one (.fn f [] []))
  | .global _ => none

def evI (tm : Tm) (o : Operand) : Option (IntKind × Int) :=
  match ev tm o with | some (.one (.i k n)) => some (k, n) | _ => none
def evB (tm : Tm) (o : Operand) : Option Bool :=
  match ev tm o with | some (.one (.b n)) => some n | _ => none
def evP (tm : Tm) (o : Operand) : Option (Nat × Nat) :=
  match ev tm o with | some (.one (.p (some a))) => some a | _ => none
def evC (E : Env) (tm : Tm) (o : Operand) : Option (List Sc) :=
  match ev tm o with | some v => cellsAs E v | none => none
def evV (E : Env) (tm : Tm) (o : Operand) : Option Vv :=
  match ev tm o with | some v => ofV E v | none => none

def intOp (op : BinOp) (k : IntKind) (a b : Int) : Option Sc :=
  match op with
  | .add => some (.i k (k.wrap (a + b)))
  | .sub => some (.i k (k.wrap (a - b)))
  | .mul => some (.i k (k.wrap (a * b)))
  | .quo => bif decide (b = 0) then none else some (.i k (k.wrap (a.tdiv b)))
  | .rem => bif decide (b = 0) then none else some (.i k (a.tmod b))
  | .and => some (.i k (k.wrap ((BitVec.ofInt k.bits a &&& BitVec.ofInt k.bits b).toNat)))
  | .or => some (.i k (k.wrap ((BitVec.ofInt k.bits a ||| BitVec.ofInt k.bits b).toNat)))
  | .xor => some (.i k (k.wrap ((BitVec.ofInt k.bits a ^^^ BitVec.ofInt k.bits b).toNat)))
  | .andNot => some (.i k (k.wrap ((BitVec.ofInt k.bits a &&& ~~~(BitVec.ofInt k.bits b)).toNat)))
  | .eql => some (.b (a == b))
  | .neq => some (.b (a != b))
  | .lss => some (.b (decide (a < b)))
  | .leq => some (.b (decide (a ≤ b)))
  | .gtr => some (.b (decide (a > b)))
  | .geq => some (.b (decide (a ≥ b)))
  | _ => none

/-- '==' of two plain cells -/
def eqSc : Sc → Sc → Option Bool
  | .b x, .b y => some (x == y)
  | .i j x, .i k y => bif decide (j = k) then some (x == y) else none
  | _, _ => none

/-- is a cell of the kind of another one, both plain? -/
def sameKd : Sc → Sc → Bool
  | .b _, .b _ => true
  | .i j _, .i k _ => decide (j = k)
  | _, _ => false

def confL : List Sc → List Sc → Bool
  | [], [] => true
  | a :: r, b :: q => sameKd a b && confL r q
  | _, _ => false

def eqL : List Sc → List Sc → Option Bool
  | [], [] => some true
  | a :: r, b :: q => match eqSc a b, eqL r q with
    | some x, some y => some (x && y)
    | _, _ => none
  | _, _ => none

/-- '==' of two values of a type of one cell, one of them nil, or both bools -/
def eqOne (k : TK) (x y : Sc) : Option Bool :=
  match k, x, y with
  | .bool, .b a, .b b => some (a == b)
  | .ptr, .p none, .p b => some b.isNone
  | .ptr, .p (some _), .p none => some false
  | .slice _, .sl none _ _ _, .sl b _ _ _ => some b.isNone
  | .slice _, .sl (some _) _ _ _, .sl none _ _ _ => some false
  | .slice _, .se _ _, .sl none _ _ _ => some false
  | .slice _, .sl none _ _ _, .se _ _ => some false
  | .map _ _, .m none, .m b => some b.isNone
  | .map _ _, .m (some _), .m none => some false
  | .fn, .nilfn, .nilfn => some true
  | .fn, .nilfn, .fn _ _ _ => some false
  | .fn, .fn _ _ _, .nilfn => some false
  | _, _, _ => none

/-- is a key one of a type? -/
def keyOk (E : Env) (kt : Nat) (k : Vv) : Bool :=
  match E.ty.get kt with
  | some tk => tk.plain && (k.1 == tk.agg) && confL (zeroCells tk) k.2
  | none => false

def eqK (a b : Vv) : Option Bool := bif a.1 == b.1 then eqL a.2 b.2 else none

/-- the place of a key among entries -/
def findK (k : Vv) : List Me → Option (Option Me)
  | [] => some none
  | e :: r => match eqK k e.1 with
    | some true => some (some e)
    | some false => findK k r
    | none => none

def putK (k v : Vv) : List Me → List Me
  | [] => []
  | e :: r => match eqK k e.1 with
    | some true => (k, v, e.2.2) :: r
    | _ => e :: putK k v r

def delK (k : Vv) : List Me → List Me
  | [] => []
  | e :: r => match eqK k e.1 with
    | some true => r
    | _ => e :: delK k r

/-- a store by stamp -/
def putB (b : Nat) (v : Vv) : List Me → Option (List Me)
  | [] => none
  | e :: r => bif Nat.beq e.2.2 b then some ((e.1, v, b) :: r) else match putB b v r with
    | some q => some (e :: q)
    | none => none

def bound (tm : Tm) (o : Option Operand) (d : Nat) (hi : Nat) : Option Nat :=
  match o with
  | none => some d
  | some x => match evI tm x with
    | some (_, .ofNat n) => bif Nat.ble n hi then some n else none
    | _ => none

/-- s[lo:hi:max]: the three numbers -/
def bounds3 (tm : Tm) (lo hi mx : Option Operand) (len cap : Nat) : Option (Nat × Nat × Nat) :=
  match bound tm mx cap cap with
  | some m => match (bif mx.isSome && hi.isNone then none else bound tm hi len m) with
    | some h => match bound tm lo 0 h with
      | some l => bif Nat.ble l m && Nat.ble h m then some (l, h, m) else none
      | none => none
    | none => none
  | none => none

def sliceOp0 (E : Env) (tm : Tm) (t : Nat) (x : Operand) (lo hi mx : Option Operand) : Option AV :=
  match E.ty.get t, ev tm x with
  | some ⟨_, _, .slice e, _, _⟩, some (.one (.sl a len cap op)) =>
    match E.ty.get e, bounds3 tm lo hi mx len cap with
    | some te, some (l, h, m) => match a with
      | none => some (.one (.sl none (h - l) (m - l) (op && mx.isNone)))
      | some (i, o) => bif op && mx.isNone && Nat.beq m l then some (.one (.se (i, o) (l * te.size)))
        else some (.one (.sl (some (bif Nat.beq m l then (i, o) else (i, o + l * te.size))) (h - l) (m - l) (op && mx.isNone)))
    | _, _ => none
  | some ⟨_, _, .arr n e, _, _⟩, some (.one (.p (some (i, o)))) =>
    match E.ty.get e, bounds3 tm lo hi mx n n with
    | some te, some (l, h, m) => some (.one (.sl (some (bif Nat.beq m l then (i, o) else (i, o + l * te.size))) (h - l) (m - l) false))
    | _, _ => none
  | _, _ => none

/-- the number that is not known, without more: how long the argument is -/
def lnOf (tm : Tm) (x : Operand) : Option (Int × Int × Int) :=
  match ev tm x with | some (.one (.ln 0 c lo hi)) => some (c, lo, hi) | _ => none
def natOf (x : Int) : Option Nat := match x with | .ofNat n => some n | _ => none
def lowOf (tm : Tm) (lo : Option Operand) : Option Nat :=
  match lo with
  | none => some 0
  | some x => match ev tm x with | some (.one (.i _ n)) => natOf n | _ => none

/-- slices whose length is not known -/
def symSlice (E : Env) (tm : Tm) (t : Nat) (x : Operand) (lo hi mx : Option Operand) : Option AV :=
  match E.ty.get t, ev tm x with
  | some ⟨_, _, .arr n e, _, _⟩, some (.one (.p (some (i, o)))) => match hi, mx with
    | some hi, some mx => match lnOf tm hi, lnOf tm mx, lowOf tm lo, E.ty.get e with
      | some (c, l, u), some (c', _, _), some k, some te => match natOf l, natOf u with
        | some l, some u => bif decide (c = (k : Int)) && decide (c' = c) && Nat.beq te.size 1 && Nat.ble 1 l && Nat.ble (k + u) n then some (.one (.sn (i, o + k) l u 0)) else none
        | _, _ => none
      | _, _, _, _ => none
    | _, _ => none
  | some ⟨_, _, .slice e, _, _⟩, some (.one (.sn a l u m)) => match E.ty.get e with
    | some te => bif Nat.beq te.size 1 then (match lo, hi, mx with
      | none, some hi, none => match lnOf tm hi with
        | some (c, _, _) => bif decide (c = 0) && Nat.ble 1 l then some (.one (.sn a l u m)) else none
        | none => none
      | some lo, none, none => match lnOf tm lo with
        | some (c, _, _) => bif decide (c = 0) then some (.one (.sz a l u m)) else none
        | none => none
      | _, _, _ => none) else none
    | none => none
  | some ⟨_, _, .slice e, _, _⟩, some (.one (.sl (some a) _ cap op)) => match E.ty.get e with
    | some te => bif Nat.beq te.size 1 then (match lo, hi, mx with
      | none, some hi, none => match lnOf tm hi with
        | some (c, l, u) => match natOf l, natOf u with
          | some l, some u => bif decide (c = 0) && Nat.ble 1 l && Nat.ble u cap then some (.one (.sn a l u (4 + (2 * cap + (bif op then 1 else 0))))) else none
          | _, _ => none
        | none => none
      | _, _, _ => none) else none
    | none => none
  | _, _ => none

def sliceOp (E : Env) (tm : Tm) (t : Nat) (x : Operand) (lo hi mx : Option Operand) : Option AV :=
  match symSlice E tm t x lo hi mx with
  | some v => some v
  | none => sliceOp0 E tm t x lo hi mx

def splice (cells : List Sc) (off : Nat) (vs : List Sc) : List Sc :=
  cells.take off ++ vs ++ cells.drop (off + vs.length)

def fillOp (E : Env) (tm : Tm) (place : Nat → Option (Nat × Nat)) : List (Nat × Operand) → List Sc → Option (List Sc)
  | [], cs => some cs
  | (i, x) :: r, cs => match place i, evC E tm x with
    | some (off, sz), some vs => bif Nat.beq vs.length sz && Nat.ble (off + sz) cs.length then fillOp E tm place r (splice cs off vs) else none
    | _, _ => none

def repCells (n : Nat) (l : List Sc) : List Sc :=
  match n with | 0 => [] | n + 1 => l ++ repCells n l

def place2 (fs : List (Nat × Nat × Bool)) (i : Nat) : Option (Nat × Nat) :=
  match fs[i]? with | some f => some (f.1, f.2.1) | none => none

def nilOk : AV → Bool
  | .one (.p (some _)) => true
  | .one (.fn _ _ _) => true
  | _ => false

def lim : Nat := 1048576

def appendOp (te : TI) (e : Nat) (s : St) (a : Option (Nat × Nat)) (len cap : Nat) (op : Bool) (new : List Sc) (n : Nat) : Option (AV × St) :=
  bif Nat.ble (len + n) cap then
    match a with
    | none => bif Nat.beq n 0 then some (.one (.sl none (len + n) cap op), s) else none
    | some (i, o) => match stCells s (i, o + len * te.size) new with
      | some s => some (.one (.sl a (len + n) cap op), s)
      | none => none
  else bif Nat.ble (len + n) lim then
    match a with
    | none => bif Nat.beq len 0 then
        some (.one (.sl (some (s.next, 0)) n n true), (alloc s (.arr (n * te.size) (zeroOf te) (setCells .leaf 0 new) e true)).2) else none
    | some (i, o) => match s.hp.get i with
      | some (.arr k z t e' md) =>
        bif Nat.ble (o + len * te.size) k then
        bif op then
          bif md && Nat.beq e' e && Nat.beq o 0 && Nat.beq (cap * te.size) k && Nat.beq len cap then
            some (.one (.sl (some (s.next, 0)) (len + n) (len + n) true),
              (alloc { s with hp := s.hp.del i } (.arr ((len + n) * te.size) z (setCells t (len * te.size) new) e true)).2)
          else none
        else
          some (.one (.sl (some (s.next, 0)) (len + n) (len + n) true),
            (alloc s (.arr ((len + n) * te.size) (zeroOf te) (setCells .leaf 0 (cellsV z t o (len * te.size) ++ new)) e true)).2)
        else none
      | some (.ro k f) =>
        bif Nat.ble (o + len * te.size) k && !op then
          some (.one (.sl (some (s.next, 0)) (len + n) (len + n) true),
            (alloc s (.arr ((len + n) * te.size) (zeroOf te) (setCells .leaf 0 (cellsR f o (len * te.size) ++ new)) e true)).2)
        else none
      | _ => none
  else none

def lenV (s : St) (k : TK) (v : AV) : Option Nat :=
  match k, v with
  | .slice _, .one (.sl _ n _ _) => some n
  | .slice _, .one (.se _ _) => some 0
  | .str, .one (.s l) => some l.length
  | .map _ _, .one (.m none) => some 0
  | .map _ _, .one (.m (some r)) => match s.hp.get r with | some (.map es _) => some es.length | _ => none
  | _, _ => none

/-- the cells that are appended, or copied -/
def srcCells (s : St) (sz : Nat) (n : Nat) : AV → Option (List Sc)
  | .one (.sl (some a) _ _ _) => ldCells s a (n * sz)
  | .one (.sl none _ _ _) => some []
  | .one (.se _ _) => some []
  | .one (.s l) => some ((l.take n).map fun (x : Nat) => Sc.i .u8 (Int.ofNat (x % 256)))
  | _ => none

def lenS : AV → Option Nat
  | .one (.sl _ n _ _) => some n
  | .one (.se _ _) => some 0
  | .one (.s l) => some l.length
  | _ => none

def minI (x y : Int) : Int := bif decide (y < x) then y else x
def maxI (x y : Int) : Int := bif decide (x < y) then y else x

def foldMM (mn : Bool) (tm : Tm) (k : IntKind) : Int → List Operand → Option Int
  | v, [] => some v
  | v, x :: r => match evI tm x with
    | some (_, w) => foldMM mn tm k (bif mn then minI v w else maxI v w) r
    | none => none

def evs (tm : Tm) : List Operand → Option (List AV)
  | [] => some []
  | x :: r => match ev tm x, evs tm r with
    | some v, some l => some (v :: l)
    | _, _ => none

def ptrs : List AV → Option (List (Nat × Nat))
  | [] => some []
  | .one (.p (some a)) :: r => match ptrs r with | some q => some (a :: q) | none => none
  | _ => none

def bytesOf : List Sc → Option (List Nat)
  | [] => some []
  | .i .u8 n :: r => match bytesOf r with | some q => some (n.toNat :: q) | none => none
  | _ => none

abbrev CF := Nat → List AV → St → Option (AV × St)

def ov (x : Option AV) (s : St) : Option (AV × St) := match x with | some v => some (v, s) | none => none

def builtinOp0 (E : Env) (tm : Tm) (s : St) (b : Builtin) (tys : List Nat) (args : List Operand) : Option (AV × St) :=
  match b, tys, args with
  | .len, t :: _, x :: _ =>
    match E.ty.get t with
    | some ⟨_, _, .arr n _, _, _⟩ => some (.one (.i .i64 n), s)
    | some ti => match ev tm x with
      | some v => match lenV s ti.kind v with | some n => some (.one (.i .i64 n), s) | none => none
      | none => none
    | none => none
  | .cap, t :: _, x :: _ =>
    match E.ty.get t, ev tm x with
    | some ⟨_, _, .slice _, _, _⟩, some (.one (.sl _ _ c false)) => some (.one (.i .i64 c), s)
    | _, _ => none
  | .append, [t, t'], [x, y] =>
    match E.ty.get t, E.ty.get t', ev tm x, ev tm y with
    | some ⟨_, _, .slice e, _, _⟩, some ti', some (.one (.sl a len cap op)), some w =>
      match E.ty.get e with
      | some te => match ti'.kind, w with
        | .int _, .one (.i _ (.ofNat n)) => bif Nat.ble n lim then appendOp te e s a len cap op (repCells n (zeroCells te)) n else none
        | .int _, _ => none
        | .other, _ => none
        | _, w => match lenS w with
          | some n => match srcCells s te.size n w with
            | some new => bif Nat.beq new.length (n * te.size) then appendOp te e s a len cap op new n else none
            | none => none
          | none => none
      | none => none
    | _, _, _, _ => none
  | .copy, t :: _, x :: y :: _ =>
    match E.ty.get t, ev tm x, ev tm y with
    | some ⟨_, _, .slice e, _, _⟩, some (.one (.sl a len _ _)), some w =>
      match E.ty.get e, lenS w with
      | some te, some wl =>
        match srcCells s te.size (Nat.min wl len) w with
        | some cs => match a with
          | none => some (.one (.i .i64 (Nat.min wl len : Nat)), s)
          | some a => match stCells s a cs with
            | some s => some (.one (.i .i64 (Nat.min wl len : Nat)), s)
            | none => none
        | none => none
      | _, _ => none
    | _, _, _ => none
  | .clear, t :: _, x :: _ =>
    match E.ty.get t, ev tm x with
    | some ⟨_, _, .map _ _, _, _⟩, some (.one (.m none)) => some (undefV, s)
    | some ⟨_, _, .map _ _, _, _⟩, some (.one (.m (some r))) => match s.hp.get r with
      | some (.map _ c) => some (undefV, { s with hp := s.hp.set r (.map [] c) })
      | _ => none
    | some ⟨_, _, .slice _, _, _⟩, some (.one (.sl none _ _ _)) => some (undefV, s)
    | some ⟨_, _, .slice _, _, _⟩, some (.one (.sl (some _) 0 _ _)) => some (undefV, s)
    | some ⟨_, _, .slice e, _, _⟩, some (.one (.sl (some a) n _ _)) => match E.ty.get e with
      | some te => match stCells s a (repCells n (zeroCells te)) with
        | some s => some (undefV, s)
        | none => none
      | none => none
    | _, _ => none
  | .delete, t :: _, x :: y :: _ =>
    match E.ty.get t, ev tm x, evV E tm y with
    | some ⟨_, _, .map kt _, _, _⟩, some (.one (.m none)), some k => bif keyOk E kt k then some (undefV, s) else none
    | some ⟨_, _, .map kt _, _, _⟩, some (.one (.m (some r))), some k => match s.hp.get r with
      | some (.map es c) => match bif keyOk E kt k then findK k es else none with
        | some _ => some (undefV, { s with hp := s.hp.set r (.map (delK k es) c) })
        | none => none
      | _ => none
    | _, _, _ => none
  | .min, _, x :: r => match evI tm x with
    | some (k, v) => match foldMM true tm k v r with | some n => some (.one (.i k n), s) | none => none
    | none => none
  | .max, _, x :: r => match evI tm x with
    | some (k, v) => match foldMM false tm k v r with | some n => some (.one (.i k n), s) | none => none
    | none => none
  | _, _, _ => none

/-- the address of an element of a slice whose length is not known -/
def symIdx (E : Env) (tm : Tm) (t : Nat) (x i : Operand) : Option AV :=
  match E.ty.get t, ev tm x, ev tm i with
  | some ⟨_, _, .slice e, _, _⟩, some (.one (.sn a l _ _)), some (.one (.i _ (.ofNat k))) => match E.ty.get e with
    | some te => bif Nat.beq te.size 1 && Nat.ble (k + 1) l then some (.one (.p (some (a.1, a.2 + k)))) else none
    | none => none
  | _, _, _ => none

/-- one byte behind a copy -/
def mixS (i : Nat) (new old : Sc) : Option Sc :=
  match new, old with
  | .y k _, .i .u8 (.ofNat b) => bif Nat.beq (k % 64) i then some (.y k b) else none
  | .y k _, .y k' b => bif Nat.beq (k % 64) i && Nat.beq (k' % 64) i then some (.y k b) else none
  | _, _ => none
def mixL : Nat → List Sc → List Sc → Option (List Sc)
  | _, [], [] => some []
  | i, a :: r, b :: q => match mixS i a b, mixL (i + 1) r q with
    | some c, some l => some (c :: l)
    | _, _ => none
  | _, _, _ => none
/-- the first u cells from a place on, as far as they are there -/
def symSrc (s : St) (a : Nat × Nat) (u : Nat) : Option (List Sc) :=
  match s.hp.get a.1 with
  | some (.arr n z t _ _) => bif Nat.ble (a.2 + u) n then some (cellsV z t a.2 u) else none
  | some (.sy c) => bif Nat.beq a.2 0 then some (cellsR c 0 u) else none
  | _ => none
def symDst (s : St) (a : Nat × Nat) (u : Nat) : Option (List Sc) :=
  match s.hp.get a.1 with
  | some (.arr n z t _ _) => bif Nat.ble (a.2 + u) n then some (cellsV z t a.2 u) else none
  | _ => none
def nthS (l : List Sc) (k : Nat) : Sc := match l[k]? with | some c => c | none => .b false

def symCopy (E : Env) (tm : Tm) (s : St) : List Nat → List Operand → Option (AV × St)
  | t :: _, x :: y :: _ => match E.ty.get t, ev tm x, ev tm y with
    | some ⟨_, _, .slice e, _, _⟩, some (.one (.sn d l u _)), some (.one (.sn q _ _ _)) => match E.ty.get e, symSrc s q u, symDst s d u with
      | some te, some new, some old => match mixL 0 new old with
        | some cs => match stCells s d cs with
          | some s' => bif Nat.beq te.size 1 && Nat.ble u 64 then some (.one (.ln 0 0 l u), s') else none
          | none => none
        | none => none
      | _, _, _ => none
    | _, _, _ => none
  | _, _ => none
def apRoom (s : St) (a : Option (Nat × Nat)) (op : Bool) : Bool :=
  match a with
  | none => true
  | some p => match s.hp.get p.1 with | some (.arr k _ _ _ _) => Nat.ble p.2 k && !op | _ => false
def symAppend (E : Env) (tm : Tm) (s : St) : List Nat → List Operand → Option (AV × St)
  | [t, t'], [x, y] => match E.ty.get t, E.ty.get t', ev tm x, ev tm y with
    | some ⟨_, _, .slice e, _, _⟩, some ⟨_, _, .slice _, _, _⟩, some (.one (.sl a 0 0 op)), some (.one (.sn q l u _)) => match E.ty.get e, symSrc s q u with
      | some te, some new => bif Nat.beq te.size 1 && Nat.ble u 64 && Nat.ble 1 l && apRoom s a op then
          some (.one (.sn (s.next, 0) l u 1), (alloc s (.sy (nthS new))).2) else none
      | _, _ => none
    | _, _, _, _ => none
  | _, _ => none
def symLen (E : Env) (tm : Tm) (s : St) : List Nat → List Operand → Option (AV × St)
  | t :: _, x :: _ => match E.ty.get t, ev tm x with
    | some ⟨_, _, .slice _, _, _⟩, some (.one (.sn _ l u _)) => some (.one (.ln 0 0 l u), s)
    | _, _ => none
  | _, _ => none
def symMin (tm : Tm) (s : St) : List Operand → Option (AV × St)
  | [x, y] => match ev tm x, ev tm y with
    | some (.one (.ln g c l u)), some (.one (.i .i64 b)) => bif decide (u + c ≤ b) then some (.one (.ln g c l u), s) else bif decide (b ≤ l + c) then some (.one (.i .i64 b), s) else none
    | _, _ => none
  | _ => none
def symB (E : Env) (tm : Tm) (s : St) (b : Builtin) (tys : List Nat) (args : List Operand) : Option (AV × St) :=
  match b with
  | .len => symLen E tm s tys args
  | .copy => symCopy E tm s tys args
  | .append => symAppend E tm s tys args
  | .min => symMin tm s args
  | _ => none

def builtinOp (E : Env) (tm : Tm) (s : St) (b : Builtin) (tys : List Nat) (args : List Operand) : Option (AV × St) :=
  match symB E tm s b tys args with
  | some r => some r
  | none => builtinOp0 E tm s b tys args

def isAg (E : Env) : AV → Bool
  | .agg _ => true
  | .zag t => match E.ty.get t with | some ti => ti.agg | none => false
  | _ => false

def binOp0 (E : Env) (op : BinOp) (t : Nat) (v w : AV) : Option AV :=
  match v, w with
  | .one (.i k a), .one (.i k' b) =>
    match op with
    | .shl => match b with
      | .ofNat n => some (.one (.i k (k.wrap (a * 2 ^ (Nat.min n k.bits)))))
      | _ => none
    | .shr => match b with
      | .ofNat n => some (.one (.i k (a.fdiv (2 ^ (Nat.min n k.bits)))))
      | _ => none
    | _ => bif decide (k = k') then (match intOp op k a b with | some c => some (.one c) | none => none) else none
  | .one (.s x), .one (.s y) => bif x.all (Nat.ble · 255) && y.all (Nat.ble · 255) then (match op with
    | .eql => some (.one (.b (x == y)))
    | .neq => some (.one (.b (!(x == y))))
    | _ => none) else none
  | .one x, .one y => match E.ty.get t with
    | some ti => match eqOne ti.kind x y with
      | some r => match op with
        | .eql => some (.one (.b r))
        | .neq => some (.one (.b !r))
        | _ => none
      | none => none
    | none => none
  | _, _ => match E.ty.get t with
    | some ti => bif ti.agg && ti.plain && (isAg E v && isAg E w) then
        match cellsAs E v, cellsAs E w with
        | some a, some b => bif confL (zeroCells ti) a && confL (zeroCells ti) b then (match eqL a b with
          | some r => match op with
            | .eql => some (.one (.b r))
            | .neq => some (.one (.b !r))
            | _ => none
          | none => none) else none
        | _, _ => none
      else none
    | none => none

/-- a number between two, held against another one -/
def symCmp (op : BinOp) (lo hi b : Int) : Option Bool :=
  match op with
  | .lss => bif decide (hi < b) then some true else bif decide (b ≤ lo) then some false else none
  | .leq => bif decide (hi ≤ b) then some true else bif decide (b < lo) then some false else none
  | .gtr => bif decide (b < lo) then some true else bif decide (hi ≤ b) then some false else none
  | .geq => bif decide (b ≤ lo) then some true else bif decide (hi < b) then some false else none
  | .eql => bif decide (hi < b) || decide (b < lo) then some false else bif decide (lo = b) && decide (hi = b) then some true else none
  | .neq => bif decide (hi < b) || decide (b < lo) then some true else bif decide (lo = b) && decide (hi = b) then some false else none
  | _ => none
def turned : BinOp → BinOp
  | .lss => .gtr | .leq => .geq | .gtr => .lss | .geq => .leq | op => op
def inR (lo hi : Int) : Bool := decide (-9223372036854775808 ≤ lo) && decide (hi < 9223372036854775808)
def symSc (op : BinOp) (k : TK) (v w : Sc) : Option Sc :=
  match v, w with
  | .ln g c l u, .i .i64 b => match op with
    | .add => bif inR (l + (c + b)) (u + (c + b)) then some (.ln g (c + b) l u) else none
    | .sub => bif inR (l + (c - b)) (u + (c - b)) then some (.ln g (c - b) l u) else none
    | op => (symCmp op (l + c) (u + c) b).map .b
  | .i .i64 b, .ln g c l u => match op with
    | .add => bif inR (l + (c + b)) (u + (c + b)) then some (.ln g (c + b) l u) else none
    | op => (symCmp (turned op) (l + c) (u + c) b).map .b
  | .ln g c _ _, .ln g' c' _ _ => bif Nat.beq g g' then (match op with
    | .sub => bif inR (c - c') (c - c') then some (.i .i64 (c - c')) else none
    | op => (symCmp op c c c').map .b) else none
  | .md _ k r m, .i k' b => match op with
    | .rem => bif decide (k = k') && decide (b = (m : Int)) && Nat.ble 1 m then some (.i k r) else none
    | _ => none
  | .y a b, .y a' b' => bif Nat.beq a a' && Nat.beq b b' then (match op with
    | .eql => some (.b true)
    | .neq => some (.b false)
    | _ => none) else none
  | .sn _ _ _ _, .sl none 0 0 _ => match k, op with
    | .slice _, .eql => some (.b false)
    | .slice _, .neq => some (.b true)
    | _, _ => none
  | _, _ => none
def symBin (E : Env) (op : BinOp) (t : Nat) (v w : AV) : Option AV :=
  match v, w with
  | .one x, .one y => match E.ty.get t with
    | some ti => match symSc op ti.kind x y with
      | some c => some (.one c)
      | none => none
    | none => none
  | _, _ => none
def binOp1 (E : Env) (op : BinOp) (t : Nat) (v w : AV) : Option AV :=
  match symBin E op t v w with
  | some r => some r
  | none => binOp0 E op t v w

/-- a map's entries -/
def mapOf (s : St) : Option Nat → Option (List Me)
  | none => some []
  | some r => match s.hp.get r with | some (.map es _) => some es | _ => none

def structFields : TK → Option (List (Nat × Nat × Bool))
  | .struct fs => some fs
  | _ => none

def idxOp (E : Env) (tm : Tm) (s : St) (t : Nat) (x i : Operand) : Option (AV × St) :=
  match E.ty.get t, ev tm x, evI tm i with
    | some ⟨_, _, .arr n e, _, _⟩, some (.one (.p (some (b, o)))), some (_, .ofNat k) => match E.ty.get e with
      | some te => bif Nat.ble (k + 1) n then some (.one (.p (some (b, o + k * te.size))), s) else none
      | none => none
    | some ⟨_, _, .slice e, _, _⟩, some (.one (.sl (some (b, o)) n _ _)), some (_, .ofNat k) => match E.ty.get e with
      | some te => bif Nat.ble (k + 1) n then some (.one (.p (some (b, o + k * te.size))), s) else none
      | none => none
    | _, _, _ => none

def doOp (E : Env) (cf : CF) (tm : Tm) (s : St) (o : Oper) : Option (AV × St) :=
  match o.op with
  | .move x => ov (ev tm x) s
  | .assign x => ov (ev tm x) s
  | .pick c a b => match evB tm c with | some true => ov (ev tm a) s | some false => ov (ev tm b) s | none => none
  | .alloc t => newVar E s t (.zag t)
  | .box t x => match ev tm x with | some v => newVar E s t v | none => none
  | .build t ps => match E.ty.get t with
    | none => none
    | some ti => match ti.kind with
      | .struct fs => bif ps.isEmpty then some (.zag t, s) else
        match fillOp E tm (place2 fs) ps.toList (zeroCells ti) with
          | some cs => some (.agg cs, s) | none => none
      | .arr _ e => match E.ty.get e with
        | some te => bif ps.isEmpty then some (.zag t, s) else
          match fillOp E tm (fun i => some (i * te.size, te.size)) ps.toList (zeroCells ti) with
            | some cs => some (.agg cs, s) | none => none
        | none => none
      | _ => none
  | .buildSlice t len ps => match E.ty.get t with
    | some ⟨_, _, .slice e, _, _⟩ => match E.ty.get e with
      | some te => bif Nat.ble (len * te.size) lim then
        match fillOp E tm (fun i => some (i * te.size, te.size)) ps.toList (repCells len (zeroCells te)) with
          | some cs => some (.one (.sl (some (s.next, 0)) len len false), (alloc s (.arr (len * te.size) (zeroOf te) (setCells .leaf 0 cs) e false)).2)
          | none => none
        else none
      | none => none
    | _ => none
  | .load t x => match E.ty.get t, evP tm x with
    | some ti, some a => match ldCells s a ti.size with
      | some cs => ov (mkV ti.agg cs) s
      | none => none
    | _, _ => none
  | .store t x y => match E.ty.get t, evP tm x, evC E tm y with
    | some ti, some a, some vs => bif Nat.beq vs.length ti.size then (match stCells s a vs with | some s => some (undefV, s) | none => none) else none
    | _, _, _ => none
  | .nilCheck x => match ev tm x with | some v => bif nilOk v then some (v, s) else none | none => none
  | .binOp op t x y _ =>
    match ev tm x, ev tm y with
    | some v, some w => ov (binOp1 E op t v w) s
    | _, _ => none
  | .unOp op _ x => match op, ev tm x with
    | .not, some (.one (.b v)) => some (.one (.b !v), s)
    | .neg, some (.one (.i k n)) => some (.one (.i k (k.wrap (0 - n))), s)
    | _, _ => none
  | .convert src dst x => match E.ty.get src, E.ty.get dst, ev tm x with
    | some _, some ⟨_, _, .int k, _, _⟩, some (.one (.i _ n)) => some (.one (.i k (k.wrap n)), s)
    | some ⟨_, _, .slice e, _, _⟩, some ⟨_, _, .str, _, _⟩, some (.one (.sl a n _ _)) => match E.ty.get e with
      | some ⟨_, _, .int .u8, _, _⟩ => match a with
        | none => some (.one (.s []), s)
        | some a => match ldCells s a n with
          | some l => match bytesOf l with
            | some l => some (.one (.s l), s)
            | none => none
          | none => none
      | _ => none
    | some ⟨_, _, .slice e, _, _⟩, some ⟨_, _, .slice e', _, _⟩, some (.one (.sl (some a) n c o)) => match E.ty.get e with
      | some ⟨_, _, .int .u8, _, _⟩ => bif Nat.beq e e' && Nat.beq src dst then (match s.hp.get a.1 with
        | some (.arr _ _ _ _ _) => some (.one (.sl (some a) n c o), s)
        | _ => none) else none
      | _ => none
    | _, _, _ => none
  | .sliceToArrayPointer t x => match E.ty.get t, ev tm x with
    | some ⟨_, _, .arr n _, _, _⟩, some (.one (.sl a len _ _)) => bif Nat.ble n len then some (.one (.p a), s) else none
    | _, _ => none
  | .makeFunc fn first cap => match fn with
    | .func f => match evs tm first.toList, evs tm cap.toList with
      | some a, some b => match ptrs a, ptrs b with
        | some a, some b => some (.one (.fn f a b), s)
        | _, _ => none
      | _, _ => none
    | _ => none
  | .makeMap _ none => some (.one (.m (some s.next)), (alloc s (.map [] 0)).2)
  | .makeChan t x => match E.ty.get t, evI tm x with
    | some ⟨_, _, .chan, _, _⟩, some (_, .ofNat n) => bif Nat.ble n lim then some (.one (.ch (some s.next)), (alloc s (.chan n [])).2) else none
    | _, _ => none
  | .makeSlice t l c => match E.ty.get t, evI tm l, evI tm c with
    | some ⟨_, _, .slice e, _, _⟩, some (_, .ofNat n), some (_, .ofNat m) => match E.ty.get e with
      | some te => bif Nat.ble n m && Nat.ble m lim then
          some (.one (.sl (some (s.next, 0)) n m false), (alloc s (.arr (m * te.size) (zeroOf te) .leaf e false)).2) else none
      | none => none
    | _, _, _ => none
  | .slice t x lo hi mx => ov (sliceOp E tm t x lo hi mx) s
  | .fieldAddr t x f => match E.ty.get t, evP tm x with
    | some ti, some (i, o) => match structFields ti.kind with
      | some fs => match fs[f]? with
        | some (off, sz, _) => bif Nat.beq sz 0 then none else some (.one (.p (some (i, o + off))), s)
        | none => none
      | none => none
    | _, _ => none
  | .field t x f => match E.ty.get t, ev tm x with
    | some ti, some (.agg cs) => match structFields ti.kind with
      | some fs => match fs[f]? with
        | some (off, sz, ag) => bif Nat.ble (off + sz) cs.length then ov (mkV ag ((cs.drop off).take sz)) s else none
        | none => none
      | none => none
    | _, _ => none
  | .indexAddr t x i => match symIdx E tm t x i with
    | some v => some (v, s)
    | none => idxOp E tm s t x i
  | .index t x i => match E.ty.get t, ev tm x, evI tm i with
    | some ⟨_, _, .arr n e, _, _⟩, some (.agg cs), some (_, .ofNat k) => match E.ty.get e with
      | some te => bif Nat.ble (k + 1) n && Nat.ble (k * te.size + te.size) cs.length then ov (mkV te.agg ((cs.drop (k * te.size)).take te.size)) s else none
      | _ => none
    | some ⟨_, _, .str, _, _⟩, some (.one (.s l)), some (_, .ofNat k) => match l[k]? with
      | some c => some (.one (.i .u8 (Int.ofNat (c % 256))), s)
      | none => none
    | _, _, _ => none
  | .lookup t x i ok => match E.ty.get t, ev tm x, evV E tm i with
    | some ⟨_, _, .map kt e, _, _⟩, some (.one (.m r)), some k =>
      match mapOf s r with
      | some es => match bif keyOk E kt k then findK k es else none with
        | some (some e) => bif ok then some (.tup [e.2.1, (false, [.b true])], s) else ov (toV e.2.1) s
        | some none => match E.ty.get e with
          | some te => bif ok then some (.tup [(te.agg, zeroCells te), (false, [.b false])], s) else ov (mkV te.agg (zeroCells te)) s
          | none => none
        | none => none
      | none => none
    | _, _, _ => none
  | .mapUpdate t x i v => match E.ty.get t, ev tm x, evV E tm i, evV E tm v with
    | some ⟨_, _, .map kt _, _, _⟩, some (.one (.m (some r))), some k, some v => match s.hp.get r with
      | some (.map es c) => match bif keyOk E kt k then findK k es else none with
        | some (some _) => some (undefV, { s with hp := s.hp.set r (.map (putK k v es) c) })
        | some none => some (undefV, { s with hp := s.hp.set r (.map (es ++ [(k, v, c)]) (c + 1)) })
        | none => none
      | _ => none
    | _, _, _, _ => none
  | .mapEntry t x i => match E.ty.get t, ev tm x, evV E tm i with
    | some ⟨_, _, .map kt e, _, _⟩, some (.one (.m (some r))), some k => match s.hp.get r, E.ty.get e with
      | some (.map es c), some te => match bif keyOk E kt k then findK k es else none with
        | some (some e) => some (.tup [e.2.1, (false, [.i .i64 e.2.2])], { s with hp := s.hp.set r (.map (putK k e.2.1 es) c) })
        | some none => some (.tup [(te.agg, zeroCells te), (false, [.i .i64 c])], { s with hp := s.hp.set r (.map (es ++ [(k, (te.agg, zeroCells te), c)]) (c + 1)) })
        | none => none
      | _, _ => none
    | _, _, _ => none
  | .entryStore _ x st v => match ev tm x, evI tm st, evV E tm v with
    | some (.one (.m (some r))), some (_, .ofNat b), some v => match s.hp.get r with
      | some (.map es c) => match putB b v es with
        | some es => some (undefV, { s with hp := s.hp.set r (.map es c) })
        | none => none
      | _ => none
    | _, _, _ => none
  | .extract x i => match ev tm x with
    | some (.tup l) => match l[i]? with
      | some v => ov (toV v) s
      | none => none
    | _ => none
  | .call c => match c.callee with
    | .builtin b => builtinOp E tm s b c.argTypes.toList c.args.toList
    | .value f => match ev tm f, evs tm c.args.toList with
      | some (.one (.fn g first cap)), some args => cf g (first.map (fun a => .one (.p (some a))) ++ args ++ cap.map (fun a => .one (.p (some a)))) s
      | _, _ => none
    | _ => none
  | _ => none

def put (tm : Tm) (d : Option Nat) (v : AV) : Tm := match d with | some d => tm.set d v | none => tm

/-- is an operation done? (nothing: the guard's value cannot be told) -/
def wanted (tm : Tm) (ops : Array Oper) (o : Oper) : Option Bool :=
  match o.guard with
  | none => some true
  | some (j, w) => match ops[j]? with
    | some q => match q.dst with
      | some d => match tm.get d with
        | some (.one (.b x)) => some (x == w)
        | some (.zag _) => none
        | _ => some false
      | none => some false
    | none => some false

def runOps (E : Env) (cf : CF) (ops : Array Oper) : List Oper → Tm → St → Option (Tm × St)
  | [], tm, s => some (tm, s)
  | o :: r, tm, s => match wanted tm ops o with
    | some true => (match doOp E cf tm s o with
       | some (v, s) => runOps E cf ops r (put tm o.dst v) s
       | none => none)
    | some false => runOps E cf ops r (put tm o.dst undefV) s
    | none => none

inductive Ex where | norm | brk (id : Nat) | ret

def iter (f : Tm → St → Option (Ex × Tm × St)) : Nat → Tm → St → Option (Ex × Tm × St)
  | 0, _, _ => none
  | n + 1, tm, s => match f tm s with
    | some (.norm, tm, s) => iter f n tm s
    | r => r

/-- is an operation one that changes what is there, or runs code? -/
def isE : Op → Bool
  | .store .. | .mapUpdate .. | .mapEntry .. | .entryStore .. => true
  | .call c => match c.callee with
    | .builtin .len | .builtin .cap | .builtin .min | .builtin .max => false
    | _ => true
  | _ => false

/-- the states ahead of each operation that changes something, and the last one -/
def runOpsT (E : Env) (cf : CF) (ops : Array Oper) : List Nat → Tm → St → Option (Tm × St × List St)
  | [], tm, s => some (tm, s, [s])
  | i :: r, tm, s => match ops[i]? with
    | none => none
    | some o => match wanted tm ops o with
      | some true => (match doOp E cf tm s o with
         | some (v, s') => bif Nat.ble s.next s'.next then (match runOpsT E cf ops r (put tm o.dst v) s' with
           | some (tm', s'', l) => some (tm', s'', bif isE o.op then s :: l else l)
           | none => none) else none
         | none => none)
      | some false => (match runOpsT E cf ops r (put tm o.dst undefV) s with
        | some (tm', s'', l) => some (tm', s'', bif isE o.op then s :: l else l)
        | none => none)
      | none => none

/-- reads that may come at several places among the changes read the same at each -/
def freeOk (E : Env) (cf : CF) (ops : Array Oper) (tm : Tm) (l : List St) : List (Nat × Nat × Nat) → Bool
  | [] => true
  | (i, lo, hi) :: r => (match ops[i]? with
      | some o => (match wanted tm ops o with
          | some true => (match o.dst with
           | some d => (List.range (hi + 1)).all fun k => Nat.ble (k + 1) lo || (match l[k]? with
              | some s => (match doOp E cf tm s o, tm.get d with
                | some (v, _), some v' => decide (v = v')
                | _, _ => false)
              | none => false)
           | none => false)
          | some false => true
          | none => false)
      | none => false) && freeOk E cf ops tm l r

def runDraw (E : Env) (cf : CF) (ops : Array Oper) (d : Dr) (tm : Tm) (s : St) : Option (Tm × St) :=
  match runOpsT E cf ops d.order tm s with
  | some (tm', s', l) => bif freeOk E cf ops tm' l d.free then some (tm', s') else none
  | none => none

def exec (E : Env) (cf : CF) (fr : PT Dr) (fuel : Nat) : Code → Tm → St → Option (Ex × Tm × St)
  | .skip, tm, s => some (.norm, tm, s)
  | .label _, tm, s => some (.norm, tm, s)
  | .region id ops draw, tm, s =>
    match (bif draw then (match fr.get id with | some d => runDraw E cf ops d tm s | none => none) else runOps E cf ops ops.toList tm s) with
    | some (tm, s) => some (.norm, tm, s)
    | none => none
  | .seq a b, tm, s => match exec E cf fr fuel a tm s with
    | some (.norm, tm, s) => exec E cf fr fuel b tm s
    | r => r
  | .cond c a b, tm, s => match evB tm c with
    | some true => exec E cf fr fuel a tm s
    | some false => exec E cf fr fuel b tm s
    | none => none
  | .block id b, tm, s => match exec E cf fr fuel b tm s with
    | some (.brk j, tm, s) => bif Nat.beq j id then some (.norm, tm, s) else some (.brk j, tm, s)
    | r => r
  | .loop b, tm, s => iter (exec E cf fr fuel b) fuel tm s
  | .exit id, tm, s => some (.brk id, tm, s)
  | .scope b, tm, s => exec E cf fr fuel b tm s
  | .ret, tm, s => some (.ret, tm, s)
  | _, _, _ => none

def tmOf : Nat → List AV → Tm → Tm
  | _, [], t => t
  | k, v :: r, t => tmOf (k + 1) r (t.set k v)

def resOf (E : Env) (tm : Tm) (s : St) : List ResultVar → Option (List Vv)
  | [] => some []
  | .tmp t :: r => match ev tm (.tmp t), resOf E tm s r with
    | some v, some l => match ofV E v with | some v => some (v :: l) | none => none
    | _, _ => none
  | .cell a t :: r => match evP tm (.tmp a), E.ty.get t, resOf E tm s r with
    | some a, some ti, some l => match ldCells s a ti.size with
      | some cs => bif ti.agg || Nat.beq cs.length 1 then some ((ti.agg, cs) :: l) else none
      | none => none
    | _, _, _ => none

def freeOf (E : Env) (f : Nat) : PT Dr := match E.free.get f with | some t => t | none => .leaf

def call (E : Env) (fuel : Nat) : Nat → CF
  | 0, _, _, _ => none
  | d + 1, f, args, s =>
    match E.intr.get f with
    | some F => F args s
    | none => match E.fns.get f with
      | none => none
      | some fn => match fn.body with
        | none => none
        | some c => match exec E (call E fuel d) (freeOf E f) fuel c (tmOf 0 args .leaf) s with
          | some (.brk _, _, _) => none
          | some (_, tm, s) => match resOf E tm s fn.results.toList with
            | some [v] => ov (toV v) s
            | some l => some (.tup l, s)
            | none => none
          | none => none

end Go.Mx
