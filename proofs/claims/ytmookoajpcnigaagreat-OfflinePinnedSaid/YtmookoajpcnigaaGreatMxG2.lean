/- The operations. -/
import Derived.Test.YtmookoajpcnigaaGreatMxG1
set_option linter.unusedVariables false
set_option linter.unusedSimpArgs false
namespace Go.Mx
open Go

noncomputable def boxG (b : Bool) (l : List Sc) : Option AV := @Bool.rec (fun _ => Option AV) (@List.rec Sc (fun _ => Option AV) none (fun c r _ => @List.rec Sc (fun _ => Option AV) (some (.one c)) (fun _ _ _ => none) r) l) (some (.agg l)) b
theorem boxG_eq (b : Bool) (l : List Sc) : boxG b l = mkV b l := by
  cases b with
  | true => rfl
  | false => match l with
    | [] => rfl
    | [c] => rfl
    | _ :: _ :: _ => rfl

/- memory -/
noncomputable def aoLd (o : AO) (k c : Nat) : Option (List Sc) :=
  @AO.rec (fun _ => Option (List Sc)) (fun n z t _ _ => @Bool.rec (fun _ => Option (List Sc)) none (some (cellsVF z t k c)) (Nat.ble (Nat.add k c) n)) (fun n f => @Bool.rec (fun _ => Option (List Sc)) none (some (cellsRF f k c)) (Nat.ble (Nat.add k c) n)) (fun _ _ => none) (fun _ _ => none) (fun _ => none) o
noncomputable def ldG (s : St) (a : Nat × Nat) (c : Nat) : Option (List Sc) := @Option.rec AO (fun _ => Option (List Sc)) none (fun o => aoLd o a.2 c) (PT.g s.hp a.1)
theorem ldG_eq (s : St) (a : Nat × Nat) (c : Nat) : ldG s a c = ldCells s a c := by
  unfold ldG ldCells; rw [PT.g_eq]
  cases s.hp.get a.1 with
  | none => rfl
  | some o =>
    cases o with
    | arr n z t e op =>
      show @Bool.rec (fun _ => Option (List Sc)) none (some (cellsVF z t a.2 c)) (Nat.ble (a.2 + c) n) = bif Nat.ble (a.2 + c) n then some (cellsV z t a.2 c) else none
      rw [cellsVF_eq]; cases Nat.ble (a.2 + c) n <;> rfl
    | ro n f =>
      show @Bool.rec (fun _ => Option (List Sc)) none (some (cellsRF f a.2 c)) (Nat.ble (a.2 + c) n) = bif Nat.ble (a.2 + c) n then some (cellsR f a.2 c) else none
      rw [cellsRF_eq]; cases Nat.ble (a.2 + c) n <;> rfl
    | _ => rfl

noncomputable def aoSt (s : St) (i k : Nat) (vs : List Sc) (o : AO) : Option St :=
  @AO.rec (fun _ => Option St) (fun n z t e op => @Bool.rec (fun _ => Option St) none (some (upd s i (.arr n z (setCellsF vs t k) e op))) (Nat.ble (Nat.add k (lenF vs)) n)) (fun _ _ => none) (fun _ _ => none) (fun _ _ => none) (fun _ => none) o
noncomputable def stG (s : St) (a : Nat × Nat) (vs : List Sc) : Option St := @Option.rec AO (fun _ => Option St) none (aoSt s a.1 a.2 vs) (PT.g s.hp a.1)
theorem stG_eq (s : St) (a : Nat × Nat) (vs : List Sc) : stG s a vs = stCells s a vs := by
  unfold stG stCells; rw [PT.g_eq]
  cases s.hp.get a.1 with
  | none => rfl
  | some o =>
    cases o with
    | arr n z t e op =>
      show @Bool.rec (fun _ => Option St) none (some (upd s a.1 (.arr n z (setCellsF vs t a.2) e op))) (Nat.ble (a.2 + lenF vs) n) =
        bif Nat.ble (a.2 + vs.length) n then some { s with hp := s.hp.set a.1 (.arr n z (setCells t a.2 vs) e op) } else none
      rw [upd_eq, setCellsF_eq, lenF_eq]; cases Nat.ble (a.2 + vs.length) n <;> rfl
    | _ => rfl

noncomputable def newArr (s : St) (n : Nat) (z : Zr) (t : PT Sc) (e : Nat) (op : Bool) (v : AV) : RV := .ok v (allocF s (.arr n z t e op))
noncomputable def ptrV (i k : Nat) : AV := .one (.p (some (i, k)))
noncomputable def bool3 {α : Type} (b : Bool) (x y : α) : α := @Bool.rec (fun _ => α) y x b

noncomputable def newZag (E : Env) (s : St) (t : Nat) (ti : TI) (t' : Nat) : RV :=
  @Bool.rec (fun _ => RV) (rvOf (newVar E s t (.zag t'))) (newArr s ti.size (zeroOf ti) .leaf t false (ptrV s.next 0)) (Nat.beq t' t)
noncomputable def newCells (s : St) (t : Nat) (ti : TI) (cs : List Sc) : RV :=
  @Bool.rec (fun _ => RV) .no (newArr s ti.size (zeroOf ti) (setCellsF cs .leaf 0) t false (ptrV s.next 0)) (Nat.beq (lenF cs) ti.size)
noncomputable def newTi (E : Env) (s : St) (t : Nat) (v : AV) (ti : TI) : RV :=
  @AV.rec (fun _ => RV) (fun c => newCells s t ti [c]) (fun l => newCells s t ti l) (newZag E s t ti) (fun _ => .no) v
noncomputable def newG (E : Env) (s : St) (t : Nat) (v : AV) : RV := @Option.rec TI (fun _ => RV) .no (newTi E s t v) (tyF E t)
theorem newCells_out (E : Env) (s : St) (t : Nat) (ti : TI) (cs : List Sc) :
    (newCells s t ti cs).out = (bif Nat.beq cs.length ti.size then some (.one (.p (some (s.next, 0))), (alloc s (.arr ti.size (zeroOf ti) (setCells .leaf 0 cs) t false)).2) else none) := by
  unfold newCells newArr; rw [lenF_eq, allocF_eq, setCellsF_eq]; cases Nat.beq cs.length ti.size <;> rfl
theorem newG_out (E : Env) (s : St) (t : Nat) (v : AV) : (newG E s t v).out = newVar E s t v := by
  unfold newG; rw [tyF_eq]
  cases h : E.ty.get t with
  | none => simp only [newVar, h]; rfl
  | some ti =>
    show (newTi E s t v ti).out = _
    cases v with
    | zag t' =>
      show (newZag E s t ti t').out = _
      unfold newZag
      cases hb : Nat.beq t' t with
      | false => exact rvOf_out _
      | true => simp only [newArr, allocF_eq, newVar, h, hb, cond_true]; rfl
    | one c => show (newCells s t ti [c]).out = _; rw [newCells_out E]; simp only [newVar, h]; rfl
    | agg l => show (newCells s t ti l).out = _; rw [newCells_out E]; simp only [newVar, h]; rfl
    | tup l => simp only [newVar, h]; rfl

/- each operation: constructor's arguments, then the rest -/
noncomputable def oSlow (E : Env) (cf : CF) (tm : Tm) (s : St) (o : Oper) : RV := rvOf (doOp E cf tm s o)
noncomputable def oMove (x : Operand) (E : Env) (cf : CF) (tm : Tm) (s : St) (o : Oper) : RV := ovG (evG tm x) s
noncomputable def oPick (c a b : Operand) (E : Env) (cf : CF) (tm : Tm) (s : St) (o : Oper) : RV :=
  @Option.rec Bool (fun _ => RV) .no (fun v => ovG (@Bool.rec (fun _ => Option AV) (evG tm b) (evG tm a) v) s) (evBG tm c)
noncomputable def oAlloc (t : Nat) (E : Env) (cf : CF) (tm : Tm) (s : St) (o : Oper) : RV := newG E s t (.zag t)
noncomputable def oBox (t : Nat) (x : Operand) (E : Env) (cf : CF) (tm : Tm) (s : St) (o : Oper) : RV := @Option.rec AV (fun _ => RV) .no (newG E s t) (evG tm x)
noncomputable def ldDone (s : St) (ag : Bool) (r : Option (List Sc)) : RV := @Option.rec (List Sc) (fun _ => RV) .no (fun cs => ovG (boxG ag cs) s) r
noncomputable def ldTi (s : St) (a : Nat × Nat) (ti : TI) : RV := ldDone s ti.agg (ldG s a ti.size)
noncomputable def oLoad (t : Nat) (x : Operand) (E : Env) (cf : CF) (tm : Tm) (s : St) (o : Oper) : RV :=
  @Option.rec (Nat × Nat) (fun _ => RV) .no (fun a => @Option.rec TI (fun _ => RV) .no (ldTi s a) (tyF E t)) (evPG tm x)
noncomputable def stDone (r : Option St) : RV := @Option.rec St (fun _ => RV) .no (fun s => .ok undefV s) r
noncomputable def stTi (s : St) (a : Nat × Nat) (vs : List Sc) (ti : TI) : RV := @Bool.rec (fun _ => RV) .no (stDone (stG s a vs)) (Nat.beq (lenF vs) ti.size)
noncomputable def stA (E : Env) (s : St) (t : Nat) (a : Nat × Nat) (vs : List Sc) : RV := @Option.rec TI (fun _ => RV) .no (stTi s a vs) (tyF E t)
noncomputable def oStore (t : Nat) (x y : Operand) (E : Env) (cf : CF) (tm : Tm) (s : St) (o : Oper) : RV :=
  @Option.rec (Nat × Nat) (fun _ => RV) .no (fun a => @Option.rec (List Sc) (fun _ => RV) .no (stA E s t a) (evCG E tm y)) (evPG tm x)
noncomputable def scNil (c : Sc) : Bool :=
  @Sc.rec (fun _ => Bool) (fun _ => false) (fun _ _ => false) (fun _ => false) (fun a => @Option.rec (Nat × Nat) (fun _ => Bool) false (fun _ => true) a) (fun _ _ _ _ => false) (fun _ _ => false) (fun _ => false) (fun _ => false) (fun _ _ _ => true) false false (fun _ _ => false) (fun _ _ _ _ => false) (fun _ _ _ _ => false) (fun _ _ _ _ => false) (fun _ _ _ _ => false) c
noncomputable def avNil (v : AV) : Bool := @AV.rec (fun _ => Bool) scNil (fun _ => false) (fun _ => false) (fun _ => false) v
theorem avNil_eq (v : AV) : avNil v = nilOk v := by
  cases v with
  | one c => cases c with
    | p a => cases a <;> rfl
    | _ => rfl
  | _ => rfl
noncomputable def oNil (x : Operand) (E : Env) (cf : CF) (tm : Tm) (s : St) (o : Oper) : RV :=
  @Option.rec AV (fun _ => RV) .no (fun v => @Bool.rec (fun _ => RV) .no (.ok v s) (avNil v)) (evG tm x)
noncomputable def oBin (op : BinOp) (t : Nat) (x y : Operand) (yt : Nat) (E : Env) (cf : CF) (tm : Tm) (s : St) (o : Oper) : RV :=
  @Option.rec AV (fun _ => RV) .no (fun v => @Option.rec AV (fun _ => RV) .no (fun w => ovG (binG E op t v w) s) (evG tm y)) (evG tm x)
noncomputable def tkI (k : TK) : Option IntKind := @TK.rec (fun _ => Option IntKind) (fun k => some k) none none none (fun _ => none) (fun _ _ => none) (fun _ _ => none) (fun _ => none) none none none k
noncomputable def cvDone (E : Env) (cf : CF) (tm : Tm) (s : St) (o : Oper) (k : IntKind) (r : Option (IntKind × Int)) : RV :=
  @Option.rec (IntKind × Int) (fun _ => RV) (oSlow E cf tm s o) (fun p => .ok (.one (.i k (wrapF k p.2))) s) r
noncomputable def cvTi (x : Operand) (E : Env) (cf : CF) (tm : Tm) (s : St) (o : Oper) (ti : TI) : RV :=
  @Option.rec IntKind (fun _ => RV) (oSlow E cf tm s o) (fun k => cvDone E cf tm s o k (evIG tm x)) (tkI ti.kind)
noncomputable def oConv (src dst : Nat) (x : Operand) (E : Env) (cf : CF) (tm : Tm) (s : St) (o : Oper) : RV :=
  @Option.rec TI (fun _ => RV) (oSlow E cf tm s o) (fun _ => @Option.rec TI (fun _ => RV) (oSlow E cf tm s o) (cvTi x E cf tm s o) (tyF E dst)) (tyF E src)
noncomputable def tkS (k : TK) : Option (List (Nat × Nat × Bool)) := @TK.rec (fun _ => Option (List (Nat × Nat × Bool))) (fun _ => none) none none none (fun _ => none) (fun _ _ => none) (fun _ _ => none) (fun fs => some fs) none none none k
noncomputable def nthX (l : List (Nat × Nat × Bool)) : Nat → Option (Nat × Nat × Bool) := @List.rec (Nat × Nat × Bool) (fun _ => Nat → Option (Nat × Nat × Bool)) (fun _ => none) (fun a _ ih n => @Nat.rec (fun _ => Option (Nat × Nat × Bool)) (some a) (fun m _ => ih m) n) l
noncomputable def fldOf (E : Env) (t f : Nat) : Option (Nat × Nat × Bool) :=
  @Option.rec TI (fun _ => Option (Nat × Nat × Bool)) none (fun ti => @Option.rec (List (Nat × Nat × Bool)) (fun _ => Option (Nat × Nat × Bool)) none (fun fs => nthX fs f) (tkS ti.kind)) (tyF E t)
noncomputable def faDone (a : Nat × Nat) (s : St) (p : Nat × Nat × Bool) : RV := @Bool.rec (fun _ => RV) (.ok (.one (.p (some (a.1, Nat.add a.2 p.1)))) s) .no (Nat.beq p.2.1 0)
noncomputable def oFieldAddr (t : Nat) (x : Operand) (f : Nat) (E : Env) (cf : CF) (tm : Tm) (s : St) (o : Oper) : RV :=
  @Option.rec (Nat × Nat) (fun _ => RV) .no (fun a => @Option.rec (Nat × Nat × Bool) (fun _ => RV) .no (faDone a s) (fldOf E t f)) (evPG tm x)
noncomputable def takeG (l : List Sc) : Nat → List Sc := @List.rec Sc (fun _ => Nat → List Sc) (fun _ => []) (fun a _ ih n => @Nat.rec (fun _ => List Sc) [] (fun m _ => a :: ih m) n) l
noncomputable def dropG (n : Nat) : List Sc → List Sc := @Nat.rec (fun _ => List Sc → List Sc) (fun l => l) (fun _ ih l => @List.rec Sc (fun _ => List Sc) [] (fun _ r _ => ih r) l) n
noncomputable def cutDone (cs : List Sc) (s : St) (off sz : Nat) (ag : Bool) : RV :=
  @Bool.rec (fun _ => RV) .no (ovG (boxG ag (takeG (dropG off cs) sz)) s) (Nat.ble (Nat.add off sz) (lenF cs))
noncomputable def oField (t : Nat) (x : Operand) (f : Nat) (E : Env) (cf : CF) (tm : Tm) (s : St) (o : Oper) : RV :=
  @Option.rec AV (fun _ => RV) .no (fun v => @Option.rec (List Sc) (fun _ => RV) .no (fun cs => @Option.rec (Nat × Nat × Bool) (fun _ => RV) .no (fun p => cutDone cs s p.1 p.2.1 p.2.2) (fldOf E t f)) (avAgg v)) (evG tm x)
noncomputable def intN (n : Int) : Option Nat := @Int.rec (fun _ => Option Nat) (fun m => some m) (fun _ => none) n
noncomputable def avN (v : AV) : Option Nat := @Option.rec (IntKind × Int) (fun _ => Option Nat) none (fun p => intN p.2) (avI v)
noncomputable def evNG (tm : Tm) (o : Operand) : Option Nat := @Option.rec (IntKind × Int) (fun _ => Option Nat) none (fun p => intN p.2) (evIG tm o)
noncomputable def iaDone (E : Env) (s : St) (n e k : Nat) (a : Nat × Nat) : RV :=
  @Option.rec TI (fun _ => RV) .no (fun te => @Bool.rec (fun _ => RV) .no (.ok (.one (.p (some (a.1, Nat.add a.2 (Nat.mul k te.size))))) s) (Nat.ble (Nat.succ k) n)) (tyF E e)
noncomputable def scSl (c : Sc) : Option ((Nat × Nat) × Nat) :=
  @Sc.rec (fun _ => Option ((Nat × Nat) × Nat)) (fun _ => none) (fun _ _ => none) (fun _ => none) (fun a => none) (fun a n _ _ => @Option.rec (Nat × Nat) (fun _ => Option ((Nat × Nat) × Nat)) none (fun a => some (a, n)) a) (fun _ _ => none) (fun _ => none) (fun _ => none) (fun _ _ _ => none) none none (fun _ _ => none) (fun _ _ _ _ => none) (fun _ _ _ _ => none) (fun _ _ _ _ => none) (fun _ _ _ _ => none) c
noncomputable def iaSl (E : Env) (s : St) (k : Nat) (c : Sc) (e : Nat) : RV := @Option.rec ((Nat × Nat) × Nat) (fun _ => RV) .no (fun p => iaDone E s p.2 e k p.1) (scSl c)
noncomputable def iaArr (E : Env) (s : St) (k : Nat) (c : Sc) (n e : Nat) : RV := @Option.rec (Nat × Nat) (fun _ => RV) .no (fun a => iaDone E s n e k a) (scP c)
noncomputable def iaK (E : Env) (s : St) (k : Nat) (c : Sc) (kd : TK) : RV := @TK.rec (fun _ => RV) (fun _ => .no) .no .no .no (iaSl E s k c) (iaArr E s k c) (fun _ _ => .no) (fun _ => .no) .no .no .no kd
noncomputable def fIndexAddr (t : Nat) (x i : Operand) (E : Env) (tm : Tm) (s : St) : RV :=
  @Option.rec AV (fun _ => RV) .no (fun v => @Option.rec Sc (fun _ => RV) .no (fun c => @Option.rec Nat (fun _ => RV) .no (fun k => @Option.rec TI (fun _ => RV) .no (fun ti => iaK E s k c ti.kind) (tyF E t)) (evNG tm i)) (avOne v)) (evG tm x)
noncomputable def oIndexAddr (t : Nat) (x i : Operand) (E : Env) (cf : CF) (tm : Tm) (s : St) (o : Oper) : RV :=
  @RV.rec (fun _ => RV) (oSlow E cf tm s o) (fun v s' => .ok v s') (fIndexAddr t x i E tm s)
noncomputable def nthV (l : List Vv) : Nat → Option Vv := @List.rec Vv (fun _ => Nat → Option Vv) (fun _ => none) (fun a _ ih n => @Nat.rec (fun _ => Option Vv) (some a) (fun m _ => ih m) n) l
noncomputable def oExtract (x : Operand) (i : Nat) (E : Env) (cf : CF) (tm : Tm) (s : St) (o : Oper) : RV :=
  @Option.rec AV (fun _ => RV) .no (fun v => @Option.rec (List Vv) (fun _ => RV) .no (fun l => @Option.rec Vv (fun _ => RV) .no (fun u => ovG (boxG u.1 u.2) s) (nthV l i)) (avTup v)) (evG tm x)
noncomputable def evsG (tm : Tm) (l : List Operand) : Option (List AV) :=
  @List.rec Operand (fun _ => Option (List AV)) (some []) (fun x _ ih => @Option.rec AV (fun _ => Option (List AV)) none (fun v => @Option.rec (List AV) (fun _ => Option (List AV)) none (fun l => some (v :: l)) ih) (evG tm x)) l
noncomputable def ptrL (l : List (Nat × Nat)) : List AV := @List.rec (Nat × Nat) (fun _ => List AV) [] (fun a _ ih => .one (.p (some a)) :: ih) l
noncomputable def appL (l m : List AV) : List AV := @List.rec AV (fun _ => List AV) m (fun a _ ih => a :: ih) l
noncomputable def fnGo (cf : CF) (s : St) (args : List AV) (g : Nat) (first cap : List (Nat × Nat)) : RV := rvOf (cf g (appL (ptrL first) (appL args (ptrL cap))) s)
noncomputable def scFn (cf : CF) (s : St) (args : List AV) (c : Sc) : RV :=
  @Sc.rec (fun _ => RV) (fun _ => .no) (fun _ _ => .no) (fun _ => .no) (fun _ => .no) (fun _ _ _ _ => .no) (fun _ _ => .no) (fun _ => .no) (fun _ => .no) (fnGo cf s args) .no .no (fun _ _ => .no) (fun _ _ _ _ => .no) (fun _ _ _ _ => .no) (fun _ _ _ _ => .no) (fun _ _ _ _ => .no) c
noncomputable def avFn (cf : CF) (s : St) (args : List AV) (v : AV) : RV := @AV.rec (fun _ => RV) (scFn cf s args) (fun _ => .no) (fun _ => .no) (fun _ => .no) v
noncomputable def clVal (f : Operand) (E : Env) (cf : CF) (tm : Tm) (s : St) (o : Oper) (c : Call) : RV :=
  @Option.rec (List AV) (fun _ => RV) .no (fun args => @Option.rec AV (fun _ => RV) .no (avFn cf s args) (evG tm f)) (evsG tm c.args.toList)
noncomputable def clInv (r : Operand) (m : String) (E : Env) (cf : CF) (tm : Tm) (s : St) (o : Oper) (c : Call) : RV := .no
end Go.Mx
