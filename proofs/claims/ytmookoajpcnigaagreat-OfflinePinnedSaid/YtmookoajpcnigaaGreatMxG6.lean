/- A part of the abstract interpreter: a step on the way to the statement. -/
import Derived.Test.YtmookoajpcnigaaGreatMxG5
set_option linter.unusedVariables false
set_option linter.unusedSimpArgs false
namespace Go.Mx
open Go

noncomputable def nthO (l : List Oper) : Nat → Option Oper := @List.rec Oper (fun _ => Nat → Option Oper) (fun _ => none) (fun a _ ih n => @Nat.rec (fun _ => Option Oper) (some a) (fun m _ => ih m) n) l
theorem nthO_eq : ∀ (l : List Oper) (n : Nat), nthO l n = l[n]? := by
  intro l
  induction l with
  | nil => intro n; rfl
  | cons a r ih => intro n; cases n with | zero => rfl | succ m => show nthO r m = _; rw [ih]; simp

noncomputable def putF (tm : Tm) (d : Option Nat) (v : AV) : Tm := match d with | some d => PT.u tm v d | none => tm
theorem putF_eq (tm : Tm) (d : Option Nat) (v : AV) : putF tm d v = put tm d v := by cases d <;> simp only [putF, put, PT.u_eq]

noncomputable def wantG (tm : Tm) (ops : List Oper) (p : Nat × Bool) : Option Bool :=
  match nthO ops p.1 with
  | some q => match q.dst with
    | some d => match PT.g tm d with
      | some (.one (.b x)) => some (@Bool.rec (fun _ => Bool) (not p.2) p.2 x)
      | some (.zag _) => none
      | _ => some false
    | none => some false
  | none => some false
noncomputable def wantF (tm : Tm) (ops : List Oper) (o : Oper) : Option Bool :=
  match o.guard with
  | none => some true
  | some p => wantG tm ops p
theorem wantF_eq (tm : Tm) (ops : Array Oper) (o : Oper) : wantF tm ops.toList o = wanted tm ops o := by
  unfold wantF wanted
  cases o.guard with
  | none => rfl
  | some p =>
    obtain ⟨j, w⟩ := p
    simp only [wantG, nthO_eq, PT.g_eq]
    rw [Array.getElem?_toList]
    cases ops[j]? with
    | none => rfl
    | some q =>
      simp only
      cases q.dst with
      | none => rfl
      | some d =>
        simp only
        cases tm.get d with
        | none => rfl
        | some v =>
          cases v with
          | one c => cases c with
            | b x => cases x <;> cases w <;> rfl
            | _ => rfl
          | _ => rfl

inductive RT where
  | no
  | ok (tm : Tm) (s : St)
def RT.out : RT → Option (Tm × St)
  | .no => none
  | .ok tm s => some (tm, s)
noncomputable def doneF (r : RV) (d : Option Nat) (tm : Tm) (k : Tm → St → RT) : RT :=
  @RV.rec (fun _ => RT) .no (fun v s => k (putF tm d v) s) r
noncomputable def oneF (E : Env) (cf : CF) (ops : List Oper) (o : Oper) (tm : Tm) (s : St) (k : Tm → St → RT) : RT :=
  @Option.rec Bool (fun _ => RT) .no (fun b => @Bool.rec (fun _ => RT) (k (putF tm o.dst undefV) s) (doneF (opG E cf tm s o) o.dst tm k) b) (wantF tm ops o)
noncomputable def runF (E : Env) (cf : CF) (ops : List Oper) (l : List Oper) : Tm → St → RT :=
  @List.rec Oper (fun _ => Tm → St → RT) (fun tm s => .ok tm s) (fun o _ ih tm s => oneF E cf ops o tm s ih) l
theorem runF_eq (E : Env) (cf : CF) (ops : Array Oper) : ∀ (l : List Oper) (tm : Tm) (s : St), (runF E cf ops.toList l tm s).out = runOps E cf ops l tm s := by
  intro l
  induction l with
  | nil => intro tm s; rfl
  | cons o r ih =>
    intro tm s
    show (oneF E cf ops.toList o tm s (runF E cf ops.toList r)).out = _
    simp only [oneF, runOps, wantF_eq, doneF, putF_eq, ← opG_out]
    cases wanted tm ops o with
    | none => rfl
    | some b => cases b with
      | false => exact ih _ _
      | true =>
        simp only
        cases opG E cf tm s o with
        | no => rfl
        | ok v s' => exact ih _ _

inductive R3 where
  | no
  | ok (tm : Tm) (s : St) (l : List St)
def R3.out : R3 → Option (Tm × St × List St)
  | .no => none
  | .ok tm s l => some (tm, s, l)
noncomputable def eC (c : Call) : Bool := @Callee.rec (fun _ => Bool) (fun _ => true) (fun _ _ => true) (fun b => @Builtin.rec (fun _ => Bool) true false true true true true true true false true false false true true true true true true true true true true true true true true b) c.callee
noncomputable def eF (op : Op) : Bool :=
  @Op.rec (fun _ => Bool) (fun _ => false) (fun _ => false) (fun _ _ _ => false) (fun _ => false) (fun _ _ => false) (fun _ _ => false) (fun _ _ _ => false) (fun _ _ _ _ => false) (fun _ _ => false) (fun _ _ _ => true)
    (fun _ => false) (fun _ => false) (fun _ => false) (fun _ _ _ _ _ => false) (fun _ _ _ => false) (fun _ _ _ => false) (fun _ _ => false) (fun _ _ => false) (fun _ _ _ => false) (fun _ _ => false) (fun _ _ => false) (fun _ _ _ => false) (fun _ _ _ _ _ => false)
    (fun _ _ _ => false) (fun _ _ _ => false) (fun _ _ _ => false) (fun _ _ _ => false) (fun _ _ _ _ => false) (fun _ _ _ _ => true) (fun _ _ _ => true) (fun _ _ _ _ => true) (fun _ _ => false) (fun _ _ => false) (fun _ => false) (fun _ _ _ _ => false) (fun _ _ => false) eC
    (fun _ => false) (fun _ => false) (fun _ => false) (fun _ _ => false) (fun _ _ _ => false) (fun _ _ => false) op
theorem eF_eq (op : Op) : eF op = isE op := by
  cases op with
  | call c =>
    show eC c = isE (.call c)
    obtain ⟨cl, as, ts⟩ := c
    cases cl with
    | builtin b => cases b <;> rfl
    | _ => rfl
  | _ => rfl
noncomputable def consT (op : Op) (s : St) (r : R3) : R3 := @R3.rec (fun _ => R3) .no (fun tm s' l => .ok tm s' (@Bool.rec (fun _ => List St) l (s :: l) (eF op))) r
noncomputable def doneT (r : RV) (o : Oper) (s : St) (tm : Tm) (k : Tm → St → R3) : R3 :=
  @RV.rec (fun _ => R3) .no (fun v s' => @Bool.rec (fun _ => R3) .no (consT o.op s (k (putF tm o.dst v) s')) (Nat.ble s.next s'.next)) r
noncomputable def oneT (E : Env) (cf : CF) (ops : List Oper) (i : Nat) (tm : Tm) (s : St) (k : Tm → St → R3) : R3 :=
  @Option.rec Oper (fun _ => R3) .no (fun o => @Option.rec Bool (fun _ => R3) .no (fun b => @Bool.rec (fun _ => R3) (consT o.op s (k (putF tm o.dst undefV) s)) (doneT (opG E cf tm s o) o s tm k) b) (wantF tm ops o)) (nthO ops i)
noncomputable def runT (E : Env) (cf : CF) (ops : List Oper) (l : List Nat) : Tm → St → R3 :=
  @List.rec Nat (fun _ => Tm → St → R3) (fun tm s => .ok tm s [s]) (fun i _ ih tm s => oneT E cf ops i tm s ih) l
theorem runT_eq (E : Env) (cf : CF) (ops : Array Oper) : ∀ (l : List Nat) (tm : Tm) (s : St), (runT E cf ops.toList l tm s).out = runOpsT E cf ops l tm s := by
  intro l
  induction l with
  | nil => intro tm s; rfl
  | cons i r ih =>
    intro tm s
    show (oneT E cf ops.toList i tm s (runT E cf ops.toList r)).out = _
    have hc : ∀ (op : Op) (s : St) (x : R3), (consT op s x).out = (match x.out with | some (tm', s'', l) => some (tm', s'', bif isE op then s :: l else l) | none => none) := fun op s x => by
      cases x with
      | no => rfl
      | ok tm' s' l => unfold consT; simp only [eF_eq]; cases isE op <;> rfl
    simp only [oneT, runOpsT, wantF_eq, doneT, putF_eq, nthO_eq, ← opG_out]
    rw [Array.getElem?_toList]
    cases ops[i]? with
    | none => rfl
    | some o =>
      simp only
      cases wanted tm ops o with
      | none => rfl
      | some b => cases b with
        | false => simp only; rw [hc, ih]; rfl
        | true =>
          simp only
          cases opG E cf tm s o with
          | no => rfl
          | ok v s' =>
            simp only [RV.out]
            cases Nat.ble s.next s'.next with
            | false => rfl
            | true => simp only [cond_true]; rw [hc, ih]; rfl

noncomputable def freeF (E : Env) (cf : CF) (ops : Array Oper) (tm : Tm) (l : List St) (fr : List (Nat × Nat × Nat)) : Bool :=
  @List.rec (Nat × Nat × Nat) (fun _ => Bool) true (fun _ _ _ => freeOk E cf ops tm l fr) fr
theorem freeF_eq (E : Env) (cf : CF) (ops : Array Oper) (tm : Tm) (l : List St) (fr : List (Nat × Nat × Nat)) : freeF E cf ops tm l fr = freeOk E cf ops tm l fr := by
  cases fr <;> rfl

noncomputable def drawF (E : Env) (cf : CF) (ops : Array Oper) (d : Dr) (tm : Tm) (s : St) : RT :=
  @R3.rec (fun _ => RT) .no (fun tm s l => @Bool.rec (fun _ => RT) .no (.ok tm s) (freeF E cf ops tm l d.free)) (runT E cf ops.toList d.order tm s)
theorem drawF_eq (E : Env) (cf : CF) (ops : Array Oper) (d : Dr) (tm : Tm) (s : St) : (drawF E cf ops d tm s).out = runDraw E cf ops d tm s := by
  simp only [drawF, runDraw, ← runT_eq, freeF_eq]
  cases runT E cf ops.toList d.order tm s with
  | no => rfl
  | ok tm' s' l => simp only [R3.out]; cases freeOk E cf ops tm' l d.free <;> rfl

inductive RX where
  | no
  | norm (tm : Tm) (s : St)
  | brk (id : Nat) (tm : Tm) (s : St)
  | ret (tm : Tm) (s : St)
def RX.out : RX → Option (Ex × Tm × St)
  | .no => none
  | .norm tm s => some (.norm, tm, s)
  | .brk id tm s => some (.brk id, tm, s)
  | .ret tm s => some (.ret, tm, s)

noncomputable def normF (r : RT) : RX := @RT.rec (fun _ => RX) .no (fun tm s => .norm tm s) r
noncomputable def regF (E : Env) (cf : CF) (fr : PT Dr) (id : Nat) (ops : Array Oper) (draw : Bool) (tm : Tm) (s : St) : RX :=
  @Bool.rec (fun _ => RX) (normF (runF E cf ops.toList ops.toList tm s)) (@Option.rec Dr (fun _ => RX) .no (fun d => normF (drawF E cf ops d tm s)) (PT.g fr id)) draw
noncomputable def seqF (r : RX) (k : Tm → St → RX) : RX := @RX.rec (fun _ => RX) .no k (fun id tm s => .brk id tm s) (fun tm s => .ret tm s) r
noncomputable def condF (c : Option Bool) (a b : RX) : RX := @Option.rec Bool (fun _ => RX) .no (fun v => @Bool.rec (fun _ => RX) b a v) c
noncomputable def blockF (id : Nat) (r : RX) : RX := @RX.rec (fun _ => RX) .no (fun tm s => .norm tm s) (fun j tm s => @Bool.rec (fun _ => RX) (.brk j tm s) (.norm tm s) (Nat.beq j id)) (fun tm s => .ret tm s) r
noncomputable def iterF (f : Tm → St → RX) (n : Nat) : Tm → St → RX := @Nat.rec (fun _ => Tm → St → RX) (fun _ _ => .no) (fun _ ih tm s => seqF (f tm s) ih) n

noncomputable def execF (E : Env) (cf : CF) (fr : PT Dr) (fuel : Nat) (c : Code) : Tm → St → RX :=
  @Code.rec (fun _ => Tm → St → RX)
    (fun tm s => .norm tm s)
    (fun id ops draw tm s => regF E cf fr id ops draw tm s)
    (fun _ _ ia ib tm s => seqF (ia tm s) ib)
    (fun c _ _ ia ib tm s => condF (evBG tm c) (ia tm s) (ib tm s))
    (fun id _ ib tm s => blockF id (ib tm s))
    (fun _ ib tm s => iterF ib fuel tm s)
    (fun _ _ _ _ _ _ _ _ => .no)
    (fun id tm s => .brk id tm s)
    (fun _ ib tm s => ib tm s)
    (fun _ tm s => .norm tm s)
    (fun _ _ _ => .no)
    (fun tm s => .ret tm s)
    (fun _ _ _ => .no) c

theorem iterF_eq (f : Tm → St → RX) (g : Tm → St → Option (Ex × Tm × St)) (h : ∀ tm s, (f tm s).out = g tm s) : ∀ n tm s, (iterF f n tm s).out = iter g n tm s := by
  intro n
  induction n with
  | zero => intro tm s; rfl
  | succ n ih =>
    intro tm s
    show (seqF (f tm s) (iterF f n)).out = _
    simp only [iter, ← h]
    cases f tm s with
    | norm tm s => exact ih tm s
    | _ => rfl

theorem execF_eq (E : Env) (cf : CF) (fr : PT Dr) (fuel : Nat) : ∀ (c : Code) (tm : Tm) (s : St), (execF E cf fr fuel c tm s).out = exec E cf fr fuel c tm s := by
  intro c
  induction c with
  | skip => intro tm s; rfl
  | label l => intro tm s; rfl
  | exit id => intro tm s; rfl
  | ret => intro tm s; rfl
  | goto l => intro tm s; rfl
  | refuse w => intro tm s; rfl
  | rangeFunc f p a b iha ihb => intro tm s; rfl
  | region id ops draw =>
    intro tm s
    show (regF E cf fr id ops draw tm s).out = _
    simp only [regF, exec, ← runF_eq, PT.g_eq]
    cases draw with
    | false =>
      simp only [cond_false]
      cases runF E cf ops.toList ops.toList tm s <;> rfl
    | true =>
      simp only [cond_true]
      cases fr.get id with
      | none => rfl
      | some d =>
        simp only [← drawF_eq]
        cases drawF E cf ops d tm s <;> rfl
  | seq a b iha ihb =>
    intro tm s
    show (seqF (execF E cf fr fuel a tm s) (execF E cf fr fuel b)).out = _
    simp only [exec, ← iha]
    cases execF E cf fr fuel a tm s with
    | norm tm s => exact ihb tm s
    | _ => rfl
  | cond c a b iha ihb =>
    intro tm s
    show (condF (evBG tm c) (execF E cf fr fuel a tm s) (execF E cf fr fuel b tm s)).out = _
    simp only [exec, evBG_eq, ← iha, ← ihb]
    cases evB tm c with
    | none => rfl
    | some v => cases v <;> rfl
  | block id b ih =>
    intro tm s
    show (blockF id (execF E cf fr fuel b tm s)).out = _
    simp only [exec, ← ih]
    cases execF E cf fr fuel b tm s with
    | brk j tm s =>
      simp only [blockF, RX.out]
      cases Nat.beq j id <;> rfl
    | _ => rfl
  | loop b ih =>
    intro tm s
    show (iterF (execF E cf fr fuel b) fuel tm s).out = _
    exact iterF_eq _ _ ih fuel tm s
  | scope b ih => intro tm s; exact ih tm s

noncomputable def tmOfF (l : List AV) : Tm → Nat → Tm := @List.rec AV (fun _ => Tm → Nat → Tm) (fun t _ => t) (fun v _ ih t k => ih (PT.u t v k) (Nat.succ k)) l
theorem tmOfF_eq : ∀ (l : List AV) (t : Tm) (k : Nat), tmOfF l t k = tmOf k l t := by
  intro l
  induction l with
  | nil => intro t k; rfl
  | cons v r ih => intro t k; show tmOfF r (PT.u t v k) (k + 1) = _; rw [ih, PT.u_eq]; rfl

noncomputable def resF (E : Env) (tm : Tm) (s : St) (l : List ResultVar) : Option (List Vv) :=
  @List.rec ResultVar (fun _ => Option (List Vv)) (some []) (fun r _ ih =>
    match r with
    | .tmp t => (match evG tm (.tmp t) with
      | some v => (match ih with
        | some l => (match avV E v with | some v => some (v :: l) | none => none)
        | none => none)
      | none => none)
    | .cell a t => (match evPG tm (.tmp a) with
      | some a => (match tyF E t with
        | some ti => (match ih with
          | some l => (match ldG s a ti.size with
            | some cs => iteF (or ti.agg (Nat.beq (lenF cs) 1)) (some ((ti.agg, cs) :: l)) none
            | none => none)
          | none => none)
        | none => none)
      | none => none)) l
theorem resF_eq (E : Env) (tm : Tm) (s : St) : ∀ l, resF E tm s l = resOf E tm s l := by
  intro l
  induction l with
  | nil => rfl
  | cons r l ih =>
    cases r with
    | tmp t =>
      show (match evG tm (.tmp t) with | some v => (match resF E tm s l with | some l => (match avV E v with | some v => some (v :: l) | none => none) | none => none) | none => none) = _
      simp only [ih, evG_eq, avV_eq, resOf]
      cases ev tm (.tmp t) <;> cases resOf E tm s l <;> rfl
    | cell a t =>
      show (match evPG tm (.tmp a) with
      | some a => (match tyF E t with
        | some ti => (match resF E tm s l with
          | some l => (match ldG s a ti.size with
            | some cs => iteF (or ti.agg (Nat.beq (lenF cs) 1)) (some ((ti.agg, cs) :: l)) none
            | none => none)
          | none => none)
        | none => none)
      | none => none) = _
      simp only [ih, evPG_eq, tyF_eq, ldG_eq, iteF_eq, lenF_eq, resOf]
      cases evP tm (.tmp a) <;> cases E.ty.get t <;> cases resOf E tm s l <;> rfl

noncomputable def retF (E : Env) (fn : Func) (tm : Tm) (s : St) : Option (AV × St) :=
  match resF E tm s fn.results.toList with
  | some l => match l with
    | [v] => ov (boxG v.1 v.2) s
    | l => some (.tup l, s)
  | none => none
noncomputable def endF (E : Env) (fn : Func) (r : RX) : Option (AV × St) :=
  match r with
  | .no => none
  | .norm tm s => retF E fn tm s
  | .brk _ _ _ => none
  | .ret tm s => retF E fn tm s

noncomputable def goF (E : Env) (cf : CF) (fuel : Nat) (f : Nat) (args : List AV) (s : St) : Option (AV × St) :=
  match PT.g E.intr f with
  | some F => F args s
  | none => match PT.g E.fns f with
    | none => none
    | some fn => match fn.body with
      | none => none
      | some c => endF E fn (execF E cf (match PT.g E.free f with | some t => t | none => .leaf) fuel c (tmOfF args .leaf 0) s)

noncomputable def callF (E : Env) (fuel : Nat) (d : Nat) : CF :=
  @Nat.rec (fun _ => CF) (fun _ _ _ => none) (fun _ ih f args s => goF E ih fuel f args s) d

theorem callF_eq (E : Env) (fuel : Nat) : ∀ d, callF E fuel d = call E fuel d := by
  intro d
  induction d with
  | zero => rfl
  | succ d ih =>
    funext f args s
    show goF E (callF E fuel d) fuel f args s = _
    rw [ih]
    simp only [goF, call, PT.g_eq, tmOfF_eq, freeOf]
    cases E.intr.get f with
    | some F => rfl
    | none =>
      simp only
      cases E.fns.get f with
      | none => rfl
      | some fn =>
        simp only
        cases fn.body with
        | none => rfl
        | some c =>
          simp only
          rw [← execF_eq]
          have hr : ∀ tm s, retF E fn tm s = (match resOf E tm s fn.results.toList with
            | some [v] => ov (toV v) s
            | some l => some (.tup l, s)
            | none => none) := fun tm s => by
            simp only [retF, resF_eq, boxG_eq]
            cases resOf E tm s fn.results.toList with
            | none => rfl
            | some l => match l with
              | [] => rfl
              | [v] => rfl
              | _ :: _ :: _ => rfl
          cases execF E (call E fuel d) (match E.free.get f with | some t => t | none => .leaf) fuel c (tmOf 0 args .leaf) s with
          | no => rfl
          | norm tm s => exact hr tm s
          | brk id tm s => rfl
          | ret tm s => exact hr tm s
end Go.Mx
