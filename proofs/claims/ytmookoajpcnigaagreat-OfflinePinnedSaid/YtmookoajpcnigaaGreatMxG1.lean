/- The abstract interpreter once more, so that the kernel runs it fast: values and operations. -/
import Derived.Test.YtmookoajpcnigaaGreatMxFA
set_option linter.unusedVariables false
set_option linter.unusedSimpArgs false
namespace Go.Mx
open Go

/-- what an operation answers -/
inductive RV where
  | no
  | ok (v : AV) (s : St)
def RV.out : RV → Option (AV × St)
  | .no => none
  | .ok v s => some (v, s)
noncomputable def rvOf (r : Option (AV × St)) : RV := @Option.rec (AV × St) (fun _ => RV) .no (fun p => .ok p.1 p.2) r
theorem rvOf_out (r : Option (AV × St)) : (rvOf r).out = r := by cases r <;> rfl
noncomputable def ovG (r : Option AV) (s : St) : RV := @Option.rec AV (fun _ => RV) .no (fun v => .ok v s) r
theorem ovG_out (r : Option AV) (s : St) : (ovG r s).out = ov r s := by cases r <;> rfl

/- operands -/
noncomputable def evTmp (t : Nat) (tm : Tm) : Option AV := some (@Option.rec AV (fun _ => AV) undefV (fun v => v) (PT.g tm t))
noncomputable def cInt (k : IntKind) (n : Int) (tm : Tm) : Option AV := some (.one (.i k n))
noncomputable def cBool (b : Bool) (tm : Tm) : Option AV := some (.one (.b b))
noncomputable def evCon (v : Value) (tm : Tm) : Option AV := ofConst v
noncomputable def evGlo (g : Nat) (tm : Tm) : Option AV := none
noncomputable def evFun (f : Nat) (tm : Tm) : Option AV := some (.one (.fn f [] []))
noncomputable def evG (tm : Tm) (o : Operand) : Option AV := @Operand.rec (fun _ => Tm → Option AV) evTmp evCon evGlo evFun o tm
theorem evG_eq (tm : Tm) (o : Operand) : evG tm o = ev tm o := by
  cases o with
  | tmp t => show some _ = _; rw [PT.g_eq]; simp only [ev]; cases tm.get t <;> rfl
  | const v => rfl
  | global g => rfl
  | func f => rfl

noncomputable def scI (c : Sc) : Option (IntKind × Int) :=
  @Sc.rec (fun _ => Option (IntKind × Int)) (fun _ => none) (fun k n => some (k, n)) (fun _ => none) (fun _ => none) (fun _ _ _ _ => none) (fun _ _ => none) (fun _ => none) (fun _ => none) (fun _ _ _ => none) none none (fun _ _ => none) (fun _ _ _ _ => none) (fun _ _ _ _ => none) (fun _ _ _ _ => none) (fun _ _ _ _ => none) c
noncomputable def avI (v : AV) : Option (IntKind × Int) := @AV.rec (fun _ => Option (IntKind × Int)) scI (fun _ => none) (fun _ => none) (fun _ => none) v
noncomputable def scB (c : Sc) : Option Bool :=
  @Sc.rec (fun _ => Option Bool) (fun b => some b) (fun _ _ => none) (fun _ => none) (fun _ => none) (fun _ _ _ _ => none) (fun _ _ => none) (fun _ => none) (fun _ => none) (fun _ _ _ => none) none none (fun _ _ => none) (fun _ _ _ _ => none) (fun _ _ _ _ => none) (fun _ _ _ _ => none) (fun _ _ _ _ => none) c
noncomputable def avB (v : AV) : Option Bool := @AV.rec (fun _ => Option Bool) scB (fun _ => none) (fun _ => none) (fun _ => none) v
noncomputable def scP (c : Sc) : Option (Nat × Nat) :=
  @Sc.rec (fun _ => Option (Nat × Nat)) (fun _ => none) (fun _ _ => none) (fun _ => none) (fun a => a) (fun _ _ _ _ => none) (fun _ _ => none) (fun _ => none) (fun _ => none) (fun _ _ _ => none) none none (fun _ _ => none) (fun _ _ _ _ => none) (fun _ _ _ _ => none) (fun _ _ _ _ => none) (fun _ _ _ _ => none) c
noncomputable def avP (v : AV) : Option (Nat × Nat) := @AV.rec (fun _ => Option (Nat × Nat)) scP (fun _ => none) (fun _ => none) (fun _ => none) v
noncomputable def avAgg (v : AV) : Option (List Sc) := @AV.rec (fun _ => Option (List Sc)) (fun _ => none) (fun l => some l) (fun _ => none) (fun _ => none) v
noncomputable def avTup (v : AV) : Option (List Vv) := @AV.rec (fun _ => Option (List Vv)) (fun _ => none) (fun _ => none) (fun _ => none) (fun l => some l) v
noncomputable def avOne (v : AV) : Option Sc := @AV.rec (fun _ => Option Sc) (fun c => some c) (fun _ => none) (fun _ => none) (fun _ => none) v

noncomputable def evIG (tm : Tm) (o : Operand) : Option (IntKind × Int) := @Option.rec AV (fun _ => Option (IntKind × Int)) none avI (evG tm o)
theorem evIG_eq (tm : Tm) (o : Operand) : evIG tm o = evI tm o := by
  unfold evIG evI; rw [evG_eq]
  cases ev tm o with
  | none => rfl
  | some v => cases v with
    | one c => cases c <;> rfl
    | _ => rfl
noncomputable def evBG (tm : Tm) (o : Operand) : Option Bool := @Option.rec AV (fun _ => Option Bool) none avB (evG tm o)
theorem evBG_eq (tm : Tm) (o : Operand) : evBG tm o = evB tm o := by
  unfold evBG evB; rw [evG_eq]
  cases ev tm o with
  | none => rfl
  | some v => cases v with
    | one c => cases c <;> rfl
    | _ => rfl
noncomputable def evPG (tm : Tm) (o : Operand) : Option (Nat × Nat) := @Option.rec AV (fun _ => Option (Nat × Nat)) none avP (evG tm o)
theorem evPG_eq (tm : Tm) (o : Operand) : evPG tm o = evP tm o := by
  unfold evPG evP; rw [evG_eq]
  cases ev tm o with
  | none => rfl
  | some v => cases v with
    | one c => cases c with
      | p a => cases a <;> rfl
      | _ => rfl
    | _ => rfl

/-- the zero cells of a type -/
noncomputable def repF (c : Sc) (n : Nat) (l : List Sc) : List Sc := @Nat.rec (fun _ => List Sc) l (fun _ ih => c :: ih) n
noncomputable def runsCells (l : List (Nat × Sc)) : List Sc := @List.rec (Nat × Sc) (fun _ => List Sc) [] (fun p _ ih => repF p.2 p.1 ih) l
theorem runsCells_eq (ti : TI) : runsCells ti.zero = zeroCells ti := by
  unfold zeroCells
  have h1 : ∀ (c : Sc) (n : Nat) (l : List Sc), repF c n l = List.replicate n c ++ l := by
    intro c n l
    induction n with
    | zero => rfl
    | succ n ih => show c :: repF c n l = _; rw [ih]; rfl
  induction ti.zero with
  | nil => rfl
  | cons p r ih => show repF p.2 p.1 (runsCells r) = _; rw [ih, h1]; rfl
noncomputable def zagCells (E : Env) (t : Nat) : Option (List Sc) := @Option.rec TI (fun _ => Option (List Sc)) none (fun ti => some (runsCells ti.zero)) (tyF E t)
noncomputable def avCells (E : Env) (v : AV) : Option (List Sc) := @AV.rec (fun _ => Option (List Sc)) (fun c => some [c]) (fun l => some l) (zagCells E) (fun _ => none) v
theorem avCells_eq (E : Env) (v : AV) : avCells E v = cellsAs E v := by
  cases v with
  | zag t =>
    show zagCells E t = (match E.ty.get t with | some ti => some (zeroCells ti) | none => none)
    unfold zagCells; rw [tyF_eq]
    cases E.ty.get t with
    | none => rfl
    | some ti => simp only [runsCells_eq]
  | _ => rfl
noncomputable def evCG (E : Env) (tm : Tm) (o : Operand) : Option (List Sc) := @Option.rec AV (fun _ => Option (List Sc)) none (avCells E) (evG tm o)
theorem evCG_eq (E : Env) (tm : Tm) (o : Operand) : evCG E tm o = evC E tm o := by
  unfold evCG evC; rw [evG_eq]
  cases ev tm o with
  | none => rfl
  | some v => exact avCells_eq E v
noncomputable def zagV (E : Env) (t : Nat) : Option Vv := @Option.rec TI (fun _ => Option Vv) none (fun ti => @Bool.rec (fun _ => Option Vv) none (some (true, runsCells ti.zero)) ti.agg) (tyF E t)
noncomputable def avV (E : Env) (v : AV) : Option Vv := @AV.rec (fun _ => Option Vv) (fun c => some (false, [c])) (fun l => some (true, l)) (zagV E) (fun _ => none) v
theorem avV_eq (E : Env) (v : AV) : avV E v = ofV E v := by
  cases v with
  | zag t =>
    show zagV E t = (match E.ty.get t with | some ti => bif ti.agg then some (true, zeroCells ti) else none | none => none)
    unfold zagV; rw [tyF_eq]
    cases E.ty.get t with
    | none => rfl
    | some ti => simp only [runsCells_eq]; cases ti.agg <;> rfl
  | _ => rfl
noncomputable def evVG (E : Env) (tm : Tm) (o : Operand) : Option Vv := @Option.rec AV (fun _ => Option Vv) none (avV E) (evG tm o)
theorem evVG_eq (E : Env) (tm : Tm) (o : Operand) : evVG E tm o = evV E tm o := by
  unfold evVG evV; rw [evG_eq]
  cases ev tm o with
  | none => rfl
  | some v => exact avV_eq E v

/- words of operations -/
noncomputable def chk (k k' : IntKind) (c : Sc) : Option AV := @Bool.rec (fun _ => Option AV) none (some (.one c)) (kEq k k')
noncomputable def chkO (k k' : IntKind) (c : Option Sc) : Option AV := @Bool.rec (fun _ => Option AV) none (@Option.rec Sc (fun _ => Option AV) none (fun c => some (.one c)) c) (kEq k k')
noncomputable def iAdd (k : IntKind) (a : Int) (k' : IntKind) (b : Int) : Option AV := chk k k' (.i k (wrapF k (addF a b)))
noncomputable def iSub (k : IntKind) (a : Int) (k' : IntKind) (b : Int) : Option AV := chk k k' (.i k (wrapF k (subF a b)))
noncomputable def iMul (k : IntKind) (a : Int) (k' : IntKind) (b : Int) : Option AV := chk k k' (.i k (wrapF k (mulF a b)))
noncomputable def iQuo (k : IntKind) (a : Int) (k' : IntKind) (b : Int) : Option AV := chkO k k' (quoF k a b)
noncomputable def iRem (k : IntKind) (a : Int) (k' : IntKind) (b : Int) : Option AV := chkO k k' (remF k a b)
noncomputable def sAnd (k : IntKind) (a b : Int) : Int := k.wrap ((BitVec.ofInt k.bits a &&& BitVec.ofInt k.bits b).toNat)
noncomputable def sOr (k : IntKind) (a b : Int) : Int := k.wrap ((BitVec.ofInt k.bits a ||| BitVec.ofInt k.bits b).toNat)
noncomputable def sXor (k : IntKind) (a b : Int) : Int := k.wrap ((BitVec.ofInt k.bits a ^^^ BitVec.ofInt k.bits b).toNat)
noncomputable def iAnd (k : IntKind) (a : Int) (k' : IntKind) (b : Int) : Option AV := chk k k' (.i k (bitF Nat.land (sAnd k a b) k a b))
noncomputable def iOr (k : IntKind) (a : Int) (k' : IntKind) (b : Int) : Option AV := chk k k' (.i k (bitF Nat.lor (sOr k a b) k a b))
noncomputable def iXor (k : IntKind) (a : Int) (k' : IntKind) (b : Int) : Option AV := chk k k' (.i k (bitF Nat.xor (sXor k a b) k a b))
noncomputable def iShl (k : IntKind) (a : Int) (k' : IntKind) (b : Int) : Option AV := @Int.rec (fun _ => Option AV) (fun n => some (.one (.i k (shlF k a n)))) (fun _ => none) b
noncomputable def iShr (k : IntKind) (a : Int) (k' : IntKind) (b : Int) : Option AV := @Int.rec (fun _ => Option AV) (fun n => some (.one (.i k (shrF k a n)))) (fun _ => none) b
noncomputable def iAndNot (k : IntKind) (a : Int) (k' : IntKind) (b : Int) : Option AV := chkO k k' (intOp .andNot k a b)
noncomputable def iEql (k : IntKind) (a : Int) (k' : IntKind) (b : Int) : Option AV := chk k k' (.b (eqF a b))
noncomputable def iNeq (k : IntKind) (a : Int) (k' : IntKind) (b : Int) : Option AV := chk k k' (.b (not (eqF a b)))
noncomputable def iLss (k : IntKind) (a : Int) (k' : IntKind) (b : Int) : Option AV := chk k k' (.b (ltF a b))
noncomputable def iLeq (k : IntKind) (a : Int) (k' : IntKind) (b : Int) : Option AV := chk k k' (.b (not (ltF b a)))
noncomputable def iGtr (k : IntKind) (a : Int) (k' : IntKind) (b : Int) : Option AV := chk k k' (.b (ltF b a))
noncomputable def iGeq (k : IntKind) (a : Int) (k' : IntKind) (b : Int) : Option AV := chk k k' (.b (not (ltF a b)))
noncomputable def opI (op : BinOp) : IntKind → Int → IntKind → Int → Option AV :=
  @BinOp.rec (fun _ => IntKind → Int → IntKind → Int → Option AV) iAdd iSub iMul iQuo iRem iAnd iOr iXor iShl iShr iAndNot iEql iNeq iLss iLeq iGtr iGeq op
theorem chk_eq (k k' : IntKind) (c : Sc) (o : Option Sc) (h : o = some c) : chk k k' c = bif decide (k = k') then (match o with | some c => some (.one c) | none => none) else none := by
  subst h; unfold chk; rw [kEq_eq]; cases decide (k = k') <;> rfl
theorem chkO_eq (k k' : IntKind) (o p : Option Sc) (h : o = p) : chkO k k' p = bif decide (k = k') then (match o with | some c => some (.one c) | none => none) else none := by
  subst h; unfold chkO; rw [kEq_eq]; cases decide (k = k') <;> cases o <;> rfl
theorem opI_eq0 (E : Env) (op : BinOp) (t : Nat) (k : IntKind) (a : Int) (k' : IntKind) (b : Int) : opI op k a k' b = binOp0 E op t (.one (.i k a)) (.one (.i k' b)) := by
  cases op
  case shl =>
    show iShl k a k' b = _
    cases b with
    | ofNat n => show some (AV.one (.i k (shlF k a n))) = _; rw [shlF_eq]; rfl
    | negSucc n => rfl
  case shr =>
    show iShr k a k' b = _
    cases b with
    | ofNat n => show some (AV.one (.i k (shrF k a n))) = _; rw [shrF_eq]; rfl
    | negSucc n => rfl
  case add => exact chk_eq k k' _ (intOp .add k a b) (by simp only [intOp, wrapF_eq, addF_eq])
  case sub => exact chk_eq k k' _ (intOp .sub k a b) (by simp only [intOp, wrapF_eq, subF_eq])
  case mul => exact chk_eq k k' _ (intOp .mul k a b) (by simp only [intOp, wrapF_eq, mulF_eq])
  case quo => exact chkO_eq k k' (intOp .quo k a b) _ (quoF_eq k a b).symm
  case rem => exact chkO_eq k k' (intOp .rem k a b) _ (remF_eq k a b).symm
  case and => exact chk_eq k k' _ (intOp .and k a b) (by simp only [sAnd]; rw [bitF_eq (g := fun n x y => x &&& y) and_bit]; rfl)
  case or => exact chk_eq k k' _ (intOp .or k a b) (by simp only [sOr]; rw [bitF_eq (g := fun n x y => x ||| y) or_bit]; rfl)
  case xor => exact chk_eq k k' _ (intOp .xor k a b) (by simp only [sXor]; rw [bitF_eq (g := fun n x y => x ^^^ y) xor_bit]; rfl)
  case andNot => exact chkO_eq k k' (intOp .andNot k a b) _ rfl
  case eql => exact chk_eq k k' _ (intOp .eql k a b) (by simp only [intOp, eqF_eq])
  case neq => exact chk_eq k k' _ (intOp .neq k a b) (by simp only [intOp, eqF_eq]; rfl)
  case lss => exact chk_eq k k' _ (intOp .lss k a b) (by simp only [intOp, ltF_eq])
  case leq => exact chk_eq k k' _ (intOp .leq k a b) (by simp only [intOp, ltF_eq]; congr 2; rw [← decide_not] <;> (first | done | (congr 1; simp)))
  case gtr => exact chk_eq k k' _ (intOp .gtr k a b) (by simp only [intOp, ltF_eq])
  case geq => exact chk_eq k k' _ (intOp .geq k a b) (by simp only [intOp, ltF_eq]; congr 2; rw [← decide_not] <;> (first | done | (congr 1; simp)))

theorem symBin_ii (E : Env) (op : BinOp) (t : Nat) (k : IntKind) (a : Int) (k' : IntKind) (b : Int) : symBin E op t (.one (.i k a)) (.one (.i k' b)) = none := by
  unfold symBin
  cases E.ty.get t with
  | none => rfl
  | some ti =>
    have : symSc op ti.kind (.i k a) (.i k' b) = none := by cases k <;> rfl
    simp only [this]
theorem opI_eq (E : Env) (op : BinOp) (t : Nat) (k : IntKind) (a : Int) (k' : IntKind) (b : Int) : opI op k a k' b = binOp1 E op t (.one (.i k a)) (.one (.i k' b)) := by
  rw [opI_eq0 E op t]; unfold binOp1; rw [symBin_ii]

/-- '==', '!=' -/
noncomputable def eqlG (r : Bool) : Option AV := some (.one (.b r))
noncomputable def neqG (r : Bool) : Option AV := some (.one (.b (not r)))
noncomputable def noG (r : Bool) : Option AV := none
noncomputable def opE (op : BinOp) : Bool → Option AV :=
  @BinOp.rec (fun _ => Bool → Option AV) noG noG noG noG noG noG noG noG noG noG noG eqlG neqG noG noG noG noG op
theorem opE_eq (op : BinOp) (r : Bool) : opE op r = (match op with | .eql => some (.one (.b r)) | .neq => some (.one (.b !r)) | _ => none) := by
  cases op <;> rfl

/-- a pointer against nil -/
noncomputable def isNn (a : Option (Nat × Nat)) : Bool := @Option.rec (Nat × Nat) (fun _ => Bool) true (fun _ => false) a
noncomputable def isPtrK (k : TK) : Bool := @TK.rec (fun _ => Bool) (fun _ => false) false false true (fun _ => false) (fun _ _ => false) (fun _ _ => false) (fun _ => false) false false false k
noncomputable def ptrEq (a b : Option (Nat × Nat)) : Option Bool := @Option.rec (Nat × Nat) (fun _ => Option Bool) (some (isNn b)) (fun _ => @Option.rec (Nat × Nat) (fun _ => Option Bool) (some false) (fun _ => none) b) a
noncomputable def binPP (E : Env) (op : BinOp) (t : Nat) (v w : AV) (a b : Option (Nat × Nat)) : Option AV :=
  @Option.rec TI (fun _ => Option AV) none (fun ti => @Bool.rec (fun _ => Option AV) (binOp1 E op t v w) (@Option.rec Bool (fun _ => Option AV) none (opE op) (ptrEq a b)) (isPtrK ti.kind)) (tyF E t)
theorem symBin_pp (E : Env) (op : BinOp) (t : Nat) (a b : Option (Nat × Nat)) : symBin E op t (.one (.p a)) (.one (.p b)) = none := by
  unfold symBin
  cases E.ty.get t <;> rfl
theorem binPP_eq (E : Env) (op : BinOp) (t : Nat) (a b : Option (Nat × Nat)) : binPP E op t (.one (.p a)) (.one (.p b)) a b = binOp1 E op t (.one (.p a)) (.one (.p b)) := by
  unfold binPP; rw [tyF_eq]
  cases h : E.ty.get t with
  | none => simp only [binOp1, symBin_pp, binOp0, h]
  | some ti =>
    simp only
    cases hk : isPtrK ti.kind with
    | false => rfl
    | true =>
      have : ti.kind = .ptr := by
        cases hh : ti.kind <;> rw [hh] at hk <;> first | rfl | cases hk
      simp only [binOp1, symBin_pp, binOp0, h, this]
      cases a <;> cases b <;> simp only [ptrEq, isNn, eqOne] <;> first | rfl | (rw [opE_eq]; rfl)

noncomputable def binS (E : Env) (op : BinOp) (t : Nat) (v w : AV) : Option AV := binOp1 E op t v w
noncomputable def binI2 (E : Env) (op : BinOp) (t : Nat) (v w : AV) (k : IntKind) (a : Int) (c : Sc) : Option AV :=
  @Option.rec (IntKind × Int) (fun _ => Option AV) (binS E op t v w) (fun p => opI op k a p.1 p.2) (scI c)
noncomputable def binI1 (E : Env) (op : BinOp) (t : Nat) (v w : AV) (k : IntKind) (a : Int) : Option AV :=
  @Option.rec Sc (fun _ => Option AV) (binS E op t v w) (fun c => binI2 E op t v w k a c) (avOne w)
noncomputable def scPP (c : Sc) : Option (Option (Nat × Nat)) :=
  @Sc.rec (fun _ => Option (Option (Nat × Nat))) (fun _ => none) (fun _ _ => none) (fun _ => none) (fun a => some a) (fun _ _ _ _ => none) (fun _ _ => none) (fun _ => none) (fun _ => none) (fun _ _ _ => none) none none (fun _ _ => none) (fun _ _ _ _ => none) (fun _ _ _ _ => none) (fun _ _ _ _ => none) (fun _ _ _ _ => none) c
noncomputable def binP2 (E : Env) (op : BinOp) (t : Nat) (v w : AV) (a : Option (Nat × Nat)) (c : Sc) : Option AV :=
  @Option.rec (Option (Nat × Nat)) (fun _ => Option AV) (binS E op t v w) (fun b => binPP E op t v w a b) (scPP c)
noncomputable def binP1 (E : Env) (op : BinOp) (t : Nat) (v w : AV) (a : Option (Nat × Nat)) : Option AV :=
  @Option.rec Sc (fun _ => Option AV) (binS E op t v w) (fun c => binP2 E op t v w a c) (avOne w)
noncomputable def binC (E : Env) (op : BinOp) (t : Nat) (v w : AV) (c : Sc) : Option AV :=
  @Sc.rec (fun _ => Option AV) (fun _ => binS E op t v w) (binI1 E op t v w) (fun _ => binS E op t v w) (binP1 E op t v w) (fun _ _ _ _ => binS E op t v w) (fun _ _ => binS E op t v w) (fun _ => binS E op t v w) (fun _ => binS E op t v w) (fun _ _ _ => binS E op t v w) (binS E op t v w) (binS E op t v w) (fun _ _ => (binS E op t v w)) (fun _ _ _ _ => (binS E op t v w)) (fun _ _ _ _ => (binS E op t v w)) (fun _ _ _ _ => (binS E op t v w)) (fun _ _ _ _ => (binS E op t v w)) c
noncomputable def binG (E : Env) (op : BinOp) (t : Nat) (v w : AV) : Option AV :=
  @AV.rec (fun _ => Option AV) (binC E op t v w) (fun _ => binS E op t v w) (fun _ => binS E op t v w) (fun _ => binS E op t v w) v
theorem binG_eq (E : Env) (op : BinOp) (t : Nat) (v w : AV) : binG E op t v w = binOp1 E op t v w := by
  cases v with
  | one c =>
    show binC E op t _ w c = _
    cases c with
    | i k a =>
      show binI1 E op t _ w k a = _
      cases w with
      | one c =>
        show binI2 E op t _ _ k a c = _
        cases c with
        | i k' b => exact opI_eq E op t k a k' b
        | _ => rfl
      | _ => rfl
    | p a =>
      show binP1 E op t _ w a = _
      cases w with
      | one c =>
        show binP2 E op t _ _ a c = _
        cases c with
        | p b => exact binPP_eq E op t a b
        | _ => rfl
      | _ => rfl
    | _ => rfl
  | _ => rfl
end Go.Mx
