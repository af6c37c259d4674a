/- All operations; runs of operations; bodies; calls. -/
import Derived.Test.YtmookoajpcnigaaGreatMxG4
set_option linter.unusedVariables false
set_option linter.unusedSimpArgs false
namespace Go.Mx
open Go

/- the rest of the operations, each by itself -/
noncomputable def xUn (op : UnOp) (x : Operand) (tm : Tm) (s : St) : Option (AV × St) :=
  match op, evG tm x with
    | .not, some (.one (.b v)) => some (.one (.b !v), s)
    | .neg, some (.one (.i k n)) => some (.one (.i k (k.wrap (0 - n))), s)
    | _, _ => none
noncomputable def oUn (op : UnOp) (t : Nat) (x : Operand) (E : Env) (cf : CF) (tm : Tm) (s : St) (o : Oper) : RV := rvOf (xUn op x tm s)
noncomputable def idV (s : St) (ag : Bool) (cs : List Sc) : RV := ovG (boxG ag cs) s
noncomputable def xIndex (t : Nat) (x i : Operand) (E : Env) (tm : Tm) (s : St) : Option (AV × St) :=
  match tyF E t, evG tm x, evIG tm i with
    | some ⟨_, _, .arr n e, _, _⟩, some (.agg cs), some (_, .ofNat k) => match tyF E e with
      | some te => bif Nat.ble (k + 1) n && Nat.ble (k * te.size + te.size) cs.length then ov (mkV te.agg ((cs.drop (k * te.size)).take te.size)) s else none
      | _ => none
    | some ⟨_, _, .str, _, _⟩, some (.one (.s l)), some (_, .ofNat k) => match l[k]? with
      | some c => some (.one (.i .u8 (Int.ofNat (c % 256))), s)
      | none => none
    | _, _, _ => none
noncomputable def oIndex (t : Nat) (x i : Operand) (E : Env) (cf : CF) (tm : Tm) (s : St) (o : Oper) : RV := rvOf (xIndex t x i E tm s)
noncomputable def xLookup (t : Nat) (x i : Operand) (ok : Bool) (E : Env) (tm : Tm) (s : St) : Option (AV × St) :=
  match tyF E t, evG tm x, evVG E tm i with
    | some ⟨_, _, .map kt e, _, _⟩, some (.one (.m r)), some k =>
      match mapOf s r with
      | some es => match bif keyOk E kt k then findK k es else none with
        | some (some e) => bif ok then some (.tup [e.2.1, (false, [.b true])], s) else ov (toV e.2.1) s
        | some none => match E.ty.get e with
          | some te => bif ok then some (.tup [(te.agg, zeroCells te), (false, [.b false])], s) else ov (mkV te.agg (zeroCells te)) s
          | none => none
        | none => none
      | none => none
    | _, _, _ => none
noncomputable def oLookup (t : Nat) (x i : Operand) (ok : Bool) (E : Env) (cf : CF) (tm : Tm) (s : St) (o : Oper) : RV := rvOf (xLookup t x i ok E tm s)
noncomputable def xMapUp (t : Nat) (x i v : Operand) (E : Env) (tm : Tm) (s : St) : Option (AV × St) :=
  match tyF E t, evG tm x, evVG E tm i, evVG E tm v with
    | some ⟨_, _, .map kt _, _, _⟩, some (.one (.m (some r))), some k, some v => match s.hp.get r with
      | some (.map es c) => match bif keyOk E kt k then findK k es else none with
        | some (some _) => some (undefV, { s with hp := s.hp.set r (.map (putK k v es) c) })
        | some none => some (undefV, { s with hp := s.hp.set r (.map (es ++ [(k, v, c)]) (c + 1)) })
        | none => none
      | _ => none
    | _, _, _, _ => none
noncomputable def oMapUp (t : Nat) (x i v : Operand) (E : Env) (cf : CF) (tm : Tm) (s : St) (o : Oper) : RV := rvOf (xMapUp t x i v E tm s)
noncomputable def xMakeFunc (fn : Fn) (first cap : Array Operand) (tm : Tm) (s : St) : Option (AV × St) :=
  match fn with
    | .func f => match evs tm first.toList, evs tm cap.toList with
      | some a, some b => match ptrs a, ptrs b with
        | some a, some b => some (.one (.fn f a b), s)
        | _, _ => none
      | _, _ => none
    | _ => none
noncomputable def oMakeFunc (fn : Fn) (first cap : Array Operand) (E : Env) (cf : CF) (tm : Tm) (s : St) (o : Oper) : RV := rvOf (xMakeFunc fn first cap tm s)
noncomputable def bsDone (s : St) (len e : Nat) (te : TI) (r : Option (List Sc)) : RV :=
  @Option.rec (List Sc) (fun _ => RV) .no (fun cs => .ok (slV (some (s.next, 0)) len len false) (allocF s (.arr (Nat.mul len te.size) (zeroOf te) (setCellsF cs .leaf 0) e false))) r
noncomputable def repG (n : Nat) (l : List Sc) : List Sc := @Nat.rec (fun _ => List Sc) [] (fun _ ih => scApp l ih) n
theorem repG_eq (n : Nat) (l : List Sc) : repG n l = repCells n l := by
  induction n with
  | zero => rfl
  | succ n ih => show scApp l (repG n l) = _; rw [scApp_eq, ih]; rfl
noncomputable def bsTe (len : Nat) (ps : List (Nat × Operand)) (E : Env) (tm : Tm) (s : St) (e : Nat) (te : TI) : RV :=
  @Bool.rec (fun _ => RV) .no (bsDone s len e te (fillG E tm (plA te.size) ps (repG len (runsCells te.zero)))) (Nat.ble (Nat.mul len te.size) lim)
noncomputable def oBuildSlice (t len : Nat) (ps : Array (Nat × Operand)) (E : Env) (cf : CF) (tm : Tm) (s : St) (o : Oper) : RV :=
  @Option.rec Nat (fun _ => RV) .no (fun e => @Option.rec TI (fun _ => RV) .no (bsTe len ps.toList E tm s e) (tyF E e)) (elemOf E t)
theorem oBuildSlice_out (E : Env) (cf : CF) (tm : Tm) (s : St) (t len : Nat) (ps : Array (Nat × Operand)) (o : Oper) (h : o.op = .buildSlice t len ps) : (oBuildSlice t len ps E cf tm s o).out = doOp E cf tm s o := by
  unfold doOp oBuildSlice; rw [h]; simp only
  cases h1 : elemOf E t with
  | none =>
    show none = _
    symm
    split
    · rename_i sz ag e zr pl g1; exact absurd g1 (elemOf_none h1 _ _ _ _ _)
    · rfl
  | some e =>
    obtain ⟨ti, g1, g2⟩ := elemOf_some h1
    obtain ⟨sz, ag, kd, zr, pl⟩ := ti
    simp only at g2; subst g2
    simp only [g1]
    rw [tyF_eq]
    cases E.ty.get e with
    | none => rfl
    | some te =>
      show (bsTe len ps.toList E tm s e te).out = _
      unfold bsTe bsDone
      simp only [fillG_eq, repG_eq, runsCells_eq, allocF_eq, setCellsF_eq]
      show RV.out (@Bool.rec (fun _ => RV) _ _ (Nat.ble (len * te.size) lim)) = _
      cases Nat.ble (len * te.size) lim with
      | false => rfl
      | true =>
        simp only [cond_true]
        have : plA te.size = fun i => some (i * te.size, te.size) := rfl
        rw [this]
        cases fillOp E tm (fun i => some (i * te.size, te.size)) ps.toList (repCells len (zeroCells te)) <;> rfl

/- 'copy' -/
noncomputable def cpA (s : St) (n : Nat) (a : Option (Nat × Nat)) (cs : List Sc) : RV :=
  @Option.rec (Nat × Nat) (fun _ => RV) (intV n s) (fun a => @Option.rec St (fun _ => RV) .no (fun s => intV n s) (stG s a cs)) a
noncomputable def minN (a b : Nat) : Nat := @Bool.rec (fun _ => Nat) b a (Nat.ble a b)
theorem minN_eq (a b : Nat) : minN a b = Nat.min a b := by
  unfold minN
  cases h : Nat.ble a b with
  | true => have := Nat.le_of_ble_eq_true h; exact (Nat.min_eq_left this).symm
  | false =>
    have : ¬ a ≤ b := fun hh => by rw [Nat.ble_eq_true_of_le hh] at h; cases h
    show b = Nat.min a b
    exact (Nat.min_eq_right (by omega)).symm
noncomputable def cpTe (s : St) (q w : SlV) (te : TI) : RV :=
  @Option.rec (List Sc) (fun _ => RV) .no (cpA s (minN w.len q.len) q.a) (slCells s w.a (Nat.mul (minN w.len q.len) te.size))
noncomputable def bCopy2 (t : Nat) (x y : Operand) (tys : List Nat) (args : List Operand) (E : Env) (tm : Tm) (s : St) : RV :=
  @Option.rec Nat (fun _ => RV) (bSlow .copy tys args E tm s) (fun e => @Option.rec SlV (fun _ => RV) (bSlow .copy tys args E tm s) (fun q => @Option.rec SlV (fun _ => RV) (bSlow .copy tys args E tm s) (fun w =>
    @Option.rec TI (fun _ => RV) .no (cpTe s q w) (tyF E e)) (evSl tm y)) (evSl tm x)) (elemOf E t)
noncomputable def bCopy (tys : List Nat) (args : List Operand) (E : Env) (tm : Tm) (s : St) : RV :=
  @List.rec Nat (fun _ => RV) (bSlow .copy tys args E tm s) (fun t r _ => @List.rec Operand (fun _ => RV) (bSlow .copy tys args E tm s) (fun x q _ => @List.rec Operand (fun _ => RV) (bSlow .copy tys args E tm s) (fun y q' _ => bCopy2 t x y tys args E tm s) q) args) tys
theorem bCopy2_out (t : Nat) (x y : Operand) (r : List Nat) (r' : List Operand) (E : Env) (tm : Tm) (s : St) : (bCopy2 t x y (t :: r) (x :: y :: r') E tm s).out = builtinOp E tm s .copy (t :: r) (x :: y :: r') := by
  unfold bCopy2
  cases h1 : elemOf E t with
  | none => exact bSlow_out .copy _ _ E tm s
  | some e => cases h3 : evSl tm x with
    | none => exact bSlow_out .copy _ _ E tm s
    | some q => cases h4 : evSl tm y with
      | none => exact bSlow_out .copy _ _ E tm s
      | some w =>
        simp only
        rw [tyF_eq]
        obtain ⟨ti, g1, g2⟩ := elemOf_some h1
        obtain ⟨sz, ag, kd, zr, pl⟩ := ti
        simp only at g2; subst g2
        have g5 := evSl_some h3
        have g6 := evSl_some h4
        have hsym : symB E tm s .copy (t :: r) (x :: y :: r') = none := by
          simp only [symB, symCopy, g1, g5, g6]
        unfold builtinOp; rw [hsym]
        simp only [builtinOp0, g1, g5, g6, lenS]
        cases E.ty.get e with
        | none => rfl
        | some te =>
          simp only [← slCells_eq]
          unfold cpTe; rw [minN_eq]
          show RV.out (@Option.rec (List Sc) (fun _ => RV) .no _ (slCells s w.a (Nat.min w.len q.len * te.size))) = _
          cases slCells s w.a (Nat.min w.len q.len * te.size) with
          | none => rfl
          | some cs =>
            simp only
            unfold cpA
            cases q.a with
            | none => rfl
            | some a => simp only [stG_eq]; cases stCells s a cs <;> rfl
theorem bCopy_out (tys : List Nat) (args : List Operand) (E : Env) (tm : Tm) (s : St) : (bCopy tys args E tm s).out = builtinOp E tm s .copy tys args := by
  match tys, args with
  | [], _ => exact bSlow_out .copy _ _ E tm s
  | _ :: _, [] => exact bSlow_out .copy _ _ E tm s
  | _ :: _, [_] => exact bSlow_out .copy _ _ E tm s
  | t :: r, x :: y :: r' => exact bCopy2_out t x y r r' E tm s
noncomputable def bH (b : Builtin) : List Nat → List Operand → Env → Tm → St → RV :=
  @Builtin.rec (fun _ => List Nat → List Operand → Env → Tm → St → RV) bApp (bSlow .cap) (bSlow .clear) (bSlow .close) (bSlow .complex) bCopy (bSlow .delete) (bSlow .imag) bLen (bSlow .make) (bMM .max mxG) (bMM .min mnG) (bSlow .new) (bSlow .panic) (bSlow .print) (bSlow .println) (bSlow .real) (bSlow .recover) (bSlow .unsafeAdd) (bSlow .unsafeSlice) (bSlow .unsafeSliceData) (bSlow .unsafeString) (bSlow .unsafeStringData) (bSlow .unsafeSizeof) (bSlow .unsafeAlignof) (bSlow .unsafeOffsetof) b
theorem bH_out (b : Builtin) (tys : List Nat) (args : List Operand) (E : Env) (tm : Tm) (s : St) : (bH b tys args E tm s).out = builtinOp E tm s b tys args := by
  have key : b ≠ .copy → bH b = bG b := by cases b <;> intro h <;> first | rfl | exact absurd rfl h
  by_cases h : b = .copy
  · subst h; exact bCopy_out _ _ _ _ _
  · rw [key h]; exact bG_out b tys args E tm s

noncomputable def clBlt (b : Builtin) (E : Env) (cf : CF) (tm : Tm) (s : St) (o : Oper) (c : Call) : RV := bH b c.argTypes.toList c.args.toList E tm s
noncomputable def oCall (c : Call) (E : Env) (cf : CF) (tm : Tm) (s : St) (o : Oper) : RV :=
  @Callee.rec (fun _ => Env → CF → Tm → St → Oper → Call → RV) clVal clInv clBlt c.callee E cf tm s o c
theorem evsG_eq (tm : Tm) : ∀ l, evsG tm l = evs tm l := by
  intro l
  induction l with
  | nil => rfl
  | cons x r ih =>
    show @Option.rec AV (fun _ => Option (List AV)) none (fun v => @Option.rec (List AV) (fun _ => Option (List AV)) none (fun l => some (v :: l)) (evsG tm r)) (evG tm x) = _
    rw [ih, evG_eq]
    simp only [evs]
    cases ev tm x <;> cases evs tm r <;> rfl
theorem ptrL_eq (l : List (Nat × Nat)) : ptrL l = l.map (fun a => .one (.p (some a))) := by
  induction l with
  | nil => rfl
  | cons a r ih => show _ :: ptrL r = _; rw [ih]; rfl
theorem appL_eq (l m : List AV) : appL l m = l ++ m := by
  induction l with
  | nil => rfl
  | cons a r ih => show a :: appL r m = _; rw [ih]; rfl
theorem oCall_out (E : Env) (cf : CF) (tm : Tm) (s : St) (c : Call) (o : Oper) (h : o.op = .call c) : (oCall c E cf tm s o).out = doOp E cf tm s o := by
  unfold doOp oCall; rw [h]; simp only
  cases c.callee with
  | value f =>
    show (clVal f E cf tm s o c).out = _
    unfold clVal; rw [evsG_eq, evG_eq]
    simp only
    cases evs tm c.args.toList with
    | none => cases ev tm f with
      | none => rfl
      | some v => cases v with
        | one c' => cases c' <;> rfl
        | _ => rfl
    | some args => cases ev tm f with
      | none => rfl
      | some v => cases v with
        | one c' => cases c' with
          | fn g first cap =>
            show (rvOf (cf g (appL (ptrL first) (appL args (ptrL cap))) s)).out = _
            rw [rvOf_out, appL_eq, appL_eq, ptrL_eq, ptrL_eq]
            simp only [List.append_assoc]
          | _ => rfl
        | _ => rfl
  | invoke r m => rfl
  | builtin b => exact bH_out _ _ _ _ _ _

noncomputable def oS1 {α : Type} (_ : α) (E : Env) (cf : CF) (tm : Tm) (s : St) (o : Oper) : RV := oSlow E cf tm s o
noncomputable def oS2 {α β : Type} (_ : α) (_ : β) (E : Env) (cf : CF) (tm : Tm) (s : St) (o : Oper) : RV := oSlow E cf tm s o
noncomputable def oS3 {α β γ : Type} (_ : α) (_ : β) (_ : γ) (E : Env) (cf : CF) (tm : Tm) (s : St) (o : Oper) : RV := oSlow E cf tm s o
noncomputable def oS4 {α β γ δ : Type} (_ : α) (_ : β) (_ : γ) (_ : δ) (E : Env) (cf : CF) (tm : Tm) (s : St) (o : Oper) : RV := oSlow E cf tm s o

noncomputable def opR (op : Op) : Env → CF → Tm → St → Oper → RV :=
  @Op.rec (fun _ => Env → CF → Tm → St → Oper → RV)
    oMove oMove oPick oAlloc oBox oBuild oBuildSlice oS4 oLoad oStore oS1 oS1 oNil oBin oUn oConv oS2 oS2 oMakeFunc oS2 oS2 oMakeSlice oSlice
    oFieldAddr oField oIndexAddr oIndex oLookup oMapUp oS3 oS4 oS2 oS2 oS1 oS4 oExtract oCall oS1 oS1 oS1 oS2 oS3 oS2 op
noncomputable def opG (E : Env) (cf : CF) (tm : Tm) (s : St) (o : Oper) : RV := opR o.op E cf tm s o

theorem nthV_eq : ∀ (l : List Vv) (n : Nat), nthV l n = l[n]? := by
  intro l
  induction l with
  | nil => intro n; rfl
  | cons a r ih => intro n; cases n with | zero => rfl | succ m => show nthV r m = _; rw [ih]; simp
theorem tkS_eq (k : TK) : tkS k = structFields k := by cases k <;> rfl
theorem fldOf_eq (E : Env) (t f : Nat) : fldOf E t f = (match E.ty.get t with | some ti => (match structFields ti.kind with | some fs => fs[f]? | none => none) | none => none) := by
  unfold fldOf; rw [tyF_eq]
  cases E.ty.get t with
  | none => rfl
  | some ti =>
    show @Option.rec (List (Nat × Nat × Bool)) (fun _ => Option (Nat × Nat × Bool)) none (fun fs => nthX fs f) (tkS ti.kind) = _
    rw [tkS_eq]
    simp only
    cases structFields ti.kind with
    | none => rfl
    | some fs => exact nthX_eq fs f

theorem oSlow_out (E : Env) (cf : CF) (tm : Tm) (s : St) (o : Oper) : (oSlow E cf tm s o).out = doOp E cf tm s o := rvOf_out _

theorem fIndexAddr_out (E : Env) (tm : Tm) (s : St) (t : Nat) (x i : Operand) : (fIndexAddr t x i E tm s).out = idxOp E tm s t x i := by
  unfold fIndexAddr idxOp; rw [evG_eq, evNG_eq, tyF_eq]
  have hd : ∀ n e k (a : Nat × Nat), (iaDone E s n e k a).out = (match E.ty.get e with | some te => bif Nat.ble (k + 1) n then some (.one (.p (some (a.1, a.2 + k * te.size))), s) else none | none => none) := fun n e k a => by
    unfold iaDone; rw [tyF_eq]
    cases E.ty.get e with
    | none => rfl
    | some te =>
      show RV.out (@Bool.rec (fun _ => RV) _ _ (Nat.ble (k + 1) n)) = bif Nat.ble (k + 1) n then _ else _
      cases Nat.ble (k + 1) n <;> rfl
  cases E.ty.get t with
  | none => cases ev tm x with
    | none => rfl
    | some v => cases v with
      | one c => cases evI tm i with
        | none => rfl
        | some p => obtain ⟨k, n⟩ := p; cases n <;> rfl
      | _ => rfl
  | some ti =>
    obtain ⟨sz, ag, kd, zr, pl⟩ := ti
    cases ev tm x with
    | none => cases kd <;> rfl
    | some v => cases v with
      | one c =>
        cases evI tm i with
        | none =>
          cases kd with
          | arr n e => cases c with
            | p a => cases a with | none => rfl | some q => rfl
            | _ => rfl
          | slice e => cases c with
            | sl a m cc op => cases a with | none => rfl | some q => rfl
            | _ => rfl
          | _ => cases c <;> rfl
        | some p =>
          obtain ⟨k, n⟩ := p
          cases n with
          | negSucc m =>
            cases kd with
            | arr n e => cases c with
              | p a => cases a with | none => rfl | some q => rfl
              | _ => rfl
            | slice e => cases c with
              | sl a m cc op => cases a with | none => rfl | some q => rfl
              | _ => rfl
            | _ => cases c <;> rfl
          | ofNat m =>
            cases kd with
            | arr n e => cases c with
              | p a => cases a with
                | none => rfl
                | some q => exact hd n e m q
              | _ => rfl
            | slice e => cases c with
              | sl a l cc op => cases a with
                | none => rfl
                | some q => exact hd l e m q
              | _ => rfl
            | _ => cases c <;> rfl
      | _ => cases kd <;> rfl

theorem fIndexAddr_sym {E : Env} {tm : Tm} {s s' : St} {t : Nat} {x i : Operand} {v : AV} (h : idxOp E tm s t x i = some (v, s')) : symIdx E tm t x i = none := by
  unfold symIdx
  split
  · rename_i ht hx hi
    unfold idxOp at h
    simp only [ht, hx] at h
    cases h
  · rfl

theorem opG_out (E : Env) (cf : CF) (tm : Tm) (s : St) (o : Oper) : (opG E cf tm s o).out = doOp E cf tm s o := by
  unfold opG
  cases h : o.op with
  | move x => show (ovG (evG tm x) s).out = _; rw [ovG_out, evG_eq]; unfold doOp; rw [h]
  | assign x => show (ovG (evG tm x) s).out = _; rw [ovG_out, evG_eq]; unfold doOp; rw [h]
  | pick c a b =>
    show (oPick c a b E cf tm s o).out = _
    unfold oPick doOp; rw [h, evBG_eq, evG_eq, evG_eq]; simp only
    cases evB tm c with
    | none => rfl
    | some v => cases v <;> exact ovG_out _ _
  | alloc t => show (newG E s t (.zag t)).out = _; rw [newG_out]; unfold doOp; rw [h]
  | box t x =>
    show (oBox t x E cf tm s o).out = _
    unfold oBox doOp; rw [h, evG_eq]; simp only
    cases ev tm x with
    | none => rfl
    | some v => exact newG_out _ _ _ _
  | build t ps => exact oBuild_out E cf tm s t ps o h
  | buildSlice t n ps => exact oBuildSlice_out E cf tm s t n ps o h
  | load t x =>
    show (oLoad t x E cf tm s o).out = _
    unfold oLoad doOp; rw [h, tyF_eq, evPG_eq]; simp only
    cases evP tm x with
    | none => cases E.ty.get t <;> rfl
    | some a => cases E.ty.get t with
      | none => rfl
      | some ti =>
        simp only [ldTi, ldDone, ldG_eq]
        cases ldCells s a ti.size with
        | none => rfl
        | some cs => show (ovG (boxG ti.agg cs) s).out = _; rw [ovG_out, boxG_eq]
  | store t x y =>
    show (oStore t x y E cf tm s o).out = _
    unfold oStore doOp; rw [h, evPG_eq, evCG_eq]; simp only
    cases evP tm x with
    | none => cases E.ty.get t <;> rfl
    | some a => cases evC E tm y with
      | none => cases E.ty.get t <;> rfl
      | some vs =>
        simp only [stA, tyF_eq]
        cases E.ty.get t with
        | none => rfl
        | some ti =>
          simp only [stTi, stDone, stG_eq, lenF_eq]
          cases Nat.beq vs.length ti.size with
          | false => rfl
          | true => simp only [cond_true]; cases stCells s a vs <;> rfl
  | nilCheck x =>
    show (oNil x E cf tm s o).out = _
    unfold oNil doOp; rw [h, evG_eq]; simp only
    cases ev tm x with
    | none => rfl
    | some v => simp only [avNil_eq]; cases nilOk v <;> rfl
  | binOp op t x y z =>
    show (oBin op t x y z E cf tm s o).out = _
    unfold oBin doOp; rw [h, evG_eq, evG_eq]; simp only
    cases ev tm x with
    | none => cases ev tm y <;> rfl
    | some v => cases ev tm y with
      | none => rfl
      | some w => show (ovG (binG E op t v w) s).out = _; rw [ovG_out, binG_eq]
  | unOp op t x => show (rvOf (xUn op x tm s)).out = _; rw [rvOf_out]; unfold xUn doOp; rw [h, evG_eq]; rfl
  | convert a b x =>
    show (oConv a b x E cf tm s o).out = _
    unfold oConv; rw [tyF_eq, tyF_eq]
    cases h1 : E.ty.get a with
    | none => exact oSlow_out E cf tm s o
    | some ta => cases h2 : E.ty.get b with
      | none => exact oSlow_out E cf tm s o
      | some tb =>
        show (cvTi x E cf tm s o tb).out = _
        unfold cvTi
        obtain ⟨sz, ag, kd, zr, pl⟩ := tb
        cases kd with
        | int k =>
          show (cvDone E cf tm s o k (evIG tm x)).out = _
          unfold cvDone; rw [evIG_eq]
          cases h3 : evI tm x with
          | none => exact oSlow_out E cf tm s o
          | some p =>
            obtain ⟨k', n⟩ := p
            have h4 : ev tm x = some (.one (.i k' n)) := by
              unfold evI at h3
              split at h3
              · rename_i kk nn hh; cases h3; exact hh
              · cases h3
            unfold doOp; rw [h]
            simp only [h1, h2, h4, wrapF_eq]; rfl
        | _ => exact oSlow_out E cf tm s o
  | makeFunc fn a b => show (rvOf (xMakeFunc fn a b tm s)).out = _; rw [rvOf_out]; unfold xMakeFunc doOp; rw [h]; rfl
  | makeSlice t a b => exact oMakeSlice_out E cf tm s t a b o h
  | slice t x a b c => exact oSlice_out E cf tm s t x a b c o h
  | fieldAddr t x f =>
    show (oFieldAddr t x f E cf tm s o).out = _
    unfold oFieldAddr doOp; rw [h, evPG_eq, fldOf_eq]; simp only
    cases evP tm x with
    | none => cases E.ty.get t <;> rfl
    | some a =>
      obtain ⟨i, q⟩ := a
      cases E.ty.get t with
      | none => rfl
      | some ti =>
        simp only
        cases structFields ti.kind with
        | none => rfl
        | some fs =>
          simp only
          cases fs[f]? with
          | none => rfl
          | some p =>
            obtain ⟨off, sz, ag⟩ := p
            simp only [faDone]
            cases Nat.beq sz 0 <;> rfl
  | field t x f =>
    show (oField t x f E cf tm s o).out = _
    unfold oField doOp; rw [h, evG_eq, fldOf_eq]; simp only
    cases ev tm x with
    | none => cases E.ty.get t <;> rfl
    | some v => cases v with
      | agg cs =>
        simp only [avAgg]
        cases E.ty.get t with
        | none => rfl
        | some ti =>
          simp only
          cases structFields ti.kind with
          | none => rfl
          | some fs =>
            simp only
            cases fs[f]? with
            | none => rfl
            | some p =>
              obtain ⟨off, sz, ag⟩ := p
              show (cutDone cs s off sz ag).out = _
              unfold cutDone; rw [lenF_eq]
              show RV.out (@Bool.rec (fun _ => RV) _ _ (Nat.ble (off + sz) cs.length)) = bif Nat.ble (off + sz) cs.length then _ else _
              cases Nat.ble (off + sz) cs.length with
              | false => rfl
              | true => show (ovG (boxG ag (takeG (dropG off cs) sz)) s).out = _; rw [ovG_out, boxG_eq, takeG_eq, dropG_eq]; rfl
      | _ => cases E.ty.get t <;> rfl
  | indexAddr t x i =>
    show (oIndexAddr t x i E cf tm s o).out = _
    unfold oIndexAddr
    have h1 := fIndexAddr_out E tm s t x i
    cases hf : fIndexAddr t x i E tm s with
    | no => exact oSlow_out E cf tm s o
    | ok v s' =>
      rw [hf] at h1
      have h2 : idxOp E tm s t x i = some (v, s') := h1.symm
      unfold doOp; rw [h]; simp only [fIndexAddr_sym h2, h2]; rfl
  | index t x i => show (rvOf (xIndex t x i E tm s)).out = _; rw [rvOf_out]; unfold xIndex doOp; rw [h, tyF_eq, evG_eq, evIG_eq]; simp only [tyF_eq]; rfl
  | lookup t x i ok => show (rvOf (xLookup t x i ok E tm s)).out = _; rw [rvOf_out]; unfold xLookup doOp; rw [h, tyF_eq, evG_eq, evVG_eq]; rfl
  | mapUpdate t x i v => show (rvOf (xMapUp t x i v E tm s)).out = _; rw [rvOf_out]; unfold xMapUp doOp; rw [h, tyF_eq, evG_eq, evVG_eq, evVG_eq]; rfl
  | extract x i =>
    show (oExtract x i E cf tm s o).out = _
    unfold oExtract doOp; rw [h, evG_eq]; simp only
    cases ev tm x with
    | none => rfl
    | some v => cases v with
      | tup l =>
        simp only [avTup, nthV_eq]
        cases l[i]? with
        | none => rfl
        | some u => show (ovG (boxG u.1 u.2) s).out = _; rw [ovG_out, boxG_eq]; rfl
      | _ => rfl
  | call c => exact oCall_out E cf tm s c o h
  | _ => exact oSlow_out E cf tm s o
end Go.Mx
