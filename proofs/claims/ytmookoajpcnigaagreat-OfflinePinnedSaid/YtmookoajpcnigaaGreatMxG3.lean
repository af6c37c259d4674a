/- Builtins, slices. -/
import Derived.Test.YtmookoajpcnigaaGreatMxG2
set_option linter.unusedVariables false
set_option linter.unusedSimpArgs false
namespace Go.Mx
open Go

noncomputable def tkSl (k : TK) : Option Nat := @TK.rec (fun _ => Option Nat) (fun _ => none) none none none (fun e => some e) (fun _ _ => none) (fun _ _ => none) (fun _ => none) none none none k
theorem tkSl_some {k : TK} {e : Nat} (h : tkSl k = some e) : k = .slice e := by cases k <;> first | cases h; rfl | cases h
/-- the element type of a slice type -/
noncomputable def elemOf (E : Env) (t : Nat) : Option Nat := @Option.rec TI (fun _ => Option Nat) none (fun ti => tkSl ti.kind) (tyF E t)
theorem elemOf_some {E : Env} {t e : Nat} (h : elemOf E t = some e) : ∃ ti, E.ty.get t = some ti ∧ ti.kind = .slice e := by
  unfold elemOf at h; rw [tyF_eq] at h
  cases hh : E.ty.get t with
  | none => rw [hh] at h; cases h
  | some ti => rw [hh] at h; exact ⟨ti, rfl, tkSl_some h⟩

structure SlV where
  a : Option (Nat × Nat)
  len : Nat
  cap : Nat
  op : Bool
noncomputable def scSlv (c : Sc) : Option SlV :=
  @Sc.rec (fun _ => Option SlV) (fun _ => none) (fun _ _ => none) (fun _ => none) (fun a => none) (fun a n m b => some ⟨a, n, m, b⟩) (fun _ _ => none) (fun _ => none) (fun _ => none) (fun _ _ _ => none) none none (fun _ _ => none) (fun _ _ _ _ => none) (fun _ _ _ _ => none) (fun _ _ _ _ => none) (fun _ _ _ _ => none) c
noncomputable def avSlv (v : AV) : Option SlV := @AV.rec (fun _ => Option SlV) scSlv (fun _ => none) (fun _ => none) (fun _ => none) v
theorem avSlv_some {v : AV} {q : SlV} (h : avSlv v = some q) : v = .one (.sl q.a q.len q.cap q.op) := by
  cases v with
  | one c => cases c with
    | sl a n m b => cases h; rfl
    | _ => cases h
  | _ => cases h
noncomputable def evSl (tm : Tm) (x : Operand) : Option SlV := @Option.rec AV (fun _ => Option SlV) none avSlv (evG tm x)
theorem evSl_some {tm : Tm} {x : Operand} {q : SlV} (h : evSl tm x = some q) : ev tm x = some (.one (.sl q.a q.len q.cap q.op)) := by
  unfold evSl at h; rw [evG_eq] at h
  cases hh : ev tm x with
  | none => rw [hh] at h; cases h
  | some v => rw [hh] at h; rw [avSlv_some h]

/-- the cells of a slice -/
noncomputable def slCells (s : St) (a : Option (Nat × Nat)) (n : Nat) : Option (List Sc) := @Option.rec (Nat × Nat) (fun _ => Option (List Sc)) (some []) (fun a => ldG s a n) a
theorem slCells_eq (s : St) (a : Option (Nat × Nat)) (len cap : Nat) (op : Bool) (sz n : Nat) : slCells s a (n * sz) = srcCells s sz n (.one (.sl a len cap op)) := by
  cases a with
  | none => rfl
  | some a => show ldG s a (n * sz) = _; rw [ldG_eq]; rfl

noncomputable def slV (a : Option (Nat × Nat)) (n m : Nat) (op : Bool) : AV := .one (.sl a n m op)
noncomputable def apIn (te : TI) (s : St) (a : Option (Nat × Nat)) (len cap : Nat) (op : Bool) (new : List Sc) (n : Nat) : RV :=
  @Option.rec (Nat × Nat) (fun _ => RV) (@Bool.rec (fun _ => RV) .no (.ok (slV none (Nat.add len n) cap op) s) (Nat.beq n 0))
    (fun p => @Option.rec St (fun _ => RV) .no (fun s => .ok (slV a (Nat.add len n) cap op) s) (stG s (p.1, Nat.add p.2 (Nat.mul len te.size)) new)) a
noncomputable def apOpen (te : TI) (e : Nat) (s : St) (i o len cap : Nat) (new : List Sc) (n : Nat) (k : Nat) (z : Zr) (t : PT Sc) (e' : Nat) (md : Bool) : RV :=
  @Bool.rec (fun _ => RV) .no (.ok (slV (some (s.next, 0)) (Nat.add len n) (Nat.add len n) true) (allocF ⟨s.next, s.hp.del i⟩ (.arr (Nat.mul (Nat.add len n) te.size) z (setCellsF new t (Nat.mul len te.size)) e true)))
    (and (and (and (and md (Nat.beq e' e)) (Nat.beq o 0)) (Nat.beq (Nat.mul cap te.size) k)) (Nat.beq len cap))
noncomputable def apGrow (te : TI) (e : Nat) (s : St) (len : Nat) (cs : List Sc) (n : Nat) : RV :=
  .ok (slV (some (s.next, 0)) (Nat.add len n) (Nat.add len n) true) (allocF s (.arr (Nat.mul (Nat.add len n) te.size) (zeroOf te) (setCellsF cs .leaf 0) e true))
noncomputable def scApp (l m : List Sc) : List Sc := @List.rec Sc (fun _ => List Sc) m (fun a _ ih => a :: ih) l
theorem scApp_eq (l m : List Sc) : scApp l m = l ++ m := by
  induction l with
  | nil => rfl
  | cons a r ih => show a :: scApp r m = _; rw [ih]; rfl
noncomputable def apObj (te : TI) (e : Nat) (s : St) (i o len cap : Nat) (op : Bool) (new : List Sc) (n : Nat) (ob : AO) : RV :=
  @AO.rec (fun _ => RV) (fun k z t e' md => @Bool.rec (fun _ => RV) .no
      (@Bool.rec (fun _ => RV) (apGrow te e s len (scApp (cellsVF z t o (Nat.mul len te.size)) new) n) (apOpen te e s i o len cap new n k z t e' md) op)
      (Nat.ble (Nat.add o (Nat.mul len te.size)) k)) (fun k f => @Bool.rec (fun _ => RV) .no (apGrow te e s len (scApp (cellsRF f o (Nat.mul len te.size)) new) n) (and (Nat.ble (Nat.add o (Nat.mul len te.size)) k) (not op))) (fun _ _ => .no) (fun _ _ => .no) (fun _ => .no) ob
noncomputable def apOut (te : TI) (e : Nat) (s : St) (a : Option (Nat × Nat)) (len cap : Nat) (op : Bool) (new : List Sc) (n : Nat) : RV :=
  @Option.rec (Nat × Nat) (fun _ => RV)
    (@Bool.rec (fun _ => RV) .no (.ok (slV (some (s.next, 0)) n n true) (allocF s (.arr (Nat.mul n te.size) (zeroOf te) (setCellsF new .leaf 0) e true))) (Nat.beq len 0))
    (fun p => @Option.rec AO (fun _ => RV) .no (apObj te e s p.1 p.2 len cap op new n) (PT.g s.hp p.1)) a
noncomputable def apG (te : TI) (e : Nat) (s : St) (a : Option (Nat × Nat)) (len cap : Nat) (op : Bool) (new : List Sc) (n : Nat) : RV :=
  @Bool.rec (fun _ => RV) (@Bool.rec (fun _ => RV) .no (apOut te e s a len cap op new n) (Nat.ble (Nat.add len n) lim)) (apIn te s a len cap op new n) (Nat.ble (Nat.add len n) cap)
theorem apG_out (te : TI) (e : Nat) (s : St) (a : Option (Nat × Nat)) (len cap : Nat) (op : Bool) (new : List Sc) (n : Nat) : (apG te e s a len cap op new n).out = appendOp te e s a len cap op new n := by
  unfold apG appendOp
  show RV.out (@Bool.rec (fun _ => RV) _ _ (Nat.ble (len + n) cap)) = _
  cases Nat.ble (len + n) cap with
  | true =>
    simp only [cond_true]
    unfold apIn
    cases a with
    | none =>
      simp only
      cases Nat.beq n 0 <;> rfl
    | some p =>
      simp only [stG_eq]
      show RV.out (@Option.rec St (fun _ => RV) .no (fun s => .ok (slV (some p) (len + n) cap op) s) (stCells s (p.1, p.2 + len * te.size) new)) = _
      cases stCells s (p.1, p.2 + len * te.size) new <;> rfl
  | false =>
    simp only [cond_false]
    show RV.out (@Bool.rec (fun _ => RV) _ _ (Nat.ble (len + n) lim)) = _
    cases Nat.ble (len + n) lim with
    | false => rfl
    | true =>
      simp only [cond_true]
      unfold apOut
      cases a with
      | none =>
        simp only [allocF_eq, setCellsF_eq]
        cases Nat.beq len 0 <;> rfl
      | some p =>
        obtain ⟨i, o⟩ := p
        simp only [PT.g_eq]
        cases s.hp.get i with
        | none => rfl
        | some ob =>
          simp only
          cases ob with
          | arr k z t e' md =>
            simp only [apObj, apGrow, apOpen, allocF_eq, setCellsF_eq, scApp_eq, cellsVF_eq]
            show RV.out (@Bool.rec (fun _ => RV) _ _ (Nat.ble (o + len * te.size) k)) = bif Nat.ble (o + len * te.size) k then _ else _
            cases Nat.ble (o + len * te.size) k with
            | false => rfl
            | true =>
              simp only [cond_true]
              cases op with
              | false => rfl
              | true =>
                simp only [cond_true]
                show RV.out (@Bool.rec (fun _ => RV) _ _ ((md && Nat.beq e' e && Nat.beq o 0 && Nat.beq (cap * te.size) k && Nat.beq len cap))) = _
                cases (md && Nat.beq e' e && Nat.beq o 0 && Nat.beq (cap * te.size) k && Nat.beq len cap) <;> rfl
          | ro k f =>
            simp only [apObj, apGrow, allocF_eq, setCellsF_eq, scApp_eq, cellsRF_eq]
            show RV.out (@Bool.rec (fun _ => RV) _ _ (Nat.ble (o + len * te.size) k && !op)) = _
            cases (Nat.ble (o + len * te.size) k && !op) <;> rfl
          | _ => rfl

/- builtins: a fast road for the usual ones, the elder one for the rest -/
noncomputable def bSlow (b : Builtin) (tys : List Nat) (args : List Operand) (E : Env) (tm : Tm) (s : St) : RV := rvOf (builtinOp E tm s b tys args)
theorem bSlow_out (b : Builtin) (tys : List Nat) (args : List Operand) (E : Env) (tm : Tm) (s : St) : (bSlow b tys args E tm s).out = builtinOp E tm s b tys args := rvOf_out _
noncomputable def lenK (k : TK) (s : St) (v : AV) : Option Nat := lenV s k v
noncomputable def scLen (c : Sc) : Option Nat :=
  @Sc.rec (fun _ => Option Nat) (fun _ => none) (fun _ _ => none) (fun _ => none) (fun a => none) (fun a n m b => some n) (fun _ _ => some 0) (fun _ => none) (fun _ => none) (fun _ _ _ => none) none none (fun _ _ => none) (fun _ _ _ _ => none) (fun _ _ _ _ => none) (fun _ _ _ _ => none) (fun _ _ _ _ => none) c
noncomputable def avLen (v : AV) : Option Nat := @AV.rec (fun _ => Option Nat) scLen (fun _ => none) (fun _ => none) (fun _ => none) v
noncomputable def intV (n : Nat) (s : St) : RV := .ok (.one (.i .i64 (Int.ofNat n))) s
noncomputable def bLen1 (t : Nat) (x : Operand) (tys : List Nat) (args : List Operand) (E : Env) (tm : Tm) (s : St) : RV :=
  @Option.rec Nat (fun _ => RV) (bSlow .len tys args E tm s) (fun _ => @Option.rec AV (fun _ => RV) (bSlow .len tys args E tm s) (fun v => @Option.rec Nat (fun _ => RV) (bSlow .len tys args E tm s) (fun n => intV n s) (avLen v)) (evG tm x)) (elemOf E t)
noncomputable def bLen (tys : List Nat) (args : List Operand) (E : Env) (tm : Tm) (s : St) : RV :=
  @List.rec Nat (fun _ => RV) (bSlow .len tys args E tm s) (fun t _ _ => @List.rec Operand (fun _ => RV) (bSlow .len tys args E tm s) (fun x _ _ => bLen1 t x tys args E tm s) args) tys
theorem bLen_out (tys : List Nat) (args : List Operand) (E : Env) (tm : Tm) (s : St) : (bLen tys args E tm s).out = builtinOp E tm s .len tys args := by
  cases tys with
  | nil => exact bSlow_out .len [] args E tm s
  | cons t r => cases args with
    | nil => exact bSlow_out .len (t :: r) [] E tm s
    | cons x q =>
      show (bLen1 t x _ _ E tm s).out = _
      unfold bLen1
      cases h : elemOf E t with
      | none => exact bSlow_out .len _ _ E tm s
      | some e =>
        obtain ⟨ti, h1, h2⟩ := elemOf_some h
        obtain ⟨sz, ag, kd, zr, pl⟩ := ti
        simp only at h2; subst h2
        rw [evG_eq]
        cases hv : ev tm x with
        | none => exact bSlow_out .len _ _ E tm s
        | some v =>
          simp only
          cases hl : avLen v with
          | none => exact bSlow_out .len _ _ E tm s
          | some n =>
            simp only
            have hsym : symB E tm s .len (t :: r) (x :: q) = none := by
              simp only [symB, symLen, h1, hv]
              cases v with
              | one c => cases c <;> first | rfl | cases hl
              | _ => rfl
            unfold builtinOp; rw [hsym]
            simp only [builtinOp0, h1, hv]
            cases v with
            | one c => cases c <;> first | (cases hl; rfl) | cases hl
            | _ => cases hl

noncomputable def apEl (E : Env) (tm : Tm) (s : St) (tys : List Nat) (args : List Operand) (e : Nat) (q w : SlV) : RV :=
  @Option.rec TI (fun _ => RV) (bSlow .append tys args E tm s) (fun te => @Option.rec (List Sc) (fun _ => RV) .no (fun new => @Bool.rec (fun _ => RV) .no (apG te e s q.a q.len q.cap q.op new w.len) (Nat.beq (lenF new) (Nat.mul w.len te.size))) (slCells s w.a (Nat.mul w.len te.size))) (tyF E e)
noncomputable def bApp2 (t t' : Nat) (x y : Operand) (tys : List Nat) (args : List Operand) (E : Env) (tm : Tm) (s : St) : RV :=
  @Option.rec Nat (fun _ => RV) (bSlow .append tys args E tm s) (fun e => @Option.rec Nat (fun _ => RV) (bSlow .append tys args E tm s) (fun _ =>
    @Option.rec SlV (fun _ => RV) (bSlow .append tys args E tm s) (fun q => @Option.rec SlV (fun _ => RV) (bSlow .append tys args E tm s) (fun w => apEl E tm s tys args e q w) (evSl tm y)) (evSl tm x)) (elemOf E t')) (elemOf E t)
noncomputable def bApp (tys : List Nat) (args : List Operand) (E : Env) (tm : Tm) (s : St) : RV :=
  @List.rec Nat (fun _ => RV) (bSlow .append tys args E tm s) (fun t r _ => @List.rec Nat (fun _ => RV) (bSlow .append tys args E tm s) (fun t' r' _ => @List.rec Nat (fun _ => RV)
    (@List.rec Operand (fun _ => RV) (bSlow .append tys args E tm s) (fun x q _ => @List.rec Operand (fun _ => RV) (bSlow .append tys args E tm s) (fun y q' _ => @List.rec Operand (fun _ => RV) (bApp2 t t' x y tys args E tm s) (fun _ _ _ => bSlow .append tys args E tm s) q') q) args)
    (fun _ _ _ => bSlow .append tys args E tm s) r') r) tys
theorem bApp2_out (t t' : Nat) (x y : Operand) (E : Env) (tm : Tm) (s : St) : (bApp2 t t' x y [t, t'] [x, y] E tm s).out = builtinOp E tm s .append [t, t'] [x, y] := by
  unfold bApp2
  cases h1 : elemOf E t with
  | none => exact bSlow_out .append _ _ E tm s
  | some e => cases h2 : elemOf E t' with
    | none => exact bSlow_out .append _ _ E tm s
    | some e' => cases h3 : evSl tm x with
      | none => exact bSlow_out .append _ _ E tm s
      | some q => cases h4 : evSl tm y with
        | none => exact bSlow_out .append _ _ E tm s
        | some w =>
          simp only
          unfold apEl; rw [tyF_eq]
          cases h5 : E.ty.get e with
          | none => exact bSlow_out .append _ _ E tm s
          | some te =>
            obtain ⟨ti, g1, g2⟩ := elemOf_some h1
            obtain ⟨ti', g3, g4⟩ := elemOf_some h2
            obtain ⟨sz, ag, kd, zr, pl⟩ := ti
            simp only at g2; subst g2
            obtain ⟨sz', ag', kd', zr', pl'⟩ := ti'
            simp only at g4; subst g4
            have g5 := evSl_some h3
            have g6 := evSl_some h4
            have hsym : symB E tm s .append [t, t'] [x, y] = none := by
              obtain ⟨qa, ql, qc, qo⟩ := q
              simp only [symB, symAppend, g1, g3, g5, g6]
            unfold builtinOp; rw [hsym]
            simp only [builtinOp0, g1, g3, g5, g6, h5, lenS, ← slCells_eq, lenF_eq]
            show RV.out (@Option.rec (List Sc) (fun _ => RV) .no _ (slCells s w.a (w.len * te.size))) = _
            cases slCells s w.a (w.len * te.size) with
            | none => rfl
            | some new =>
              simp only
              show RV.out (@Bool.rec (fun _ => RV) _ _ (Nat.beq new.length (w.len * te.size))) = _
              cases Nat.beq new.length (w.len * te.size) with
              | false => rfl
              | true => exact apG_out _ _ _ _ _ _ _ _ _
theorem bApp_out (tys : List Nat) (args : List Operand) (E : Env) (tm : Tm) (s : St) : (bApp tys args E tm s).out = builtinOp E tm s .append tys args := by
  match tys, args with
  | [], _ => exact bSlow_out .append _ _ E tm s
  | [_], _ => exact bSlow_out .append _ _ E tm s
  | _ :: _ :: _ :: _, _ => exact bSlow_out .append _ _ E tm s
  | [_, _], [] => exact bSlow_out .append _ _ E tm s
  | [_, _], [_] => exact bSlow_out .append _ _ E tm s
  | [_, _], _ :: _ :: _ :: _ => exact bSlow_out .append _ _ E tm s
  | [t, t'], [x, y] => exact bApp2_out t t' x y E tm s

noncomputable def mnG (x y : Int) : Int := @Bool.rec (fun _ => Int) x y (ltF y x)
noncomputable def mxG (x y : Int) : Int := @Bool.rec (fun _ => Int) x y (ltF x y)
noncomputable def foldG (f : Int → Int → Int) (tm : Tm) (l : List Operand) : Int → Option Int :=
  @List.rec Operand (fun _ => Int → Option Int) (fun v => some v) (fun x _ ih v => @Option.rec (IntKind × Int) (fun _ => Option Int) none (fun p => ih (f v p.2)) (evIG tm x)) l
theorem foldG_mn (tm : Tm) (k : IntKind) : ∀ (l : List Operand) (v : Int), foldG mnG tm l v = foldMM true tm k v l := by
  intro l
  induction l with
  | nil => intro v; rfl
  | cons x r ih =>
    intro v
    show @Option.rec (IntKind × Int) (fun _ => Option Int) none (fun p => foldG mnG tm r (mnG v p.2)) (evIG tm x) = _
    simp only [foldMM, evIG_eq]
    cases evI tm x with
    | none => rfl
    | some p =>
      simp only [ih]
      congr 1
      unfold mnG minI; rw [ltF_eq]; cases decide (p.2 < v) <;> rfl
theorem foldG_mx (tm : Tm) (k : IntKind) : ∀ (l : List Operand) (v : Int), foldG mxG tm l v = foldMM false tm k v l := by
  intro l
  induction l with
  | nil => intro v; rfl
  | cons x r ih =>
    intro v
    show @Option.rec (IntKind × Int) (fun _ => Option Int) none (fun p => foldG mxG tm r (mxG v p.2)) (evIG tm x) = _
    simp only [foldMM, evIG_eq]
    cases evI tm x with
    | none => rfl
    | some p =>
      simp only [ih]
      congr 1
      unfold mxG maxI; rw [ltF_eq]; cases decide (v < p.2) <;> rfl
noncomputable def bMM (b : Builtin) (f : Int → Int → Int) (tys : List Nat) (args : List Operand) (E : Env) (tm : Tm) (s : St) : RV :=
  @List.rec Operand (fun _ => RV) (bSlow b tys args E tm s) (fun x r _ => @Option.rec (IntKind × Int) (fun _ => RV) (bSlow b tys args E tm s) (fun p => @Option.rec Int (fun _ => RV) (bSlow b tys args E tm s) (fun n => .ok (.one (.i p.1 n)) s) (foldG f tm r p.2)) (evIG tm x)) args
theorem evI_ev {tm : Tm} {x : Operand} {k : IntKind} {n : Int} (h : evI tm x = some (k, n)) : ev tm x = some (.one (.i k n)) := by
  unfold evI at h
  split at h
  · rename_i kk nn hh; cases h; exact hh
  · cases h
theorem bMM_mn (tys : List Nat) (args : List Operand) (E : Env) (tm : Tm) (s : St) : (bMM .min mnG tys args E tm s).out = builtinOp E tm s .min tys args := by
  cases args with
  | nil => exact bSlow_out .min tys [] E tm s
  | cons x r =>
    show RV.out (@Option.rec (IntKind × Int) (fun _ => RV) (bSlow .min tys (x :: r) E tm s) (fun p => @Option.rec Int (fun _ => RV) (bSlow .min tys (x :: r) E tm s) (fun n => .ok (.one (.i p.1 n)) s) (foldG mnG tm r p.2)) (evIG tm x)) = _
    rw [evIG_eq]
    cases hx : evI tm x with
    | none => exact bSlow_out .min tys (x :: r) E tm s
    | some p =>
      simp only [foldG_mn tm p.1]
      cases hf : foldMM true tm p.1 p.2 r with
      | none => exact bSlow_out .min tys (x :: r) E tm s
      | some n =>
        have hsym : symB E tm s .min tys (x :: r) = none := by
          simp only [symB]
          cases r with
          | nil => rfl
          | cons y r' => cases r' with
            | nil => simp only [symMin, evI_ev hx]
            | cons => rfl
        unfold builtinOp; rw [hsym]
        simp only [builtinOp0, hx, hf]; rfl
theorem bMM_mx (tys : List Nat) (args : List Operand) (E : Env) (tm : Tm) (s : St) : (bMM .max mxG tys args E tm s).out = builtinOp E tm s .max tys args := by
  cases args with
  | nil => exact bSlow_out .max tys [] E tm s
  | cons x r =>
    show RV.out (@Option.rec (IntKind × Int) (fun _ => RV) (bSlow .max tys (x :: r) E tm s) (fun p => @Option.rec Int (fun _ => RV) (bSlow .max tys (x :: r) E tm s) (fun n => .ok (.one (.i p.1 n)) s) (foldG mxG tm r p.2)) (evIG tm x)) = _
    rw [evIG_eq]
    cases hx : evI tm x with
    | none => exact bSlow_out .max tys (x :: r) E tm s
    | some p =>
      simp only [foldG_mx tm p.1]
      cases hf : foldMM false tm p.1 p.2 r with
      | none => exact bSlow_out .max tys (x :: r) E tm s
      | some n =>
        have hsym : symB E tm s .max tys (x :: r) = none := rfl
        unfold builtinOp; rw [hsym]
        simp only [builtinOp0, hx, hf]; rfl

noncomputable def bG (b : Builtin) : List Nat → List Operand → Env → Tm → St → RV :=
  @Builtin.rec (fun _ => List Nat → List Operand → Env → Tm → St → RV) bApp (bSlow .cap) (bSlow .clear) (bSlow .close) (bSlow .complex) (bSlow .copy) (bSlow .delete) (bSlow .imag) bLen (bSlow .make) (bMM .max mxG) (bMM .min mnG) (bSlow .new) (bSlow .panic) (bSlow .print) (bSlow .println) (bSlow .real) (bSlow .recover) (bSlow .unsafeAdd) (bSlow .unsafeSlice) (bSlow .unsafeSliceData) (bSlow .unsafeString) (bSlow .unsafeStringData) (bSlow .unsafeSizeof) (bSlow .unsafeAlignof) (bSlow .unsafeOffsetof) b
theorem bG_out (b : Builtin) (tys : List Nat) (args : List Operand) (E : Env) (tm : Tm) (s : St) : (bG b tys args E tm s).out = builtinOp E tm s b tys args := by
  cases b
  case append => exact bApp_out _ _ _ _ _
  case len => exact bLen_out _ _ _ _ _
  case min => exact bMM_mn _ _ _ _ _
  case max => exact bMM_mx _ _ _ _ _
  all_goals exact bSlow_out _ tys args E tm s
end Go.Mx
