/- The other operations. -/
import Derived.Test.YtmookoajpcnigaaGreatMxG3
set_option linter.unusedVariables false
set_option linter.unusedSimpArgs false
namespace Go.Mx
open Go

noncomputable def mkSl (E : Env) (s : St) (n m e : Nat) : RV :=
  @Option.rec TI (fun _ => RV) .no (fun te => @Bool.rec (fun _ => RV) .no (.ok (slV (some (s.next, 0)) n m false) (allocF s (.arr (Nat.mul m te.size) (zeroOf te) .leaf e false))) (and (Nat.ble n m) (Nat.ble m lim))) (tyF E e)
noncomputable def oMakeSlice (t : Nat) (l c : Operand) (E : Env) (cf : CF) (tm : Tm) (s : St) (o : Oper) : RV :=
  @Option.rec Nat (fun _ => RV) .no (fun e => @Option.rec Nat (fun _ => RV) .no (fun n => @Option.rec Nat (fun _ => RV) .no (fun m => mkSl E s n m e) (evNG tm c)) (evNG tm l)) (elemOf E t)
theorem evNG_eq (tm : Tm) (o : Operand) : evNG tm o = (match evI tm o with | some (_, .ofNat n) => some n | _ => none) := by
  unfold evNG; rw [evIG_eq]
  cases evI tm o with
  | none => rfl
  | some p => obtain ⟨k, n⟩ := p; cases n <;> rfl
theorem evNG_some {tm : Tm} {o : Operand} {n : Nat} (h : evNG tm o = some n) : ∃ k, evI tm o = some (k, .ofNat n) := by
  rw [evNG_eq] at h
  cases hh : evI tm o with
  | none => rw [hh] at h; cases h
  | some p => obtain ⟨k, m⟩ := p; rw [hh] at h; cases m with
    | ofNat q => cases h; exact ⟨k, rfl⟩
    | negSucc q => cases h
theorem evNG_none {tm : Tm} {o : Operand} (h : evNG tm o = none) : ∀ k n, evI tm o ≠ some (k, .ofNat n) := by
  intro k n e; rw [evNG_eq, e] at h; cases h
theorem elemOf_none {E : Env} {t : Nat} (h : elemOf E t = none) : ∀ sz ag e zr pl, E.ty.get t ≠ some ⟨sz, ag, .slice e, zr, pl⟩ := by
  intro sz ag e zr pl hh
  unfold elemOf at h; rw [tyF_eq, hh] at h; cases h
theorem oMakeSlice_out (E : Env) (cf : CF) (tm : Tm) (s : St) (t : Nat) (l c : Operand) (o : Oper) (h : o.op = .makeSlice t l c) : (oMakeSlice t l c E cf tm s o).out = doOp E cf tm s o := by
  unfold doOp oMakeSlice; rw [h]; simp only
  cases h1 : elemOf E t with
  | none =>
    show none = _
    symm
    split
    · rename_i sz ag e zr pl n m g1 g2 g3; exact absurd g1 (elemOf_none h1 _ _ _ _ _)
    · rfl
  | some e =>
    obtain ⟨ti, g1, g2⟩ := elemOf_some h1
    obtain ⟨sz, ag, kd, zr, pl⟩ := ti
    simp only at g2; subst g2
    simp only [g1]
    cases h2 : evNG tm l with
    | none =>
      show none = _
      symm
      split
      · rename_i q1 q2 q3 q4; cases q2 <;> first | exact absurd q3 (evNG_none h2 _ _) | rfl
      · rfl
    | some n =>
      obtain ⟨kn, g3⟩ := evNG_some h2
      simp only [g3]
      cases h3 : evNG tm c with
      | none =>
        show none = _
        symm
        split
        · rename_i q1 q2 q3 q4; first | exact absurd q4 (evNG_none h3 _ _) | exact absurd q3 (evNG_none h3 _ _) | rfl
        · rfl
      | some m =>
        obtain ⟨km, g4⟩ := evNG_some h3
        simp only [g4]
        unfold mkSl; rw [tyF_eq]
        cases E.ty.get e with
        | none => rfl
        | some te =>
          simp only [allocF_eq]
          cases (Nat.ble n m && Nat.ble m lim) <;> rfl

noncomputable def boundG (tm : Tm) (o : Option Operand) (d hi : Nat) : Option Nat :=
  @Option.rec Operand (fun _ => Option Nat) (some d) (fun x => @Option.rec Nat (fun _ => Option Nat) none (fun n => @Bool.rec (fun _ => Option Nat) none (some n) (Nat.ble n hi)) (evNG tm x)) o
theorem boundG_eq (tm : Tm) (o : Option Operand) (d hi : Nat) : boundG tm o d hi = bound tm o d hi := by
  cases o with
  | none => rfl
  | some x =>
    show @Option.rec Nat (fun _ => Option Nat) none (fun n => @Bool.rec (fun _ => Option Nat) none (some n) (Nat.ble n hi)) (evNG tm x) = _
    simp only [bound, evNG_eq]
    cases evI tm x with
    | none => rfl
    | some p => obtain ⟨k, n⟩ := p; cases n with
      | ofNat m => simp only; cases Nat.ble m hi <;> rfl
      | negSucc m => rfl
noncomputable def isSm (o : Option Operand) : Bool := @Option.rec Operand (fun _ => Bool) false (fun _ => true) o
theorem isSm_eq (o : Option Operand) : isSm o = o.isSome := by cases o <;> rfl
noncomputable def slDone (s : St) (i o : Nat) (len sz : Nat) (op mn : Bool) (l h m : Nat) : RV :=
  @Bool.rec (fun _ => RV) .no
    (@Bool.rec (fun _ => RV)
      (.ok (slV (some (@Bool.rec (fun _ => Nat × Nat) (i, Nat.add o (Nat.mul l sz)) (i, o) (Nat.beq m l))) (Nat.sub h l) (Nat.sub m l) (and op mn)) s)
      (.ok (.one (.se (i, o) (Nat.mul l sz))) s)
      (and (and op mn) (Nat.beq m l))) (and (Nat.ble l m) (Nat.ble h m))
noncomputable def slGo (F : RV) (tm : Tm) (s : St) (lo hi mx : Option Operand) (q : SlV) (i o sz : Nat) : RV :=
  @Option.rec Nat (fun _ => RV) F (fun m =>
    @Option.rec Nat (fun _ => RV) F (fun h =>
      @Option.rec Nat (fun _ => RV) F (fun l => slDone s i o q.len sz q.op (not (isSm mx)) l h m) (boundG tm lo 0 h))
    (@Bool.rec (fun _ => Option Nat) (boundG tm hi q.len m) none (and (isSm mx) (not (isSm hi))))) (boundG tm mx q.cap q.cap)
noncomputable def slTe (F : RV) (tm : Tm) (s : St) (lo hi mx : Option Operand) (q : SlV) (e : Nat) (E : Env) (p : Nat × Nat) : RV :=
  @Option.rec TI (fun _ => RV) F (fun te => slGo F tm s lo hi mx q p.1 p.2 te.size) (tyF E e)
noncomputable def oSlice (t : Nat) (x : Operand) (lo hi mx : Option Operand) (E : Env) (cf : CF) (tm : Tm) (s : St) (o : Oper) : RV :=
  @Option.rec Nat (fun _ => RV) (ovG (sliceOp E tm t x lo hi mx) s) (fun e => @Option.rec SlV (fun _ => RV) (ovG (sliceOp E tm t x lo hi mx) s) (fun q =>
    @Option.rec (Nat × Nat) (fun _ => RV) (ovG (sliceOp E tm t x lo hi mx) s) (fun p => slTe (ovG (sliceOp E tm t x lo hi mx) s) tm s lo hi mx q e E p) q.a) (evSl tm x)) (elemOf E t)
theorem lnOf_bound {tm : Tm} {x : Operand} {d u n : Nat} (h : bound tm (some x) d u = some n) : lnOf tm x = none := by
  simp only [bound] at h
  unfold lnOf
  split
  · rename_i c lo hi he
    simp only [evI, he] at h
    cases h
  · rfl
theorem oSlice_out (E : Env) (cf : CF) (tm : Tm) (s : St) (t : Nat) (x : Operand) (lo hi mx : Option Operand) (o : Oper) (h : o.op = .slice t x lo hi mx) : (oSlice t x lo hi mx E cf tm s o).out = doOp E cf tm s o := by
  unfold doOp oSlice; rw [h]; simp only
  cases h1 : elemOf E t with
  | none => exact ovG_out _ _
  | some e => cases h2 : evSl tm x with
    | none => exact ovG_out _ _
    | some q =>
      obtain ⟨a, len, cap, op⟩ := q
      cases a with
      | none => exact ovG_out _ _
      | some p =>
        obtain ⟨i, k⟩ := p
        obtain ⟨ti, g1, g2⟩ := elemOf_some h1
        obtain ⟨sz, ag, kd, zr, pl⟩ := ti
        simp only at g2; subst g2
        have g3 := evSl_some h2
        simp only at g3
        simp only
        unfold slTe; rw [tyF_eq]
        cases h3 : E.ty.get e with
        | none => exact ovG_out _ _
        | some te =>
          simp only
          unfold slGo
          simp only [boundG_eq, isSm_eq]
          cases h4 : bound tm mx cap cap with
          | none => exact ovG_out _ _
          | some m =>
            simp only
            have e1 : @Bool.rec (fun _ => Option Nat) (bound tm hi len m) none (mx.isSome && !hi.isSome) = (bif mx.isSome && hi.isNone then none else bound tm hi len m) := by
              cases mx <;> cases hi <;> rfl
            show RV.out (@Option.rec Nat (fun _ => RV) _ _ (@Bool.rec (fun _ => Option Nat) (bound tm hi len m) none (mx.isSome && !hi.isSome))) = _
            rw [e1]
            cases h5 : (bif mx.isSome && hi.isNone then none else bound tm hi len m) with
            | none => exact ovG_out _ _
            | some hh =>
              simp only
              cases h6 : bound tm lo 0 hh with
              | none => exact ovG_out _ _
              | some l =>
                have hsym : symSlice E tm t x lo hi mx = none := by
                  simp only [symSlice, g1, g3]
                  simp only [h3]
                  cases lo with
                  | some lo => simp only [cond_eq_ite]; split <;> rfl
                  | none => cases hi with
                    | none => simp only [cond_eq_ite]; split <;> rfl
                    | some hi => cases mx with
                      | some mx => simp only [cond_eq_ite]; split <;> rfl
                      | none =>
                        have : lnOf tm hi = none := lnOf_bound (d := len) (u := m) (n := hh) (by simpa using h5)
                        simp only [this, cond_eq_ite]; split <;> rfl
                simp only [sliceOp, hsym, sliceOp0, g1, g3, h3, bounds3, h4, h5, h6, slDone]
                cases hb : (Nat.ble l m && Nat.ble hh m) with
                | false => simp only [cond_false]; rfl
                | true =>
                  have e2 : (!mx.isSome) = mx.isNone := by cases mx <;> rfl
                  simp only [cond_true, e2]
                  show RV.out (@Bool.rec (fun _ => RV) _ _ (op && mx.isNone && Nat.beq m l)) = _
                  cases Nat.beq m l <;> cases (op && mx.isNone) <;> rfl

/- building -/
noncomputable def spliceG (cells : List Sc) (off : Nat) (vs : List Sc) : List Sc := scApp (takeG cells off) (scApp vs (dropG (Nat.add off (lenF vs)) cells))
theorem takeG_eq : ∀ (l : List Sc) (n : Nat), takeG l n = l.take n := by
  intro l
  induction l with
  | nil => intro n; cases n <;> rfl
  | cons a r ih => intro n; cases n with | zero => rfl | succ m => show a :: takeG r m = _; rw [ih]; rfl
theorem dropG_eq : ∀ (n : Nat) (l : List Sc), dropG n l = l.drop n := by
  intro n
  induction n with
  | zero => intro l; rfl
  | succ n ih => intro l; cases l with | nil => rfl | cons a r => show dropG n r = _; rw [ih]; rfl
theorem spliceG_eq (cells : List Sc) (off : Nat) (vs : List Sc) : spliceG cells off vs = splice cells off vs := by
  unfold spliceG splice; rw [scApp_eq, scApp_eq, takeG_eq, dropG_eq, lenF_eq, List.append_assoc]; rfl
noncomputable def fillG (E : Env) (tm : Tm) (place : Nat → Option (Nat × Nat)) (l : List (Nat × Operand)) : List Sc → Option (List Sc) :=
  @List.rec (Nat × Operand) (fun _ => List Sc → Option (List Sc)) (fun cs => some cs) (fun p _ ih cs =>
    @Option.rec (Nat × Nat) (fun _ => Option (List Sc)) none (fun q => @Option.rec (List Sc) (fun _ => Option (List Sc)) none (fun vs =>
      @Bool.rec (fun _ => Option (List Sc)) none (ih (spliceG cs q.1 vs)) (and (Nat.beq (lenF vs) q.2) (Nat.ble (Nat.add q.1 q.2) (lenF cs)))) (evCG E tm p.2)) (place p.1)) l
theorem fillG_eq (E : Env) (tm : Tm) (place : Nat → Option (Nat × Nat)) : ∀ (l : List (Nat × Operand)) (cs : List Sc), fillG E tm place l cs = fillOp E tm place l cs := by
  intro l
  induction l with
  | nil => intro cs; rfl
  | cons p r ih =>
    intro cs
    obtain ⟨i, x⟩ := p
    show @Option.rec (Nat × Nat) (fun _ => Option (List Sc)) none (fun q => @Option.rec (List Sc) (fun _ => Option (List Sc)) none (fun vs =>
      @Bool.rec (fun _ => Option (List Sc)) none (fillG E tm place r (spliceG cs q.1 vs)) (and (Nat.beq (lenF vs) q.2) (Nat.ble (q.1 + q.2) (lenF cs)))) (evCG E tm x)) (place i) = _
    simp only [fillOp, evCG_eq]
    cases place i with
    | none => rfl
    | some q =>
      obtain ⟨off, sz⟩ := q
      cases evC E tm x with
      | none => rfl
      | some vs =>
        simp only [lenF_eq, ih, spliceG_eq]
        cases (Nat.beq vs.length sz && Nat.ble (off + sz) cs.length) <;> rfl
noncomputable def plS (fs : List (Nat × Nat × Bool)) (i : Nat) : Option (Nat × Nat) := @Option.rec (Nat × Nat × Bool) (fun _ => Option (Nat × Nat)) none (fun f => some (f.1, f.2.1)) (nthX fs i)
theorem nthX_eq : ∀ (l : List (Nat × Nat × Bool)) (n : Nat), nthX l n = l[n]? := by
  intro l
  induction l with
  | nil => intro n; rfl
  | cons a r ih => intro n; cases n with | zero => rfl | succ m => show nthX r m = _; rw [ih]; simp
theorem plS_eq (fs : List (Nat × Nat × Bool)) (i : Nat) : plS fs i = place2 fs i := by
  unfold plS place2; rw [nthX_eq]; cases fs[i]? <;> rfl
noncomputable def plA (sz : Nat) (i : Nat) : Option (Nat × Nat) := some (Nat.mul i sz, sz)
noncomputable def aggDone (s : St) (r : Option (List Sc)) : RV := @Option.rec (List Sc) (fun _ => RV) .no (fun cs => .ok (.agg cs) s) r
noncomputable def bdS (t : Nat) (ps : List (Nat × Operand)) (E : Env) (tm : Tm) (s : St) (ti : TI) (fs : List (Nat × Nat × Bool)) : RV :=
  @List.rec (Nat × Operand) (fun _ => RV) (.ok (.zag t) s) (fun _ _ _ => aggDone s (fillG E tm (plS fs) ps (runsCells ti.zero))) ps
noncomputable def bdA (t : Nat) (ps : List (Nat × Operand)) (E : Env) (tm : Tm) (s : St) (ti : TI) (n e : Nat) : RV :=
  @Option.rec TI (fun _ => RV) .no (fun te => @List.rec (Nat × Operand) (fun _ => RV) (.ok (.zag t) s) (fun _ _ _ => aggDone s (fillG E tm (plA te.size) ps (runsCells ti.zero))) ps) (tyF E e)
noncomputable def bdK (t : Nat) (ps : List (Nat × Operand)) (E : Env) (tm : Tm) (s : St) (ti : TI) : RV :=
  @TK.rec (fun _ => RV) (fun _ => .no) .no .no .no (fun _ => .no) (bdA t ps E tm s ti) (fun _ _ => .no) (bdS t ps E tm s ti) .no .no .no ti.kind
noncomputable def oBuild (t : Nat) (ps : Array (Nat × Operand)) (E : Env) (cf : CF) (tm : Tm) (s : St) (o : Oper) : RV := @Option.rec TI (fun _ => RV) .no (bdK t ps.toList E tm s) (tyF E t)
theorem isEmptyA {α : Type} (ps : Array α) : ps.isEmpty = ps.toList.isEmpty := by
  cases ps with | mk l => cases l <;> rfl
theorem oBuild_out (E : Env) (cf : CF) (tm : Tm) (s : St) (t : Nat) (ps : Array (Nat × Operand)) (o : Oper) (h : o.op = .build t ps) : (oBuild t ps E cf tm s o).out = doOp E cf tm s o := by
  unfold doOp oBuild; rw [h, tyF_eq]; simp only
  cases E.ty.get t with
  | none => rfl
  | some ti =>
    obtain ⟨sz, ag, kd, zr, pl⟩ := ti
    cases kd with
    | struct fs =>
      show (bdS t ps.toList E tm s ⟨sz, ag, .struct fs, zr, pl⟩ fs).out = _
      unfold bdS
      simp only [isEmptyA, fillG_eq, show plS fs = place2 fs from funext (plS_eq fs)]
      have hz : runsCells zr = zeroCells ⟨sz, ag, .struct fs, zr, pl⟩ := runsCells_eq ⟨sz, ag, .struct fs, zr, pl⟩
      rw [hz]
      cases ps.toList with
      | nil => rfl
      | cons p r => simp only [List.isEmpty_cons, cond_false]; cases fillOp E tm (place2 fs) (p :: r) (zeroCells ⟨sz, ag, .struct fs, zr, pl⟩) <;> rfl
    | arr n e =>
      show (bdA t ps.toList E tm s ⟨sz, ag, .arr n e, zr, pl⟩ n e).out = _
      unfold bdA; rw [tyF_eq]
      simp only
      cases E.ty.get e with
      | none => rfl
      | some te =>
        simp only [isEmptyA, fillG_eq]
        have hz : runsCells zr = zeroCells ⟨sz, ag, .arr n e, zr, pl⟩ := runsCells_eq ⟨sz, ag, .arr n e, zr, pl⟩
        rw [hz]
        cases ps.toList with
        | nil => rfl
        | cons p r =>
          simp only [List.isEmpty_cons, cond_false]
          show (aggDone s (fillOp E tm (plA te.size) (p :: r) (zeroCells ⟨sz, ag, .arr n e, zr, pl⟩))).out = _
          have : plA te.size = fun i => some (i * te.size, te.size) := rfl
          rw [this]
          cases fillOp E tm (fun i => some (i * te.size, te.size)) (p :: r) (zeroCells ⟨sz, ag, .arr n e, zr, pl⟩) <;> rfl
    | _ => rfl
end Go.Mx
