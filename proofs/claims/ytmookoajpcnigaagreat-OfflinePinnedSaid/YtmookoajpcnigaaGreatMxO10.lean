/- Each operation: what the abstract interpreter answers, the model does. -/
import Derived.Test.YtmookoajpcnigaaGreatMxOS4
set_option linter.unusedSimpArgs false
namespace Go.Mx
open Go

/-- what the interpreter answers for calls, the model's calls do -/
def CfOk (P : Program) (cf : CF) : Prop :=
  ∀ (f : Nat) (args : List AV) (s : St) (v : AV) (s' : St), cf f args s = some (v, s') →
    (∃ fn, P.funcs[f]? = some fn ∧ (fn.name == "runtime.NumGoroutine") = false ∧ fn.body.isNone = false) ∧
    ∀ (φ : Phi) (w : World) (xs : List Value), Sat P φ s w → concs P φ args = some xs →
      Calls P f xs.toArray w fun e w' => ∃ x ψ, e = .returned x ∧ Post P φ s w ψ s' w' ∧ conc P ψ v = some x

/-- an operation, done in a frame -/
def Fine (P : Program) (φ : Phi) (s : St) (w : World) (s' : St) (v : AV) (o : Oper) (a : Act) : Prop :=
  ∀ (next : Act → World → Prop) (Q : Exit → Act → World → Prop),
    (∀ ψ x w', Post P φ s w ψ s' w' → conc P ψ v = some x → next (a.put o.dst x) w') → o.wp P a w next Q

section
variable {P : Program} {E : Env} {φ : Phi} {s s' : St} {w : World} {tm : Tm} {a : Act} {v : AV} {cf : CF} {o : Oper}

theorem Done.fine (h : Done P φ s w s' v ((execOp a.eval o).run P w)) : Fine P φ s w s' v o a := by
  intro next Q hn
  obtain ⟨ψ, x, w', hr, hp, hc⟩ := h
  unfold Oper.wp
  rcases hr with hr | ⟨hr, rfl⟩
  · rw [hr]; exact hn ψ x w' hp hc
  · rw [hr]; exact hn ψ undef w' hp hc

theorem concs_append {l1 l2 : List AV} {x1 x2 : List Value} (h1 : concs P φ l1 = some x1) (h2 : concs P φ l2 = some x2) : concs P φ (l1 ++ l2) = some (x1 ++ x2) := by
  induction l1 generalizing x1 with
  | nil => simp [concs] at h1; subst h1; simpa using h2
  | cons a r ih =>
    simp only [concs] at h1
    cases ha : conc P φ a with
    | none => simp [ha] at h1
    | some y =>
      cases hr : concs P φ r with
      | none => simp [ha, hr] at h1
      | some z => simp [ha, hr] at h1; subst h1; simp [concs, ha, ih hr]

theorem concs_ptrs : ∀ {l : List (Nat × Nat)} {xs : List Value}, concPs φ l = some xs → concs P φ (l.map fun a => AV.one (.p (some a))) = some xs := by
  intro l
  induction l with
  | nil => intro xs h; simpa [concPs, concs] using h
  | cons a r ih =>
    intro xs h
    simp only [concPs] at h
    cases ha : concA φ a with
    | none => simp [ha] at h
    | some y =>
      cases hr : concPs φ r with
      | none => simp [ha, hr] at h
      | some z => simp [ha, hr] at h; subst h; simp [concs, conc, concS, ha, ih hr]

theorem op_call (hcf : CfOk P cf) (hs : Sat P φ s w) {c : Call} {f : Operand} (ho : o.op = .call c) (hc : c.callee = .value f) (hev : OpsOk P φ tm a o)
    (h : doOp E cf tm s o = some (v, s')) : Fine P φ s w s' v o a := by
  have hf := hev f (by simp [ho, Op.operands, Call.operands, hc])
  have hargs : ∀ x ∈ c.args.toList, EvOk P φ tm a x := fun x hx => hev x (by simp [ho, Op.operands, Call.operands, hc]; exact .inr (by simpa using hx))
  simp only [doOp, ho, hc] at h
  split at h
  · rename_i g first cap args hfe hae
    have hfv := evV_one hf hfe
    simp only [concS] at hfv
    split at hfv
    · rename_i x1 x2 hx1 hx2
      injection hfv with hfv
      have hav := evs_some _ _ hae hargs
      obtain ⟨⟨fn, hfn, hname, hbody⟩, hcall⟩ := hcf _ _ _ _ _ h
      have := hcall φ w (x1 ++ (c.args.toList.map a.eval) ++ x2) hs (concs_append (concs_append (concs_ptrs hx1) hav) (concs_ptrs hx2))
      intro next Q hn
      unfold Oper.wp
      have hrun : (execOp a.eval o).run P w = .ok (.enter g (x1 ++ (c.args.toList.map a.eval) ++ x2).toArray) w := by
        simp only [execOp, ho, resolve, hc, Sem.run_bind]
        rw [← hfv]
        have hp : (program).run P w = .ok P w := rfl
        simp only [Deferred.ofValue, Sem.run_pure, Result.andThen_ok, invoke, callFunc, Sem.run_bind, hp, hfn, hname, hbody, Bool.false_eq_true, if_false]
        congr 2
        simp
      rw [hrun, Oper.upon_enter]
      refine Calls.mono this fun e w' he => ?_
      obtain ⟨x, ψ, rfl, hp, hv⟩ := he
      exact hn ψ x w' hp hv
    · simp at hfv
  · simp at h

theorem op_slice (hE : TyOk P E) (hs : Sat P φ s w) {t : Nat} {x : Operand} {lo hi mx : Option Operand} (ho : o.op = .slice t x lo hi mx) (hev : OpsOk P φ tm a o)
    (h : doOp E cf tm s o = some (v, s')) : Done P φ s w s' v ((execOp a.eval o).run P w) := by
  simp only [doOp, ho] at h
  unfold sliceOp at h
  split at h
  · rename_i v1 hv
    injection h with h; injection h with h1 h2; subst h1; subst h2
    exact sym_slice hE hs ho hev hv
  · exact op_slice0 hE hs ho hev h

theorem op_indexAddr (hE : TyOk P E) (hs : Sat P φ s w) {t : Nat} {x i : Operand} (ho : o.op = .indexAddr t x i) (hev : OpsOk P φ tm a o)
    (h : doOp E cf tm s o = some (v, s')) : Done P φ s w s' v ((execOp a.eval o).run P w) := by
  simp only [doOp, ho] at h
  split at h
  · rename_i v1 hv
    injection h with h; injection h with h1 h2; subst h1; subst h2
    exact sym_idx hE hs ho hev hv
  · exact op_indexAddr0 hE hs ho hev h

theorem op_binOp (hE : TyOk P E) (hs : Sat P φ s w) {op : BinOp} {t yt : Nat} {x y : Operand} (ho : o.op = .binOp op t x y yt) (hev : OpsOk P φ tm a o)
    (h : doOp E cf tm s o = some (v, s')) : Done P φ s w s' v ((execOp a.eval o).run P w) := by
  simp only [doOp, ho] at h
  cases hxe : ev tm x with
  | none => simp [hxe] at h
  | some u =>
    cases hye : ev tm y with
    | none => simp [hxe, hye] at h
    | some u' =>
      simp only [hxe, hye] at h
      obtain ⟨h', rfl⟩ := ov_some h
      unfold binOp1 at h'
      split at h'
      · rename_i v1 hv
        injection h' with h'; subst h'
        exact sym_bin hE hs ho hev hxe hye hv
      · exact op_binOp0 hE hs ho hev hxe hye h'

theorem doOp_sound (hE : TyOk P E) (hcf : CfOk P cf) (hs : Sat P φ s w) (hev : OpsOk P φ tm a o) (h : doOp E cf tm s o = some (v, s')) : Fine P φ s w s' v o a := by
  cases ho : o.op with
  | move x => exact (op_move hs (.inl ho) hev h).fine
  | assign x => exact (op_move hs (.inr ho) hev h).fine
  | pick c x y => exact (op_pick hs ho hev h).fine
  | alloc t => exact (op_alloc hE hs ho h).fine
  | box t x => exact (op_box hE hs ho hev h).fine
  | build t ps => exact (op_build hE hs ho hev h).fine
  | buildSlice t l ps => exact (op_buildSlice hE hs ho hev h).fine
  | load t x => exact (op_load hE hs ho hev h).fine
  | store t x y => exact (op_store hE hs ho hev h).fine
  | nilCheck x => exact (op_nilCheck hs ho hev h).fine
  | binOp op t x y yt => exact (op_binOp hE hs ho hev h).fine
  | unOp op t x => exact (op_unOp hs ho hev h).fine
  | convert src dst x => exact (op_convert hE hs ho hev h).fine
  | sliceToArrayPointer t x => exact (op_s2ap hE hs ho hev h).fine
  | makeFunc fn first cap => exact (op_makeFunc hs ho hev h).fine
  | makeMap t r =>
    cases r with
    | none => exact (op_makeMap hs ho h).fine
    | some r => simp [doOp, ho] at h
  | makeChan t x => exact (op_makeChan hE hs ho hev h).fine
  | makeSlice t l c => exact (op_makeSlice hE hs ho hev h).fine
  | slice t x lo hi mx => exact (op_slice hE hs ho hev h).fine
  | fieldAddr t x f => exact (op_fieldAddr hE hs ho hev h).fine
  | field t x f => exact (op_field hE hs ho hev h).fine
  | indexAddr t x i => exact (op_indexAddr hE hs ho hev h).fine
  | index t x i => exact (op_index hE hs ho hev h).fine
  | lookup t x i ok => exact (op_lookup hE hs ho hev h).fine
  | mapUpdate t x i y => exact (op_mapUpdate hE hs ho hev h).fine
  | mapEntry t x i => exact (op_mapEntry hE hs ho hev h).fine
  | entryStore t x i y => exact (op_entryStore hE hs ho hev h).fine
  | extract x i => exact (op_extract hs ho hev h).fine
  | call c =>
    cases hc : c.callee with
    | value f => exact op_call hcf hs ho hc hev h
    | invoke r n => simp [doOp, ho, hc] at h
    | builtin b =>
      have hargs : ∀ x ∈ c.args.toList, EvOk P φ tm a x := fun x hx => hev x (by simp [ho, Op.operands, Call.operands, hc]; simpa using hx)
      simp only [doOp, ho, hc] at h
      refine Done.fine ?_
      rw [run_builtin ho hc]
      have e1 : c.argTypes = c.argTypes.toList.toArray := by simp
      have e2 : c.args.map a.eval = (c.args.toList.map a.eval).toArray := by apply Array.ext'; simp
      rw [e1, e2]
      unfold builtinOp at h
      split at h
      · rename_i r hr
        injection h with h; subst h
        exact sym_builtin hE hs hargs hr
      · cases b with
        | len => exact bi_len hE hs hargs h
        | cap => exact bi_cap hE hs hargs h
        | append => exact bi_append hE hs hargs h
        | copy => exact bi_copy hE hs hargs h
        | clear => exact bi_clear hE hs hargs h
        | delete => exact bi_delete hE hs hargs h
        | min => exact bi_min hs hargs h
        | max => exact bi_max hs hargs h
        | _ => simp [builtinOp0] at h
  | _ => simp [doOp, ho] at h
end
end Go.Mx
