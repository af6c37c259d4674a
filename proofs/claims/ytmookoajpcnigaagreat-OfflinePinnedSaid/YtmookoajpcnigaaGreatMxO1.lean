/- Operations, the plain ones: each, where the abstract interpreter gives an answer, gives the model's. -/
import Derived.Test.YtmookoajpcnigaaGreatMxT
namespace Go.Mx
open Go

/-- an operand reads in the frame as it reads in the abstract one -/
def EvOk (P : Program) (φ : Phi) (tm : Tm) (a : Act) (x : Operand) : Prop := ∀ v, ev tm x = some v → conc P φ v = some (a.eval x)

/-- an operation is done: it gave a value, or nothing -/
def Done (P : Program) (φ : Phi) (s : St) (w : World) (s' : St) (v : AV) (r : Result Next) : Prop :=
  ∃ ψ x w', (r = .ok (.value x) w' ∨ (r = .ok .skip w' ∧ x = undef)) ∧ Post P φ s w ψ s' w' ∧ conc P ψ v = some x

section
variable {P : Program} {E : Env} {φ : Phi} {s s' : St} {w : World} {tm : Tm} {a : Act} {v : AV} {cf : CF} {o : Oper}

/-- all operands of an operation read as they should -/
def OpsOk (P : Program) (φ : Phi) (tm : Tm) (a : Act) (o : Oper) : Prop := ∀ x ∈ o.op.operands, EvOk P φ tm a x

theorem str_back (x : ByteArray) : str (x.data.toList.map (·.toNat)) = x := by
  unfold str
  have : (x.data.toList.map (·.toNat)).map UInt8.ofNat = x.data.toList := by
    rw [List.map_map]
    have : (UInt8.ofNat ∘ fun x : UInt8 => x.toNat) = id := by funext b; simp
    rw [this, List.map_id]
  rw [this]

theorem ofConst_conc {c : Value} (h : ofConst c = some v) : conc P φ v = some c := by
  unfold ofConst at h
  split at h <;> simp at h <;> subst h <;> simp [conc, concS, str_back]

theorem evI_of {x : Operand} (hx : EvOk P φ tm a x) {k : IntKind} {n : Int} (h : evI tm x = some (k, n)) : a.eval x = .int k n := by
  unfold evI at h
  cases he : ev tm x with
  | none => simp [he] at h
  | some u =>
    have := hx u he
    simp only [he] at h
    split at h
    · rename_i e
      injection e with e; subst e
      injection h with h; injection h with h1 h2; subst h1; subst h2
      simp [conc, concS] at this; exact this.symm
    · simp at h

theorem evB_of {x : Operand} (hx : EvOk P φ tm a x) {n : Bool} (h : evB tm x = some n) : a.eval x = .bool n := by
  unfold evB at h
  cases he : ev tm x with
  | none => simp [he] at h
  | some u =>
    have := hx u he
    simp only [he] at h
    split at h
    · rename_i e
      injection e with e; subst e
      injection h with h; subst h
      simp [conc, concS] at this; exact this.symm
    · simp at h

theorem evP_of {x : Operand} (hx : EvOk P φ tm a x) {p : Nat × Nat} (h : evP tm x = some p) : ∃ A, concA φ p = some A ∧ a.eval x = .pointer (some A) := by
  unfold evP at h
  cases he : ev tm x with
  | none => simp [he] at h
  | some u =>
    have := hx u he
    simp only [he] at h
    split at h
    · rename_i e
      injection e with e; subst e
      injection h with h; subst h
      simp only [conc, concS] at this
      split at this
      · rename_i A hA; injection this with this; exact ⟨A, hA, this.symm⟩
      · simp at this
    · simp at h

theorem evC_of (hE : TyOk P E) {x : Operand} (hx : EvOk P φ tm a x) {cs : List Sc} (h : evC E tm x = some cs) : concL φ cs = some (a.eval x).cells.toList := by
  unfold evC at h
  cases he : ev tm x with
  | none => simp [he] at h
  | some u => simp only [he] at h; exact cellsAs_conc hE (hx u he) h

theorem evV_of (hE : TyOk P E) {x : Operand} (hx : EvOk P φ tm a x) {u : Vv} (h : evV E tm x = some u) : concV φ u = some (a.eval x) := by
  unfold evV at h
  cases he : ev tm x with
  | none => simp [he] at h
  | some q => simp only [he] at h; exact ofV_conc hE (hx q he) h

theorem ov_some {x : Option AV} (h : ov x s = some (v, s')) : x = some v ∧ s' = s := by
  unfold ov at h
  cases x with
  | none => simp at h
  | some u => simp at h; exact ⟨by rw [h.1], h.2.symm⟩

theorem done_same (hs : Sat P φ s w) {x : Value} {r : Result Next} (hr : r = .ok (.value x) w) (hx : conc P φ v = some x) : Done P φ s w s v r :=
  ⟨φ, x, w, .inl hr, Post.refl hs, hx⟩

/-- a value that is reckoned: the operation's run -/
theorem run_v (m : Sem Value) {x : Value} {w' : World} (h : m.run P w = .ok x w') : (do pure (Next.value (← m)) : Sem Next).run P w = .ok (.value x) w' := by
  simp [h]

theorem op_move (hs : Sat P φ s w) {x : Operand} (ho : o.op = .move x ∨ o.op = .assign x) (hev : OpsOk P φ tm a o) (h : doOp E cf tm s o = some (v, s')) :
    Done P φ s w s' v ((execOp a.eval o).run P w) := by
  have hx := hev x (by rcases ho with ho | ho <;> simp [ho, Op.operands])
  have h : ov (ev tm x) s = some (v, s') := by rcases ho with ho | ho <;> simpa only [doOp, ho] using h
  obtain ⟨h1, rfl⟩ := ov_some h
  refine done_same hs ?_ (hx v h1)
  rcases ho with ho | ho <;> simp [execOp, ho]

theorem op_pick (hs : Sat P φ s w) {c x y : Operand} (ho : o.op = .pick c x y) (hev : OpsOk P φ tm a o) (h : doOp E cf tm s o = some (v, s')) :
    Done P φ s w s' v ((execOp a.eval o).run P w) := by
  have hc := hev c (by simp [ho, Op.operands])
  have hx := hev x (by simp [ho, Op.operands])
  have hy := hev y (by simp [ho, Op.operands])
  simp only [doOp, ho] at h
  cases hb : evB tm c with
  | none => simp [hb] at h
  | some b =>
    have hcv := evB_of hc hb
    cases b with
    | true =>
      simp only [hb] at h
      obtain ⟨h1, rfl⟩ := ov_some h
      exact done_same hs (by simp [execOp, ho, hcv, asBool]) (hx v h1)
    | false =>
      simp only [hb] at h
      obtain ⟨h1, rfl⟩ := ov_some h
      exact done_same hs (by simp [execOp, ho, hcv, asBool]) (hy v h1)

theorem op_alloc (hE : TyOk P E) (hs : Sat P φ s w) {t : Nat} (ho : o.op = .alloc t) (h : doOp E cf tm s o = some (v, s')) :
    Done P φ s w s' v ((execOp a.eval o).run P w) := by
  simp only [doOp, ho] at h
  have ht : ∃ ti, E.ty.get t = some ti := by
    unfold newVar at h
    cases ht : E.ty.get t with
    | none => simp [ht] at h
    | some ti => exact ⟨ti, rfl⟩
  obtain ⟨ti, ht⟩ := ht
  obtain ⟨i, z, h1, _, _, h4, _⟩ := (hE _ _ ht).info
  have hx : conc P φ (.zag t) = some z := by simp [conc, zeroP, h1, h4]
  obtain ⟨ψ, hp, hv⟩ := new_var hE hs hx h
  refine ⟨ψ, _, _, .inl ?_, hp, hv⟩
  simp only [execOp, ho]
  refine run_v _ ?_
  simp [Instr.alloc, run_zeroValue h1 h4, run_newVar]

theorem op_box (hE : TyOk P E) (hs : Sat P φ s w) {t : Nat} {x : Operand} (ho : o.op = .box t x) (hev : OpsOk P φ tm a o) (h : doOp E cf tm s o = some (v, s')) :
    Done P φ s w s' v ((execOp a.eval o).run P w) := by
  have hx := hev x (by simp [ho, Op.operands])
  simp only [doOp, ho] at h
  cases he : ev tm x with
  | none => simp [he] at h
  | some u =>
    simp only [he] at h
    obtain ⟨ψ, hp, hv⟩ := new_var hE hs (hx u he) h
    refine ⟨ψ, _, _, .inl ?_, hp, hv⟩
    simp only [execOp, ho]
    refine run_v _ ?_
    simp [Instr.box, run_newVar]

theorem op_load (hE : TyOk P E) (hs : Sat P φ s w) {t : Nat} {x : Operand} (ho : o.op = .load t x) (hev : OpsOk P φ tm a o) (h : doOp E cf tm s o = some (v, s')) :
    Done P φ s w s' v ((execOp a.eval o).run P w) := by
  have hx := hev x (by simp [ho, Op.operands])
  simp only [doOp, ho] at h
  cases ht : E.ty.get t with
  | none => simp [ht] at h
  | some ti =>
    cases hp : evP tm x with
    | none => simp [ht, hp] at h
    | some p =>
      simp only [ht, hp] at h
      cases hl : ldCells s p ti.size with
      | none => simp [hl] at h
      | some cs =>
        simp only [hl] at h
        obtain ⟨h1, rfl⟩ := ov_some h
        obtain ⟨A, hA, hxa⟩ := evP_of hx hp
        obtain ⟨y, hy, hc⟩ := run_loadVar_of hE hs ht hA hl h1
        refine done_same hs ?_ hc
        simp only [execOp, ho]
        refine run_v _ ?_
        simp [Instr.loadAt, hxa, Instr.sureAddr, hy]

theorem op_store (hE : TyOk P E) (hs : Sat P φ s w) {t : Nat} {x y : Operand} (ho : o.op = .store t x y) (hev : OpsOk P φ tm a o) (h : doOp E cf tm s o = some (v, s')) :
    Done P φ s w s' v ((execOp a.eval o).run P w) := by
  have hx := hev x (by simp [ho, Op.operands])
  have hy := hev y (by simp [ho, Op.operands])
  simp only [doOp, ho] at h
  cases ht : E.ty.get t with
  | none => simp [ht] at h
  | some ti =>
    cases hp : evP tm x with
    | none => simp [ht, hp] at h
    | some p =>
      cases hc : evC E tm y with
      | none => simp [ht, hp, hc] at h
      | some vs =>
        simp only [ht, hp, hc, cond_eq_ite, Nat.beq_eq] at h
        split at h
        · rename_i hlen
          cases hst : stCells s p vs with
          | none => simp [hst] at h
          | some s2 =>
            simp [hst] at h
            obtain ⟨rfl, rfl⟩ := h
            obtain ⟨A, hA, hxa⟩ := evP_of hx hp
            obtain ⟨w', hw, hpost⟩ := run_storeVar_of hE hs ht hA (evC_of hE hy hc) hlen hst
            refine ⟨φ, undef, w', .inr ⟨?_, rfl⟩, hpost, by simp [conc, undefV, concVs, undef]⟩
            simp [execOp, ho, Instr.storeAt, hxa, Instr.sureAddr, hw]
        · simp at h

theorem op_nilCheck (hs : Sat P φ s w) {x : Operand} (ho : o.op = .nilCheck x) (hev : OpsOk P φ tm a o) (h : doOp E cf tm s o = some (v, s')) :
    Done P φ s w s' v ((execOp a.eval o).run P w) := by
  have hx := hev x (by simp [ho, Op.operands])
  simp only [doOp, ho] at h
  cases he : ev tm x with
  | none => simp [he] at h
  | some u =>
    simp only [he, cond_eq_ite] at h
    split at h
    · rename_i hn
      simp at h; obtain ⟨rfl, rfl⟩ := h
      have hc := hx u he
      refine done_same hs ?_ hc
      simp only [execOp, ho]
      unfold nilOk at hn
      split at hn
      · simp only [conc, concS] at hc
        split at hc
        · injection hc with hc; simp [← hc]
        · simp at hc
      · simp only [conc, concS] at hc
        split at hc
        · injection hc with hc; simp [← hc]
        · simp at hc
      · simp at hn
    · simp at h

theorem op_unOp (hs : Sat P φ s w) {op : UnOp} {t : Nat} {x : Operand} (ho : o.op = .unOp op t x) (hev : OpsOk P φ tm a o) (h : doOp E cf tm s o = some (v, s')) :
    Done P φ s w s' v ((execOp a.eval o).run P w) := by
  have hx := hev x (by simp [ho, Op.operands])
  simp only [doOp, ho] at h
  have hrun : (execOp a.eval o).run P w = (do pure (Next.value (← Op.unary op (a.eval x))) : Sem Next).run P w := by simp only [execOp, ho]
  cases he : ev tm x with
  | none => cases op <;> simp [he] at h
  | some u =>
    have hc := hx _ he
    rw [he] at h
    cases op with
    | not =>
      cases u with
      | one c =>
        cases c with
        | b q =>
          simp at h; obtain ⟨rfl, rfl⟩ := h
          simp [conc, concS] at hc
          refine done_same hs ?_ rfl
          rw [hrun, ← hc]; simp [Op.unary]
        | _ => simp at h
      | _ => simp at h
    | neg =>
      cases u with
      | one c =>
        cases c with
        | i k q =>
          simp at h; obtain ⟨rfl, rfl⟩ := h
          simp [conc, concS] at hc
          refine done_same hs ?_ rfl
          rw [hrun, ← hc]; simp [Op.unary, Op.intArith]
        | _ => simp at h
      | _ => simp at h
    | _ => cases u <;> simp at h

theorem op_makeMap (hs : Sat P φ s w) {t : Nat} (ho : o.op = .makeMap t none) (h : doOp E cf tm s o = some (v, s')) :
    Done P φ s w s' v ((execOp a.eval o).run P w) := by
  simp only [doOp, ho] at h
  simp at h; obtain ⟨rfl, rfl⟩ := h
  refine ⟨φ.upd s.next ⟨w.heap.size, 0, 0⟩, .map (some w.heap.size), { w with heap := w.heap.push (.map #[] 0) }, .inl ?_, ?_, by simp [conc, concS, upd_self]⟩
  · simp [execOp, ho, Instr.makeMap]
  · refine Post.more hs rfl (o := .map [] 0) (fun j => by simp only [alloc]; rw [PT.get_set]) rfl rfl rfl (by simp) ?_ (Nat.le_refl _) ?_
    · intro b hb; simp only []; rw [Array.getElem?_push, if_neg (by omega)]
    · exact ⟨#[], by simp, .nil, by simp, by simp⟩

theorem op_makeChan (hE : TyOk P E) (hs : Sat P φ s w) {t : Nat} {x : Operand} (ho : o.op = .makeChan t x) (hev : OpsOk P φ tm a o) (h : doOp E cf tm s o = some (v, s')) :
    Done P φ s w s' v ((execOp a.eval o).run P w) := by
  have hx := hev x (by simp [ho, Op.operands])
  simp only [doOp, ho] at h
  split at h
  · rename_i sz ag zr pl k n ht hi
    simp only [cond_eq_ite, Nat.ble_eq] at h
    split at h
    · rename_i hle
      simp at h; obtain ⟨rfl, rfl⟩ := h
      obtain ⟨d, hd, hk, _⟩ := (hE _ _ ht).und
      obtain ⟨a1, e, ei, rfl, hei, hb⟩ := hk
      have hxv := evI_of hx hi
      unfold lim at hle
      refine ⟨φ.upd s.next ⟨w.heap.size, 0, 0⟩, .chan (some w.heap.size), { w with heap := w.heap.push (.chan n #[] false 0 0 false) }, .inl ?_, ?_, by simp [conc, concS, upd_self]⟩
      · simp only [execOp, ho]
        refine run_v _ ?_
        simp only [Instr.makeChan, hxv, asInt, asIntOf, Sem.run_bind, Sem.run_pure, Result.andThen_ok, run_und hd, run_typeInfo hei]
        rw [if_neg]
        · simp
        · have h1 : (ei.bytes : Int) * (n : Int) ≤ 1048576 * 1048576 := by
            have h2 : ei.bytes * n ≤ 1048576 * 1048576 := Nat.mul_le_mul hb hle
            have h3 : ((ei.bytes * n : Nat) : Int) ≤ ((1048576 * 1048576 : Nat) : Int) := Int.ofNat_le.2 h2
            rw [Int.natCast_mul] at h3
            exact h3
          simp only [Int.ofNat_eq_natCast, IntKind.max, IntKind.signed, IntKind.bits, if_true]
          omega
      · refine Post.more hs rfl (o := .chan n []) (fun j => by simp only [alloc]; rw [PT.get_set]) rfl rfl rfl (by simp) ?_ (Nat.le_refl _) ?_
        · intro b hb; simp only []; rw [Array.getElem?_push, if_neg (by omega)]
        · exact ⟨#[], 0, 0, by simp, .nil⟩
    · simp at h
  · simp at h

theorem op_extract (hs : Sat P φ s w) {i : Nat} {x : Operand} (ho : o.op = .extract x i) (hev : OpsOk P φ tm a o) (h : doOp E cf tm s o = some (v, s')) :
    Done P φ s w s' v ((execOp a.eval o).run P w) := by
  have hx := hev x (by simp [ho, Op.operands])
  simp only [doOp, ho] at h
  split at h
  · rename_i l he
    split at h
    · rename_i u hu
      obtain ⟨h1, rfl⟩ := ov_some h
      have hc := hx _ he
      simp only [conc] at hc
      split at hc
      · rename_i xs hxs
        injection hc with hc
        have : ∀ (l : List Vv) (xs : List Value), concVs φ l = some xs → ∀ (i : Nat) (u : Vv), l[i]? = some u → ∃ y, xs[i]? = some y ∧ concV φ u = some y := by
          intro l
          induction l with
          | nil => intro xs _ i u h; simp at h
          | cons b r ih =>
            intro xs e i u h
            simp only [concVs] at e
            cases hb : concV φ b with
            | none => simp [hb] at e
            | some y =>
              cases hr : concVs φ r with
              | none => simp [hb, hr] at e
              | some q =>
                simp [hb, hr] at e; subst e
                cases i with
                | zero => simp at h; subst h; exact ⟨y, by simp, hb⟩
                | succ i => simp at h; simpa using ih q hr i u h
        obtain ⟨y, hy, hcy⟩ := this l xs hxs i u hu
        refine done_same hs ?_ (toV_conc hcy h1)
        simp only [execOp, ho]
        refine run_v _ ?_
        rw [← hc]
        simp [Instr.extract, hy]
      · simp at hc
    · simp at h
  · simp at h
end
end Go.Mx
