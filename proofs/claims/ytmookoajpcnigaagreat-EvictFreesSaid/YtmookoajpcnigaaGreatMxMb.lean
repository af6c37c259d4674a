/- Parts of the abstract interpreter, in the order in which they build. -/
import Derived.Test.YtmookoajpcnigaaGreatMxMa
import Derived.Laws.Tables
import Derived.Laws.IdiomStrings
import Derived.DeepKeys
/- Operations, the plain ones: each, where the abstract interpreter gives an answer, gives the model's. -/
namespace Go.Mx
open Go

/-- an operand reads in the frame as it reads in the abstract one -/
def EvOk (P : Program) (φ : Phi) (tm : Tm) (a : Act) (x : Operand) : Prop := ∀ v, ev tm x = some v → conc P φ v = some (a.eval x)

/-- an operation is done: it gave a value, or nothing -/
def Done (P : Program) (φ : Phi) (s : St) (w : World) (s' : St) (v : AV) (r : Result Next) : Prop :=
  ∃ ψ x w', (r = .ok (.value x) w' ∨ (r = .ok .skip w' ∧ x = undef)) ∧ Post P φ s w ψ s' w' ∧ conc P ψ v = some x

section
variable {P : Program} {E : Env} {φ : Phi} {s s' : St} {w : World} {tm : Tm} {a : Act} {v : AV} {cf : CF} {o : Oper}

/-- all operands of an operation read as they should -/
def OpsOk (P : Program) (φ : Phi) (tm : Tm) (a : Act) (o : Oper) : Prop := ∀ x ∈ o.op.operands, EvOk P φ tm a x

theorem str_back (x : ByteArray) : str (x.data.toList.map (·.toNat)) = x := by
  unfold str
  have : (x.data.toList.map (·.toNat)).map UInt8.ofNat = x.data.toList := by
    rw [List.map_map]
    have : (UInt8.ofNat ∘ fun x : UInt8 => x.toNat) = id := by funext b; simp
    rw [this, List.map_id]
  rw [this]

theorem ofConst_conc {c : Value} (h : ofConst c = some v) : conc P φ v = some c := by
  unfold ofConst at h
  split at h <;> simp at h <;> subst h <;> simp [conc, concS, str_back]

theorem evI_of {x : Operand} (hx : EvOk P φ tm a x) {k : IntKind} {n : Int} (h : evI tm x = some (k, n)) : a.eval x = .int k n := by
  unfold evI at h
  cases he : ev tm x with
  | none => simp [he] at h
  | some u =>
    have := hx u he
    simp only [he] at h
    split at h
    · rename_i e
      injection e with e; subst e
      injection h with h; injection h with h1 h2; subst h1; subst h2
      simp [conc, concS] at this; exact this.symm
    · simp at h

theorem evB_of {x : Operand} (hx : EvOk P φ tm a x) {n : Bool} (h : evB tm x = some n) : a.eval x = .bool n := by
  unfold evB at h
  cases he : ev tm x with
  | none => simp [he] at h
  | some u =>
    have := hx u he
    simp only [he] at h
    split at h
    · rename_i e
      injection e with e; subst e
      injection h with h; subst h
      simp [conc, concS] at this; exact this.symm
    · simp at h

theorem evP_of {x : Operand} (hx : EvOk P φ tm a x) {p : Nat × Nat} (h : evP tm x = some p) : ∃ A, concA φ p = some A ∧ a.eval x = .pointer (some A) := by
  unfold evP at h
  cases he : ev tm x with
  | none => simp [he] at h
  | some u =>
    have := hx u he
    simp only [he] at h
    split at h
    · rename_i e
      injection e with e; subst e
      injection h with h; subst h
      simp only [conc, concS] at this
      split at this
      · rename_i A hA; injection this with this; exact ⟨A, hA, this.symm⟩
      · simp at this
    · simp at h

theorem evC_of (hE : TyOk P E) {x : Operand} (hx : EvOk P φ tm a x) {cs : List Sc} (h : evC E tm x = some cs) : concL φ cs = some (a.eval x).cells.toList := by
  unfold evC at h
  cases he : ev tm x with
  | none => simp [he] at h
  | some u => simp only [he] at h; exact cellsAs_conc hE (hx u he) h

theorem evV_of (hE : TyOk P E) {x : Operand} (hx : EvOk P φ tm a x) {u : Vv} (h : evV E tm x = some u) : concV φ u = some (a.eval x) := by
  unfold evV at h
  cases he : ev tm x with
  | none => simp [he] at h
  | some q => simp only [he] at h; exact ofV_conc hE (hx q he) h

theorem ov_some {x : Option AV} (h : ov x s = some (v, s')) : x = some v ∧ s' = s := by
  unfold ov at h
  cases x with
  | none => simp at h
  | some u => simp at h; exact ⟨by rw [h.1], h.2.symm⟩

theorem done_same (hs : Sat P φ s w) {x : Value} {r : Result Next} (hr : r = .ok (.value x) w) (hx : conc P φ v = some x) : Done P φ s w s v r :=
  ⟨φ, x, w, .inl hr, Post.refl hs, hx⟩

/-- a value that is reckoned: the operation's run -/
theorem run_v (m : Sem Value) {x : Value} {w' : World} (h : m.run P w = .ok x w') : (do pure (Next.value (← m)) : Sem Next).run P w = .ok (.value x) w' := by
  simp [h]

theorem op_move (hs : Sat P φ s w) {x : Operand} (ho : o.op = .move x ∨ o.op = .assign x) (hev : OpsOk P φ tm a o) (h : doOp E cf tm s o = some (v, s')) :
    Done P φ s w s' v ((execOp a.eval o).run P w) := by
  have hx := hev x (by rcases ho with ho | ho <;> simp [ho, Op.operands])
  have h : ov (ev tm x) s = some (v, s') := by rcases ho with ho | ho <;> simpa only [doOp, ho] using h
  obtain ⟨h1, rfl⟩ := ov_some h
  refine done_same hs ?_ (hx v h1)
  rcases ho with ho | ho <;> simp [execOp, ho]

theorem op_pick (hs : Sat P φ s w) {c x y : Operand} (ho : o.op = .pick c x y) (hev : OpsOk P φ tm a o) (h : doOp E cf tm s o = some (v, s')) :
    Done P φ s w s' v ((execOp a.eval o).run P w) := by
  have hc := hev c (by simp [ho, Op.operands])
  have hx := hev x (by simp [ho, Op.operands])
  have hy := hev y (by simp [ho, Op.operands])
  simp only [doOp, ho] at h
  cases hb : evB tm c with
  | none => simp [hb] at h
  | some b =>
    have hcv := evB_of hc hb
    cases b with
    | true =>
      simp only [hb] at h
      obtain ⟨h1, rfl⟩ := ov_some h
      exact done_same hs (by simp [execOp, ho, hcv, asBool]) (hx v h1)
    | false =>
      simp only [hb] at h
      obtain ⟨h1, rfl⟩ := ov_some h
      exact done_same hs (by simp [execOp, ho, hcv, asBool]) (hy v h1)

theorem op_alloc (hE : TyOk P E) (hs : Sat P φ s w) {t : Nat} (ho : o.op = .alloc t) (h : doOp E cf tm s o = some (v, s')) :
    Done P φ s w s' v ((execOp a.eval o).run P w) := by
  simp only [doOp, ho] at h
  have ht : ∃ ti, E.ty.get t = some ti := by
    unfold newVar at h
    cases ht : E.ty.get t with
    | none => simp [ht] at h
    | some ti => exact ⟨ti, rfl⟩
  obtain ⟨ti, ht⟩ := ht
  obtain ⟨i, z, h1, _, _, h4, _⟩ := (hE _ _ ht).info
  have hx : conc P φ (.zag t) = some z := by simp [conc, zeroP, h1, h4]
  obtain ⟨ψ, hp, hv⟩ := new_var hE hs hx h
  refine ⟨ψ, _, _, .inl ?_, hp, hv⟩
  simp only [execOp, ho]
  refine run_v _ ?_
  simp [Instr.alloc, run_zeroValue h1 h4, run_newVar]

theorem op_box (hE : TyOk P E) (hs : Sat P φ s w) {t : Nat} {x : Operand} (ho : o.op = .box t x) (hev : OpsOk P φ tm a o) (h : doOp E cf tm s o = some (v, s')) :
    Done P φ s w s' v ((execOp a.eval o).run P w) := by
  have hx := hev x (by simp [ho, Op.operands])
  simp only [doOp, ho] at h
  cases he : ev tm x with
  | none => simp [he] at h
  | some u =>
    simp only [he] at h
    obtain ⟨ψ, hp, hv⟩ := new_var hE hs (hx u he) h
    refine ⟨ψ, _, _, .inl ?_, hp, hv⟩
    simp only [execOp, ho]
    refine run_v _ ?_
    simp [Instr.box, run_newVar]

theorem op_load (hE : TyOk P E) (hs : Sat P φ s w) {t : Nat} {x : Operand} (ho : o.op = .load t x) (hev : OpsOk P φ tm a o) (h : doOp E cf tm s o = some (v, s')) :
    Done P φ s w s' v ((execOp a.eval o).run P w) := by
  have hx := hev x (by simp [ho, Op.operands])
  simp only [doOp, ho] at h
  cases ht : E.ty.get t with
  | none => simp [ht] at h
  | some ti =>
    cases hp : evP tm x with
    | none => simp [ht, hp] at h
    | some p =>
      simp only [ht, hp] at h
      cases hl : ldCells s p ti.size with
      | none => simp [hl] at h
      | some cs =>
        simp only [hl] at h
        obtain ⟨h1, rfl⟩ := ov_some h
        obtain ⟨A, hA, hxa⟩ := evP_of hx hp
        obtain ⟨y, hy, hc⟩ := run_loadVar_of hE hs ht hA hl h1
        refine done_same hs ?_ hc
        simp only [execOp, ho]
        refine run_v _ ?_
        simp [Instr.loadAt, hxa, Instr.sureAddr, hy]

theorem op_store (hE : TyOk P E) (hs : Sat P φ s w) {t : Nat} {x y : Operand} (ho : o.op = .store t x y) (hev : OpsOk P φ tm a o) (h : doOp E cf tm s o = some (v, s')) :
    Done P φ s w s' v ((execOp a.eval o).run P w) := by
  have hx := hev x (by simp [ho, Op.operands])
  have hy := hev y (by simp [ho, Op.operands])
  simp only [doOp, ho] at h
  cases ht : E.ty.get t with
  | none => simp [ht] at h
  | some ti =>
    cases hp : evP tm x with
    | none => simp [ht, hp] at h
    | some p =>
      cases hc : evC E tm y with
      | none => simp [ht, hp, hc] at h
      | some vs =>
        simp only [ht, hp, hc, cond_eq_ite, Nat.beq_eq] at h
        split at h
        · rename_i hlen
          cases hst : stCells s p vs with
          | none => simp [hst] at h
          | some s2 =>
            simp [hst] at h
            obtain ⟨rfl, rfl⟩ := h
            obtain ⟨A, hA, hxa⟩ := evP_of hx hp
            obtain ⟨w', hw, hpost⟩ := run_storeVar_of hE hs ht hA (evC_of hE hy hc) hlen hst
            refine ⟨φ, undef, w', .inr ⟨?_, rfl⟩, hpost, by simp [conc, undefV, concVs, undef]⟩
            simp [execOp, ho, Instr.storeAt, hxa, Instr.sureAddr, hw]
        · simp at h

theorem op_nilCheck (hs : Sat P φ s w) {x : Operand} (ho : o.op = .nilCheck x) (hev : OpsOk P φ tm a o) (h : doOp E cf tm s o = some (v, s')) :
    Done P φ s w s' v ((execOp a.eval o).run P w) := by
  have hx := hev x (by simp [ho, Op.operands])
  simp only [doOp, ho] at h
  cases he : ev tm x with
  | none => simp [he] at h
  | some u =>
    simp only [he, cond_eq_ite] at h
    split at h
    · rename_i hn
      simp at h; obtain ⟨rfl, rfl⟩ := h
      have hc := hx u he
      refine done_same hs ?_ hc
      simp only [execOp, ho]
      unfold nilOk at hn
      split at hn
      · simp only [conc, concS] at hc
        split at hc
        · injection hc with hc; simp [← hc]
        · simp at hc
      · simp only [conc, concS] at hc
        split at hc
        · injection hc with hc; simp [← hc]
        · simp at hc
      · simp at hn
    · simp at h

theorem op_unOp (hs : Sat P φ s w) {op : UnOp} {t : Nat} {x : Operand} (ho : o.op = .unOp op t x) (hev : OpsOk P φ tm a o) (h : doOp E cf tm s o = some (v, s')) :
    Done P φ s w s' v ((execOp a.eval o).run P w) := by
  have hx := hev x (by simp [ho, Op.operands])
  simp only [doOp, ho] at h
  have hrun : (execOp a.eval o).run P w = (do pure (Next.value (← Op.unary op (a.eval x))) : Sem Next).run P w := by simp only [execOp, ho]
  cases he : ev tm x with
  | none => cases op <;> simp [he] at h
  | some u =>
    have hc := hx _ he
    rw [he] at h
    cases op with
    | not =>
      cases u with
      | one c =>
        cases c with
        | b q =>
          simp at h; obtain ⟨rfl, rfl⟩ := h
          simp [conc, concS] at hc
          refine done_same hs ?_ rfl
          rw [hrun, ← hc]; simp [Op.unary]
        | _ => simp at h
      | _ => simp at h
    | neg =>
      cases u with
      | one c =>
        cases c with
        | i k q =>
          simp at h; obtain ⟨rfl, rfl⟩ := h
          simp [conc, concS] at hc
          refine done_same hs ?_ rfl
          rw [hrun, ← hc]; simp [Op.unary, Op.intArith]
        | _ => simp at h
      | _ => simp at h
    | _ => cases u <;> simp at h

theorem op_makeMap (hs : Sat P φ s w) {t : Nat} (ho : o.op = .makeMap t none) (h : doOp E cf tm s o = some (v, s')) :
    Done P φ s w s' v ((execOp a.eval o).run P w) := by
  simp only [doOp, ho] at h
  simp at h; obtain ⟨rfl, rfl⟩ := h
  refine ⟨φ.upd s.next ⟨w.heap.size, 0, 0⟩, .map (some w.heap.size), { w with heap := w.heap.push (.map #[] 0) }, .inl ?_, ?_, by simp [conc, concS, upd_self]⟩
  · simp [execOp, ho, Instr.makeMap]
  · refine Post.more hs rfl (o := .map [] 0) (fun j => by simp only [alloc]; rw [PT.get_set]) rfl rfl rfl (by simp) ?_ (Nat.le_refl _) ?_
    · intro b hb; simp only []; rw [Array.getElem?_push, if_neg (by omega)]
    · exact ⟨#[], by simp, .nil, by simp, by simp⟩

theorem op_makeChan (hE : TyOk P E) (hs : Sat P φ s w) {t : Nat} {x : Operand} (ho : o.op = .makeChan t x) (hev : OpsOk P φ tm a o) (h : doOp E cf tm s o = some (v, s')) :
    Done P φ s w s' v ((execOp a.eval o).run P w) := by
  have hx := hev x (by simp [ho, Op.operands])
  simp only [doOp, ho] at h
  split at h
  · rename_i sz ag zr pl k n ht hi
    simp only [cond_eq_ite, Nat.ble_eq] at h
    split at h
    · rename_i hle
      simp at h; obtain ⟨rfl, rfl⟩ := h
      obtain ⟨d, hd, hk, _⟩ := (hE _ _ ht).und
      obtain ⟨a1, e, ei, rfl, hei, hb⟩ := hk
      have hxv := evI_of hx hi
      unfold lim at hle
      refine ⟨φ.upd s.next ⟨w.heap.size, 0, 0⟩, .chan (some w.heap.size), { w with heap := w.heap.push (.chan n #[] false 0 0 false) }, .inl ?_, ?_, by simp [conc, concS, upd_self]⟩
      · simp only [execOp, ho]
        refine run_v _ ?_
        simp only [Instr.makeChan, hxv, asInt, asIntOf, Sem.run_bind, Sem.run_pure, Result.andThen_ok, run_und hd, run_typeInfo hei]
        rw [if_neg]
        · simp
        · have h1 : (ei.bytes : Int) * (n : Int) ≤ 1048576 * 1048576 := by
            have h2 : ei.bytes * n ≤ 1048576 * 1048576 := Nat.mul_le_mul hb hle
            have h3 : ((ei.bytes * n : Nat) : Int) ≤ ((1048576 * 1048576 : Nat) : Int) := Int.ofNat_le.2 h2
            rw [Int.natCast_mul] at h3
            exact h3
          simp only [Int.ofNat_eq_natCast, IntKind.max, IntKind.signed, IntKind.bits, if_true]
          omega
      · refine Post.more hs rfl (o := .chan n []) (fun j => by simp only [alloc]; rw [PT.get_set]) rfl rfl rfl (by simp) ?_ (Nat.le_refl _) ?_
        · intro b hb; simp only []; rw [Array.getElem?_push, if_neg (by omega)]
        · exact ⟨#[], 0, 0, by simp, .nil⟩
    · simp at h
  · simp at h

theorem op_extract (hs : Sat P φ s w) {i : Nat} {x : Operand} (ho : o.op = .extract x i) (hev : OpsOk P φ tm a o) (h : doOp E cf tm s o = some (v, s')) :
    Done P φ s w s' v ((execOp a.eval o).run P w) := by
  have hx := hev x (by simp [ho, Op.operands])
  simp only [doOp, ho] at h
  split at h
  · rename_i l he
    split at h
    · rename_i u hu
      obtain ⟨h1, rfl⟩ := ov_some h
      have hc := hx _ he
      simp only [conc] at hc
      split at hc
      · rename_i xs hxs
        injection hc with hc
        have : ∀ (l : List Vv) (xs : List Value), concVs φ l = some xs → ∀ (i : Nat) (u : Vv), l[i]? = some u → ∃ y, xs[i]? = some y ∧ concV φ u = some y := by
          intro l
          induction l with
          | nil => intro xs _ i u h; simp at h
          | cons b r ih =>
            intro xs e i u h
            simp only [concVs] at e
            cases hb : concV φ b with
            | none => simp [hb] at e
            | some y =>
              cases hr : concVs φ r with
              | none => simp [hb, hr] at e
              | some q =>
                simp [hb, hr] at e; subst e
                cases i with
                | zero => simp at h; subst h; exact ⟨y, by simp, hb⟩
                | succ i => simp at h; simpa using ih q hr i u h
        obtain ⟨y, hy, hcy⟩ := this l xs hxs i u hu
        refine done_same hs ?_ (toV_conc hcy h1)
        simp only [execOp, ho]
        refine run_v _ ?_
        rw [← hc]
        simp [Instr.extract, hy]
      · simp at hc
    · simp at h
  · simp at h
end
end Go.Mx

/- Operations: addresses, parts, slices, conversions, literals. -/
set_option linter.unusedSimpArgs false
namespace Go.Mx
open Go

section
variable {P : Program} {E : Env} {φ : Phi} {s s' : St} {w : World} {tm : Tm} {a : Act} {v : AV} {cf : CF} {o : Oper}

theorem run_fieldPlace {A : Addr} {g : Field} {fi : TypeInfo} (h : P.info? g.type = some fi) (hz : fi.size ≠ 0) : (fieldPlace A g).run P w = .ok (A.add g.offset) w := by
  simp [fieldPlace, run_sizeOf h, hz]

theorem structFields_some {k : TK} {fs : List (Nat × Nat × Bool)} (h : structFields k = some fs) : k = .struct fs := by
  cases k <;> simp [structFields] at h; rw [h]

theorem op_fieldAddr (hE : TyOk P E) (hs : Sat P φ s w) {t : Nat} {x : Operand} {f : Nat} (ho : o.op = .fieldAddr t x f) (hev : OpsOk P φ tm a o)
    (h : doOp E cf tm s o = some (v, s')) : Done P φ s w s' v ((execOp a.eval o).run P w) := by
  have hx := hev x (by simp [ho, Op.operands])
  simp only [doOp, ho] at h
  cases ht : E.ty.get t with
  | none => simp [ht] at h
  | some ti =>
    cases hp : evP tm x with
    | none => simp [ht, hp] at h
    | some p =>
      obtain ⟨i, q⟩ := p
      simp only [ht, hp] at h
      cases hsf : structFields ti.kind with
      | none => simp [hsf] at h
      | some fs =>
        simp only [hsf] at h
        cases hf : fs[f]? with
        | none => simp [hf] at h
        | some r =>
          obtain ⟨off, sz, ag⟩ := r
          simp only [hf, cond_eq_ite, Nat.beq_eq] at h
          split at h
          · simp at h
          · rename_i hz
            simp at h; obtain ⟨rfl, rfl⟩ := h
            obtain ⟨d, hd, hk, _⟩ := (hE _ _ ht).und
            rw [structFields_some hsf] at hk
            obtain ⟨fields, rfl, hlen, hall⟩ := hk
            obtain ⟨g, fi, gd, h1, h2, h3, h4, _⟩ := hall f _ hf
            obtain ⟨A, hA, hxa⟩ := evP_of hx hp
            obtain ⟨L, hL, rfl⟩ := concA_some hA
            have hL' : φ i = some L := hL
            refine done_same hs (x := .pointer (some ⟨L.blk, L.base + (q + off), none⟩)) ?_ (by simp [conc, concS, concA, hL'])
            simp only [execOp, ho]
            refine run_v _ ?_
            simp only [Instr.fieldAt, hxa, Instr.sureAddr, Sem.run_bind, run_und hd, Result.andThen_ok, h1, Sem.run_pure, run_fieldPlace h3 (by rw [h4]; exact hz), h2, Addr.add_none]
            simp [Nat.add_assoc]

theorem concL_drop_take {l : List Sc} {xs : List Value} (h : concL φ l = some xs) (off sz : Nat) : concL φ ((l.drop off).take sz) = some ((xs.drop off).take sz) := by
  have hl := concL_length h
  refine concL_of (by simp [hl]) fun k c hk => ?_
  rw [List.getElem?_take] at hk
  split at hk
  · rename_i hlt
    rw [List.getElem?_drop] at hk
    obtain ⟨y, hy, hc⟩ := concL_get h _ _ hk
    exact ⟨y, by rw [List.getElem?_take, if_pos hlt, List.getElem?_drop]; exact hy, hc⟩
  · simp at hk

theorem run_part {t : Nat} {i : TypeInfo} {d : TypeDesc} (hi : P.info? t = some i) (hd : P.underlying t = some d) (cs : Array Value) (off : Nat) (x : Value)
    (h : (aggD d = true ∧ x = .agg ((cs.toList.drop off).take i.size).toArray) ∨ (aggD d = false ∧ (cs.toList.drop off).take i.size = [x])) :
    (part t cs off).run P w = .ok x w := by
  unfold part
  simp only [Sem.run_bind, run_isAgg hd, Result.andThen_ok, Sem.run_ite]
  rcases h with ⟨h, rfl⟩ | ⟨h, hx⟩
  · simp only [h, if_true, Sem.run_map, Sem.run_bind, run_sizeOf hi, Result.andThen_ok, Sem.run_pure]
    congr 2
    apply Array.ext'
    simp [Array.toList_extract]
  · simp only [h, Bool.false_eq_true, if_false]
    have : cs[off]? = some x := by
      have h0 : ((cs.toList.drop off).take i.size)[0]? = some x := by rw [hx]; rfl
      rw [List.getElem?_take] at h0
      split at h0
      · rw [List.getElem?_drop] at h0; simpa using h0
      · simp at h0
    simp [this]

theorem op_field (hE : TyOk P E) (hs : Sat P φ s w) {t : Nat} {x : Operand} {f : Nat} (ho : o.op = .field t x f) (hev : OpsOk P φ tm a o)
    (h : doOp E cf tm s o = some (v, s')) : Done P φ s w s' v ((execOp a.eval o).run P w) := by
  have hx := hev x (by simp [ho, Op.operands])
  simp only [doOp, ho] at h
  cases ht : E.ty.get t with
  | none => simp [ht] at h
  | some ti =>
    cases hp : ev tm x with
    | none => simp [ht, hp] at h
    | some u =>
      cases u with
      | agg cs =>
        simp only [ht, hp] at h
        cases hsf : structFields ti.kind with
        | none => simp [hsf] at h
        | some fs =>
          simp only [hsf] at h
          cases hf : fs[f]? with
          | none => simp [hf] at h
          | some r =>
            obtain ⟨off, sz, ag⟩ := r
            simp only [hf, cond_eq_ite, Nat.ble_eq] at h
            split at h
            · rename_i hle
              obtain ⟨hv, rfl⟩ := ov_some h
              obtain ⟨d, hd, hk, _⟩ := (hE _ _ ht).und
              rw [structFields_some hsf] at hk
              obtain ⟨fields, rfl, hlen, hall⟩ := hk
              obtain ⟨g, fi, gd, h1, h2, h3, h4, h5, h6⟩ := hall f _ hf
              have hc := hx _ hp
              simp only [conc] at hc
              split at hc
              · rename_i xs hxs
                injection hc with hc
                obtain ⟨y, hy, hcase⟩ := mkV_conc (P := P) (concL_drop_take hxs off sz) hv
                refine done_same hs ?_ hy
                simp only [execOp, ho]
                refine run_v _ ?_
                rw [← hc]
                simp only [Instr.field, Sem.run_bind, run_und hd, Result.andThen_ok, h1, asAgg, Sem.run_pure]
                refine run_part h3 h5 _ _ _ ?_
                rw [h4, h6, h2]
                simpa using hcase
              · simp at hc
            · simp at h
      | _ => simp [ht, hp] at h

theorem op_indexAddr0 (hE : TyOk P E) (hs : Sat P φ s w) {t : Nat} {x i : Operand} (ho : o.op = .indexAddr t x i) (hev : OpsOk P φ tm a o)
    (h : idxOp E tm s t x i = some (v, s')) : Done P φ s w s' v ((execOp a.eval o).run P w) := by
  have hx := hev x (by simp [ho, Op.operands])
  have hi := hev i (by simp [ho, Op.operands])
  unfold idxOp at h
  split at h
  · rename_i sz ag n e zr pl b q kk k ht hxe hie
    cases hte : E.ty.get e with
    | none => simp [hte] at h
    | some te =>
      simp only [hte, cond_eq_ite, Nat.ble_eq] at h
      split at h
      · rename_i hle
        simp at h; obtain ⟨rfl, rfl⟩ := h
        obtain ⟨d, hd, rfl, _⟩ := (hE _ _ ht).und
        obtain ⟨ei, ez, he1, he2, _⟩ := (hE _ _ hte).info
        have hc := hx _ hxe
        simp only [conc, concS] at hc
        split at hc
        · rename_i A hA
          injection hc with hc
          obtain ⟨L, hL, rfl⟩ := concA_some hA
          have hL' : φ b = some L := hL
          have hiv := evI_of hi hie
          refine done_same hs (x := .pointer (some ⟨L.blk, L.base + (q + k * te.size), none⟩)) ?_ (by simp [conc, concS, concA, hL'])
          simp only [execOp, ho]
          refine run_v _ ?_
          rw [← hc, hiv]
          simp only [Instr.indexAt, asIntOf, Sem.run_bind, Sem.run_pure, Result.andThen_ok, run_und hd, Instr.sureAddr, Sem.run_ite]
          rw [if_pos (by constructor <;> simp only [Int.ofNat_eq_natCast] <;> omega)]
          simp only [Sem.run_bind, run_sizeOf he1, Result.andThen_ok, he2, Sem.run_pure, Int.ofNat_eq_natCast, Int.toNat_natCast, Addr.add_none]
          simp [Nat.add_assoc]
        · simp at hc
      · simp at h
  · rename_i sz ag e zr pl b q n c op kk k ht hxe hie
    cases hte : E.ty.get e with
    | none => simp [hte] at h
    | some te =>
      simp only [hte, cond_eq_ite, Nat.ble_eq] at h
      split at h
      · rename_i hle
        simp at h; obtain ⟨rfl, rfl⟩ := h
        obtain ⟨d, hd, rfl, _⟩ := (hE _ _ ht).und
        obtain ⟨ei, ez, he1, he2, _⟩ := (hE _ _ hte).info
        have hc := hx _ hxe
        simp only [conc, concS] at hc
        split at hc
        · rename_i L hL
          injection hc with hc
          have hL' : φ b = some L := hL
          have hiv := evI_of hi hie
          refine done_same hs (x := .pointer (some ⟨L.blk, L.base + (q + k * te.size), none⟩)) ?_ (by simp [conc, concS, concA, hL'])
          simp only [execOp, ho]
          refine run_v _ ?_
          rw [← hc, hiv]
          simp only [Instr.indexAt, asIntOf, Sem.run_bind, Sem.run_pure, Result.andThen_ok, run_und hd, Sem.run_ite]
          rw [if_pos (by constructor <;> simp only [Int.ofNat_eq_natCast] <;> omega)]
          simp only [Sem.run_bind, run_sizeOf he1, Result.andThen_ok, he2, Sem.run_pure, Int.ofNat_eq_natCast, Int.toNat_natCast, Addr.add_none]
          simp [Nat.add_assoc]
        · simp at hc
      · simp at h
  · simp at h

theorem op_index (hE : TyOk P E) (hs : Sat P φ s w) {t : Nat} {x i : Operand} (ho : o.op = .index t x i) (hev : OpsOk P φ tm a o)
    (h : doOp E cf tm s o = some (v, s')) : Done P φ s w s' v ((execOp a.eval o).run P w) := by
  have hx := hev x (by simp [ho, Op.operands])
  have hi := hev i (by simp [ho, Op.operands])
  simp only [doOp, ho] at h
  split at h
  · rename_i sz ag n e zr pl cs kk k ht hxe hie
    split at h
    · rename_i te hte
      simp only [cond_eq_ite] at h
      split at h
      · rename_i hle
        simp only [Bool.and_eq_true, Nat.ble_eq] at hle
        obtain ⟨hv, rfl⟩ := ov_some h
        obtain ⟨d, hd, rfl, _⟩ := (hE _ _ ht).und
        obtain ⟨ei, ez, he1, he2, _⟩ := (hE _ _ hte).info
        obtain ⟨ed, hed, _, hea⟩ := (hE _ _ hte).und
        have hc := hx _ hxe
        simp only [conc] at hc
        split at hc
        · rename_i xs hxs
          injection hc with hc
          have hiv := evI_of hi hie
          obtain ⟨y, hy, hcase⟩ := mkV_conc (P := P) (concL_drop_take hxs (k * te.size) te.size) hv
          refine done_same hs ?_ hy
          simp only [execOp, ho]
          refine run_v _ ?_
          rw [← hc, hiv]
          simp only [Instr.index, asIntOf, Sem.run_bind, Sem.run_pure, Result.andThen_ok, run_und hd, Sem.run_ite]
          rw [if_pos (by constructor <;> simp only [Int.ofNat_eq_natCast] <;> omega)]
          simp only [Sem.run_bind, run_sizeOf he1, Result.andThen_ok, he2, Int.ofNat_eq_natCast, Int.toNat_natCast]
          refine run_part he1 hed _ _ _ ?_
          rw [he2, hea]
          simpa using hcase
        · simp at hc
      · simp at h
    · simp at h
  · rename_i sz ag zr pl l kk k ht hxe hie
    split at h
    · rename_i c hl
      simp at h; obtain ⟨rfl, rfl⟩ := h
      obtain ⟨d, hd, rfl, _⟩ := (hE _ _ ht).und
      have hc := hx _ hxe
      simp [conc, concS] at hc
      have hiv := evI_of hi hie
      refine done_same hs (x := .int .u8 (Int.ofNat (c % 256))) ?_ (by simp [conc, concS])
      simp only [execOp, ho]
      refine run_v _ ?_
      rw [← hc, hiv]
      have hget : (str l)[k]? = some (UInt8.ofNat c) := by
        have hk : k < l.length := by
          rcases Nat.lt_or_ge k l.length with h | h
          · exact h
          · rw [List.getElem?_eq_none h] at hl; simp at hl
        have hk2 : k < (str l).size := by simp [str, ByteArray.size]; exact hk
        have hl' : l[k] = c := by rw [List.getElem?_eq_getElem hk] at hl; injection hl
        rw [getElem?_pos (str l) k hk2]
        congr 1
        show (str l).data[k] = _
        simp [str, hl']
      simp only [Instr.index, asIntOf, Sem.run_bind, Sem.run_pure, Result.andThen_ok, run_und hd]
      simp [hget]
    · simp at h
  · simp at h
end
end Go.Mx

/- Operations: slices, conversions, literals. -/
set_option linter.unusedSimpArgs false
namespace Go.Mx
open Go

theorem fold_set : ∀ (ys : List Value) (off i : Nat) (cells : Array Value),
    ((ys.zipIdx i).foldl (fun cs (p : Value × Nat) => cs.setIfInBounds (off + p.2) p.1) cells).size = cells.size ∧
    (off + i + ys.length ≤ cells.size → ∀ k, ((ys.zipIdx i).foldl (fun cs (p : Value × Nat) => cs.setIfInBounds (off + p.2) p.1) cells)[k]? =
      if off + i ≤ k ∧ k < off + i + ys.length then ys[k - (off + i)]? else cells[k]?) := by
  intro ys
  induction ys with
  | nil => intro off i cells; exact ⟨rfl, fun _ k => by rw [if_neg (by simp only [List.length_nil]; omega)]; rfl⟩
  | cons y r ih =>
    intro off i cells
    simp only [List.zipIdx_cons, List.foldl_cons, List.length_cons]
    obtain ⟨h1, h2⟩ := ih off (i + 1) (cells.setIfInBounds (off + i) y)
    refine ⟨by rw [h1]; simp, fun hle k => ?_⟩
    rw [h2 (by rw [Array.size_setIfInBounds]; omega)]
    by_cases hk : off + (i + 1) ≤ k ∧ k < off + (i + 1) + r.length
    · rw [if_pos hk, if_pos (by omega), show k - (off + i) = (k - (off + (i + 1))) + 1 from by omega]; simp
    · rw [if_neg hk]
      by_cases hk2 : k = off + i
      · subst hk2; rw [if_pos (by omega), Array.getElem?_setIfInBounds_self]; simp; omega
      · rw [if_neg (by omega), Array.getElem?_setIfInBounds_ne (by omega)]

theorem splice_length {cs vs : List Sc} {off : Nat} (h : off + vs.length ≤ cs.length) : (splice cs off vs).length = cs.length := by
  simp [splice]; omega

theorem splice_get {cs vs : List Sc} {off : Nat} (h : off + vs.length ≤ cs.length) (k : Nat) :
    (splice cs off vs)[k]? = if off ≤ k ∧ k < off + vs.length then vs[k - off]? else cs[k]? := by
  unfold splice
  by_cases h1 : k < off
  · rw [List.getElem?_append_left (by simp; omega), List.getElem?_append_left (by simp; omega), if_neg (by omega), List.getElem?_take, if_pos h1]
  · by_cases h2 : k < off + vs.length
    · rw [List.getElem?_append_left (by simp; omega), List.getElem?_append_right (by simp; omega), if_pos (by omega)]
      congr 1; simp; omega
    · rw [List.getElem?_append_right (by simp; omega), if_neg (by omega), List.getElem?_drop]
      congr 1; simp; omega

section
variable {P : Program} {E : Env} {φ : Phi} {s s' : St} {w : World} {tm : Tm} {a : Act} {v : AV} {cf : CF} {o : Oper}

theorem splice_conc {cs vs : List Sc} {xs ys : List Value} {off : Nat} (hc : concL φ cs = some xs) (hv : concL φ vs = some ys) (h : off + vs.length ≤ cs.length) :
    concL φ (splice cs off vs) = some (ys.toArray.zipIdx.foldl (fun cs (p : Value × Nat) => cs.setIfInBounds (off + p.2) p.1) xs.toArray).toList := by
  have hl := concL_length hc
  have hm := concL_length hv
  have hfold : ys.toArray.zipIdx.foldl (fun cs (p : Value × Nat) => cs.setIfInBounds (off + p.2) p.1) xs.toArray =
      (ys.zipIdx 0).foldl (fun cs (p : Value × Nat) => cs.setIfInBounds (off + p.2) p.1) xs.toArray := by
    rw [← Array.foldl_toList]; simp
  rw [hfold]
  obtain ⟨h1, h2⟩ := fold_set ys off 0 xs.toArray
  refine concL_of (by rw [splice_length h, ← hl]; simpa using h1) fun k c hk => ?_
  rw [splice_get h] at hk
  rw [Array.getElem?_toList, h2 (by simp; omega)]
  by_cases hin : off ≤ k ∧ k < off + vs.length
  · rw [if_pos hin] at hk
    rw [if_pos (by omega)]
    obtain ⟨y, hy, hcy⟩ := concL_get hv _ _ hk
    exact ⟨y, by simpa using hy, hcy⟩
  · rw [if_neg hin] at hk
    rw [if_neg (by omega)]
    obtain ⟨y, hy, hcy⟩ := concL_get hc _ _ hk
    exact ⟨y, by simpa using hy, hcy⟩

theorem fill_conc (hE : TyOk P E) (place : Nat → Option (Nat × Nat)) : ∀ (ps : List (Nat × Operand)) (cs cs' : List Sc) (xs : List Value),
    (∀ p ∈ ps, EvOk P φ tm a p.2) → concL φ cs = some xs → fillOp E tm place ps cs = some cs' →
    ∃ xs', Instr.fill place xs.toArray (ps.map fun p => (p.1, a.eval p.2)) = some xs'.toArray ∧ concL φ cs' = some xs' := by
  intro ps
  induction ps with
  | nil => intro cs cs' xs _ hc h; simp [fillOp] at h; subst h; exact ⟨xs, by simp [Instr.fill], hc⟩
  | cons p r ih =>
    intro cs cs' xs hp hc h
    obtain ⟨i, x⟩ := p
    simp only [fillOp] at h
    cases hpl : place i with
    | none => simp [hpl] at h
    | some q =>
      obtain ⟨off, sz⟩ := q
      cases he : evC E tm x with
      | none => simp [hpl, he] at h
      | some vs =>
        simp only [hpl, he, cond_eq_ite, Bool.and_eq_true, Nat.beq_eq, Nat.ble_eq] at h
        split at h
        · rename_i hle
          obtain ⟨h1, h2⟩ := hle
          have hv := evC_of hE (hp (i, x) (by simp)) he
          have hvl := concL_length hv
          have hcl := concL_length hc
          have hsp := splice_conc hc hv (off := off) (by omega)
          obtain ⟨xs', hx1, hx2⟩ := ih _ _ _ (fun q hq => hp q (by simp [hq])) hsp h
          refine ⟨xs', ?_, hx2⟩
          simp only [List.map_cons, Instr.fill, hpl]
          have hvs : (a.eval x).cells.size = vs.length := by rw [← hvl]; simp
          rw [if_neg (by simp; omega)]
          simpa using hx1
        · simp at h

theorem concL_rep {l : List Sc} {xs : List Value} (h : concL φ l = some xs) : ∀ n, ∃ ys, concL φ (repCells n l) = some ys ∧ ys.length = n * xs.length ∧ ∀ k, k < n * xs.length → ys[k]? = xs[k % xs.length]? := by
  intro n
  induction n with
  | zero => exact ⟨[], rfl, by simp, fun k hk => by omega⟩
  | succ n ih =>
    obtain ⟨ys, h1, h2, h3⟩ := ih
    refine ⟨xs ++ ys, concL_append h h1, by simp [h2, Nat.add_mul, Nat.add_comm], fun k hk => ?_⟩
    rw [Nat.add_mul] at hk
    by_cases hlt : k < xs.length
    · rw [List.getElem?_append_left hlt, Nat.mod_eq_of_lt hlt]
    · rw [List.getElem?_append_right (by omega), h3 _ (by omega)]
      congr 1
      rw [← Nat.mod_eq_sub_mod (by omega)]

theorem repCells_length (n : Nat) (l : List Sc) : (repCells n l).length = n * l.length := by
  induction n with
  | zero => simp [repCells]
  | succ n ih => simp [repCells, ih, Nat.add_mul, Nat.add_comm]

theorem repCells_get (l : List Sc) : ∀ n k, k < n * l.length → (repCells n l)[k]? = l[k % l.length]? := by
  intro n
  induction n with
  | zero => intro k h; omega
  | succ n ih =>
    intro k hk
    rw [Nat.add_mul] at hk
    simp only [repCells]
    by_cases hlt : k < l.length
    · rw [List.getElem?_append_left hlt, Nat.mod_eq_of_lt hlt]
    · rw [List.getElem?_append_right (by omega), ih _ (by omega)]
      congr 1
      rw [← Nat.mod_eq_sub_mod (by omega)]

/-- zero cells, again and again, as the model lays them -/
theorem zero_row (hE : TyOk P E) {t : Nat} {ti : TI} (ht : E.ty.get t = some ti) (n : Nat) : ∃ i z, P.info? t = some i ∧ i.size = ti.size ∧ i.bytes ≤ 1048576 ∧ i.zero = some z ∧
    z.cells.size = ti.size ∧ concL φ (repCells n (zeroCells ti)) = some (((Array.range (n * ti.size)).map fun k => z.cells[k % z.cells.size]!).toList) := by
  obtain ⟨i, z, h1, h2, h3, h4, h5, h6, _⟩ := (hE _ _ ht).info
  have hl := concL_mono (Phi.nil_le φ) h5
  have hlen := concL_length hl
  have hzs : z.cells.size = ti.size := by simp at hlen; omega
  refine ⟨i, z, h1, h2, h3, h4, hzs, ?_⟩
  obtain ⟨ys, hy1, hy2, hy3⟩ := concL_rep hl n
  rw [hy1]
  congr 1
  apply List.ext_getElem?
  intro k
  have hcl : z.cells.toList.length = ti.size := by simpa using hzs
  by_cases hk : k < n * ti.size
  · rw [hy3 k (by rw [hcl]; exact hk)]
    have hpos : 0 < ti.size := by
      rcases Nat.eq_zero_or_pos ti.size with h | h
      · rw [h] at hk; omega
      · exact h
    have hmod : k % ti.size < z.cells.size := by rw [hzs]; exact Nat.mod_lt _ hpos
    simp only [hcl, Array.toList_map, Array.toList_range, List.getElem?_map, List.getElem?_range hk, Option.map_some, hzs]
    rw [getElem!_pos z.cells _ hmod, Array.getElem?_toList, Array.getElem?_eq_getElem hmod]
  · rw [List.getElem?_eq_none (by rw [hy2, hcl]; omega), List.getElem?_eq_none (by simp; omega)]

theorem cellV_zero (ti : TI) (hl : ti.size = (zeroCells ti).length) (n k : Nat) (hk : k < n * ti.size) :
    (repCells n (zeroCells ti))[k]? = some (cellV (zeroOf ti) .leaf k) := by
  rw [repCells_get _ _ _ (by rw [← hl]; exact hk), ← hl]
  have hpos : 0 < ti.size := by
    rcases Nat.eq_zero_or_pos ti.size with h | h
    · rw [h] at hk; omega
    · exact h
  have := cellV_leaf ti (k % ti.size) (Nat.mod_lt _ hpos) hl
  rw [this]
  simp only [cellV, PT.get, zeroOf, Nat.mod_mod]

theorem op_makeSlice (hE : TyOk P E) (hs : Sat P φ s w) {t : Nat} {l c : Operand} (ho : o.op = .makeSlice t l c) (hev : OpsOk P φ tm a o)
    (h : doOp E cf tm s o = some (v, s')) : Done P φ s w s' v ((execOp a.eval o).run P w) := by
  have hl := hev l (by simp [ho, Op.operands])
  have hc := hev c (by simp [ho, Op.operands])
  simp only [doOp, ho] at h
  split at h
  · rename_i sz ag e zr pl k1 n k2 m ht hln hcn
    split at h
    · rename_i te hte
      simp only [cond_eq_ite, Bool.and_eq_true, Nat.ble_eq] at h
      split at h
      · rename_i hle
        obtain ⟨hnm, hm⟩ := hle
        unfold lim at hm
        simp at h; obtain ⟨rfl, rfl⟩ := h
        obtain ⟨d, hd, rfl, _⟩ := (hE _ _ ht).und
        obtain ⟨i, z, h1, h2, h3, h4, h5, h6⟩ := zero_row hE hte (φ := φ) m
        obtain ⟨_, _, _, _, _, _, _, hzl, _⟩ := (hE _ _ hte).info
        have hlv := evI_of hl hln
        have hcv := evI_of hc hcn
        have hb : i.bytes * m ≤ 1048576 * 1048576 := Nat.mul_le_mul h3 hm
        refine ⟨φ.upd s.next ⟨w.heap.size, 0, 0⟩, .slice (some ⟨w.heap.size, 0, none⟩) n m,
          { w with heap := w.heap.push (.cells ((Array.range (m * te.size)).map fun k => z.cells[k % z.cells.size]!) e) }, .inl ?_, ?_, by simp [conc, concS, upd_self]⟩
        · simp only [execOp, ho]
          refine run_v _ ?_
          have hw1 : IntKind.i64.wrap (n : Int) = n := by simp [IntKind.wrap, IntKind.bits, IntKind.signed]; omega
          have hw2 : IntKind.i64.wrap (m : Int) = m := by simp [IntKind.wrap, IntKind.bits, IntKind.signed]; omega
          have hb' : (i.bytes : Int) * (m : Int) ≤ 1048576 * 1048576 := by
            have h3 : ((i.bytes * m : Nat) : Int) ≤ ((1048576 * 1048576 : Nat) : Int) := Int.ofNat_le.2 hb
            rw [Int.natCast_mul] at h3
            exact h3
          simp only [Instr.makeSlice, hlv, hcv, asInt, asIntOf, Sem.run_bind, Sem.run_pure, Result.andThen_ok, run_und hd, run_typeInfo h1, Int.ofNat_eq_natCast, hw1, hw2]
          have hcond : ¬ (((m : Int) < 0 || (i.bytes : Int) * (m : Int) > 2 ^ 48) || (n : Int) < 0 || (n : Int) > (m : Int)) = true := by
            simp only [Bool.or_eq_true, decide_eq_true_eq]
            rintro (((h | h) | h) | h) <;> omega
          simp only [Sem.run_ite, Sem.run_bind]
          rw [if_neg (by simpa using hcond)]
          simp only [Sem.run_pure, Result.andThen_ok, run_askRoom, Int.toNat_natCast, run_sizeOf h1, h2]
          by_cases hz : m * te.size = 0
          · simp only [hz, if_true, Sem.run_pure, Result.andThen_ok, newRow, Sem.run_bind, run_newObj]
            have e0 : ∀ f : Nat → Value, (Array.range 0).map f = #[] := fun f => Array.eq_empty_of_size_eq_zero (by simp)
            rw [e0, e0]
          · simp only [hz, if_false, Sem.run_bind, run_zeroValue h1 h4, Result.andThen_ok, Sem.run_pure, newRow, run_newObj]
        · refine new_arr hs h6 (by rw [repCells_length, ← hzl]) (fun k c hk hc => ?_) false
          rw [cellV_zero te hzl m k hk] at hc; injection hc
      · simp at h
    · simp at h
  · simp at h

/-- the bounds of a slice expression -/
theorem bounds3_some {lo hi mx : Option Operand} {len cap l h m : Nat} (hlo : ∀ x ∈ lo, EvOk P φ tm a x) (hhi : ∀ x ∈ hi, EvOk P φ tm a x) (hmx : ∀ x ∈ mx, EvOk P φ tm a x)
    (hb : bounds3 tm lo hi mx len cap = some (l, h, m)) (isS : Bool) :
    (Instr.sliceBounds isS len cap (lo.map a.eval) (hi.map a.eval) (mx.map a.eval)).run P w = .ok (l, h, m) w ∧ l ≤ h ∧ l ≤ m ∧ h ≤ m := by
  have hbound : ∀ (x : Operand) (d y n : Nat) (code : BoundsCode), EvOk P φ tm a x → bound tm (some x) d y = some n →
      (Instr.sliceBound (a.eval x) y code).run P w = .ok n w ∧ n ≤ y := by
    intro x d y n code hx hbn
    unfold bound at hbn
    simp only at hbn
    split at hbn
    · rename_i kk q he
      simp only [cond_eq_ite, Nat.ble_eq] at hbn
      split at hbn
      · rename_i hle
        injection hbn with hbn; subst hbn
        have := evI_of hx he
        refine ⟨?_, hle⟩
        simp only [Instr.sliceBound, this, asIntOf, Sem.run_bind, Sem.run_pure, Result.andThen_ok, Sem.run_ite]
        rw [if_pos (by constructor <;> simp only [Int.ofNat_eq_natCast] <;> omega)]
        simp
      · simp at hbn
    · simp at hbn
  have hnone : ∀ d y n, bound tm none d y = some n → n = d := fun d y n h => by simp [bound] at h; exact h.symm
  unfold bounds3 at hb
  cases hm : bound tm mx cap cap with
  | none => simp [hm] at hb
  | some m' =>
    simp only [hm] at hb
    cases hh : (bif mx.isSome && hi.isNone then none else bound tm hi len m') with
    | none => simp [hh] at hb
    | some h' =>
      simp only [hh] at hb
      cases hl : bound tm lo 0 h' with
      | none => simp [hl] at hb
      | some l' =>
        simp only [hl, cond_eq_ite, Bool.and_eq_true, Nat.ble_eq] at hb
        split at hb
        · rename_i hlm
          simp at hb
          obtain ⟨rfl, rfl, rfl⟩ := hb
          have hl0 : l' ≤ h' := by
            cases lo with
            | none => have := hnone _ _ _ hl; omega
            | some x => exact (hbound x 0 h' l' .sliceB (hlo x (by simp)) hl).2
          refine ⟨?_, hl0, hlm⟩
          cases mx with
          | none =>
            have hm' := hnone _ _ _ hm; subst hm'
            simp only [Option.isSome_none, Bool.false_and, cond_false] at hh
            cases hi with
            | none =>
              have hh' := hnone _ _ _ hh; subst hh'
              cases lo with
              | none => have hl' := hnone _ _ _ hl; subst hl'; simp [Instr.sliceBounds]
              | some x => simp [Instr.sliceBounds, (hbound x 0 _ l' .sliceB (hlo x (by simp)) hl).1]
            | some y =>
              have h1 := fun code => (hbound y len m' h' code (hhi y (by simp)) hh).1
              cases lo with
              | none => have hl' := hnone _ _ _ hl; subst hl'; simp [Instr.sliceBounds, h1]
              | some x => simp [Instr.sliceBounds, h1, (hbound x 0 _ l' .sliceB (hlo x (by simp)) hl).1]
          | some z =>
            have h0 := fun code => (hbound z cap cap m' code (hmx z (by simp)) hm).1
            cases hi with
            | none => simp at hh
            | some y =>
              simp only [Option.isNone_some, Bool.and_false, cond_false] at hh
              have h1 := fun code => (hbound y len m' h' code (hhi y (by simp)) hh).1
              cases lo with
              | none => have hl' := hnone _ _ _ hl; subst hl'; simp [Instr.sliceBounds, h0, h1]
              | some x => simp [Instr.sliceBounds, h0, h1, (hbound x 0 _ l' .slice3C (hlo x (by simp)) hl).1]
        · simp at hb
end
end Go.Mx

/- Operations: slice expressions, conversions, function values, literals. -/
set_option linter.unusedSimpArgs false
namespace Go.Mx
open Go

section
variable {P : Program} {E : Env} {φ : Phi} {s s' : St} {w : World} {tm : Tm} {a : Act} {v : AV} {cf : CF} {o : Oper}

theorem add_at (b B q d : Nat) : (⟨b, B + q, none⟩ : Addr).add d = ⟨b, B + (q + d), none⟩ := by
  rw [Addr.add_none, Nat.add_assoc]

theorem bound_le {x : Option Operand} {d y n : Nat} (h : bound tm x d y = some n) (hd : d ≤ y) : n ≤ y := by
  unfold bound at h
  split at h
  · simp at h; omega
  · split at h
    · simp only [cond_eq_ite, Nat.ble_eq] at h
      split at h
      · injection h with h; omega
      · simp at h
    · simp at h

theorem bound_more {x : Option Operand} {d y n : Nat} (h : bound tm x d y = some n) {z : Nat} (hz : y ≤ z) : bound tm x d z = some n := by
  unfold bound at h ⊢
  split at h
  · exact h
  · split at h
    · simp only [cond_eq_ite, Nat.ble_eq] at h
      split at h
      · rename_i he hle
        simp only [he, cond_eq_ite, Nat.ble_eq]
        rw [if_pos (by omega)]; exact h
      · simp at h
    · simp at h

/-- the same bounds, under a greater capacity -/
theorem bounds3_more {lo hi mx : Option Operand} {len cap l h m : Nat} (hb : bounds3 tm lo hi mx len cap = some (l, h, m)) {C : Nat} (hC : cap ≤ C) :
    bounds3 tm lo hi mx len C = some (l, h, if mx.isNone then C else m) ∧ (mx.isNone = true → m = cap) := by
  unfold bounds3 at hb ⊢
  cases hm : bound tm mx cap cap with
  | none => simp [hm] at hb
  | some m' =>
    simp only [hm] at hb
    cases hh : (bif mx.isSome && hi.isNone then none else bound tm hi len m') with
    | none => simp [hh] at hb
    | some h' =>
      simp only [hh] at hb
      cases hl : bound tm lo 0 h' with
      | none => simp [hl] at hb
      | some l' =>
        simp only [hl, cond_eq_ite, Bool.and_eq_true, Nat.ble_eq] at hb
        split at hb
        · rename_i hlm
          simp at hb
          obtain ⟨rfl, rfl, rfl⟩ := hb
          cases mx with
          | none =>
            have hm' : m' = cap := by simp [bound] at hm; exact hm.symm
            subst hm'
            have hhC : bound tm hi len C = some h' := bound_more (by simpa using hh) hC
            have hmC : bound tm none C C = some C := by simp [bound]
            simp only [hmC, Option.isSome_none, Bool.false_and, cond_false]
            simp only [hhC, hl, cond_eq_ite, Bool.and_eq_true, Nat.ble_eq]
            rw [if_pos (by omega)]
            simp
          | some z =>
            have hmC : bound tm (some z) C C = some m' := by
              have := bound_more hm hC
              simpa [bound] using this
            simp only [hmC]
            rw [hh]
            simp only [hl, cond_eq_ite, Bool.and_eq_true, Nat.ble_eq]
            rw [if_pos hlm]
            simp
        · simp at hb

theorem op_slice0 (hE : TyOk P E) (hs : Sat P φ s w) {t : Nat} {x : Operand} {lo hi mx : Option Operand} (ho : o.op = .slice t x lo hi mx) (hev : OpsOk P φ tm a o)
    (h : ov (sliceOp0 E tm t x lo hi mx) s = some (v, s')) : Done P φ s w s' v ((execOp a.eval o).run P w) := by
  have hx := hev x (by simp [ho, Op.operands])
  have hlo : ∀ y ∈ lo, EvOk P φ tm a y := fun y hy => hev y (by simp [ho, Op.operands]; simp at hy; simp [hy])
  have hhi : ∀ y ∈ hi, EvOk P φ tm a y := fun y hy => hev y (by simp [ho, Op.operands]; simp at hy; simp [hy])
  have hmx : ∀ y ∈ mx, EvOk P φ tm a y := fun y hy => hev y (by simp [ho, Op.operands]; simp at hy; simp [hy])
  obtain ⟨h', rfl⟩ := ov_some h
  clear h
  unfold sliceOp0 at h'
  cases ht : E.ty.get t with
  | none => simp [ht] at h'
  | some ti =>
    cases hxe : ev tm x with
    | none => simp [ht, hxe] at h'
    | some u =>
      obtain ⟨d, hd, hk, _⟩ := (hE _ _ ht).und
      have hc := hx _ hxe
      simp only [ht, hxe] at h'
      split at h'
      · rename_i sz ag e zr pl q len cap op e1 e2
        injection e1 with e1; subst e1
        injection e2 with e2; subst e2
        obtain rfl := hk
        split at h'
        · rename_i te l hh m hte hb
          obtain ⟨ei, ez, he1, he2, _⟩ := (hE _ _ hte).info
          have hrun : ∀ (A : Option Addr) (n c : Nat), a.eval x = .slice A n c → (execOp a.eval o).run P w =
              (do pure (Next.value (← Instr.slice t (.slice A n c) (lo.map a.eval) (hi.map a.eval) (mx.map a.eval))) : Sem Next).run P w := by
            intro A n c hA
            simp only [execOp, ho, hA, Instr.sliceAt, Sem.run_bind, run_und hd, Result.andThen_ok]
          cases q with
          | none =>
            simp at h'; subst h'
            simp [conc, concS] at hc
            obtain ⟨hb1, hb2⟩ := bounds3_some (w := w) hlo hhi hmx hb true
            refine done_same hs (x := .slice none (hh - l) (m - l)) ?_ (by simp [conc, concS])
            rw [hrun _ _ _ hc.symm]
            refine run_v _ ?_
            simp only [Instr.slice, Sem.run_bind, run_und hd, Result.andThen_ok, hb1, run_sizeOf he1, Sem.run_pure]
            by_cases hml : m = l <;> simp [hml]
          | some p =>
            obtain ⟨i, q⟩ := p
            simp only [conc, concS] at hc
            cases hL : φ i with
            | none => simp [hL] at hc
            | some L =>
              simp only [hL, Option.some.injEq] at hc
              obtain ⟨hb3, hcap⟩ := bounds3_more hb (C := cap + (if op then L.spare else 0)) (by omega)
              obtain ⟨hb1, hb2, _⟩ := bounds3_some (w := w) hlo hhi hmx hb3 true
              obtain ⟨hlm, hhm⟩ := (bounds3_some (w := w) hlo hhi hmx hb true).2.2
              have hfin : ∀ X, (if (if mx.isNone = true then cap + (if op = true then L.spare else 0) else m) = l then (some ⟨L.blk, L.base + q, none⟩ : Option Addr)
                    else (some ((⟨L.blk, L.base + q, none⟩ : Addr).add (l * te.size)))) = X →
                  (execOp a.eval o).run P w = .ok (.value (.slice X (hh - l) ((if mx.isNone = true then cap + (if op = true then L.spare else 0) else m) - l))) w := by
                intro X hX
                rw [hrun _ _ _ hc.symm]
                refine run_v _ ?_
                simp only [Instr.slice, Sem.run_bind, run_und hd, Result.andThen_ok, hb1, run_sizeOf he1, Sem.run_pure, he2, Option.map_some]
                rw [← hX]
              simp only [cond_eq_ite, Bool.and_eq_true, Nat.beq_eq, Option.some.injEq] at h'
              rw [add_at] at hfin
              split at h'
              · rename_i hcond
                obtain ⟨⟨hop, hmn⟩, hml⟩ := hcond
                injection h' with h'; subst h'
                have hcp := hcap hmn
                refine done_same hs (hfin _ rfl) ?_
                simp only [conc, concS, hL, hmn, hop, if_true]
                have h0 : hh - l = 0 := by omega
                have h1 : cap + L.spare - l = L.spare := by omega
                rw [h0, h1]
                by_cases hsp : L.spare = 0
                · rw [if_pos hsp, if_pos (by omega)]
                · rw [if_neg hsp, if_neg (by omega)]
              · rename_i hcond
                injection h' with h'; subst h'
                refine done_same hs (hfin _ rfl) ?_
                by_cases hml : m = l
                · rw [if_pos hml]
                  simp only [conc, concS, hL]
                  cases hmn : mx.isNone with
                  | true =>
                    have hcp := hcap hmn
                    cases op with
                    | true => exact absurd ⟨⟨rfl, hmn⟩, hml⟩ hcond
                    | false => simp [hcp, hml]; intro hne; omega
                  | false => simp [hml]
                · rw [if_neg hml]
                  simp only [conc, concS, hL]
                  cases hmn : mx.isNone with
                  | true =>
                    have hcp := hcap hmn
                    cases op with
                    | true => simp only [if_true, Bool.and_true]; rw [if_neg (by omega)]; congr 2; omega
                    | false => simp; exact ⟨fun hne => absurd (hcp.trans hne) hml, by omega⟩
                  | false => simp; exact fun hne => absurd hne hml
        · simp at h'
      · rename_i sz ag n e zr pl i q e1 e2
        injection e1 with e1; subst e1
        injection e2 with e2; subst e2
        obtain rfl := hk
        split at h'
        · rename_i te l hh m hte hb
          obtain ⟨ei, ez, he1, he2, _⟩ := (hE _ _ hte).info
          simp only [conc, concS] at hc
          split at hc
          · rename_i A hA
            injection hc with hc
            obtain ⟨L, hL, rfl⟩ := concA_some hA
            have hL' : φ i = some L := hL
            obtain ⟨hb1, hb2, hlm, hhm⟩ := bounds3_some (w := w) hlo hhi hmx hb false
            simp only [cond_eq_ite, Nat.beq_eq] at h'
            injection h' with h'; subst h'
            refine done_same hs (x := .slice (some (if m = l then ⟨L.blk, L.base + q, none⟩ else ⟨L.blk, L.base + (q + l * te.size), none⟩)) (hh - l) (m - l)) ?_ ?_
            · simp only [execOp, ho]
              refine run_v _ ?_
              rw [← hc]
              simp only [Instr.sliceAt, Sem.run_bind, run_und hd, Result.andThen_ok, Instr.sureAddr, Sem.run_pure, hb1, run_sizeOf he1, he2, add_at]
            · by_cases hml : m = l <;> simp [conc, concS, hL', hml]
          · simp at hc
        · simp at h'
      · simp at h'

theorem evs_some : ∀ (l : List Operand) (vs : List AV), evs tm l = some vs → (∀ x ∈ l, EvOk P φ tm a x) → concs P φ vs = some (l.map a.eval) := by
  intro l
  induction l with
  | nil => intro vs h _; simp [evs] at h; subst h; rfl
  | cons x r ih =>
    intro vs h hx
    simp only [evs] at h
    cases h1 : ev tm x with
    | none => simp [h1] at h
    | some u =>
      cases h2 : evs tm r with
      | none => simp [h1, h2] at h
      | some us =>
        simp [h1, h2] at h; subst h
        simp only [concs, hx x (by simp) u h1, ih us h2 (fun y hy => hx y (by simp [hy])), List.map_cons]

theorem ptrs_some : ∀ (vs : List AV) (ps : List (Nat × Nat)) (xs : List Value), ptrs vs = some ps → concs P φ vs = some xs → concPs φ ps = some xs := by
  intro vs
  induction vs with
  | nil => intro ps xs h hc; simp [ptrs] at h; subst h; simpa [concs, concPs] using hc
  | cons u r ih =>
    intro ps xs h hc
    simp only [concs] at hc
    cases h1 : conc P φ u with
    | none => simp [h1] at hc
    | some y =>
      cases h2 : concs P φ r with
      | none => simp [h1, h2] at hc
      | some ys =>
        simp [h1, h2] at hc; subst hc
        unfold ptrs at h
        split at h
        · rename_i e; cases e
        · rename_i p q e
          injection e with e1 e2; subst e1; subst e2
          split at h
          · rename_i qs hq
            injection h with h; subst h
            simp only [conc, concS] at h1
            split at h1
            · rename_i A hA
              injection h1 with h1; subst h1
              simp only [concPs, hA, ih qs ys hq h2]
            · simp at h1
          · simp at h
        · simp at h

theorem op_makeFunc (hs : Sat P φ s w) {fn : Fn} {first cap : Array Operand} (ho : o.op = .makeFunc fn first cap) (hev : OpsOk P φ tm a o)
    (h : doOp E cf tm s o = some (v, s')) : Done P φ s w s' v ((execOp a.eval o).run P w) := by
  have hf : ∀ x ∈ first.toList, EvOk P φ tm a x := fun x hx => hev x (by simp [ho, Op.operands]; left; simpa using hx)
  have hcp : ∀ x ∈ cap.toList, EvOk P φ tm a x := fun x hx => hev x (by simp [ho, Op.operands]; right; simpa using hx)
  simp only [doOp, ho] at h
  cases fn with
  | func f =>
    simp only at h
    split at h
    · rename_i u1 u2 h1 h2
      split at h
      · rename_i p1 p2 h3 h4
        simp at h; obtain ⟨rfl, rfl⟩ := h
        have k1 := ptrs_some (P := P) (φ := φ) _ _ _ h3 (evs_some _ _ h1 hf)
        have k2 := ptrs_some (P := P) (φ := φ) _ _ _ h4 (evs_some _ _ h2 hcp)
        refine done_same hs (x := .func (.func f) (first.toList.map a.eval).toArray (cap.toList.map a.eval).toArray) ?_ (by simp only [conc, concS, k1, k2])
        simp only [execOp, ho]
        refine run_v _ ?_
        simp [Instr.makeFunc]
        constructor <;> (apply Array.ext'; simp)
      · simp at h
    · simp at h
  | _ => simp at h

theorem op_s2ap (hE : TyOk P E) (hs : Sat P φ s w) {t : Nat} {x : Operand} (ho : o.op = .sliceToArrayPointer t x) (hev : OpsOk P φ tm a o)
    (h : doOp E cf tm s o = some (v, s')) : Done P φ s w s' v ((execOp a.eval o).run P w) := by
  have hx := hev x (by simp [ho, Op.operands])
  simp only [doOp, ho] at h
  split at h
  · rename_i sz ag n e zr pl q len cap op ht hxe
    simp only [cond_eq_ite, Nat.ble_eq] at h
    split at h
    · rename_i hle
      simp at h; obtain ⟨rfl, rfl⟩ := h
      obtain ⟨d, hd, hk, _⟩ := (hE _ _ ht).und
      obtain rfl := hk
      have hc := hx _ hxe
      cases q with
      | none =>
        simp [conc, concS] at hc
        refine done_same hs (x := .pointer none) ?_ (by simp [conc, concS])
        simp only [execOp, ho]
        refine run_v _ ?_
        rw [← hc]
        simp only [Instr.arrayAt, Sem.run_bind, run_und hd, Result.andThen_ok, Sem.run_ite]
        rw [if_neg (by omega)]; simp
      | some p =>
        simp only [conc, concS] at hc
        split at hc
        · rename_i L hL
          injection hc with hc
          refine done_same hs (x := .pointer (some ⟨L.blk, L.base + p.2, none⟩)) ?_ (by simp [conc, concS, concA, hL])
          simp only [execOp, ho]
          refine run_v _ ?_
          rw [← hc]
          simp only [Instr.arrayAt, Sem.run_bind, run_und hd, Result.andThen_ok, Sem.run_ite]
          rw [if_neg (by omega)]; simp
        · simp at hc
    · simp at h
  · simp at h
end
end Go.Mx

/- Operations: equality of plain aggregates, and all that stands between two operands. -/
set_option linter.unusedSimpArgs false
namespace Go.Mx
open Go

theorem eqL_append : ∀ {l1 m1 l2 m2 : List Sc} {r : Bool}, l1.length = m1.length → eqL (l1 ++ l2) (m1 ++ m2) = some r →
    ∃ r1 r2, eqL l1 m1 = some r1 ∧ eqL l2 m2 = some r2 ∧ r = (r1 && r2) := by
  intro l1
  induction l1 with
  | nil => intro m1 l2 m2 r h e; cases m1 with | nil => exact ⟨true, r, rfl, e, by simp⟩ | cons => simp at h
  | cons a l ih =>
    intro m1 l2 m2 r h e
    cases m1 with
    | nil => simp at h
    | cons b m =>
      simp only [List.cons_append, eqL] at e
      cases hab : eqSc a b with
      | none => simp [hab] at e
      | some x =>
        cases hr : eqL (l ++ l2) (m ++ m2) with
        | none => simp [hab, hr] at e
        | some y =>
          simp [hab, hr] at e
          obtain ⟨r1, r2, h1, h2, h3⟩ := ih (by simpa using h) hr
          exact ⟨x && r1, r2, by simp [eqL, hab, h1], h2, by rw [← e, h3, Bool.and_assoc]⟩

theorem eqL_cut {l m : List Sc} {r : Bool} (k : Nat) (hlen : l.length = m.length) (h : eqL l m = some r) :
    ∃ r1 r2, eqL (l.take k) (m.take k) = some r1 ∧ eqL (l.drop k) (m.drop k) = some r2 ∧ r = (r1 && r2) := by
  refine eqL_append (by simp [hlen]) ?_
  rw [List.take_append_drop, List.take_append_drop]; exact h

section
variable {P : Program} {φ : Phi} {w : World}

theorem confK_length : ∀ {ks : List Kd} {l : List Sc}, confK ks l = true → l.length = ks.length := by
  intro ks
  induction ks with
  | nil => intro l h; cases l with | nil => rfl | cons => simp [confK] at h
  | cons k r ih =>
    intro l h
    cases l with
    | nil => simp [confK] at h
    | cons c q => simp [confK] at h; simp [ih h.2]

theorem confK_append : ∀ {k1 k2 : List Kd} {l : List Sc}, confK (k1 ++ k2) l = true → confK k1 (l.take k1.length) = true ∧ confK k2 (l.drop k1.length) = true := by
  intro k1
  induction k1 with
  | nil => intro k2 l h; exact ⟨rfl, by simpa using h⟩
  | cons k r ih =>
    intro k2 l h
    cases l with
    | nil => simp [confK] at h
    | cons c q =>
      simp only [List.cons_append, confK, Bool.and_eq_true] at h
      obtain ⟨h1, h2⟩ := ih h.2
      exact ⟨by simp [confK, h.1, h1], by simpa using h2⟩

theorem sameKd_ok {k : Kd} {z c : Sc} (h : k.ok z = true) (hs : sameKd z c = true) : k.ok c = true := by
  cases k <;> cases z <;> simp [Kd.ok] at h <;> cases c <;> simp [sameKd] at hs <;> simp [Kd.ok]
  rw [h, hs]

theorem confL_confK : ∀ {ks : List Kd} {z l : List Sc}, confK ks z = true → confL z l = true → confK ks l = true := by
  intro ks
  induction ks with
  | nil => intro z l h hl; cases z with | nil => (cases l with | nil => rfl | cons => simp [confL] at hl) | cons => simp [confK] at h
  | cons k r ih =>
    intro z l h hl
    cases z with
    | nil => simp [confK] at h
    | cons a z =>
      cases l with
      | nil => simp [confL] at hl
      | cons c q =>
        simp [confK] at h; simp [confL] at hl
        simp [confK, sameKd_ok h.1 hl.1, ih h.2 hl.2]

/-- two values of a type, equal as their cells are -/
def EqOk (P : Program) (D : Nat) (t : TypeId) (ks : List Kd) : Prop :=
  ∀ (φ : Phi) (w : World) (l m : List Sc) (xs ys : List Value) (r : Bool), concL φ l = some xs → concL φ m = some ys → confK ks l = true → confK ks m = true → eqL l m = some r →
    (∃ d, P.underlying t = some d ∧ (aggD d = true → (Op.equalIn D t (.agg xs.toArray) (.agg ys.toArray)).run P w = .ok r w) ∧
      (aggD d = false → ks.length = 1 ∧ ∀ x y, xs = [x] → ys = [y] → (Op.equalIn D t x y).run P w = .ok r w))

theorem eq_part {D : Nat} {t : TypeId} {ks : List Kd} {i : TypeInfo} (h : EqOk P D t ks) (hi : P.info? t = some i) (hn : i.size = ks.length) {l m : List Sc} {xs ys : List Value} {r : Bool} (off : Nat)
    (hl : concL φ l = some xs) (hm : concL φ m = some ys) (hkl : confK ks ((l.drop off).take ks.length) = true) (hkm : confK ks ((m.drop off).take ks.length) = true)
    (he : eqL ((l.drop off).take ks.length) ((m.drop off).take ks.length) = some r) :
    ∃ x y, (part t xs.toArray off).run P w = .ok x w ∧ (part t ys.toArray off).run P w = .ok y w ∧ (Op.equalIn D t x y).run P w = .ok r w := by
  have h1 := concL_drop_take hl off ks.length
  have h2 := concL_drop_take hm off ks.length
  obtain ⟨d, hd, ha, hb⟩ := h φ w _ _ _ _ r h1 h2 hkl hkm he
  cases hag : aggD d with
  | true =>
    refine ⟨_, _, run_part hi hd _ off _ (.inl ⟨hag, rfl⟩), run_part hi hd _ off _ (.inl ⟨hag, rfl⟩), ?_⟩
    rw [hn]; simpa using ha hag
  | false =>
    obtain ⟨h0, hb⟩ := hb hag
    have k1 := (concL_length h1).trans (confK_length hkl)
    have k2 := (concL_length h2).trans (confK_length hkm)
    have one : ∀ (q : List Value), q.length = 1 → ∃ x, q = [x] := fun q hq => by
      match q, hq with
      | [x], _ => exact ⟨x, rfl⟩
    obtain ⟨x, hx⟩ := one _ (k1.trans h0)
    obtain ⟨y, hy⟩ := one _ (k2.trans h0)
    exact ⟨x, y, run_part hi hd _ off _ (.inr ⟨hag, by rw [hn]; simpa using hx⟩), run_part hi hd _ off _ (.inr ⟨hag, by rw [hn]; simpa using hy⟩), hb x y hx hy⟩

theorem eq_fields {D : Nat} {chk : TypeId → Option (List Kd)} (hchk : ∀ t ks, chk t = some ks → EqOk P D t ks) : ∀ (fs : List Field) (off : Nat) (ks : List Kd) (l m : List Sc) (xs ys : List Value) (r : Bool),
    plainFields P chk fs off = some ks → concL φ l = some xs → concL φ m = some ys → confK ks (l.drop off) = true → confK ks (m.drop off) = true → eqL (l.drop off) (m.drop off) = some r →
    (Op.eqFields D xs.toArray ys.toArray fs).run P w = .ok r w := by
  intro fs
  induction fs with
  | nil =>
    intro off ks l m xs ys r h _ _ hl hm he
    simp [plainFields] at h; subst h
    have h1 : l.drop off = [] := List.eq_nil_of_length_eq_zero (confK_length hl)
    have h2 : m.drop off = [] := List.eq_nil_of_length_eq_zero (confK_length hm)
    rw [h1, h2] at he
    simp [eqL] at he; subst he
    simp [Op.eqFields]
  | cons f fs ih =>
    intro off ks l m xs ys r h hl hm hll hml he
    simp only [plainFields] at h
    cases hc : chk f.type with
    | none => simp [hc] at h
    | some k =>
      cases hi : P.info? f.type with
      | none => simp [hc, hi] at h
      | some fi =>
        simp only [hc, hi, cond_eq_ite, Bool.and_eq_true, Nat.beq_eq, bne_iff_ne] at h
        split at h
        · rename_i hcond
          obtain ⟨⟨h1, h2⟩, h3⟩ := hcond
          split at h
          · rename_i rest hrest
            injection h with h; subst h
            obtain ⟨cl1, cl2⟩ := confK_append hll
            obtain ⟨cm1, cm2⟩ := confK_append hml
            obtain ⟨r1, r2, e1, e2, rfl⟩ := eqL_cut k.length (by rw [confK_length hll, confK_length hml]) he
            rw [List.drop_drop] at cl2 cm2
            rw [List.drop_drop, List.drop_drop] at e2
            have g1 := ih (off + k.length) rest l m xs ys r2 hrest hl hm cl2 cm2 e2
            obtain ⟨x, y, p1, p2, p3⟩ := eq_part (φ := φ) (w := w) (hchk _ _ hc) hi h2 off hl hm cl1 cm1 e1
            simp only [Op.eqFields, ne_eq, h3, not_false_eq_true, if_true, Sem.run_bind, h1, p1, p2, p3, Result.andThen_ok]
            cases r1 with
            | true => simpa using g1
            | false => simp
          · simp at h
        · simp at h

theorem eq_items {D : Nat} {e : TypeId} {k : List Kd} {ei : TypeInfo} (h : EqOk P D e k) (hi : P.info? e = some ei) (hk : ei.size = k.length) : ∀ (c j : Nat) (l m : List Sc) (xs ys : List Value) (r : Bool),
    concL φ l = some xs → concL φ m = some ys → confK (repK c k) (l.drop (j * k.length)) = true → confK (repK c k) (m.drop (j * k.length)) = true →
    eqL (l.drop (j * k.length)) (m.drop (j * k.length)) = some r → (Op.eqItems D e k.length xs.toArray ys.toArray (List.range' j c)).run P w = .ok r w := by
  intro c
  induction c with
  | zero =>
    intro j l m xs ys r _ _ hl hm he
    have h1 : l.drop (j * k.length) = [] := List.eq_nil_of_length_eq_zero (confK_length hl)
    have h2 : m.drop (j * k.length) = [] := List.eq_nil_of_length_eq_zero (confK_length hm)
    rw [h1, h2] at he
    simp [eqL] at he; subst he
    simp [Op.eqItems]
  | succ c ih =>
    intro j l m xs ys r hl hm hll hml he
    simp only [repK] at hll hml
    obtain ⟨cl1, cl2⟩ := confK_append hll
    obtain ⟨cm1, cm2⟩ := confK_append hml
    obtain ⟨r1, r2, e1, e2, rfl⟩ := eqL_cut k.length (by rw [confK_length hll, confK_length hml]) he
    rw [List.drop_drop, ← Nat.succ_mul] at cl2 cm2
    rw [List.drop_drop, List.drop_drop, ← Nat.succ_mul] at e2
    have g := ih (j + 1) l m xs ys r2 hl hm cl2 cm2 e2
    obtain ⟨x, y, p1, p2, p3⟩ := eq_part (φ := φ) (w := w) h hi hk (j * k.length) hl hm cl1 cm1 e1
    simp only [List.range'_succ, Op.eqItems, Sem.run_bind, p1, p2, p3, Result.andThen_ok]
    cases r1 with
    | true => simpa using g
    | false => simp

theorem eq_plain : ∀ (m : Nat) (t : TypeId) (ks : List Kd), plainChk P m t = some ks → ∀ D, EqOk P (D + m) t ks := by
  intro m
  induction m with
  | zero => intro t n h; simp [plainChk] at h
  | succ m ih =>
    intro t ks h D φ w l m' xs ys r hl hm hll hml he
    simp only [plainChk] at h
    have cell : ∀ k, ks = [k] → (∀ x y c c' b, k.ok c = true → k.ok c' = true → concS φ c = some x → concS φ c' = some y → eqSc c c' = some b → (Op.equalIn (D + (m + 1)) t x y).run P w = .ok b w) →
        ∀ x y, xs = [x] → ys = [y] → (Op.equalIn (D + (m + 1)) t x y).run P w = .ok r w := by
      intro k hn hall x y hx hy
      subst hn; subst hx; subst hy
      have e1 := confK_length hll
      have e2 := confK_length hml
      match l, e1, m', e2 with
      | [c], _, [c'], _ =>
        obtain ⟨u, v, h1, h2, h3⟩ := concL_cons.1 hl
        obtain ⟨u', v', h1', h2', h3'⟩ := concL_cons.1 hm
        injection h3 with h3 _; subst h3
        injection h3' with h3' _; subst h3'
        simp only [eqL] at he
        simp [confK] at hll hml
        cases hb : eqSc c c' with
        | none => simp [hb] at he
        | some b => simp [hb] at he; subst he; exact hall _ _ c c' b hll hml h1 h1' hb
    cases hu : P.underlying t with
    | none => simp [hu] at h
    | some d =>
      refine ⟨d, rfl, ?_, ?_⟩
      · intro hag
        cases d with
        | array k e =>
          simp only [hu] at h
          cases hc : plainChk P m e with
          | none => simp [hc] at h
          | some q =>
            cases hi : P.info? e with
            | none => simp [hc, hi] at h
            | some ei =>
              simp only [hc, hi, cond_eq_ite, Nat.beq_eq] at h
              split at h
              · rename_i hq
                injection h with h; subst h
                rw [show D + (m + 1) = (D + m) + 1 from rfl, run_equalIn_array w (D + m) xs.toArray ys.toArray hu hi, cellsOf_eq hi, hq, List.range_eq_range']
                exact eq_items (ih e q hc D) hi hq k 0 l m' xs ys r hl hm (by simpa using hll) (by simpa using hml) (by simpa using he)
              · simp at h
        | struct fields =>
          simp only [hu, cond_eq_ite] at h
          split at h
          · simp at h
          · rename_i hst
            have hfs : P.fieldsOf t = fields := by simp [Program.fieldsOf, hu]
            rw [show D + (m + 1) = (D + m) + 1 from rfl, run_equalIn_struct w (D + m) t xs.toArray ys.toArray (by rw [hfs]; exact hu) (by simpa using hst), hfs]
            exact eq_fields (fun t n hh => ih t n hh D) fields.toList 0 ks l m' xs ys r h hl hm (by simpa using hll) (by simpa using hml) (by simpa using he)
        | _ => simp [aggD] at hag
      · intro hag
        cases d with
        | int k =>
          simp only [hu, Option.some.injEq] at h
          subst h
          refine ⟨rfl, cell _ rfl ?_⟩
          intro x y c c' b hk hk' hx hy hb
          cases c <;> simp [Kd.ok] at hk
          cases c' <;> simp [Kd.ok] at hk'
          subst hk; subst hk'
          simp [eqSc] at hb; subst hb
          simp [concS] at hx hy; subst hx; subst hy
          rw [show D + (m + 1) = (D + m) + 1 from rfl, run_equalIn_int _ _ _ _ _ _ _ hu]
        | bool =>
          simp only [hu, Option.some.injEq] at h
          subst h
          refine ⟨rfl, cell _ rfl ?_⟩
          intro x y c c' b hk hk' hx hy hb
          cases c <;> simp [Kd.ok] at hk
          cases c' <;> simp [Kd.ok] at hk'
          simp [eqSc] at hb; subst hb
          simp [concS] at hx hy; subst hx; subst hy
          rw [show D + (m + 1) = (D + m) + 1 from rfl, run_equalIn_bool' _ _ _ _ _ hu]
        | _ => first | (simp [aggD] at hag; done) | (simp [hu] at h; done)
end
end Go.Mx

/- Operations: binary operators, conversions, literals. -/
set_option linter.unusedSimpArgs false
namespace Go.Mx
open Go

theorem str_inj {x y : List Nat} (hx : x.all (Nat.ble · 255) = true) (hy : y.all (Nat.ble · 255) = true) : (str x == str y) = (x == y) := by
  rw [beq_toListBytes, ByteArray.toList_eq, ByteArray.toList_eq]
  have hb : ∀ (l : List Nat), l.all (Nat.ble · 255) = true → (l.map UInt8.ofNat).map (·.toNat) = l := by
    intro l h
    rw [List.map_map]
    induction l with
    | nil => rfl
    | cons a r ih =>
      simp [List.all_cons] at h
      simp only [List.map_cons, Function.comp, UInt8.toNat_ofNat']
      rw [Nat.mod_eq_of_lt (by omega)]
      congr 1
      exact ih (by simpa using h.2)
  have h1 : (str x).data.toList = x.map UInt8.ofNat := by simp [str]
  have h2 : (str y).data.toList = y.map UInt8.ofNat := by simp [str]
  rw [h1, h2]
  rw [Bool.eq_iff_iff]
  simp only [beq_iff_eq]
  constructor
  · intro h
    have := congrArg (List.map (·.toNat)) h
    rwa [hb x hx, hb y hy] at this
  · intro h; rw [h]

section
variable {P : Program} {E : Env} {φ : Phi} {s s' : St} {w : World} {tm : Tm} {a : Act} {v : AV} {cf : CF} {o : Oper}

theorem run_eqGuard {op : BinOp} {t : Nat} {x y : Operand} {u v : Value} (h1 : ¬ (u = .nilIface ∧ v = .nilIface)) (h2 : ¬ ((∃ a, u = .agg a) ∧ (∃ b, v = .agg b))) :
    (eqGuard op t x y u v).run P w = .ok () w := by
  unfold eqGuard
  by_cases hop : (op matches .eql | .neq) = true
  · cases u <;> cases v <;> first | (exact absurd ⟨rfl, rfl⟩ h1) | (exact absurd ⟨⟨_, rfl⟩, ⟨_, rfl⟩⟩ h2) | simp [hop]
  · simp [hop]
    intro h; exact absurd h hop

theorem intOp_run {op : BinOp} {k : IntKind} {x y : Int} {c : Sc} (h : intOp op k x y = some c) : ∃ u, concS φ c = some u ∧ (match op with
      | .add | .sub | .mul => Op.intArith op k x y
      | .quo | .rem => Op.intDiv op k x y
      | .and | .or | .xor | .andNot => Op.intBits op k x y
      | _ => Op.intCmp op x y : Sem Value).run P w = .ok u w := by
  cases op <;> simp only [intOp, cond_eq_ite, decide_eq_true_eq] at h <;> (try (simp at h; done)) <;> (try split at h) <;> (try (simp at h; done)) <;> injection h with h <;> subst h <;>
    simp only [concS] <;> refine ⟨_, rfl, ?_⟩ <;> simp_all [Op.intArith, Op.intDiv, Op.intBits, Op.intCmp]

theorem isAg_conc (hE : TyOk P E) {u : AV} {x : Value} (h : conc P φ u = some x) (hi : isAg E u = true) : ∃ cs, x = .agg cs := by
  cases u with
  | agg l =>
    simp only [conc] at h
    split at h
    · injection h with h; exact ⟨_, h.symm⟩
    · simp at h
  | zag t =>
    simp only [isAg] at hi
    cases ht : E.ty.get t with
    | none => simp [ht] at hi
    | some ti =>
      simp [ht] at hi
      obtain ⟨i, z, h1, _, _, h4, _, _, h7, _⟩ := (hE _ _ ht).info
      simp only [conc, zeroP, h1, Option.bind_some, h4] at h
      injection h with h; subst h
      exact h7 hi
  | _ => simp [isAg] at hi

theorem equal_at (t : TypeId) (x y : Value) : Op.equal t x y = Op.equalIn (9999 + 1) t x y := rfl

theorem eq_one {k : TK} {d : TypeDesc} {t : Nat} {p q : Sc} {r : Bool} {u v : Value} (hd : P.underlying t = some d) (hk : KindOk P k d) (hu : concS φ p = some u) (hv : concS φ q = some v)
    (h : eqOne k p q = some r) (op : BinOp) (x y : Operand) :
    (eqGuard op t x y u v).run P w = .ok () w ∧ (binOp .eql t u v).run P w = .ok (.bool r) w ∧ (binOp .neq t u v).run P w = .ok (.bool (!r)) w := by
  have base : (eqGuard op t x y u v).run P w = .ok () w → (Op.equal t u v).run P w = .ok r w → binOp .eql t u v = (do pure (.bool (← Op.equal t u v))) →
      binOp .neq t u v = (do pure (.bool (!(← Op.equal t u v)))) →
      (eqGuard op t x y u v).run P w = .ok () w ∧ (binOp .eql t u v).run P w = .ok (.bool r) w ∧ (binOp .neq t u v).run P w = .ok (.bool (!r)) w := fun h1 h2 h3 h4 => ⟨h1, by rw [h3]; simp [h2], by rw [h4]; simp [h2]⟩
  unfold eqOne at h
  split at h
  · simp [concS] at hu hv h; subst hu; subst hv; subst h; subst hk
    exact base (run_eqGuard (by simp) (by simp)) (by rw [equal_at]; exact run_equalIn_bool' w _ t _ _ hd) rfl rfl
  · obtain ⟨e, rfl⟩ := hk
    rename_i b
    simp [concS] at hu; subst hu
    injection h with h; subst h
    cases b with
    | none => simp [concS] at hv; subst hv; exact base (run_eqGuard (by simp) (by simp)) (by rw [equal_at]; generalize 9999 = n9; simp [Op.equalIn, run_und hd]) rfl rfl
    | some b =>
      simp only [concS] at hv
      split at hv
      · injection hv with hv; subst hv; exact base (run_eqGuard (by simp) (by simp)) (by rw [equal_at]; generalize 9999 = n9; simp [Op.equalIn, run_und hd]) rfl rfl
      · simp at hv
  · obtain ⟨e, rfl⟩ := hk
    simp [concS] at hv; subst hv
    injection h with h; subst h
    simp only [concS] at hu
    split at hu
    · injection hu with hu; subst hu; exact base (run_eqGuard (by simp) (by simp)) (by rw [equal_at]; generalize 9999 = n9; simp [Op.equalIn, run_und hd]) rfl rfl
    · simp at hu
  · obtain rfl := hk
    rename_i b _ _ _
    simp [concS] at hu; subst hu
    injection h with h; subst h
    cases b with
    | none => simp [concS] at hv; subst hv; exact base (run_eqGuard (by simp) (by simp)) (by rw [equal_at]; generalize 9999 = n9; simp [Op.equalIn, run_und hd]) rfl rfl
    | some b =>
      simp only [concS] at hv
      split at hv
      · injection hv with hv; subst hv; exact base (run_eqGuard (by simp) (by simp)) (by rw [equal_at]; generalize 9999 = n9; simp [Op.equalIn, run_und hd]) rfl rfl
      · simp at hv
  · obtain rfl := hk
    simp [concS] at hv; subst hv
    injection h with h; subst h
    simp only [concS] at hu
    split at hu
    · injection hu with hu; subst hu; exact base (run_eqGuard (by simp) (by simp)) (by rw [equal_at]; generalize 9999 = n9; simp [Op.equalIn, run_und hd]) rfl rfl
    · simp at hu
  · obtain rfl := hk
    simp [concS] at hv; subst hv
    injection h with h; subst h
    simp only [concS] at hu
    split at hu
    · injection hu with hu; subst hu; exact base (run_eqGuard (by simp) (by simp)) (by rw [equal_at]; generalize 9999 = n9; simp [Op.equalIn, run_und hd]) rfl rfl
    · simp at hu
  · obtain rfl := hk
    simp [concS] at hu; subst hu
    injection h with h; subst h
    simp only [concS] at hv
    split at hv
    · injection hv with hv; subst hv; exact base (run_eqGuard (by simp) (by simp)) (by rw [equal_at]; generalize 9999 = n9; simp [Op.equalIn, run_und hd]) rfl rfl
    · simp at hv
  · obtain rfl := hk
    rename_i b
    simp [concS] at hu; subst hu
    injection h with h; subst h
    cases b with
    | none => simp [concS] at hv; subst hv; exact base (run_eqGuard (by simp) (by simp)) (by rw [equal_at]; generalize 9999 = n9; simp [Op.equalIn, run_und hd]) rfl rfl
    | some b =>
      simp only [concS] at hv
      split at hv
      · injection hv with hv; subst hv; exact base (run_eqGuard (by simp) (by simp)) (by rw [equal_at]; generalize 9999 = n9; simp [Op.equalIn, run_und hd]) rfl rfl
      · simp at hv
  · obtain rfl := hk
    simp [concS] at hv; subst hv
    injection h with h; subst h
    simp only [concS] at hu
    split at hu
    · injection hu with hu; subst hu; exact base (run_eqGuard (by simp) (by simp)) (by rw [equal_at]; generalize 9999 = n9; simp [Op.equalIn, run_und hd]) rfl rfl
    · simp at hu
  · obtain ⟨_, _, _, rfl⟩ := hk
    simp [concS] at hu hv; subst hu; subst hv
    injection h with h; subst h
    exact base (run_eqGuard (by simp) (by simp)) (by rw [equal_at]; generalize 9999 = n9; simp [Op.equalIn, run_und hd]) rfl rfl
  · obtain ⟨_, _, _, rfl⟩ := hk
    simp [concS] at hu; subst hu
    injection h with h; subst h
    simp only [concS] at hv
    split at hv
    · injection hv with hv; subst hv; exact base (run_eqGuard (by simp) (by simp)) (by rw [equal_at]; generalize 9999 = n9; simp [Op.equalIn, run_und hd]) rfl rfl
    · simp at hv
  · obtain ⟨_, _, _, rfl⟩ := hk
    simp [concS] at hv; subst hv
    injection h with h; subst h
    simp only [concS] at hu
    split at hu
    · injection hu with hu; subst hu; exact base (run_eqGuard (by simp) (by simp)) (by rw [equal_at]; generalize 9999 = n9; simp [Op.equalIn, run_und hd]) rfl rfl
    · simp at hu
  · simp at h

theorem op_binOp0 (hE : TyOk P E) (hs : Sat P φ s w) {op : BinOp} {t yt : Nat} {x y : Operand} (ho : o.op = .binOp op t x y yt) (hev : OpsOk P φ tm a o)
    {u u' : AV} (hxe : ev tm x = some u) (hye : ev tm y = some u') (h' : binOp0 E op t u u' = some v) : Done P φ s w s v ((execOp a.eval o).run P w) := by
  have hx := hev x (by simp [ho, Op.operands])
  have hy := hev y (by simp [ho, Op.operands])
  have hrun : (execOp a.eval o).run P w = (do pure (Next.value (← (do eqGuard op t x y (a.eval x) (a.eval y); binOp op t (a.eval x) (a.eval y)))) : Sem Next).run P w := by
    simp only [execOp, ho]
  have hcx := hx _ hxe
  have hcy := hy _ hye
  have fin : ∀ (z : Value), conc P φ v = some z → (eqGuard op t x y (a.eval x) (a.eval y)).run P w = .ok () w → (binOp op t (a.eval x) (a.eval y)).run P w = .ok z w →
      Done P φ s w s v ((execOp a.eval o).run P w) := by
    intro z hz hg hb
    refine done_same hs ?_ hz
    rw [hrun]
    refine run_v _ ?_
    simp [hg, hb]
  unfold binOp0 at h'
  split at h'
  · -- two integers
    rename_i k n k' n'
    simp only [conc, concS, Option.some.injEq] at hcx hcy
    have hg : (eqGuard op t x y (a.eval x) (a.eval y)).run P w = .ok () w := by rw [← hcx, ← hcy]; exact run_eqGuard (by simp) (by simp)
    cases op with
    | shl =>
      cases n' with
      | ofNat m =>
        simp only [Option.some.injEq] at h'; subst h'
        refine fin _ rfl hg ?_
        rw [← hcx, ← hcy]
        simp only [binOp, Op.shift]
        rw [if_neg (by simp)]
        simp only [Int.ofNat_eq_natCast, Int.toNat_natCast, Sem.run_pure]
      | negSucc m => simp at h'
    | shr =>
      cases n' with
      | ofNat m =>
        simp only [Option.some.injEq] at h'; subst h'
        refine fin _ rfl hg ?_
        rw [← hcx, ← hcy]
        simp only [binOp, Op.shift]
        rw [if_neg (by simp)]
        simp only [Int.ofNat_eq_natCast, Int.toNat_natCast, Sem.run_pure]
      | negSucc m => simp at h'
    | _ =>
      simp only [cond_eq_ite, decide_eq_true_eq] at h'
      split at h'
      · rename_i hk; subst hk
        split at h'
        · rename_i c hc
          injection h' with h'; subst h'
          obtain ⟨z, hz, hr⟩ := intOp_run (P := P) (φ := φ) (w := w) hc
          refine fin z hz hg ?_
          rw [← hcx, ← hcy]
          simp only [binOp]
          simpa using hr
        · simp at h'
      · simp at h'
  · -- two strings
    rename_i p q
    simp only [conc, concS, Option.some.injEq] at hcx hcy
    have hg : (eqGuard op t x y (a.eval x) (a.eval y)).run P w = .ok () w := by rw [← hcx, ← hcy]; exact run_eqGuard (by simp) (by simp)
    simp only [cond_eq_ite, Bool.and_eq_true] at h'
    split at h'
    · rename_i hlt
      have hq := str_inj hlt.1 hlt.2
      cases op with
      | eql =>
        simp only [Option.some.injEq] at h'; subst h'
        refine fin _ rfl hg ?_
        rw [← hcx, ← hcy]
        simp only [binOp, Op.stringOp, Sem.run_pure, ← beq_toListBytes, hq]
      | neq =>
        simp only [Option.some.injEq] at h'; subst h'
        refine fin _ rfl hg ?_
        rw [← hcx, ← hcy]
        simp only [binOp, Op.stringOp, Sem.run_pure, ← beq_toListBytes, hq]
      | _ => simp at h'
    · simp at h'
  · -- two cells
    rename_i p q hn1 hn2
    cases ht : E.ty.get t with
    | none => simp [ht] at h'
    | some ti =>
      simp only [ht] at h'
      obtain ⟨d, hd, hk, _⟩ := (hE _ _ ht).und
      cases hr : eqOne ti.kind p q with
      | none => simp [hr] at h'
      | some r =>
        simp only [hr] at h'
        obtain ⟨hg, h1, h2⟩ := eq_one (P := P) (w := w) hd hk hcx hcy hr op x y
        cases op with
        | eql => simp only [Option.some.injEq] at h'; subst h'; exact fin _ rfl hg h1
        | neq => simp only [Option.some.injEq] at h'; subst h'; exact fin _ rfl hg h2
        | _ => simp at h'
  · -- two aggregates
    rename_i hn1 hn2 hn3
    cases ht : E.ty.get t with
    | none => simp [ht] at h'
    | some ti =>
      simp only [ht, cond_eq_ite, Bool.and_eq_true] at h'
      split at h'
      · rename_i hap
        obtain ⟨⟨hag, hpl⟩, hi1, hi2⟩ := hap
        obtain ⟨ks, hks, hconf, hgt⟩ := (hE _ _ ht).plain hpl
        obtain ⟨d, hd, hk, hda⟩ := (hE _ _ ht).und
        split at h'
        · rename_i ca cb hca hcb
          split at h'
          · rename_i hcc
            split at h'
            · rename_i r hr
              have h1 := cellsAs_conc hE hcx hca
              have h2 := cellsAs_conc hE hcy hcb
              obtain ⟨d', hd', ha, _⟩ := eq_plain 10 t ks hks 9990 φ w _ _ _ _ r h1 h2 (confL_confK hconf hcc.1) (confL_confK hconf hcc.2) hr
              rw [hd] at hd'; injection hd' with hd'; subst hd'
              have heq := ha (hda.trans hag)
              obtain ⟨cx, hcx'⟩ := isAg_conc hE hcx hi1
              obtain ⟨cy, hcy'⟩ := isAg_conc hE hcy hi2
              have e1 : (a.eval x).cells.toList.toArray = cx := by rw [hcx']; simp [Value.cells]
              have e2 : (a.eval y).cells.toList.toArray = cy := by rw [hcy']; simp [Value.cells]
              rw [e1, e2, ← hcx', ← hcy'] at heq
              have hg : (eqGuard op t x y (a.eval x) (a.eval y)).run P w = .ok () w := by rw [hcx', hcy']; exact run_eqGuard_agg w op t x y cx cy hgt
              cases op with
              | eql =>
                simp only [Option.some.injEq] at h'; subst h'
                refine fin _ rfl hg ?_
                rw [hcx', hcy', run_eql_struct w t cx cy, ← hcx', ← hcy']
                simp [heq]
              | neq =>
                simp only [Option.some.injEq] at h'; subst h'
                refine fin _ rfl hg ?_
                rw [hcx', hcy', run_neq_struct w t cx cy, ← hcx', ← hcy']
                simp [heq]
              | _ => simp at h'
            · simp at h'
          · simp at h'
        · simp at h'
      · simp at h'
end
end Go.Mx

/- Operations: conversions, literals. -/
set_option linter.unusedSimpArgs false
namespace Go.Mx
open Go

section
variable {P : Program} {E : Env} {φ : Phi} {s s' : St} {w : World} {tm : Tm} {a : Act} {v : AV} {cf : CF} {o : Oper}

theorem bytesOf_some : ∀ (l : List Sc) (b : List Nat) (xs : List Value), bytesOf l = some b → concL φ l = some xs → ∃ ns : List Int, xs = ns.map (Value.int .u8) ∧ b = ns.map Int.toNat := by
  intro l
  induction l with
  | nil => intro b xs h hc; simp [bytesOf] at h; simp [concL] at hc; exact ⟨[], hc.symm ▸ rfl, h.symm ▸ rfl⟩
  | cons c r ih =>
    intro b xs h hc
    obtain ⟨y, z, h1, h2, rfl⟩ := concL_cons.1 hc
    unfold bytesOf at h
    split at h
    · rename_i e; cases e
    · rename_i n q e
      injection e with e1 e2; subst e1; subst e2
      split at h
      · rename_i b' hb
        injection h with h; subst h
        obtain ⟨ns, rfl, rfl⟩ := ih _ _ hb h2
        simp [concS] at h1; subst h1
        exact ⟨n :: ns, rfl, rfl⟩
      · simp at h
    · simp at h

theorem foldl_push_str : ∀ (ns : List Int) (r : ByteArray), ns.foldl (fun r n => r.push (UInt8.ofNat n.toNat)) r = ⟨r.data ++ ((ns.map Int.toNat).map UInt8.ofNat).toArray⟩
  | [], r => by simp
  | n :: ns, r => by
    simp only [List.foldl_cons, List.map_cons]
    rw [foldl_push_str ns]
    simp [ByteArray.push]

theorem freeze_at {b n : Nat} {cs : Array Value} {e : TypeId} {fr : Nat × Nat} (hh : w.heap[b]? = some (.cells cs e fr)) :
    (w.freeze ⟨b, n, none⟩ 1).heap[b]? = some (.cells cs e (if fr.1 == fr.2 then (n, n + 1) else (min fr.1 n, max fr.2 (n + 1)))) ∧
    (∀ c, c ≠ b → (w.freeze ⟨b, n, none⟩ 1).heap[c]? = w.heap[c]?) ∧ (w.freeze ⟨b, n, none⟩ 1).heap.size = w.heap.size := by
  have hb : b < w.heap.size := by
    rcases Nat.lt_or_ge b w.heap.size with h | h
    · exact h
    · simp [Array.getElem?_eq_none h] at hh
  refine ⟨?_, ?_, ?_⟩
  · simp only [World.freeze]
    rw [if_neg (by omega)]
    simp only [Array.getElem?_modify, if_true, hh, Option.map_some]
  · intro c hc
    simp only [World.freeze]
    rw [if_neg (by omega)]
    simp only [Array.getElem?_modify]
    rw [if_neg (fun e => hc e.symm)]
  · simp only [World.freeze]
    rw [if_neg (by omega)]
    simp

theorem op_convert (hE : TyOk P E) (hs : Sat P φ s w) {src dst : Nat} {x : Operand} (ho : o.op = .convert src dst x) (hev : OpsOk P φ tm a o)
    (h : doOp E cf tm s o = some (v, s')) : Done P φ s w s' v ((execOp a.eval o).run P w) := by
  have hx := hev x (by simp [ho, Op.operands])
  simp only [doOp, ho] at h
  have hrun : (execOp a.eval o).run P w = (do pure (Next.value (← convert src dst (a.eval x))) : Sem Next).run P w := by simp only [execOp, ho]
  split at h
  · rename_i ts sz ag k zr pl kk n hts htd hxe
    simp at h; obtain ⟨rfl, rfl⟩ := h
    obtain ⟨d1, hd1, _⟩ := (hE _ _ hts).und
    obtain ⟨d2, hd2, rfl, _⟩ := (hE _ _ htd).und
    have hc := hx _ hxe
    simp [conc, concS] at hc
    refine done_same hs (x := .int k (k.wrap n)) ?_ rfl
    rw [hrun]
    refine run_v _ ?_
    rw [← hc]
    simp [convert, run_und hd1, run_und hd2, Conv.intToInt]
  · rename_i sz ag e zr pl sz' ag' zr' pl' q n c op hts htd hxe
    split at h
    · rename_i sz2 ag2 zr2 pl2 hte
      obtain ⟨d1, hd1, rfl, _⟩ := (hE _ _ hts).und
      obtain ⟨d2, hd2, rfl, _⟩ := (hE _ _ htd).und
      obtain ⟨d3, hd3, rfl, _⟩ := (hE _ _ hte).und
      have hc := hx _ hxe
      cases q with
      | none =>
        simp at h; obtain ⟨rfl, rfl⟩ := h
        simp [conc, concS] at hc
        refine done_same hs (x := .string (str [])) ?_ rfl
        rw [hrun]
        refine run_v _ ?_
        rw [← hc]
        simp [convert, run_und hd1, run_und hd2, run_und hd3, Conv.bytesToString]
        rfl
      | some p =>
        simp only at h
        split at h
        · rename_i l hl
          split at h
          · rename_i b hb
            simp at h; obtain ⟨rfl, rfl⟩ := h
            simp only [conc, concS] at hc
            split at hc
            · rename_i L hL
              injection hc with hc
              obtain ⟨vs, hv1, hv2, hv3⟩ := ld_cells hs hl (A := ⟨L.blk, L.base + p.2, none⟩) (by simp [concA, hL])
              obtain ⟨ns, rfl, rfl⟩ := bytesOf_some _ _ _ hb hv1
              refine done_same hs (x := .string (str (ns.map Int.toNat))) ?_ rfl
              rw [hrun]
              refine run_v _ ?_
              rw [← hc, run_convert_bytes_string w src dst e _ _ _ hd1 hd3 hd2, run_bytesToString w _ _ _ ns (run_loadCells_of hv2 hv3), foldl_push_str]
              congr 2
              have : ByteArray.empty.data = #[] := rfl
              rw [this]
              simp [str]
            · simp at hc
          · simp at h
        · simp at h
    · simp at h
  · rename_i sz ag e zr pl sz' ag' e' zr' pl' p n c op hts htd hxe
    split at h
    · rename_i sz2 ag2 zr2 pl2 hte
      simp only [cond_eq_ite, Bool.and_eq_true, Nat.beq_eq] at h
      split at h
      · rename_i hcond
        obtain ⟨he, hsd⟩ := hcond
        subst he; subst hsd
        split at h
        · rename_i N z t e' md hg
          simp at h; obtain ⟨rfl, rfl⟩ := h
          obtain ⟨d1, hd1, rfl, _⟩ := (hE _ _ hts).und
          obtain ⟨d3, hd3, rfl, _⟩ := (hE _ _ hte).und
          have hc := hx _ hxe
          have hc0 := hc
          simp only [conc, concS] at hc
          split at hc
          · rename_i L hL
            injection hc with hc
            have hob := hs.obj _ _ _ hg hL
            obtain ⟨cells, fr, h1, h2, h3, h4, h5⟩ := hob
            obtain ⟨f1, f2, f3⟩ := freeze_at (n := cells.size) h1
            have hfr : (if fr.1 == fr.2 then (cells.size, cells.size + 1) else (min fr.1 cells.size, max fr.2 (cells.size + 1))) = (cells.size, cells.size + 1) := by
              rcases h2 with h2 | h2 <;> subst h2 <;> simp
            rw [hfr] at f1
            refine ⟨φ, a.eval x, w.freeze ⟨L.blk, cells.size, none⟩ 1, .inl ?_, ?_, hc0⟩
            · rw [hrun]
              refine run_v _ ?_
              rw [← hc]
              have hsh : w.shape? L.blk = some (e', cells.size) := by simp [World.shape?, h1]
              simp [convert, run_und hd1, run_und hd3, markStringish, hsh]
            · have hw : ∀ (b : Addr) (n : Nat), (w.freeze b n).os = w.os ∧ (w.freeze b n).tape = w.tape ∧ (w.freeze b n).output = w.output := by
                intro b n; unfold World.freeze; split <;> exact ⟨rfl, rfl, rfl⟩
              refine Post.upd hs hg hL rfl (o' := .arr N z t e' md) rfl (fun j => ?_) (hw _ _).1 (hw _ _).2.1 (hw _ _).2.2 f3 f2 ⟨cells, _, f1, .inr rfl, h3, h4, h5⟩
              by_cases e : j = p.1
              · subst e; rw [if_pos rfl, hg]
              · rw [if_neg e]
          · simp at hc
        · simp at h
      · simp at h
    · simp at h
  · simp at h

theorem op_buildSlice (hE : TyOk P E) (hs : Sat P φ s w) {t len : Nat} {ps : Array (Nat × Operand)} (ho : o.op = .buildSlice t len ps) (hev : OpsOk P φ tm a o)
    (h : doOp E cf tm s o = some (v, s')) : Done P φ s w s' v ((execOp a.eval o).run P w) := by
  have hps : ∀ p ∈ ps.toList, EvOk P φ tm a p.2 := fun p hp => hev p.2 (by
    simp only [ho, Op.operands, List.mem_toArray, List.mem_map]
    exact ⟨p, hp, rfl⟩)
  simp only [doOp, ho] at h
  split at h
  · rename_i sz ag e zr pl ht
    split at h
    · rename_i te hte
      simp only [cond_eq_ite, Nat.ble_eq] at h
      split at h
      · rename_i hle
        unfold lim at hle
        split at h
        · rename_i cs hcs
          simp at h; obtain ⟨rfl, rfl⟩ := h
          obtain ⟨d, hd, rfl, _⟩ := (hE _ _ ht).und
          obtain ⟨i, z, h1, h2, h3, h4, h5, h6⟩ := zero_row hE hte (φ := φ) len
          obtain ⟨_, _, _, _, _, _, _, hzl, _⟩ := (hE _ _ hte).info
          obtain ⟨xs', hf, hc'⟩ := fill_conc hE (fun i => some (i * te.size, te.size)) ps.toList _ _ _ hps h6 hcs
          have hlen : cs.length = len * te.size := by
            have : ∀ (place : Nat → Option (Nat × Nat)) (ps : List (Nat × Operand)) (c c' : List Sc), fillOp E tm place ps c = some c' → c'.length = c.length := by
              intro place ps
              induction ps with
              | nil => intro c c' h; simp [fillOp] at h; rw [h]
              | cons p r ih =>
                intro c c' h
                obtain ⟨i, x⟩ := p
                simp only [fillOp] at h
                split at h
                · simp only [cond_eq_ite, Bool.and_eq_true, Nat.beq_eq, Nat.ble_eq] at h
                  split at h
                  · rename_i hcond
                    rw [ih _ _ h, splice_length (by omega)]
                  · simp at h
                · simp at h
            rw [this _ _ _ _ hcs, repCells_length, ← hzl]
          refine ⟨φ.upd s.next ⟨w.heap.size, 0, 0⟩, .slice (some ⟨w.heap.size, 0, none⟩) len len, { w with heap := w.heap.push (.cells xs'.toArray e) }, .inl ?_, ?_,
            by simp [conc, concS, upd_self]⟩
          · simp only [execOp, ho]
            refine run_v _ ?_
            simp only [Instr.buildSlice, Sem.run_bind, run_und hd, Result.andThen_ok, run_sizeOf h1, h2, Sem.run_ite]
            rw [if_neg (by omega)]
            rw [Array.toArray_toList] at hf
            have hf2 : Instr.fill (fun i => some (i * te.size, te.size)) ((Array.range (len * te.size)).map fun k => z.cells[k % z.cells.size]!)
                (ps.map fun p => (p.1, a.eval p.2)).toList = some xs'.toArray := by rw [Array.toList_map]; exact hf
            by_cases h0 : len * te.size = 0
            · rw [if_pos h0]
              simp only [Sem.run_pure, Result.andThen_ok]
              have e0 : ∀ f g : Nat → Value, (Array.range (len * te.size)).map f = (Array.range (len * te.size)).map g := fun f g => by
                rw [h0, Array.eq_empty_of_size_eq_zero (xs := (Array.range 0).map f) (by simp), Array.eq_empty_of_size_eq_zero (xs := (Array.range 0).map g) (by simp)]
              rw [e0 _ (fun k => z.cells[k % z.cells.size]!)]
              rw [hf2]; simp [newRow]
            · rw [if_neg h0]
              simp only [Sem.run_bind, run_zeroValue h1 h4, Sem.run_pure, Result.andThen_ok]
              rw [hf2]; simp [newRow]
          · refine new_arr hs (by simpa using hc') hlen.symm (fun k c hk hc => ?_) false
            exact cellV_setCells _ _ _ _ _ (by omega) _ (by simpa using hc)
        · simp at h
      · simp at h
    · simp at h
  · simp at h

theorem mapM_places : ∀ (fs : List (Nat × Nat × Bool)) (gs : List Field), fs.length = gs.length →
    (∀ (j : Nat) (f : Nat × Nat × Bool), fs[j]? = some f → ∃ g fi, gs[j]? = some g ∧ g.offset = f.1 ∧ P.info? g.type = some fi ∧ fi.size = f.2.1) →
    gs.mapM (fun f => (P.info? f.type).map fun i => (f.offset, i.size)) = some (fs.map fun f => (f.1, f.2.1)) := by
  intro fs
  induction fs with
  | nil => intro gs h _; cases gs with | nil => rfl | cons => simp at h
  | cons f r ih =>
    intro gs h hall
    cases gs with
    | nil => simp at h
    | cons g q =>
      obtain ⟨g', fi, h1, h2, h3, h4⟩ := hall 0 f (by simp)
      simp at h1; subst h1
      have := ih q (by simpa using h) (fun j f hf => by simpa using hall (j + 1) f (by simpa using hf))
      rw [List.mapM_cons, this]
      simp [h3, h2, h4]

theorem op_build (hE : TyOk P E) (hs : Sat P φ s w) {t : Nat} {ps : Array (Nat × Operand)} (ho : o.op = .build t ps) (hev : OpsOk P φ tm a o)
    (h : doOp E cf tm s o = some (v, s')) : Done P φ s w s' v ((execOp a.eval o).run P w) := by
  have hps : ∀ p ∈ ps.toList, EvOk P φ tm a p.2 := fun p hp => hev p.2 (by
    simp only [ho, Op.operands, List.mem_toArray, List.mem_map]
    exact ⟨p, hp, rfl⟩)
  simp only [doOp, ho] at h
  cases ht : E.ty.get t with
  | none => simp [ht] at h
  | some ti =>
    simp only [ht] at h
    obtain ⟨i, z, h1, h2, h3, h4, h5, h6, h7, h8⟩ := (hE _ _ ht).info
    obtain ⟨d, hd, hk, hag⟩ := (hE _ _ ht).und
    have hz := concL_mono (Phi.nil_le φ) h5
    have fin : ∀ cells x, P.built t (ps.map fun p => (p.1, a.eval p.2)).toList = some cells → conc P φ v = some x → x = .agg cells → s' = s → Done P φ s w s' v ((execOp a.eval o).run P w) := by
      intro cells x hb hx hxc hss
      subst hss
      refine done_same hs ?_ hx
      simp only [execOp, ho]
      refine run_v _ ?_
      rw [hxc]
      exact run_build w t _ cells hb
    have zero : ps.isEmpty = true → v = .zag t → s' = s → ti.agg = true → (∀ cells, z.cells = cells → P.built t (ps.map fun p => (p.1, a.eval p.2)).toList = some cells) → Done P φ s w s' v ((execOp a.eval o).run P w) := by
      intro he hv hss ha hb
      obtain ⟨cs, rfl⟩ := h7 ha
      refine fin cs (.agg cs) (hb cs rfl) (by rw [hv]; simp [conc, zeroP, h1, h4]) rfl hss
    cases hkd : ti.kind with
    | struct fs =>
      simp only [hkd, cond_eq_ite] at h
      rw [hkd] at hk
      obtain ⟨fields, rfl, hlen, hall⟩ := hk
      have hplaces : fields.toList.mapM (fun f => (P.info? f.type).map fun i => (f.offset, i.size)) = some (fs.map fun f => (f.1, f.2.1)) := by
        refine mapM_places fs fields.toList (by simpa using hlen) fun j f hf => ?_
        obtain ⟨g, fi, gd, g1, g2, g3, g4, _⟩ := hall j f hf
        exact ⟨g, fi, by simpa using g1, g2, g3, g4⟩
      have hbuilt : ∀ cells, Instr.fill (fun i => (fs.map fun f => (f.1, f.2.1))[i]?) z.cells (ps.map fun p => (p.1, a.eval p.2)).toList = some cells →
          P.built t (ps.map fun p => (p.1, a.eval p.2)).toList = some cells := by
        intro cells hc
        simp only [Program.built, h1, hd, h4, hplaces]
        simpa using hc
      split at h
      · rename_i hem
        simp at h; obtain ⟨rfl, rfl⟩ := h
        refine zero hem rfl rfl (by rw [← hag]; rfl) (fun cells hc => hbuilt cells ?_)
        have : (ps.map fun p => (p.1, a.eval p.2)).toList = [] := by simp at hem; simp [hem]
        rw [this]; simp [Instr.fill, hc]
      · split at h
        · rename_i cs hcs
          simp at h; obtain ⟨rfl, rfl⟩ := h
          have hplace : place2 fs = (fun (i : Nat) => (fs.map fun f => (f.1, f.2.1))[i]?) := by
            funext i; unfold place2; rw [List.getElem?_map]; cases fs[i]? <;> rfl
          rw [hplace] at hcs
          obtain ⟨xs', hf, hc'⟩ := fill_conc hE _ ps.toList _ _ _ hps hz hcs
          exact fin xs'.toArray _ (hbuilt _ (by simpa using hf)) (by simp only [conc, hc']) rfl rfl
        · simp at h
    | arr n e =>
      simp only [hkd] at h
      rw [hkd] at hk
      obtain rfl := hk
      cases hte : E.ty.get e with
      | none => simp [hte] at h
      | some te =>
        simp only [hte, cond_eq_ite] at h
        obtain ⟨ei, ez, he1, he2, _⟩ := (hE _ _ hte).info
        have hbuilt : ∀ cells, Instr.fill (fun i => some (i * te.size, te.size)) z.cells (ps.map fun p => (p.1, a.eval p.2)).toList = some cells →
            P.built t (ps.map fun p => (p.1, a.eval p.2)).toList = some cells := by
          intro cells hc
          simp only [Program.built, h1, hd, h4, he1, he2]
          exact hc
        split at h
        · rename_i hem
          simp at h; obtain ⟨rfl, rfl⟩ := h
          refine zero hem rfl rfl (by rw [← hag]; rfl) (fun cells hc => hbuilt cells ?_)
          have : (ps.map fun p => (p.1, a.eval p.2)).toList = [] := by simp at hem; simp [hem]
          rw [this]; simp [Instr.fill, hc]
        · split at h
          · rename_i cs hcs
            simp at h; obtain ⟨rfl, rfl⟩ := h
            obtain ⟨xs', hf, hc'⟩ := fill_conc hE _ ps.toList _ _ _ hps hz hcs
            exact fin xs'.toArray _ (hbuilt _ (by simpa using hf)) (by simp only [conc, hc']) rfl rfl
          · simp at h
    | _ => simp [hkd] at h
end
end Go.Mx

/- Operations on maps. -/
set_option linter.unusedSimpArgs false
namespace Go.Mx
open Go

theorem eqSc_true {a b : Sc} (h : eqSc a b = some true) : a = b := by
  unfold eqSc at h
  split at h
  · simp at h; rw [h]
  · simp only [cond_eq_ite, decide_eq_true_eq] at h
    split at h
    · rename_i hk; subst hk; simp at h; rw [h]
    · simp at h
  · simp at h

theorem eqL_true : ∀ {l m : List Sc}, eqL l m = some true → l = m := by
  intro l
  induction l with
  | nil => intro m h; cases m with | nil => rfl | cons => simp [eqL] at h
  | cons a r ih =>
    intro m h
    cases m with
    | nil => simp [eqL] at h
    | cons b q =>
      simp only [eqL] at h
      cases h1 : eqSc a b with
      | none => simp [h1] at h
      | some x =>
        cases h2 : eqL r q with
        | none => simp [h1, h2] at h
        | some y =>
          simp [h1, h2] at h
          obtain ⟨rfl, rfl⟩ := h
          rw [eqSc_true h1, ih h2]

theorem eqK_true {a b : Vv} (h : eqK a b = some true) : a = b := by
  unfold eqK at h
  simp only [cond_eq_ite] at h
  split at h
  · rename_i h1
    have := eqL_true h
    obtain ⟨a1, a2⟩ := a
    obtain ⟨b1, b2⟩ := b
    simp at h1 this
    rw [h1, this]
  · simp at h

/-- a plain cell's value: an integer or a bool -/
def Plain (v : Value) : Prop := (∃ b, v = .bool b) ∨ (∃ k n, v = .int k n)

theorem confL_plain {φ : Phi} : ∀ {z l : List Sc} {xs : List Value}, confL z l = true → concL φ l = some xs → ∀ x ∈ xs, Plain x := by
  intro z
  induction z with
  | nil => intro l xs h hc; cases l with | nil => (simp [concL] at hc; subst hc; simp) | cons => simp [confL] at h
  | cons a z ih =>
    intro l xs h hc
    cases l with
    | nil => simp [confL] at h
    | cons c q =>
      simp [confL] at h
      obtain ⟨u, v, h1, h2, rfl⟩ := concL_cons.1 hc
      intro x hx
      rcases List.mem_cons.1 hx with rfl | hx
      · cases a <;> cases c <;> simp [sameKd] at h <;> simp [concS] at h1
        · exact .inl ⟨_, h1.symm⟩
        · exact .inr ⟨_, _, h1.symm⟩
      · exact ih h.2 h2 x hx

theorem sameBits_plain (n : Nat) {v : Value} (h : Plain v) : Instr.sameBits n v v = true := by
  rcases h with ⟨b, rfl⟩ | ⟨k, m, rfl⟩ <;> cases n <;> simp [Instr.sameBits]

theorem sameBits_agg (n : Nat) {xs : Array Value} (h : ∀ x ∈ xs.toList, Plain x) : Instr.sameBits (n + 1) (.agg xs) (.agg xs) = true := by
  simp only [Instr.sameBits, beq_self_eq_true, Bool.true_and]
  rw [List.all_eq_true]
  intro p hp
  have : p.1 = p.2 ∧ p.1 ∈ xs.toList := by
    obtain ⟨i, hi⟩ := List.getElem?_of_mem hp
    rw [List.getElem?_zip_eq_some] at hi
    have h1 := hi.1; have h2 := hi.2
    rw [h1] at h2; injection h2 with h2
    exact ⟨h2, List.mem_of_getElem? h1⟩
  rw [← this.1]
  exact sameBits_plain n (h _ this.2)

section
variable {P : Program} {E : Env} {φ : Phi} {s s' : St} {w : World} {tm : Tm} {a : Act} {v : AV} {cf : CF} {o : Oper}

/-- what a key of a type is -/
theorem key_val (hE : TyOk P E) {kt : Nat} {k : Vv} {kv : Value} (hk : keyOk E kt k = true) (hc : concV φ k = some kv) :
    ∃ tk ks d xs, E.ty.get kt = some tk ∧ plainChk P 10 kt = some ks ∧ confK ks k.2 = true ∧ concL φ k.2 = some xs ∧ (∀ x ∈ xs, Plain x) ∧ P.underlying kt = some d ∧
      P.eqGuardType P.depth kt = false ∧ ((aggD d = true ∧ kv = .agg xs.toArray) ∨ (aggD d = false ∧ xs = [kv])) := by
  unfold keyOk at hk
  cases ht : E.ty.get kt with
  | none => simp [ht] at hk
  | some tk =>
    simp only [ht, Bool.and_eq_true, beq_iff_eq] at hk
    obtain ⟨⟨hp, hag⟩, hcf⟩ := hk
    obtain ⟨ks, hks, hconf, hg⟩ := (hE _ _ ht).plain hp
    obtain ⟨d, hd, _, hda⟩ := (hE _ _ ht).und
    unfold concV at hc
    cases hl : concL φ k.2 with
    | none => simp [hl] at hc
    | some xs =>
      refine ⟨tk, ks, d, xs, rfl, hks, confL_confK hconf hcf, rfl, confL_plain hcf hl, hd, hg, ?_⟩
      simp only [hl] at hc
      cases ha : k.1 with
      | true => simp [ha] at hc; exact .inl ⟨by rw [hda, ← hag, ha], hc.symm⟩
      | false =>
        simp [ha] at hc
        split at hc
        · simp at hc; subst hc; exact .inr ⟨by rw [hda, ← hag, ha], rfl⟩
        · simp at hc

/-- a key of a plain type can be asked for -/
theorem checkKey_plain (empty : Bool) : ∀ (m : Nat) (t : TypeId) (ks : List Kd), plainChk P m t = some ks → ∀ (D : Nat) (d : TypeDesc) (φ : Phi) (w : World) (l : List Sc) (xs : List Value) (x : Value),
    P.underlying t = some d → confK ks l = true → concL φ l = some xs → ((aggD d = true ∧ x = .agg xs.toArray) ∨ (aggD d = false ∧ xs = [x])) →
    (Instr.checkKey empty (D + m) t x).run P w = .ok () w := by
  intro m
  induction m with
  | zero => intro t ks h; simp [plainChk] at h
  | succ m ih =>
    intro t ks h D d φ w l xs x hd hcf hl hx
    simp only [plainChk, hd] at h
    rw [show D + (m + 1) = (D + m) + 1 from rfl]
    have part1 : ∀ (e : TypeId) (k : List Kd) (ei : TypeInfo) (off : Nat), plainChk P m e = some k → P.info? e = some ei → ei.size = k.length →
        confK k ((l.drop off).take k.length) = true → ∃ y, (part e xs.toArray off).run P w = .ok y w ∧ (Instr.checkKey empty (D + m) e y).run P w = .ok () w := by
      intro e k ei off hk hi hsz hck
      have h1 := concL_drop_take hl off k.length
      have hde : ∃ de, P.underlying e = some de := by
        cases m with
        | zero => simp [plainChk] at hk
        | succ m =>
          simp only [plainChk] at hk
          cases hu : P.underlying e with
          | none => simp [hu] at hk
          | some de => exact ⟨de, rfl⟩
      obtain ⟨de, hde⟩ := hde
      cases hag : aggD de with
      | true =>
        refine ⟨.agg ((xs.drop off).take k.length).toArray, run_part hi hde _ off _ (.inl ⟨hag, by simp [hsz]⟩), ?_⟩
        exact ih e k hk D de φ w _ _ _ hde hck h1 (.inl ⟨hag, rfl⟩)
      | false =>
        have hlen := (concL_length h1).trans (confK_length hck)
        have hk1 : k.length = 1 := by
          cases m with
          | zero => simp [plainChk] at hk
          | succ m =>
            simp only [plainChk, hde] at hk
            cases de <;> simp [aggD] at hag <;> simp at hk <;> subst hk <;> rfl
        have one : ∀ (q : List Value), q.length = 1 → ∃ x, q = [x] := fun q hq => by
          match q, hq with
          | [x], _ => exact ⟨x, rfl⟩
        obtain ⟨y, hy⟩ := one _ (hlen.trans hk1)
        refine ⟨y, run_part hi hde _ off _ (.inr ⟨hag, by rw [hsz]; simpa using hy⟩), ?_⟩
        rw [hy] at h1
        exact ih e k hk D de φ w _ _ _ hde hck h1 (.inr ⟨hag, rfl⟩)
    cases d with
    | int q =>
      rcases hx with ⟨hh, _⟩ | ⟨_, rfl⟩
      · simp [aggD] at hh
      · simp at h; subst h
        simp only [Instr.checkKey, Sem.run_bind, run_und hd, Result.andThen_ok]
        obtain ⟨u, v, h1, h2, h3⟩ : ∃ u v, concL φ l = some [u] ∧ u = x ∧ v = () := ⟨x, (), hl, rfl, rfl⟩
        have hp : Plain x := by
          have e1 := confK_length hcf
          match l, e1 with
          | [c], _ =>
            simp [confK] at hcf
            obtain ⟨p, q, g1, g2, g3⟩ := concL_cons.1 hl
            injection g3 with g3 _; subst g3
            cases c <;> simp [Kd.ok] at hcf
            simp [concS] at g1; exact .inr ⟨_, _, g1.symm⟩
        rcases hp with ⟨b, rfl⟩ | ⟨k, n, rfl⟩ <;> simp
    | bool =>
      rcases hx with ⟨hh, _⟩ | ⟨_, rfl⟩
      · simp [aggD] at hh
      · simp at h; subst h
        simp only [Instr.checkKey, Sem.run_bind, run_und hd, Result.andThen_ok]
        have hp : Plain x := by
          have e1 := confK_length hcf
          match l, e1 with
          | [c], _ =>
            simp [confK] at hcf
            obtain ⟨p, q, g1, g2, g3⟩ := concL_cons.1 hl
            injection g3 with g3 _; subst g3
            cases c <;> simp [Kd.ok] at hcf
            simp [concS] at g1; exact .inl ⟨_, g1.symm⟩
        rcases hp with ⟨b, rfl⟩ | ⟨k, n, rfl⟩ <;> simp
    | array n e =>
      rcases hx with ⟨_, rfl⟩ | ⟨hh, _⟩
      · simp only at h
        cases hc : plainChk P m e with
        | none => simp [hc] at h
        | some q =>
          cases hi : P.info? e with
          | none => simp [hc, hi] at h
          | some ei =>
            simp only [hc, hi, cond_eq_ite, Nat.beq_eq] at h
            split at h
            · rename_i hq
              injection h with h; subst h
              simp only [Instr.checkKey, Sem.run_bind, run_und hd, Result.andThen_ok]
              simp only [Std.Legacy.Range.forIn_eq_forIn_range', Std.Legacy.Range.size, Nat.sub_zero, Nat.add_one_sub_one, Nat.div_one]
              have loop : ∀ (c j : Nat), confK (repK c q) (l.drop (j * q.length)) = true →
                  (forIn (List.range' j c) PUnit.unit (fun i _ => do
                    Instr.checkKey empty (D + m) e (← part e xs.toArray (i * (← sizeOf e)))
                    pure (ForInStep.yield PUnit.unit) : Nat → PUnit → Sem (ForInStep PUnit))).run P w = .ok PUnit.unit w := by
                intro c
                induction c with
                | zero => intro j _; simp
                | succ c ihc =>
                  intro j hcj
                  simp only [repK] at hcj
                  obtain ⟨c1, c2⟩ := confK_append hcj
                  rw [List.drop_drop, ← Nat.succ_mul] at c2
                  obtain ⟨y, p1, p2⟩ := part1 e q ei (j * q.length) hc hi hq c1
                  simp only [List.range'_succ, List.forIn_cons, Sem.run_bind, run_sizeOf hi, Result.andThen_ok, hq, p1, p2, Sem.run_pure]
                  exact ihc (j + 1) c2
              have := loop n 0 (by simpa using hcf)
              rw [this]; rfl
            · simp at h
      · simp [aggD] at hh
    | struct fields =>
      rcases hx with ⟨_, rfl⟩ | ⟨hh, _⟩
      · simp only [cond_eq_ite] at h
        split at h
        · simp at h
        · simp only [Instr.checkKey, Sem.run_bind, run_und hd, Result.andThen_ok]
          rw [← Array.forIn_toList]
          have loop : ∀ (fs : List Field) (off : Nat) (ks : List Kd), plainFields P (plainChk P m) fs off = some ks → confK ks (l.drop off) = true →
              (forIn fs PUnit.unit (fun f _ => do
                if f.name ≠ "_" then Instr.checkKey empty (D + m) f.type (← part f.type xs.toArray f.offset)
                pure (ForInStep.yield PUnit.unit) : Field → PUnit → Sem (ForInStep PUnit))).run P w = .ok PUnit.unit w := by
            intro fs
            induction fs with
            | nil => intro off ks _ _; simp
            | cons f fs ihf =>
              intro off ks h hck
              simp only [plainFields] at h
              cases hc : plainChk P m f.type with
              | none => simp [hc] at h
              | some k =>
                cases hi : P.info? f.type with
                | none => simp [hc, hi] at h
                | some fi =>
                  simp only [hc, hi, cond_eq_ite, Bool.and_eq_true, Nat.beq_eq, bne_iff_ne] at h
                  split at h
                  · rename_i hcond
                    obtain ⟨⟨h1, h2⟩, h3⟩ := hcond
                    split at h
                    · rename_i rest hrest
                      injection h with h; subst h
                      obtain ⟨c1, c2⟩ := confK_append hck
                      rw [List.drop_drop] at c2
                      obtain ⟨y, p1, p2⟩ := part1 f.type k fi off hc hi h2 c1
                      have g := ihf (off + k.length) rest hrest c2
                      simp only [List.forIn_cons, Sem.run_bind, ne_eq, h3, not_false_eq_true, if_true, h1, p1, p2, Result.andThen_ok, Sem.run_pure]
                      simpa using g
                    · simp at h
                  · simp at h
          have := loop fields.toList 0 ks h (by simpa using hcf)
          rw [this]; rfl
      · simp [aggD] at hh
    | _ => simp at h
end
end Go.Mx

/- Keys that are found. -/
set_option linter.unusedSimpArgs false
namespace Go.Mx
open Go

theorem eqL_conf : ∀ {l m : List Sc} {r : Bool}, eqL l m = some r → confL l m = true := by
  intro l
  induction l with
  | nil => intro m r h; cases m with | nil => rfl | cons => simp [eqL] at h
  | cons a q ih =>
    intro m r h
    cases m with
    | nil => simp [eqL] at h
    | cons b p =>
      simp only [eqL] at h
      cases h1 : eqSc a b with
      | none => simp [h1] at h
      | some x =>
        cases h2 : eqL q p with
        | none => simp [h1, h2] at h
        | some y =>
          simp only [confL, ih h2, Bool.and_true]
          unfold eqSc at h1
          split at h1
          · rfl
          · simp only [cond_eq_ite, decide_eq_true_eq] at h1
            split at h1
            · rename_i e; subst e; simp [sameKd]
            · simp at h1
          · simp at h1

theorem All2.length {α β : Type} {R : α → β → Prop} {l : List α} {m : List β} (h : All2 R l m) : l.length = m.length := by
  induction h with
  | nil => rfl
  | cons _ _ ih => simp [ih]

theorem All2.append {α β : Type} {R : α → β → Prop} {l : List α} {m : List β} (h : All2 R l m) {l' : List α} {m' : List β} (h' : All2 R l' m') : All2 R (l ++ l') (m ++ m') := by
  induction h with
  | nil => exact h'
  | cons a _ ih => exact .cons a ih

theorem findK_form {k : Vv} : ∀ {es : List Me} {e : Me}, findK k es = some (some e) → ∃ pre post, es = pre ++ e :: post ∧ (∀ p ∈ pre, eqK k p.1 = some false) ∧ eqK k e.1 = some true := by
  intro es
  induction es with
  | nil => intro e h; simp [findK] at h
  | cons a r ih =>
    intro e h
    simp only [findK] at h
    split at h
    · rename_i h1; injection h with h; injection h with h; subst h; exact ⟨[], r, rfl, by simp, h1⟩
    · rename_i h1
      obtain ⟨pre, post, rfl, h2, h3⟩ := ih h
      exact ⟨a :: pre, post, rfl, by intro p hp; rcases List.mem_cons.1 hp with rfl | hp; exact h1; exact h2 p hp, h3⟩
    · simp at h

theorem putK_form {k v : Vv} {e : Me} {post : List Me} (h : eqK k e.1 = some true) : ∀ {pre : List Me}, (∀ p ∈ pre, eqK k p.1 = some false) →
    putK k v (pre ++ e :: post) = pre ++ (k, v, e.2.2) :: post := by
  intro pre
  induction pre with
  | nil => intro _; simp [putK, h]
  | cons a r ih => intro hp; simp [putK, hp a (by simp), ih (fun p h => hp p (by simp [h]))]

theorem delK_form {k : Vv} {e : Me} {post : List Me} (h : eqK k e.1 = some true) : ∀ {pre : List Me}, (∀ p ∈ pre, eqK k p.1 = some false) →
    delK k (pre ++ e :: post) = pre ++ post := by
  intro pre
  induction pre with
  | nil => intro _; simp [delK, h]
  | cons a r ih => intro hp; simp [delK, hp a (by simp), ih (fun p h => hp p (by simp [h]))]

theorem delK_none {k : Vv} : ∀ {es : List Me}, findK k es = some none → delK k es = es := by
  intro es
  induction es with
  | nil => intro _; rfl
  | cons a r ih =>
    intro h
    simp only [findK] at h
    split at h
    · simp at h
    · rename_i h1; simp [delK, h1, ih h]
    · simp at h

section
variable {P : Program} {E : Env} {φ : Phi}

theorem eq_key (hE : TyOk P E) {kt : Nat} {k q : Vv} {kv qv : Value} {r : Bool} (hk : keyOk E kt k = true) (hc : concV φ k = some kv) (hq : concV φ q = some qv) (h : eqK k q = some r) :
    ∃ d, P.underlying kt = some d ∧ (aggD d = false → Instr.sameNow d kv qv = some r) ∧
      (aggD d = true → Instr.sameNow d kv qv = none ∧ ∀ w, (Op.equal kt kv qv).run P w = .ok r w) := by
  obtain ⟨tk, ks, d, xs, ht, hpc, hck, hxs, hpl, hd, hg, hv⟩ := key_val hE hk hc
  unfold eqK at h
  simp only [cond_eq_ite] at h
  split at h
  · rename_i hag
    simp at hag
    have hcq : confK ks q.2 = true := confL_confK hck (eqL_conf h)
    unfold concV at hq
    cases hl : concL φ q.2 with
    | none => simp [hl] at hq
    | some ys =>
      have key := fun w => eq_plain 10 kt ks hpc (9999 + 1 - 10) φ w k.2 q.2 xs ys r hxs hl hck hcq h
      refine ⟨d, hd, fun hda => ?_, fun hda => ?_⟩
      · rcases hv with ⟨g, _⟩ | ⟨_, rfl⟩
        · rw [hda] at g; simp at g
        · have hlen := confK_length hck
          have hlen2 := confK_length hcq
          have e1 := concL_length hxs
          simp at e1
          match hk2 : k.2, hq2 : q.2 with
          | [c], [c'] =>
            rw [hk2] at hxs h hck; rw [hq2] at hl h hcq
            obtain ⟨u, z, g1, g2, g3⟩ := concL_cons.1 hxs
            injection g3 with g3 _; subst g3
            obtain ⟨u', z', g1', g2', g3'⟩ := concL_cons.1 hl
            simp [concL] at g2'; subst g2'; subst g3'
            have hkag : k.1 = false := by
              unfold concV at hc
              rw [hk2, hxs] at hc
              cases hb : k.1 with
              | false => rfl
              | true =>
                simp [hb] at hc
                have := hpl kv (by simp)
                rcases this with ⟨_, g⟩ | ⟨_, _, g⟩ <;> rw [g] at hc <;> simp at hc
            rw [hq2, hl, ← hag, hkag] at hq
            simp at hq; subst hq
            simp only [eqL] at h
            have hr : eqSc c c' = some r := by
              cases h1 : eqSc c c' with
              | none => simp [h1] at h
              | some y => simp [h1] at h; rw [h]
            simp only [plainChk, hd] at hpc
            unfold eqSc at hr
            split at hr
            · rename_i a b
              simp [concS] at g1 g1'; subst g1; subst g1'
              cases d <;> simp at hpc <;> simp [aggD] at hda <;> first | (simpa [Instr.sameNow] using hr) | (exfalso; subst hpc; simp [confK, Kd.ok] at hck)
            · rename_i j a j' b
              simp [concS] at g1 g1'; subst g1; subst g1'
              simp only [cond_eq_ite, decide_eq_true_eq] at hr
              split at hr
              · rename_i ejk
                subst ejk
                cases d <;> simp at hpc <;> simp [aggD] at hda <;> first | (simpa [Instr.sameNow] using hr) | (exfalso; subst hpc; simp [confK, Kd.ok] at hck)
              · simp at hr
            · simp at hr
          | [], _ => rw [hk2] at e1; simp at e1
          | _ :: _ :: _, _ => rw [hk2] at e1; simp at e1
          | [c], [] => rw [hk2] at hlen; rw [hq2] at hlen2; simp at hlen hlen2; omega
          | [c], _ :: _ :: _ => rw [hk2] at hlen; rw [hq2] at hlen2; simp at hlen hlen2; omega
      · rcases hv with ⟨_, rfl⟩ | ⟨g, _⟩
        · have hkag : q.1 = true := by
            cases hb : q.1 with
            | true => rfl
            | false =>
              unfold concV at hc
              rw [hxs, hag, hb] at hc
              simp at hc
              split at hc
              · injection hc with hc
                have := hpl _ (List.mem_singleton.2 rfl)
                rcases this with ⟨_, g⟩ | ⟨_, _, g⟩ <;> rw [g] at hc <;> simp at hc
              · simp at hc
          rw [hl, hkag] at hq
          simp at hq; subst hq
          refine ⟨by cases d <;> simp [Instr.sameNow], fun w => ?_⟩
          obtain ⟨d', hd', k1, _⟩ := key w
          rw [hd] at hd'; injection hd' with hd'; subst hd'
          exact k1 hda
        · rw [hda] at g; simp at g
  · simp at h

theorem find_ok (hE : TyOk P E) {kt : Nat} {k : Vv} {kv : Value} {d : TypeDesc} (hk : keyOk E kt k = true) (hc : concV φ k = some kv) (hd : P.underlying kt = some d) :
    ∀ (es : List Me) (xs : List MapEntry) (r : Option Me) (i : Nat), All2 (entryRel φ) es xs → findK k es = some r →
    ∃ res, (aggD d = false → Instr.findNow d kv xs i = some res) ∧ (aggD d = true → (Instr.findNow d kv xs i = none ∨ (Instr.findNow d kv xs i = some res)) ∧ ∀ w, (Instr.findAsking kt kv xs i).run P w = .ok res w) ∧
      (r = none → res = none) ∧ ∀ e, r = some e → ∃ pre post xp x xq, es = pre ++ e :: post ∧ xs = xp ++ x :: xq ∧ xp.length = pre.length ∧ All2 (entryRel φ) pre xp ∧ entryRel φ e x ∧
        All2 (entryRel φ) post xq ∧ (∀ p ∈ pre, eqK k p.1 = some false) ∧ eqK k e.1 = some true ∧ res = some (i + pre.length, x.val) := by
  intro es
  induction es with
  | nil =>
    intro xs r i ha h
    cases ha
    simp [findK] at h; subst h
    exact ⟨none, fun _ => rfl, fun _ => ⟨.inr rfl, fun w => rfl⟩, fun _ => rfl, fun e h => by simp at h⟩
  | cons a q ih =>
    intro xs r i ha h
    cases ha with
    | cons h1 h2 =>
    rename_i x xq
    simp only [findK] at h
    cases hb : eqK k a.1 with
    | none => simp [hb] at h
    | some b =>
      obtain ⟨d', hd', c1, c2⟩ := eq_key hE hk hc h1.1 hb
      rw [hd] at hd'; injection hd' with hd'; subst hd'
      cases b with
      | true =>
        simp only [hb] at h
        injection h with h; subst h
        refine ⟨some (i, x.val), fun hda => by simp [Instr.findNow, c1 hda], fun hda => ⟨.inl (by simp [Instr.findNow, (c2 hda).1]), fun w => by simp [Instr.findAsking, (c2 hda).2 w]⟩, fun h => by simp at h, ?_⟩
        intro e he
        injection he with he; subst he
        exact ⟨[], q, [], x, xq, rfl, rfl, rfl, .nil, h1, h2, by simp, hb, by simp⟩
      | false =>
        simp only [hb] at h
        obtain ⟨res, g1, g2, g3, g4⟩ := ih xq r (i + 1) h2 h
        refine ⟨res, fun hda => by simp [Instr.findNow, c1 hda, g1 hda], fun hda => ⟨.inl (by simp [Instr.findNow, (c2 hda).1]), fun w => by simp [Instr.findAsking, (c2 hda).2 w, (g2 hda).2 w]⟩, g3, ?_⟩
        intro e he
        obtain ⟨pre, post, xp, y, yq, rfl, rfl, e1, e2, e3, e4, e5, e6, e7⟩ := g4 e he
        refine ⟨a :: pre, post, x :: xp, y, yq, rfl, rfl, by simp [e1], .cons h1 e2, e3, e4, ?_, e6, by simp [e7]; omega⟩
        intro p hp
        rcases List.mem_cons.1 hp with rfl | hp
        · exact hb
        · exact e5 p hp

/-- a key among a map's entries -/
theorem findKey_ok (hE : TyOk P E) {kt : Nat} {k : Vv} {kv : Value} (hk : keyOk E kt k = true) (hc : concV φ k = some kv) {es : List Me} {xs : List MapEntry} {r : Option Me}
    (ha : All2 (entryRel φ) es xs) (h : findK k es = some r) (w : World) :
    ∃ res, (Instr.findKey kt kv xs).run P w = .ok res w ∧
      (r = none → res = none) ∧ ∀ e, r = some e → ∃ pre post xp x xq, es = pre ++ e :: post ∧ xs = xp ++ x :: xq ∧ xp.length = pre.length ∧ All2 (entryRel φ) pre xp ∧ entryRel φ e x ∧
        All2 (entryRel φ) post xq ∧ (∀ p ∈ pre, eqK k p.1 = some false) ∧ eqK k e.1 = some true ∧ res = some (pre.length, x.val) := by
  obtain ⟨tk, ks, d, _, ht, hpc, hck, hxs, hpl, hd, hg, hv⟩ := key_val hE hk hc
  obtain ⟨res, g1, g2, g3, g4⟩ := find_ok hE hk hc hd es xs r 0 ha h
  refine ⟨res, ?_, g3, by simpa using g4⟩
  simp only [Instr.findKey, Sem.run_bind, run_und hd, Result.andThen_ok]
  cases hda : aggD d with
  | false => simp [g1 hda]
  | true =>
    rcases (g2 hda).1 with h1 | h1
    · simp [h1, (g2 hda).2 w]
    · simp [h1]

theorem checkKey_ok (hE : TyOk P E) {kt : Nat} {k : Vv} {kv : Value} (hk : keyOk E kt k = true) (hc : concV φ k = some kv) (empty : Bool) (w : World) :
    (Instr.checkKey empty 10000 kt kv).run P w = .ok () w := by
  obtain ⟨tk, ks, d, xs, ht, hpc, hck, hxs, hpl, hd, hg, hv⟩ := key_val hE hk hc
  exact checkKey_plain empty 10 kt ks hpc 9990 d φ w k.2 xs kv hd hck hxs hv

theorem stays_ok (hE : TyOk P E) {kt : Nat} {k : Vv} {kv : Value} (hk : keyOk E kt k = true) (hc : concV φ k = some kv) (w : World) :
    (Instr.keyThatStays kv kv).run P w = .ok kv w := by
  obtain ⟨tk, ks, d, xs, ht, hpc, hck, hxs, hpl, hd, hg, hv⟩ := key_val hE hk hc
  have : Instr.sameBits 10000 kv kv = true := by
    rcases hv with ⟨_, rfl⟩ | ⟨_, rfl⟩
    · exact sameBits_agg 9999 (by simpa using hpl)
    · exact sameBits_plain 10000 (hpl _ (by simp))
  simp [Instr.keyThatStays, this]

end
end Go.Mx

/- Operations on maps. -/
set_option linter.unusedSimpArgs false
namespace Go.Mx
open Go

theorem modify_at {α : Type} {f : α → α} {x : α} {xq : List α} : ∀ (xp : List α), (xp ++ x :: xq).modify xp.length f = xp ++ f x :: xq := by
  intro xp
  induction xp with
  | nil => simp
  | cons a r ih => simp [ih]

theorem erase_at {α : Type} {x : α} {xq : List α} : ∀ (xp : List α), (xp ++ x :: xq).eraseIdx xp.length = xp ++ xq := by
  intro xp
  induction xp with
  | nil => simp
  | cons a r ih => simp [ih]

section
variable {P : Program} {E : Env} {φ : Phi} {s s' : St} {w : World} {tm : Tm} {a : Act} {v : AV} {cf : CF} {o : Oper}

theorem run_getMap {r : Nat} {es : Array MapEntry} {clock : Nat} (hb : w.heap[r]? = some (.map es clock)) : (getObj r).run P w = .ok (.map es clock) w := by
  simp [getObj, Sem.run, hb]

theorem run_setMap {r : Nat} {es : Array MapEntry} {clock : Nat} (o : Obj) (hb : w.heap[r]? = some (.map es clock)) : (setObj r o).run P w = .ok () { w with heap := w.heap.setIfInBounds r o } := by
  simp [setObj, Sem.run, hb]

theorem set_map (hs : Sat P φ s w) {r : Nat} {es es' : List Me} {c c' : Nat} {L : Lo} {xs' : Array MapEntry} (hg : s.hp.get r = some (.map es c)) (hL : φ r = some L)
    (h2 : All2 (entryRel φ) es' xs'.toList) (h3 : (es'.map (·.2.2)).Nodup) (h4 : ∀ e ∈ es', e.2.2 < c') :
    Post P φ s w φ { s with hp := s.hp.set r (.map es' c') } { w with heap := w.heap.setIfInBounds L.blk (.map xs' c') } := by
  have hob := hs.obj _ _ _ hg hL
  have hb := objRel_lt hob
  refine Post.upd hs hg hL rfl (o' := .map es' c') (s' := { s with hp := s.hp.set r (.map es' c') }) rfl (fun j => by rw [PT.get_set]) rfl rfl rfl (by simp) ?_ ?_
  · intro b hb; simp only []; rw [Array.getElem?_setIfInBounds_ne (fun e => hb e.symm)]
  · exact ⟨xs', by simp [hb], h2, h3, h4⟩

theorem map_of (hs : Sat P φ s w) {x : Operand} {r : Nat} (hx : EvOk P φ tm a x) (hev : ev tm x = some (.one (.m (some r)))) {es : List Me} {c : Nat} (hg : s.hp.get r = some (.map es c)) :
    ∃ L xs, φ r = some L ∧ a.eval x = .map (some L.blk) ∧ w.heap[L.blk]? = some (.map xs c) ∧ All2 (entryRel φ) es xs.toList ∧ (es.map (·.2.2)).Nodup ∧ ∀ e ∈ es, e.2.2 < c := by
  have h := hx _ hev
  simp only [conc, concS] at h
  cases hL : φ r with
  | none => simp [hL] at h
  | some L =>
    simp [hL] at h
    obtain ⟨xs, h1, h2, h3, h4⟩ := hs.obj _ _ _ hg hL
    exact ⟨L, xs, rfl, h.symm, h1, h2, h3, h4⟩

theorem concV_bool (b : Bool) : concV φ (false, [.b b]) = some (.bool b) := by simp [concV, concL, concS]
theorem concV_i64 (n : Int) : concV φ (false, [.i .i64 n]) = some (.int .i64 n) := by simp [concV, concL, concS]

theorem conc_tup2 {u v : Vv} {x y : Value} (h1 : concV φ u = some x) (h2 : concV φ v = some y) : conc P φ (.tup [u, v]) = some (.tuple #[x, y]) := by
  simp [conc, concVs, h1, h2]

theorem op_lookup (hE : TyOk P E) (hs : Sat P φ s w) {t : Nat} {x i : Operand} {ok : Bool} (ho : o.op = .lookup t x i ok) (hev : OpsOk P φ tm a o)
    (h : doOp E cf tm s o = some (v, s')) : Done P φ s w s' v ((execOp a.eval o).run P w) := by
  have hx := hev x (by simp [ho, Op.operands])
  have hi := hev i (by simp [ho, Op.operands])
  simp only [doOp, ho] at h
  split at h
  · rename_i kt e _ _ r k ht hxe hke
    obtain ⟨d, hd, hdk, _⟩ := (hE _ _ ht).und
    simp only [KindOk] at hdk; subst hdk
    have hkv := evV_of hE hi hke
    split at h
    · rename_i es hes
      unfold mapOf at hes
      simp only [cond_eq_ite] at h
      have hko : keyOk E kt k = true := by
        cases hq : keyOk E kt k with
        | true => rfl
        | false => simp [hq] at h
      rw [if_pos hko] at h
      -- the entries
      have hent : ∃ xs : Array MapEntry, All2 (entryRel φ) es xs.toList ∧ ∀ (g : Array MapEntry → Sem Value), (do
          let es ← match a.eval x with
            | .map none => pure #[]
            | .map (some r) => do
              let .map es _ ← getObj r | stuck "Lookup: map expected"
              pure es
            | _ => stuck "Lookup: map expected"
          g es : Sem Value).run P w = (g xs).run P w := by
        cases r with
        | none =>
          simp at hes; subst hes
          have := hx _ hxe
          simp [conc, concS] at this
          exact ⟨#[], .nil, fun g => by simp [← this]⟩
        | some r =>
          simp only at hes
          split at hes
          · rename_i es' c hg
            injection hes with hes; subst hes
            obtain ⟨L, xs, h1, h2, h3, h4, _⟩ := map_of hs hx hxe hg
            exact ⟨xs, h4, fun g => by simp [h2, run_getMap h3]⟩
          · simp at hes
      obtain ⟨xs, ha, hrun⟩ := hent
      have start : ∀ (res : Option (Nat × Value)) (y : Value), (Instr.findKey kt (a.eval i) xs.toList).run P w = .ok res w →
          (do let (v, ok2) ← match res with
                | some (_, v) => pure (v, true)
                | none => pure (← zeroValue e, false)
              pure (if ok then .tuple #[v, .bool ok2] else v) : Sem Value).run P w = .ok y w →
          (execOp a.eval o).run P w = .ok (.value y) w := by
        intro res y hf hy
        simp only [execOp, ho]
        refine run_v _ ?_
        unfold Instr.lookup
        simp only [Sem.run_bind, run_und hd, Result.andThen_ok]
        have := hrun (fun es => do
          Instr.checkKey es.isEmpty 10000 kt (a.eval i)
          let (v, ok2) ← match ← Instr.findKey kt (a.eval i) es.toList with
            | some (_, v) => pure (v, true)
            | none => pure (← zeroValue e, false)
          pure (if ok then .tuple #[v, .bool ok2] else v))
        simp only [Sem.run_bind] at this
        refine this.trans ?_
        rw [checkKey_ok hE hko hkv]
        simp only [Result.andThen_ok, hf]
        simpa only [Sem.run_bind] using hy
      split at h
      · rename_i m hm
        obtain ⟨res, hf, _, hsome⟩ := findKey_ok hE hko hkv ha hm w
        obtain ⟨pre, post, xp, y, xq, rfl, hxs, hl, h1, h2, h3, h4, h5, rfl⟩ := hsome _ rfl
        cases ok with
        | true =>
          simp at h; obtain ⟨rfl, rfl⟩ := h
          exact done_same hs (start _ (.tuple #[y.val, .bool true]) hf (by simp)) (conc_tup2 h2.2.1 (concV_bool true))
        | false =>
          simp only [Bool.false_eq_true, if_false] at h
          obtain ⟨hv, rfl⟩ := ov_some h
          exact done_same hs (start _ y.val hf (by simp)) (toV_conc h2.2.1 hv)
      · rename_i hm
        obtain ⟨res, hf, hnone, _⟩ := findKey_ok hE hko hkv ha hm w
        obtain rfl := hnone rfl
        split at h
        · rename_i te hte
          obtain ⟨ei, z, hz1, hz2, hz3⟩ := zero_concV (φ := φ) hE hte
          cases ok with
          | true =>
            simp at h; obtain ⟨rfl, rfl⟩ := h
            exact done_same hs (start _ (.tuple #[z, .bool false]) hf (by simp [run_zeroValue hz1 hz2])) (conc_tup2 hz3 (concV_bool false))
          | false =>
            simp only [Bool.false_eq_true, if_false] at h
            obtain ⟨hv, rfl⟩ := ov_some h
            exact done_same hs (start _ z hf (by simp [run_zeroValue hz1 hz2])) (toV_conc hz3 hv)
        · simp at h
      · simp at h
    · simp at h
  · simp at h

theorem op_mapUpdate (hE : TyOk P E) (hs : Sat P φ s w) {t : Nat} {x i y : Operand} (ho : o.op = .mapUpdate t x i y) (hev : OpsOk P φ tm a o)
    (h : doOp E cf tm s o = some (v, s')) : Done P φ s w s' v ((execOp a.eval o).run P w) := by
  have hx := hev x (by simp [ho, Op.operands])
  have hi := hev i (by simp [ho, Op.operands])
  have hy := hev y (by simp [ho, Op.operands])
  simp only [doOp, ho] at h
  split at h
  · rename_i kt e _ _ r k u ht hxe hke hue
    obtain ⟨d, hd, hdk, _⟩ := (hE _ _ ht).und
    simp only [KindOk] at hdk; subst hdk
    have hkv := evV_of hE hi hke
    have huv := evV_of hE hy hue
    split at h
    · rename_i es c hg
      simp only [cond_eq_ite] at h
      have hko : keyOk E kt k = true := by
        cases hq : keyOk E kt k with
        | true => rfl
        | false => simp [hq] at h
      rw [if_pos hko] at h
      obtain ⟨L, xs, hL, hxv, hheap, ha, hnd, hlt⟩ := map_of hs hx hxe hg
      have start : ∀ (w' : World), (do
            match ← Instr.findKey kt (a.eval i) xs.toList with
            | some (j, _) => do
              let key ← Instr.keyThatStays (((xs[j]?).map (·.key)).getD (a.eval i)) (a.eval i)
              setObj L.blk (.map (xs.modify j fun e => { e with key, val := a.eval y }) c)
            | none => setObj L.blk (.map (xs.push { key := a.eval i, val := a.eval y, born := c }) (c + 1)) : Sem Unit).run P w = .ok () w' →
          (execOp a.eval o).run P w = .ok .skip w' := by
        intro w' hy
        simp only [execOp, ho]
        unfold Instr.mapUpdate
        simp only [Sem.run_bind, run_und hd, Result.andThen_ok, hxv, run_getMap hheap, checkKey_ok hE hko hkv]
        simp only [Sem.run_bind] at hy
        exact congrArg (fun r => Result.andThen r fun _ w' => Result.ok Next.skip w') hy
      split at h
      · rename_i m hm
        simp at h; obtain ⟨rfl, rfl⟩ := h
        obtain ⟨res, hf, _, hsome⟩ := findKey_ok hE hko hkv ha hm w
        obtain ⟨pre, post, xp, z, xq, rfl, hxs, hl, h1, h2, h3, h4, h5, rfl⟩ := hsome _ rfl
        have hkz : z.key = a.eval i := by
          have : concV φ k = some z.key := by rw [eqK_true h5]; exact h2.1
          rw [this] at hkv; injection hkv
        have hidx : xs[pre.length]? = some z := by
          rw [← Array.getElem?_toList, hxs, ← hl]; simp
        rw [putK_form h5 h4]
        refine ⟨φ, undef, _, .inr ⟨start { w with heap := w.heap.setIfInBounds L.blk (.map (xs.modify pre.length fun e => { e with key := a.eval i, val := a.eval y }) c) } ?_, rfl⟩, set_map hs hg hL ?_ ?_ ?_, by simp [conc, concVs, undefV, undef]⟩
        · simp [hf, hidx, hkz, stays_ok hE hko hkv, run_setMap _ hheap]
        · rw [Array.toList_modify, hxs, ← hl, modify_at]
          exact h1.append (.cons ⟨hkv, huv, h2.2.2⟩ h3)
        · simpa using hnd
        · intro e he
          simp at he
          rcases he with he | rfl | he
          · exact hlt e (by simp [he])
          · exact hlt m (by simp)
          · exact hlt e (by simp [he])
      · rename_i hm
        simp at h; obtain ⟨rfl, rfl⟩ := h
        obtain ⟨res, hf, hnone, _⟩ := findKey_ok hE hko hkv ha hm w
        obtain rfl := hnone rfl
        refine ⟨φ, undef, _, .inr ⟨start { w with heap := w.heap.setIfInBounds L.blk (.map (xs.push { key := a.eval i, val := a.eval y, born := c }) (c + 1)) } ?_, rfl⟩, set_map hs hg hL ?_ ?_ ?_, by simp [conc, concVs, undefV, undef]⟩
        · simp [hf, run_setMap _ hheap]
        · rw [Array.toList_push]
          exact ha.append (.cons ⟨hkv, huv, rfl⟩ .nil)
        · rw [List.map_append, List.nodup_append]
          refine ⟨hnd, by simp, ?_⟩
          intro b hb b' hb' e
          obtain ⟨q, hq, rfl⟩ := List.mem_map.1 hb
          have := hlt q hq; simp at hb'; omega
        · intro e he
          simp at he
          rcases he with he | rfl
          · have := hlt e he; omega
          · simp
      · simp at h
    · simp at h
  · simp at h

theorem op_mapEntry (hE : TyOk P E) (hs : Sat P φ s w) {t : Nat} {x i : Operand} (ho : o.op = .mapEntry t x i) (hev : OpsOk P φ tm a o)
    (h : doOp E cf tm s o = some (v, s')) : Done P φ s w s' v ((execOp a.eval o).run P w) := by
  have hx := hev x (by simp [ho, Op.operands])
  have hi := hev i (by simp [ho, Op.operands])
  simp only [doOp, ho] at h
  split at h
  · rename_i kt e _ _ r k ht hxe hke
    obtain ⟨d, hd, hdk, _⟩ := (hE _ _ ht).und
    simp only [KindOk] at hdk; subst hdk
    have hkv := evV_of hE hi hke
    split at h
    · rename_i es c te hg hte
      obtain ⟨ei, zv, hz1, hz2, hz3⟩ := zero_concV (φ := φ) hE hte
      simp only [cond_eq_ite] at h
      have hko : keyOk E kt k = true := by
        cases hq : keyOk E kt k with
        | true => rfl
        | false => simp [hq] at h
      rw [if_pos hko] at h
      obtain ⟨L, xs, hL, hxv, hheap, ha, hnd, hlt⟩ := map_of hs hx hxe hg
      have start : ∀ (w' : World) (q : Value), (do
            match ← Instr.findKey kt (a.eval i) xs.toList with
            | some (j, v) =>
              let key ← Instr.keyThatStays (((xs[j]?).map (·.key)).getD (a.eval i)) (a.eval i)
              setObj L.blk (.map (xs.modify j fun e => { e with key }) c)
              pure (.tuple #[v, goInt (((xs[j]?).map (·.born)).getD 0)])
            | none =>
              let zero ← zeroValue e
              setObj L.blk (.map (xs.push { key := a.eval i, val := zero, born := c }) (c + 1))
              pure (.tuple #[zero, goInt c]) : Sem Value).run P w = .ok q w' →
          (execOp a.eval o).run P w = .ok (.value q) w' := by
        intro w' q hy
        simp only [execOp, ho]
        refine run_v _ ?_
        unfold Instr.mapEntry
        simp only [Sem.run_bind, run_und hd, Result.andThen_ok, hxv, run_getMap hheap, checkKey_ok hE hko hkv]
        simp only [Sem.run_bind] at hy
        exact hy
      split at h
      · rename_i m hm
        simp at h; obtain ⟨rfl, rfl⟩ := h
        obtain ⟨res, hf, _, hsome⟩ := findKey_ok hE hko hkv ha hm w
        obtain ⟨pre, post, xp, z, xq, rfl, hxs, hl, h1, h2, h3, h4, h5, rfl⟩ := hsome _ rfl
        have hkz : z.key = a.eval i := by
          have : concV φ k = some z.key := by rw [eqK_true h5]; exact h2.1
          rw [this] at hkv; injection hkv
        have hidx : xs[pre.length]? = some z := by
          rw [← Array.getElem?_toList, hxs, ← hl]; simp
        rw [putK_form h5 h4]
        refine ⟨φ, .tuple #[z.val, goInt z.born], _, .inl (start { w with heap := w.heap.setIfInBounds L.blk (.map (xs.modify pre.length fun e => { e with key := a.eval i }) c) } _ ?_), set_map hs hg hL ?_ ?_ ?_, ?_⟩
        · simp [hf, hidx, hkz, stays_ok hE hko hkv, run_setMap _ hheap]
        · rw [Array.toList_modify, hxs, ← hl, modify_at]
          exact h1.append (.cons ⟨hkv, h2.2.1, h2.2.2⟩ h3)
        · simpa using hnd
        · intro e he
          simp at he
          rcases he with he | rfl | he
          · exact hlt e (by simp [he])
          · exact hlt m (by simp)
          · exact hlt e (by simp [he])
        · refine conc_tup2 h2.2.1 ?_
          rw [concV_i64, h2.2.2]; rfl
      · rename_i hm
        simp at h; obtain ⟨rfl, rfl⟩ := h
        obtain ⟨res, hf, hnone, _⟩ := findKey_ok hE hko hkv ha hm w
        obtain rfl := hnone rfl
        refine ⟨φ, .tuple #[zv, goInt c], _, .inl (start { w with heap := w.heap.setIfInBounds L.blk (.map (xs.push { key := a.eval i, val := zv, born := c }) (c + 1)) } _ ?_), set_map hs hg hL ?_ ?_ ?_, ?_⟩
        · simp [hf, run_setMap _ hheap, run_zeroValue hz1 hz2]
        · rw [Array.toList_push]
          exact ha.append (.cons ⟨hkv, hz3, rfl⟩ .nil)
        · rw [List.map_append, List.nodup_append]
          refine ⟨hnd, by simp, ?_⟩
          intro b hb b' hb' e
          obtain ⟨q, hq, rfl⟩ := List.mem_map.1 hb
          have := hlt q hq; simp at hb'; omega
        · intro e he
          simp at he
          rcases he with he | rfl
          · have := hlt e he; omega
          · simp
        · exact conc_tup2 hz3 (by rw [concV_i64]; rfl)
      · simp at h
    · simp at h
  · simp at h

theorem putB_form {b : Nat} {v : Vv} : ∀ {es es' : List Me}, putB b v es = some es' → ∃ pre e post, es = pre ++ e :: post ∧ e.2.2 = b ∧ (∀ p ∈ pre, p.2.2 ≠ b) ∧ es' = pre ++ (e.1, v, b) :: post := by
  intro es
  induction es with
  | nil => intro es' h; simp [putB] at h
  | cons a r ih =>
    intro es' h
    simp only [putB, cond_eq_ite, Nat.beq_eq] at h
    split at h
    · rename_i h1; injection h with h; subst h; exact ⟨[], a, r, rfl, h1, by simp, rfl⟩
    · rename_i h1
      split at h
      · rename_i q hq
        injection h with h; subst h
        obtain ⟨pre, e, post, rfl, h2, h3, rfl⟩ := ih hq
        refine ⟨a :: pre, e, post, rfl, h2, ?_, rfl⟩
        intro p hp
        rcases List.mem_cons.1 hp with rfl | hp
        · exact h1
        · exact h3 p hp
      · simp at h

theorem All2.split {α β : Type} {R : α → β → Prop} : ∀ {l1 : List α} {x : α} {l2 : List α} {m : List β}, All2 R (l1 ++ x :: l2) m →
    ∃ m1 y m2, m = m1 ++ y :: m2 ∧ All2 R l1 m1 ∧ R x y ∧ All2 R l2 m2 := by
  intro l1
  induction l1 with
  | nil => intro x l2 m h; cases h with | cons h1 h2 => exact ⟨[], _, _, rfl, .nil, h1, h2⟩
  | cons a r ih =>
    intro x l2 m h
    cases h with
    | cons h1 h2 =>
      obtain ⟨m1, y, m2, rfl, g1, g2, g3⟩ := ih h2
      exact ⟨_ :: m1, y, m2, rfl, .cons h1 g1, g2, g3⟩

theorem All2.mem {α β : Type} {R : α → β → Prop} {l : List α} {m : List β} (h : All2 R l m) : ∀ y ∈ m, ∃ x ∈ l, R x y := by
  induction h with
  | nil => intro y hy; simp at hy
  | cons a _ ih =>
    intro y hy
    rcases List.mem_cons.1 hy with rfl | hy
    · exact ⟨_, by simp, a⟩
    · obtain ⟨x, hx, hr⟩ := ih y hy; exact ⟨x, by simp [hx], hr⟩

theorem findIdx_at {α : Type} {p : α → Bool} {x : α} {xq : List α} (h : p x = true) : ∀ (xp : List α), (∀ y ∈ xp, p y = false) → (xp ++ x :: xq).findIdx? p = some xp.length := by
  intro xp
  induction xp with
  | nil => intro _; simp [List.findIdx?_cons, h]
  | cons a r ih => intro hp; simp [List.findIdx?_cons, hp a (by simp), ih (fun y hy => hp y (by simp [hy]))]

theorem op_entryStore (hE : TyOk P E) (hs : Sat P φ s w) {t : Nat} {x i y : Operand} (ho : o.op = .entryStore t x i y) (hev : OpsOk P φ tm a o)
    (h : doOp E cf tm s o = some (v, s')) : Done P φ s w s' v ((execOp a.eval o).run P w) := by
  have hx := hev x (by simp [ho, Op.operands])
  have hi := hev i (by simp [ho, Op.operands])
  have hy := hev y (by simp [ho, Op.operands])
  simp only [doOp, ho] at h
  split at h
  · rename_i r kk b u hxe hie hue
    have hiv := evI_of hi hie
    have huv := evV_of hE hy hue
    split at h
    · rename_i es c hg
      obtain ⟨L, xs, hL, hxv, hheap, ha, hnd, hlt⟩ := map_of hs hx hxe hg
      split at h
      · rename_i es' hp
        simp at h; obtain ⟨rfl, rfl⟩ := h
        obtain ⟨pre, e, post, rfl, h2, h3, rfl⟩ := putB_form hp
        obtain ⟨m1, z, m2, hxs, g1, g2, g3⟩ := ha.split
        have hfi : xs.findIdx? (fun e => (e.born : Int) == Int.ofNat b) = some m1.length := by
          have hx2 : xs = (m1 ++ z :: m2).toArray := by rw [← hxs]
          rw [hx2, List.findIdx?_toArray]
          refine findIdx_at (by simp [g2.2.2, h2]) _ ?_
          intro q hq
          obtain ⟨q', hq', r⟩ := g1.mem q hq
          have := h3 q' hq'
          simp [r.2.2]; omega
        refine ⟨φ, undef, _, .inr ⟨?_, rfl⟩, set_map hs hg hL (xs' := xs.modify m1.length fun e => { e with val := a.eval y }) ?_ ?_ ?_, by simp [conc, concVs, undefV, undef]⟩
        · simp only [execOp, ho, Instr.entryStore, hxv, hiv, Sem.run_bind, run_getMap hheap, Result.andThen_ok, asInt, asIntOf, Sem.run_pure]
          rw [hfi]
          simp [run_setMap _ hheap]
        · rw [Array.toList_modify, hxs, modify_at]
          exact g1.append (.cons ⟨g2.1, huv, by simp [g2.2.2, h2]⟩ g3)
        · subst h2; simpa using hnd
        · intro q hq
          simp at hq
          rcases hq with hq | rfl | hq
          · exact hlt q (by simp [hq])
          · subst h2; exact hlt e (by simp)
          · exact hlt q (by simp [hq])
      · simp at h
    · simp at h
  · simp at h
end
end Go.Mx
