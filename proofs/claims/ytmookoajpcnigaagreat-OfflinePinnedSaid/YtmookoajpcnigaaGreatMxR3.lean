/- What an operation looks at: its operands; the state, some of them. -/
import Derived.Test.YtmookoajpcnigaaGreatMxR2
set_option linter.unusedSimpArgs false
namespace Go.Mx
open Go

section
variable {E : Env} {s s' : St} {tm tm' : Tm} {v : AV} {cf : CF} {o : Oper}

theorem evI_congr {x : Operand} (h : ev tm x = ev tm' x) : evI tm x = evI tm' x := by unfold evI; rw [h]
theorem evB_congr {x : Operand} (h : ev tm x = ev tm' x) : evB tm x = evB tm' x := by unfold evB; rw [h]
theorem evP_congr {x : Operand} (h : ev tm x = ev tm' x) : evP tm x = evP tm' x := by unfold evP; rw [h]
theorem evC_congr {x : Operand} (h : ev tm x = ev tm' x) : evC E tm x = evC E tm' x := by unfold evC; rw [h]
theorem evV_congr {x : Operand} (h : ev tm x = ev tm' x) : evV E tm x = evV E tm' x := by unfold evV; rw [h]

theorem evs_congr : ∀ {l : List Operand}, (∀ x ∈ l, ev tm x = ev tm' x) → evs tm l = evs tm' l := by
  intro l
  induction l with
  | nil => intro _; rfl
  | cons x r ih => intro h; simp only [evs, h x (by simp), ih (fun y hy => h y (by simp [hy]))]

theorem foldMM_congr {mn : Bool} {k : IntKind} : ∀ {l : List Operand} {n : Int}, (∀ x ∈ l, ev tm x = ev tm' x) → foldMM mn tm k n l = foldMM mn tm' k n l := by
  intro l
  induction l with
  | nil => intro _ _; rfl
  | cons x r ih =>
    intro n h
    simp only [foldMM, evI_congr (h x (by simp))]
    split
    · exact ih (fun y hy => h y (by simp [hy]))
    · rfl

theorem fill_congr (place : Nat → Option (Nat × Nat)) : ∀ {l : List (Nat × Operand)} {cs : List Sc}, (∀ p ∈ l, ev tm p.2 = ev tm' p.2) → fillOp E tm place l cs = fillOp E tm' place l cs := by
  intro l
  induction l with
  | nil => intro _ _; rfl
  | cons p r ih =>
    intro cs h
    obtain ⟨i, x⟩ := p
    simp only [fillOp, evC_congr (E := E) (h (i, x) (by simp))]
    split
    · rw [ih (fun y hy => h y (by simp [hy]))]
    · rfl

theorem bound_congr {x : Option Operand} {d hi : Nat} (h : ∀ y ∈ x, ev tm y = ev tm' y) : bound tm x d hi = bound tm' x d hi := by
  unfold bound
  cases x with
  | none => rfl
  | some x => simp only [evI_congr (h x rfl)]

theorem bounds3_congr {lo hi mx : Option Operand} {len cap : Nat} (h1 : ∀ y ∈ lo, ev tm y = ev tm' y) (h2 : ∀ y ∈ hi, ev tm y = ev tm' y) (h3 : ∀ y ∈ mx, ev tm y = ev tm' y) :
    bounds3 tm lo hi mx len cap = bounds3 tm' lo hi mx len cap := by
  unfold bounds3
  rw [bound_congr h3]
  split
  · rw [bound_congr h2]
    split
    · rw [bound_congr h1]
    · rfl
  · rfl

theorem lnOf_congr {x : Operand} (h : ev tm x = ev tm' x) : lnOf tm x = lnOf tm' x := by unfold lnOf; rw [h]
theorem lowOf_congr {x : Option Operand} (h : ∀ y ∈ x, ev tm y = ev tm' y) : lowOf tm x = lowOf tm' x := by
  unfold lowOf
  cases x with
  | none => rfl
  | some x => simp only [h x rfl]
theorem symSlice_congr {t : Nat} {x : Operand} {lo hi mx : Option Operand} (h0 : ev tm x = ev tm' x) (h1 : ∀ y ∈ lo, ev tm y = ev tm' y) (h2 : ∀ y ∈ hi, ev tm y = ev tm' y)
    (h3 : ∀ y ∈ mx, ev tm y = ev tm' y) : symSlice E tm t x lo hi mx = symSlice E tm' t x lo hi mx := by
  unfold symSlice
  rw [h0]
  split
  · cases hi with
    | none => rfl
    | some hi => cases mx with
      | none => rfl
      | some mx => simp only [lnOf_congr (h2 hi rfl), lnOf_congr (h3 mx rfl), lowOf_congr h1]
  · cases lo with
    | none => cases hi with
      | none => rfl
      | some hi => cases mx with
        | none => simp only [lnOf_congr (h2 hi rfl)]
        | some mx => rfl
    | some lo => cases hi with
      | none => cases mx with
        | none => simp only [lnOf_congr (h1 lo rfl)]
        | some mx => rfl
      | some hi => rfl
  · cases lo with
    | none => cases hi with
      | none => rfl
      | some hi => cases mx with
        | none => simp only [lnOf_congr (h2 hi rfl)]
        | some mx => rfl
    | some lo => rfl
  · rfl
theorem slice_congr {t : Nat} {x : Operand} {lo hi mx : Option Operand} (h0 : ev tm x = ev tm' x) (h1 : ∀ y ∈ lo, ev tm y = ev tm' y) (h2 : ∀ y ∈ hi, ev tm y = ev tm' y)
    (h3 : ∀ y ∈ mx, ev tm y = ev tm' y) : sliceOp E tm t x lo hi mx = sliceOp E tm' t x lo hi mx := by
  unfold sliceOp
  rw [symSlice_congr h0 h1 h2 h3]
  split
  · rfl
  unfold sliceOp0
  rw [h0]
  split
  · rw [bounds3_congr h1 h2 h3]
  · rw [bounds3_congr h1 h2 h3]
  · rfl

theorem symB_congr {b : Builtin} {tys : List Nat} {args : List Operand} (h : ∀ x ∈ args, ev tm x = ev tm' x) : symB E tm s b tys args = symB E tm' s b tys args := by
  unfold symB
  split
  · unfold symLen
    split
    · rw [h _ (by simp)]
    · rfl
  · unfold symCopy
    split
    · rw [h _ (by simp), h _ (by simp)]
    · rfl
  · unfold symAppend
    split
    · rw [h _ (by simp), h _ (by simp)]
    · rfl
  · unfold symMin
    split
    · rw [h _ (by simp), h _ (by simp)]
    · rfl
  · rfl

theorem builtin_congr {b : Builtin} {tys : List Nat} {args : List Operand} (h : ∀ x ∈ args, ev tm x = ev tm' x) : builtinOp E tm s b tys args = builtinOp E tm' s b tys args := by
  unfold builtinOp
  rw [symB_congr h]
  split
  · rfl
  unfold builtinOp0
  split
  · rw [h _ (by simp)]
  · rw [h _ (by simp)]
  · rw [h _ (by simp), h _ (by simp)]
  · rw [h _ (by simp), h _ (by simp)]
  · rw [h _ (by simp)]
  · rw [h _ (by simp), evV_congr (h _ (by simp))]
  · rw [evI_congr (h _ (by simp))]
    split
    · rw [foldMM_congr (fun y hy => h y (by simp [hy]))]
    · rfl
  · rw [evI_congr (h _ (by simp))]
    split
    · rw [foldMM_congr (fun y hy => h y (by simp [hy]))]
    · rfl
  · rfl

theorem doOp_congr (h : ∀ x ∈ o.op.operands, ev tm x = ev tm' x) : doOp E cf tm s o = doOp E cf tm' s o := by
  unfold doOp
  cases ho : o.op with
  | move x => simp only [h x (by simp [ho, Op.operands])]
  | assign x => simp only [h x (by simp [ho, Op.operands])]
  | pick c x y => simp only [evB_congr (h c (by simp [ho, Op.operands])), h x (by simp [ho, Op.operands]), h y (by simp [ho, Op.operands])]
  | alloc t => rfl
  | box t x => simp only [h x (by simp [ho, Op.operands])]
  | build t ps =>
    have hps : ∀ p ∈ ps.toList, ev tm p.2 = ev tm' p.2 := fun p hp => h p.2 (by
      simp only [ho, Op.operands, List.mem_toArray, List.mem_map]; exact ⟨p, hp, rfl⟩)
    simp only [fill_congr _ hps]
  | buildSlice t l ps =>
    have hps : ∀ p ∈ ps.toList, ev tm p.2 = ev tm' p.2 := fun p hp => h p.2 (by
      simp only [ho, Op.operands, List.mem_toArray, List.mem_map]; exact ⟨p, hp, rfl⟩)
    simp only [fill_congr _ hps]
  | load t x => simp only [evP_congr (h x (by simp [ho, Op.operands]))]
  | store t x y => simp only [evP_congr (h x (by simp [ho, Op.operands])), evC_congr (h y (by simp [ho, Op.operands]))]
  | nilCheck x => simp only [h x (by simp [ho, Op.operands])]
  | binOp op t x y yt => simp only [h x (by simp [ho, Op.operands]), h y (by simp [ho, Op.operands])]
  | unOp op t x => simp only [h x (by simp [ho, Op.operands])]
  | convert src dst x => simp only [h x (by simp [ho, Op.operands])]
  | sliceToArrayPointer t x => simp only [h x (by simp [ho, Op.operands])]
  | makeFunc fn first cap =>
    have h1 : ∀ x ∈ first.toList, ev tm x = ev tm' x := fun x hx => h x (by simp [ho, Op.operands]; exact .inl (Array.mem_toList_iff.1 hx))
    have h2 : ∀ x ∈ cap.toList, ev tm x = ev tm' x := fun x hx => h x (by simp [ho, Op.operands]; exact .inr (Array.mem_toList_iff.1 hx))
    simp only [evs_congr h1, evs_congr h2]
  | makeMap t r => cases r <;> rfl
  | makeChan t x => simp only [evI_congr (h x (by simp [ho, Op.operands]))]
  | makeSlice t l c => simp only [evI_congr (h l (by simp [ho, Op.operands])), evI_congr (h c (by simp [ho, Op.operands]))]
  | slice t x lo hi mx =>
    simp only []
    rw [slice_congr (h x (by simp [ho, Op.operands])) (fun y hy => h y (by simp [ho, Op.operands, Option.mem_toArray.2 hy]))
      (fun y hy => h y (by simp [ho, Op.operands, Option.mem_toArray.2 hy])) (fun y hy => h y (by simp [ho, Op.operands, Option.mem_toArray.2 hy]))]
  | fieldAddr t x f => simp only [evP_congr (h x (by simp [ho, Op.operands]))]
  | field t x f => simp only [h x (by simp [ho, Op.operands])]
  | indexAddr t x i => simp only [symIdx, idxOp, h x (by simp [ho, Op.operands]), h i (by simp [ho, Op.operands]), evI_congr (h i (by simp [ho, Op.operands]))]
  | index t x i => simp only [h x (by simp [ho, Op.operands]), evI_congr (h i (by simp [ho, Op.operands]))]
  | lookup t x i ok => simp only [h x (by simp [ho, Op.operands]), evV_congr (h i (by simp [ho, Op.operands]))]
  | mapUpdate t x i y => simp only [h x (by simp [ho, Op.operands]), evV_congr (h i (by simp [ho, Op.operands])), evV_congr (h y (by simp [ho, Op.operands]))]
  | mapEntry t x i => simp only [h x (by simp [ho, Op.operands]), evV_congr (h i (by simp [ho, Op.operands]))]
  | entryStore t x i y => simp only [h x (by simp [ho, Op.operands]), evI_congr (h i (by simp [ho, Op.operands])), evV_congr (h y (by simp [ho, Op.operands]))]
  | extract x i => simp only [h x (by simp [ho, Op.operands])]
  | call c =>
    cases hc : c.callee with
    | builtin b =>
      have hargs : ∀ x ∈ c.args.toList, ev tm x = ev tm' x := fun x hx => h x (by simp [ho, Op.operands, Call.operands, hc]; exact Array.mem_toList_iff.1 hx)
      simp only [hc, builtin_congr hargs]
    | value f =>
      have hargs : ∀ x ∈ c.args.toList, ev tm x = ev tm' x := fun x hx => h x (by simp [ho, Op.operands, Call.operands, hc]; exact .inr (Array.mem_toList_iff.1 hx))
      simp only [hc, h f (by simp [ho, Op.operands, Call.operands, hc]), evs_congr hargs]
    | invoke r n => simp only [hc]
  | _ => rfl

/-- what is there, is there behind too -/
def Sub (s s2 : St) : Prop := ∀ i ob, s.hp.get i = some ob → s2.hp.get i = some ob

/-- does an operation read what may change? -/
def isR : Op → Bool
  | .load .. | .lookup .. | .convert .. => true
  | .call c => match c.callee with | .builtin .len => true | _ => false
  | _ => false

theorem doOp_made (hA : isA o.op = true) (h : doOp E cf tm s o = some (v, s')) : ∃ ob, s' = (alloc s ob).2 := by
  have var : ∀ t u q, newVar E s t u = some (q, s') → ∃ ob, s' = (alloc s ob).2 := fun t u q h => by
    unfold newVar at h
    split at h
    · simp at h
    · split at h
      · simp only [cond_eq_ite] at h; split at h
        · simp at h; exact ⟨_, h.2.symm⟩
        · simp at h
      · split at h
        · simp at h
        · simp only [cond_eq_ite] at h; split at h
          · simp at h; exact ⟨_, h.2.symm⟩
          · simp at h
  cases ho : o.op with
  | alloc t => simp only [doOp, ho] at h; exact var _ _ _ h
  | box t x =>
    simp only [doOp, ho] at h
    split at h
    · exact var _ _ _ h
    · simp at h
  | buildSlice t l ps =>
    simp only [doOp, ho] at h
    split at h
    · split at h
      · simp only [cond_eq_ite] at h
        split at h
        · split at h
          · simp at h; exact ⟨_, h.2.symm⟩
          · simp at h
        · simp at h
      · simp at h
    · simp at h
  | makeMap t r =>
    cases r with
    | none => simp only [doOp, ho] at h; simp at h; exact ⟨_, h.2.symm⟩
    | some r => simp [isA, ho] at hA
  | makeChan t x =>
    simp only [doOp, ho] at h
    split at h
    · simp only [cond_eq_ite] at h; split at h
      · simp at h; exact ⟨_, h.2.symm⟩
      · simp at h
    · simp at h
  | makeSlice t l c =>
    simp only [doOp, ho] at h
    split at h
    · split at h
      · simp only [cond_eq_ite] at h
        split at h
        · simp at h; exact ⟨_, h.2.symm⟩
        · simp at h
      · simp at h
    · simp at h
  | _ => simp [isA, ho] at hA

theorem ldCells_sub {s2 : St} (hb : Sub s s2) {a : Nat × Nat} {n : Nat} {l : List Sc} (h : ldCells s a n = some l) : ldCells s2 a n = some l := by
  unfold ldCells at h ⊢
  cases hg : s.hp.get a.1 with
  | none => simp [hg] at h
  | some ob => rw [hb _ _ hg]; simpa [hg] using h

theorem lenV_sub {s2 : St} (hb : Sub s s2) {k : TK} {u : AV} {n : Nat} (hn : lenV s k u = some n) : lenV s2 k u = some n := by
  unfold lenV at hn ⊢
  split at hn
  · exact hn
  · exact hn
  · exact hn
  · exact hn
  · rename_i r
    cases hg : s.hp.get r with
    | none => simp [hg] at hn
    | some ob =>
      simp only [hg] at hn
      simp only [hb _ _ hg]
      exact hn
  · simp at hn

theorem ov_same {x : Option AV} (h : ov x s = some (v, s')) (s2 : St) : s' = s ∧ ov x s2 = some (v, s2) := by
  obtain ⟨h1, h2⟩ := ov_some h
  exact ⟨h2, by rw [h1]; rfl⟩

theorem doOp_read (hR : isR o.op = true) (h : doOp E cf tm s o = some (v, s')) : s' = s ∧ ∀ s2, Sub s s2 → doOp E cf tm s2 o = some (v, s2) := by
  cases ho : o.op with
  | load t x =>
    simp only [doOp, ho] at h ⊢
    split at h
    · rename_i ti p h1 h2
      split at h
      · rename_i cs hl
        obtain ⟨rfl, _⟩ := ov_same h s
        refine ⟨rfl, fun s2 hb => ?_⟩
        simp only [h1, h2, ldCells_sub hb hl]
        exact (ov_same h s2).2
      · simp at h
    · simp at h
  | lookup t x i ok =>
    simp only [doOp, ho] at h ⊢
    split at h
    · rename_i kt e _ _ r k ht hxe hke
      split at h
      · rename_i es hes
        have hes2 : ∀ s2, Sub s s2 → mapOf s2 r = some es := fun s2 hb => by
          unfold mapOf at hes ⊢
          cases r with
          | none => exact hes
          | some r =>
            cases hg : s.hp.get r with
            | none => simp [hg] at hes
            | some ob =>
              simp only [hg] at hes
              simp only [hb _ _ hg]
              exact hes
        split at h
        · rename_i m hm
          cases ok with
          | true => simp at h; exact ⟨h.2.symm, fun s2 hb => by simp only [hes2 s2 hb, hm]; simp [h.1]⟩
          | false => exact ⟨(ov_same h s).1, fun s2 hb => by simp only [hes2 s2 hb, hm]; exact (ov_same h s2).2⟩
        · rename_i hm
          split at h
          · rename_i te hte
            cases ok with
            | true => simp at h; exact ⟨h.2.symm, fun s2 hb => by simp only [hes2 s2 hb, hm]; simp [h.1]⟩
            | false => exact ⟨(ov_same h s).1, fun s2 hb => by simp only [hes2 s2 hb, hm]; exact (ov_same h s2).2⟩
          · simp at h
        · simp at h
      · simp at h
    · simp at h
  | convert src dst x =>
    simp only [doOp, ho] at h ⊢
    split at h
    · rename_i h1 h2 h3
      simp at h
      exact ⟨h.2.symm, fun s2 _ => by simp [h.1]⟩
    · rename_i h1 h2 h3
      split at h
      · rename_i h4
        split at h
        · simp at h; exact ⟨h.2.symm, fun s2 _ => by simp [h.1]⟩
        · split at h
          · rename_i hl
            split at h
            · rename_i hb2
              simp at h; exact ⟨h.2.symm, fun s2 hb => by simp only [ldCells_sub hb hl, hb2]; simp [h.1]⟩
            · simp at h
          · simp at h
      · simp at h
    · rename_i h1 h2 h3
      split at h
      · rename_i h4
        simp only [cond_eq_ite] at h
        split at h
        · rename_i h5
          split at h
          · rename_i hg
            simp at h; exact ⟨h.2.symm, fun s2 hb => by simp only [cond_eq_ite, if_pos h5, hb _ _ hg]; simp [h.1]⟩
          · simp at h
        · simp at h
      · simp at h
    · simp at h
  | call c =>
    cases hc : c.callee with
    | builtin b =>
      cases b with
      | len =>
        simp only [doOp, ho, hc] at h ⊢
        unfold builtinOp at h ⊢
        have hsym : ∀ s2, symB E tm s2 .len c.argTypes.toList c.args.toList = (symB E tm s .len c.argTypes.toList c.args.toList).map (fun r => (r.1, s2)) := fun s2 => by
          simp only [symB, symLen]
          (repeat' split) <;> first | rfl | simp_all
        split at h
        · rename_i r hr
          injection h with h; subst h
          refine ⟨?_, fun s2 _ => by rw [hsym s2, hr]; rfl⟩
          have := hsym s; rw [hr] at this
          simp only [symB, symLen] at hr
          (repeat' (split at hr)) <;> first | (injection hr with hr; injection hr with _ hr; exact hr.symm) | (simp at hr; done)
        rename_i hnone
        have hnone2 : ∀ s2, symB E tm s2 .len c.argTypes.toList c.args.toList = none := fun s2 => by rw [hsym s2, hnone]; rfl
        simp only [hnone2]
        unfold builtinOp0 at h ⊢
        split at h <;> simp only [reduceCtorEq, false_and, and_false] at *
        all_goals try contradiction
        split at h
        · simp at h; exact ⟨h.2.symm, fun s2 _ => by simp [h.1]⟩
        · split at h
          · split at h
            · rename_i n hn
              simp at h
              refine ⟨h.2.symm, fun s2 hb => ?_⟩
              simp [lenV_sub hb hn, h.1]
            · simp at h
          · simp at h
        · simp at h
      | _ => simp [isR, ho, hc] at hR
    | _ => simp [isR, ho, hc] at hR
  | _ => simp [isR, ho] at hR

theorem symMin_map (s s2 : St) (l : List Operand) : symMin tm s2 l = (symMin tm s l).map (fun r => (r.1, s2)) := by
  simp only [symMin, cond_eq_ite]
  (repeat' split) <;> first | rfl | simp_all

theorem doOp_pure (hE : isE o.op = false) (hA : isA o.op = false) (hR : isR o.op = false) (h : doOp E cf tm s o = some (v, s')) : s' = s ∧ ∀ s2, doOp E cf tm s2 o = some (v, s2) := by
  cases ho : o.op with
  | move x =>
    simp only [doOp, ho, cond_eq_ite] at h ⊢
    (repeat' (split at h)) <;> first
          | exact ⟨(ov_same h s).1, fun s2 => (ov_same h s2).2⟩
          | contradiction
          | (refine ⟨(ov_same h s).1, fun s2 => ?_⟩; have h9 := (ov_same h s2).2; simp_all; done)
          | (simp at h; done)
          | (simp at h; obtain ⟨h1, h2⟩ := h; exact ⟨h2.symm, fun s2 => by simp_all⟩)
  | assign x =>
    simp only [doOp, ho, cond_eq_ite] at h ⊢
    (repeat' (split at h)) <;> first
          | exact ⟨(ov_same h s).1, fun s2 => (ov_same h s2).2⟩
          | contradiction
          | (refine ⟨(ov_same h s).1, fun s2 => ?_⟩; have h9 := (ov_same h s2).2; simp_all; done)
          | (simp at h; done)
          | (simp at h; obtain ⟨h1, h2⟩ := h; exact ⟨h2.symm, fun s2 => by simp_all⟩)
  | pick c x y =>
    simp only [doOp, ho, cond_eq_ite] at h ⊢
    (repeat' (split at h)) <;> first
          | exact ⟨(ov_same h s).1, fun s2 => (ov_same h s2).2⟩
          | contradiction
          | (refine ⟨(ov_same h s).1, fun s2 => ?_⟩; have h9 := (ov_same h s2).2; simp_all; done)
          | (simp at h; done)
          | (simp at h; obtain ⟨h1, h2⟩ := h; exact ⟨h2.symm, fun s2 => by simp_all⟩)
  | build t ps =>
    simp only [doOp, ho, cond_eq_ite] at h ⊢
    (repeat' (split at h)) <;> first
          | exact ⟨(ov_same h s).1, fun s2 => (ov_same h s2).2⟩
          | contradiction
          | (refine ⟨(ov_same h s).1, fun s2 => ?_⟩; have h9 := (ov_same h s2).2; simp_all; done)
          | (simp at h; done)
          | (simp at h; obtain ⟨h1, h2⟩ := h; exact ⟨h2.symm, fun s2 => by simp_all⟩)
  | nilCheck x =>
    simp only [doOp, ho, cond_eq_ite] at h ⊢
    (repeat' (split at h)) <;> first
          | exact ⟨(ov_same h s).1, fun s2 => (ov_same h s2).2⟩
          | contradiction
          | (refine ⟨(ov_same h s).1, fun s2 => ?_⟩; have h9 := (ov_same h s2).2; simp_all; done)
          | (simp at h; done)
          | (simp at h; obtain ⟨h1, h2⟩ := h; exact ⟨h2.symm, fun s2 => by simp_all⟩)
  | binOp op t x y yt =>
    simp only [doOp, ho, cond_eq_ite] at h ⊢
    (repeat' (split at h)) <;> first
          | exact ⟨(ov_same h s).1, fun s2 => (ov_same h s2).2⟩
          | contradiction
          | (refine ⟨(ov_same h s).1, fun s2 => ?_⟩; have h9 := (ov_same h s2).2; simp_all; done)
          | (simp at h; done)
          | (simp at h; obtain ⟨h1, h2⟩ := h; exact ⟨h2.symm, fun s2 => by simp_all⟩)
  | unOp op t x =>
    simp only [doOp, ho, cond_eq_ite] at h ⊢
    (repeat' (split at h)) <;> first
          | exact ⟨(ov_same h s).1, fun s2 => (ov_same h s2).2⟩
          | contradiction
          | (refine ⟨(ov_same h s).1, fun s2 => ?_⟩; have h9 := (ov_same h s2).2; simp_all; done)
          | (simp at h; done)
          | (simp at h; obtain ⟨h1, h2⟩ := h; exact ⟨h2.symm, fun s2 => by simp_all⟩)
  | sliceToArrayPointer t x =>
    simp only [doOp, ho, cond_eq_ite] at h ⊢
    (repeat' (split at h)) <;> first
          | exact ⟨(ov_same h s).1, fun s2 => (ov_same h s2).2⟩
          | contradiction
          | (refine ⟨(ov_same h s).1, fun s2 => ?_⟩; have h9 := (ov_same h s2).2; simp_all; done)
          | (simp at h; done)
          | (simp at h; obtain ⟨h1, h2⟩ := h; exact ⟨h2.symm, fun s2 => by simp_all⟩)
  | makeFunc fn first cap =>
    simp only [doOp, ho, cond_eq_ite] at h ⊢
    (repeat' (split at h)) <;> first
          | exact ⟨(ov_same h s).1, fun s2 => (ov_same h s2).2⟩
          | contradiction
          | (refine ⟨(ov_same h s).1, fun s2 => ?_⟩; have h9 := (ov_same h s2).2; simp_all; done)
          | (simp at h; done)
          | (simp at h; obtain ⟨h1, h2⟩ := h; exact ⟨h2.symm, fun s2 => by simp_all⟩)
  | slice t x lo hi mx =>
    simp only [doOp, ho, cond_eq_ite] at h ⊢
    (repeat' (split at h)) <;> first
          | exact ⟨(ov_same h s).1, fun s2 => (ov_same h s2).2⟩
          | contradiction
          | (refine ⟨(ov_same h s).1, fun s2 => ?_⟩; have h9 := (ov_same h s2).2; simp_all; done)
          | (simp at h; done)
          | (simp at h; obtain ⟨h1, h2⟩ := h; exact ⟨h2.symm, fun s2 => by simp_all⟩)
  | fieldAddr t x f =>
    simp only [doOp, ho, cond_eq_ite] at h ⊢
    (repeat' (split at h)) <;> first
          | exact ⟨(ov_same h s).1, fun s2 => (ov_same h s2).2⟩
          | contradiction
          | (refine ⟨(ov_same h s).1, fun s2 => ?_⟩; have h9 := (ov_same h s2).2; simp_all; done)
          | (simp at h; done)
          | (simp at h; obtain ⟨h1, h2⟩ := h; exact ⟨h2.symm, fun s2 => by simp_all⟩)
  | field t x f =>
    simp only [doOp, ho, cond_eq_ite] at h ⊢
    (repeat' (split at h)) <;> first
          | exact ⟨(ov_same h s).1, fun s2 => (ov_same h s2).2⟩
          | contradiction
          | (refine ⟨(ov_same h s).1, fun s2 => ?_⟩; have h9 := (ov_same h s2).2; simp_all; done)
          | (simp at h; done)
          | (simp at h; obtain ⟨h1, h2⟩ := h; exact ⟨h2.symm, fun s2 => by simp_all⟩)
  | indexAddr t x i =>
    simp only [doOp, ho] at h ⊢
    cases hsym : symIdx E tm t x i with
    | some v1 =>
      simp only [hsym] at h ⊢
      injection h with h; injection h with h1 h2
      exact ⟨h2.symm, fun s2 => by rw [h1]⟩
    | none =>
      simp only [hsym] at h ⊢
      simp only [idxOp, cond_eq_ite] at h ⊢
      (repeat' (split at h)) <;> first
          | exact ⟨(ov_same h s).1, fun s2 => (ov_same h s2).2⟩
          | contradiction
          | (refine ⟨(ov_same h s).1, fun s2 => ?_⟩; have h9 := (ov_same h s2).2; simp_all; done)
          | (simp at h; done)
          | (simp at h; obtain ⟨h1, h2⟩ := h; exact ⟨h2.symm, fun s2 => by simp_all⟩)
  | index t x i =>
    simp only [doOp, ho, cond_eq_ite] at h ⊢
    (repeat' (split at h)) <;> first
          | exact ⟨(ov_same h s).1, fun s2 => (ov_same h s2).2⟩
          | contradiction
          | (refine ⟨(ov_same h s).1, fun s2 => ?_⟩; have h9 := (ov_same h s2).2; simp_all; done)
          | (simp at h; done)
          | (simp at h; obtain ⟨h1, h2⟩ := h; exact ⟨h2.symm, fun s2 => by simp_all⟩)
  | extract x i =>
    simp only [doOp, ho, cond_eq_ite] at h ⊢
    (repeat' (split at h)) <;> first
          | exact ⟨(ov_same h s).1, fun s2 => (ov_same h s2).2⟩
          | contradiction
          | (refine ⟨(ov_same h s).1, fun s2 => ?_⟩; have h9 := (ov_same h s2).2; simp_all; done)
          | (simp at h; done)
          | (simp at h; obtain ⟨h1, h2⟩ := h; exact ⟨h2.symm, fun s2 => by simp_all⟩)
  | makeMap t r => cases r with
    | none => simp [isA, ho] at hA
    | some r => simp [doOp, ho] at h
  | call c =>
    cases hc : c.callee with
    | builtin b =>
      cases b with
      | cap =>
        simp only [doOp, ho, hc, builtinOp, symB, builtinOp0, cond_eq_ite] at h ⊢
        (repeat' (split at h)) <;> first
          | exact ⟨(ov_same h s).1, fun s2 => (ov_same h s2).2⟩
          | contradiction
          | (refine ⟨(ov_same h s).1, fun s2 => ?_⟩; have h9 := (ov_same h s2).2; simp_all; done)
          | (simp at h; done)
          | (simp at h; obtain ⟨h1, h2⟩ := h; exact ⟨h2.symm, fun s2 => by simp_all⟩)
      | min =>
        simp only [doOp, ho, hc, builtinOp, symB] at h ⊢
        split at h
        · rename_i r hr
          injection h with h; subst h
          have h1 := symMin_map (tm := tm) s s c.args.toList
          rw [hr] at h1
          simp only [Option.map_some, Option.some.injEq, Prod.mk.injEq] at h1
          exact ⟨h1.2, fun s2 => by rw [symMin_map s s2, hr]; rfl⟩
        · rename_i hnone
          have hn2 : ∀ s2, symMin tm s2 c.args.toList = none := fun s2 => by rw [symMin_map s s2, hnone]; rfl
          simp only [hn2]
          simp only [builtinOp0, cond_eq_ite] at h ⊢
          (repeat' (split at h)) <;> first
            | exact ⟨(ov_same h s).1, fun s2 => (ov_same h s2).2⟩
            | contradiction
            | (refine ⟨(ov_same h s).1, fun s2 => ?_⟩; have h9 := (ov_same h s2).2; simp_all; done)
            | (simp at h; done)
            | (simp at h; obtain ⟨h1, h2⟩ := h; exact ⟨h2.symm, fun s2 => by simp_all⟩)
      | max =>
        simp only [doOp, ho, hc, builtinOp, symB, builtinOp0, cond_eq_ite] at h ⊢
        (repeat' (split at h)) <;> first
          | exact ⟨(ov_same h s).1, fun s2 => (ov_same h s2).2⟩
          | contradiction
          | (refine ⟨(ov_same h s).1, fun s2 => ?_⟩; have h9 := (ov_same h s2).2; simp_all; done)
          | (simp at h; done)
          | (simp at h; obtain ⟨h1, h2⟩ := h; exact ⟨h2.symm, fun s2 => by simp_all⟩)
      | len => simp [isR, ho, hc] at hR
      | _ => simp [isE, ho, hc] at hE
    | value f => simp [isE, ho, hc] at hE
    | invoke r n => simp [isE, ho, hc] at hE
  | alloc => simp [isA, ho] at hA
  | box => simp [isA, ho] at hA
  | buildSlice => simp [isA, ho] at hA
  | makeChan => simp [isA, ho] at hA
  | makeSlice => simp [isA, ho] at hA
  | load => simp [isR, ho] at hR
  | lookup => simp [isR, ho] at hR
  | convert => simp [isR, ho] at hR
  | store => simp [isE, ho] at hE
  | mapUpdate => simp [isE, ho] at hE
  | mapEntry => simp [isE, ho] at hE
  | entryStore => simp [isE, ho] at hE
  | _ => simp [doOp, ho] at h
end
end Go.Mx
