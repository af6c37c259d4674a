/- Regions whose order is the text's. -/
import Derived.Test.YtmookoajpcnigaaGreatMxO10
set_option linter.unusedSimpArgs false
namespace Go.Mx
open Go

/-- the temporaries of a frame -/
def TmOk (P : Program) (φ : Phi) (N : Nat) (tm : Tm) (a : Act) : Prop :=
  a.tmps.size = N ∧ ∀ t, conc P φ ((tm.get t).getD undefV) = some (a.tmps.getD t undef)

def DstOk (N : Nat) (o : Oper) : Prop := ∀ d, o.dst = some d → d < N

section
variable {P : Program} {E : Env} {φ ψ : Phi} {s s' : St} {w : World} {tm tm' : Tm} {a : Act} {v : AV} {cf : CF} {o : Oper} {N : Nat}

theorem TmOk.mono (h : TmOk P φ N tm a) (hle : φ.le ψ) : TmOk P ψ N tm a := ⟨h.1, fun t => conc_mono hle P (h.2 t)⟩

theorem ev_tmp (t : Nat) : ev tm (.tmp t) = some ((tm.get t).getD undefV) := by
  simp only [ev]; cases tm.get t <;> rfl

theorem evOk_const (c : Value) : EvOk P φ tm a (.const c) := fun v h => ofConst_conc h
theorem evOk_func (f : Nat) : EvOk P φ tm a (.func f) := fun v h => by
  simp [ev] at h; subst h; simp [conc, concS, concPs, Act.eval]
theorem evOk_global (g : Nat) : EvOk P φ tm a (.global g) := fun v h => by simp [ev] at h

theorem TmOk.ev (h : TmOk P φ N tm a) (x : Operand) : EvOk P φ tm a x := by
  cases x with
  | tmp t => intro v hv; rw [ev_tmp] at hv; injection hv with hv; subst hv; exact h.2 t
  | const c => exact evOk_const c
  | func f => exact evOk_func f
  | global g => exact evOk_global g

theorem TmOk.put (h : TmOk P φ N tm a) {x : Value} (hc : conc P φ v = some x) {d : Option Nat} (hd : ∀ t, d = some t → t < N) : TmOk P φ N (put tm d v) (a.put d x) := by
  cases d with
  | none => exact h
  | some d =>
    refine ⟨by simp [Act.put, h.1], fun t => ?_⟩
    have hlt := hd d rfl
    simp only [Mx.put, Act.put, PT.get_set]
    by_cases e : t = d
    · subst e; simp [Array.getD_eq_getD_getElem?, h.1, hlt, hc]
    · rw [if_neg e]
      have := h.2 t
      rw [this]
      simp only [Array.getD_eq_getD_getElem?]
      rw [Array.getElem?_setIfInBounds_ne (fun h => e h.symm)]

theorem conc_bool {b : Bool} (h : conc P φ v = some (.bool b)) : v = .one (.b b) ∨ ∃ t, v = .zag t := by
  cases v with
  | one c =>
    left
    simp only [conc] at h
    cases c with
    | b x => simp [concS] at h; rw [h]
    | i k n => simp [concS] at h
    | s l => simp [concS] at h
    | p x => cases x <;> simp only [concS] at h <;> (try split at h) <;> simp at h
    | sl x n c op => cases x <;> simp only [concS] at h <;> (try split at h) <;> simp at h
    | se x d => simp only [concS] at h; split at h <;> simp at h
    | m r => cases r <;> simp only [concS] at h <;> (try split at h) <;> simp at h
    | ch r => cases r <;> simp only [concS] at h <;> (try split at h) <;> simp at h
    | fn f x y => simp only [concS] at h; split at h <;> simp at h
    | nilfn => simp [concS] at h
    | nilifc => simp [concS] at h
    | y k old =>
      simp only [concS] at h
      split at h
      · split at h
        · split at h <;> simp at h
        · simp at h
      · simp at h
    | ln g c lo hi =>
      simp only [concS] at h
      split at h
      · split at h <;> simp at h
      · simp at h
    | md g k r m =>
      simp only [concS] at h
      split at h
      · split at h <;> simp at h
      · simp at h
    | sn q lo hi m =>
      simp only [concS] at h
      split at h
      · split at h
        · split at h <;> simp at h
        · simp at h
      · simp at h
    | sz q lo hi m =>
      simp only [concS] at h
      split at h
      · split at h
        · split at h <;> simp at h
        · simp at h
      · simp at h
  | agg l => simp only [conc] at h; split at h <;> simp at h
  | zag t => exact .inr ⟨t, rfl⟩
  | tup l => simp only [conc] at h; split at h <;> simp at h

/-- a guard, read where the temporary that it looks at reads as it should -/
theorem wanted_of {ops : Array Oper} (hsz : a.tmps.size = N) (hN : ∀ q ∈ ops.toList, DstOk N q)
    (htm : ∀ j w q d, o.guard = some (j, w) → ops[j]? = some q → q.dst = some d → conc P φ ((tm.get d).getD undefV) = some (a.tmps.getD d undef))
    {b : Bool} (h : wanted tm ops o = some b) : Region.wanted o (yielded ops a.tmps) = b := by
  unfold wanted at h
  unfold Region.wanted
  cases hg : o.guard with
  | none => simp [hg] at h; simp [h]
  | some g =>
    obtain ⟨j, wn⟩ := g
    simp only [hg] at h
    simp only [yielded]
    cases hq : ops[j]? with
    | none => simp [hq] at h; simp [← h]
    | some q =>
      simp only [hq] at h
      cases hd : q.dst with
      | none => simp [hd] at h; simp [hd, ← h]
      | some d =>
        simp only [hd] at h
        have hlt := hN q (by simpa using Array.mem_of_getElem? hq) d hd
        have hv := htm j wn q d hg hq hd
        have hget : a.tmps[d]? = some (a.tmps.getD d undef) := by
          simp [Array.getD_eq_getD_getElem?, hsz, hlt]
        simp only [Option.bind_some, hd, hget]
        cases hx : tm.get d with
        | none =>
          simp [hx] at h
          rw [hx] at hv
          simp [undefV, conc, concVs] at hv
          simp [← hv, ← h]
        | some u =>
          rw [hx] at hv
          simp only [Option.getD_some] at hv
          simp only [hx] at h
          by_cases hb : ∃ b, a.tmps.getD d undef = .bool b
          · obtain ⟨b', hb'⟩ := hb
            rw [hb'] at hv
            rcases conc_bool hv with rfl | ⟨t, rfl⟩
            · simp at h; rw [hb']; simp only []; rw [← h]; cases b' <;> cases wn <;> rfl
            · simp at h
          · generalize a.tmps.getD d undef = val at hv hb ⊢
            split at h
            · rename_i u' x' hxx
              injection hxx with hxx; subst hxx
              simp [conc, concS] at hv
              exact absurd ⟨_, hv.symm⟩ hb
            · simp at h
            · injection h with h
              subst h
              cases val <;> first | rfl | exact absurd ⟨_, rfl⟩ hb

theorem TmOk.wanted (h : TmOk P φ N tm a) {ops : Array Oper} (hN : ∀ q ∈ ops.toList, DstOk N q) {b : Bool} (hw : wanted tm ops o = some b) :
    Region.wanted o (yielded ops a.tmps) = b := wanted_of h.1 hN (fun _ _ _ d _ _ _ => h.2 d) hw

theorem conc_undefV : conc P φ undefV = some undef := by simp [conc, concVs, undefV, undef]

theorem Act.put_defers' (a : Act) (d : Option Nat) (x : Value) : (a.put d x).defers = a.defers := by cases d <;> rfl

/-- a region, in the text's order -/
theorem runOps_sound (hE : TyOk P E) (hcf : CfOk P cf) {ops : Array Oper} (hN : ∀ q ∈ ops.toList, DstOk N q) {Q : Exit → Act → World → Prop} {tmF : Tm} {sF : St} :
    ∀ (l : List Oper) (k : Nat) (tm : Tm) (s : St) (a : Act) (φ : Phi) (w : World), ops.toList.drop k = l → Sat P φ s w → TmOk P φ N tm a →
      runOps E cf ops l tm s = some (tmF, sF) →
      (∀ ψ a' w', Post P φ s w ψ sF w' → TmOk P ψ N tmF a' → a'.defers = a.defers → Q .normal a' w') →
      wpOps P ops Q (List.range' k l.length) a w := by
  intro l
  induction l with
  | nil =>
    intro k tm s a φ w hl hs ht h hq
    simp [runOps] at h; obtain ⟨rfl, rfl⟩ := h
    exact hq φ a w (Post.refl hs) ht rfl
  | cons o r ih =>
    intro k tm s a φ w hl hs ht h hq
    have hk : ops[k]? = some o := by
      have : (ops.toList.drop k)[0]? = some o := by rw [hl]; rfl
      simpa using this
    have hr : ops.toList.drop (k + 1) = r := by
      have : (ops.toList.drop k).drop 1 = r := by rw [hl]; rfl
      rw [List.drop_drop] at this; exact this
    have hmem : o ∈ ops.toList := by simpa using Array.mem_of_getElem? hk
    simp only [List.length_cons, List.range'_succ, wpOps, hk]
    simp only [runOps] at h
    cases hw : wanted tm ops o with
    | none => simp [hw] at h
    | some b =>
      rw [ht.wanted hN hw]
      cases b with
      | true =>
        simp only [hw] at h
        simp only [if_true]
        cases hd : doOp E cf tm s o with
        | none => simp [hd] at h
        | some p =>
          obtain ⟨v, s1⟩ := p
          simp only [hd] at h
          refine .inl (doOp_sound hE hcf hs (fun x _ => ht.ev x) hd _ _ fun ψ x w' hp hc => ?_)
          refine ih (k + 1) _ s1 _ ψ w' hr hp.sat ((ht.mono hp.sub).put hc (hN o hmem)) h fun χ a' w'' hp' ht' hde => ?_
          exact hq χ a' w'' (Post.trans hs hp hp') ht' (by rw [hde, Act.put_defers'])
      | false =>
        simp only [hw] at h
        simp only [Bool.false_eq_true, if_false]
        refine ih (k + 1) _ s _ φ w hr hs (ht.put conc_undefV (hN o hmem)) h fun χ a' w'' hp' ht' hde => ?_
        exact hq χ a' w'' hp' ht' (by rw [hde, Act.put_defers'])
end
end Go.Mx
