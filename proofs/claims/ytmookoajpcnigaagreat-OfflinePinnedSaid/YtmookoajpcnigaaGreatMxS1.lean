/- The tables' checks. -/
import Derived.Test.YtmookoajpcnigaaGreatMxX1
set_option linter.unusedSimpArgs false
set_option linter.unusedVariables false
namespace Go.Mx
open Go

def PT.all {α : Type} (p : Nat → α → Bool) : PT α → Nat → Nat → Bool
  | .leaf, _, _ => true
  | .node l v r, a, b => (match v with | some x => p b x | none => true) && PT.all p l (2 * a) (a + b) && PT.all p r (2 * a) (2 * a + b)

theorem PT.all_get {α : Type} {p : Nat → α → Bool} : ∀ {t : PT α} {a b : Nat}, PT.all p t a b = true → ∀ {k : Nat} {x : α}, t.get k = some x → p (a * k + b) x = true := by
  intro t
  induction t with
  | leaf => intro a b _ k x h; simp [PT.get] at h
  | node l v r ihl ihr =>
    intro a b h k x hg
    simp only [PT.all, Bool.and_eq_true] at h
    obtain ⟨⟨h1, h2⟩, h3⟩ := h
    rw [PT.get_node] at hg
    split at hg
    · rename_i e; subst e; subst hg; simpa using h1
    · split at hg
      · rename_i e1 e2
        have := ihl h2 hg
        have e : 2 * a * (k / 2) + (a + b) = a * k + b := by
          have : a * k = a * (2 * (k / 2) + 1) := by congr 1; omega
          rw [this, Nat.mul_add, Nat.mul_one, ← Nat.mul_assoc, Nat.mul_comm a 2]; omega
        rw [e] at this; exact this
      · rename_i e1 e2
        have := ihr h3 hg
        have e : 2 * a * (k / 2 - 1) + (2 * a + b) = a * k + b := by
          have : a * k = a * (2 * (k / 2 - 1) + 2) := by congr 1; omega
          rw [this, Nat.mul_add, ← Nat.mul_assoc, Nat.mul_comm a 2]; omega
        rw [e] at this; exact this

/-- a zero cell, as the abstract interpreter has it -/
def zOne : Value → Sc → Bool
  | .bool x, .b y => x == y
  | .int j x, .i k y => decide (j = k) && x == y
  | .string s, .s l => s.data.toList.isEmpty && l.isEmpty
  | .pointer none, .p none => true
  | .slice none n m, .sl none n' m' op => Nat.beq n n' && Nat.beq m m'
  | .map none, .m none => true
  | .chan none, .ch none => true
  | .nilFunc, .nilfn => true
  | .nilIface, .nilifc => true
  | _, _ => false

theorem zOne_spec {v : Value} {c : Sc} (h : zOne v c = true) : concS Phi.nil c = some v := by
  unfold zOne at h
  split at h <;> simp at h <;> simp [concS]
  · exact h.symm
  · exact ⟨h.1.symm, h.2.symm⟩
  · rename_i s l
    obtain ⟨h1, h2⟩ := h
    subst h2
    unfold str
    apply ByteArray.ext
    simp [h1]
  · exact ⟨h.1.symm, h.2.symm⟩

def zOk : List Value → List (Nat × Sc) → Bool
  | [], [] => true
  | v :: vs, (1, c) :: r => zOne v c && zOk vs r
  | v :: vs, (n + 2, c) :: r => zOne v c && zOk vs ((n + 1, c) :: r)
  | _, _ => false

theorem zOk_spec : ∀ {vs : List Value} {rs : List (Nat × Sc)}, zOk vs rs = true → concL Phi.nil (rs.flatMap fun p => List.replicate p.1 p.2) = some vs := by
  intro vs
  induction vs with
  | nil =>
    intro rs h
    cases rs with
    | nil => rfl
    | cons a r => simp [zOk] at h
  | cons v vs ih =>
    intro rs h
    match rs, h with
    | (1, c) :: r, h =>
      simp only [zOk, Bool.and_eq_true] at h
      have := ih h.2
      simp only [List.flatMap_cons, List.replicate_one, List.singleton_append]
      exact concL_cons.2 ⟨v, vs, zOne_spec h.1, this, rfl⟩
    | (n + 2, c) :: r, h =>
      simp only [zOk, Bool.and_eq_true] at h
      have := ih h.2
      simp only [List.flatMap_cons, List.replicate_succ, List.cons_append] at this ⊢
      exact concL_cons.2 ⟨v, vs, zOne_spec h.1, this, rfl⟩

def kindChk (P : Program) : TK → TypeDesc → Bool
  | .int k, .int j => decide (k = j)
  | .bool, .bool => true
  | .str, .string => true
  | .ptr, .pointer _ => true
  | .slice e, .slice f => Nat.beq e f
  | .arr n e, .array m f => Nat.beq n m && Nat.beq e f
  | .map k e, .map l f => Nat.beq k l && Nat.beq e f
  | .struct fs, .struct fields => Nat.beq fs.length fields.size && fldChk fs fields.toList
  | .chan, .chan _ e => (match P.info? e with | some ei => Nat.ble ei.bytes 1048576 | none => false)
  | .fn, .func _ _ _ => true
  | .other, _ => true
  | _, _ => false
where
  fldChk : List (Nat × Nat × Bool) → List Field → Bool
    | [], [] => true
    | f :: fs, g :: gs => (match P.info? g.type, P.underlying g.type with
        | some fi, some gd => Nat.beq g.offset f.1 && Nat.beq fi.size f.2.1 && (aggD gd == f.2.2)
        | _, _ => false) && fldChk fs gs
    | _, _ => false

theorem fldChk_spec {P : Program} : ∀ {fs : List (Nat × Nat × Bool)} {gs : List Field}, kindChk.fldChk P fs gs = true → ∀ (j : Nat) (f : Nat × Nat × Bool), fs[j]? = some f →
    ∃ g fi gd, gs[j]? = some g ∧ g.offset = f.1 ∧ P.info? g.type = some fi ∧ fi.size = f.2.1 ∧ P.underlying g.type = some gd ∧ aggD gd = f.2.2 := by
  intro fs
  induction fs with
  | nil => intro gs _ j f h; simp at h
  | cons a r ih =>
    intro gs h j f hj
    cases gs with
    | nil => simp [kindChk.fldChk] at h
    | cons g gs =>
      simp only [kindChk.fldChk, Bool.and_eq_true] at h
      cases j with
      | zero =>
        simp at hj; subst hj
        have h := h.1
        split at h
        · rename_i fi gd h1 h2
          simp only [Bool.and_eq_true, Nat.beq_eq, beq_iff_eq] at h
          exact ⟨g, fi, gd, rfl, h.1.1, h1, h.1.2, h2, h.2⟩
        · simp at h
      | succ j => exact ih h.2 j f (by simpa using hj)

theorem kindChk_spec {P : Program} {k : TK} {d : TypeDesc} (h : kindChk P k d = true) : KindOk P k d := by
  unfold kindChk at h
  split at h <;> simp only [KindOk]
  · simp at h; rw [h]
  · exact ⟨_, rfl⟩
  · rw [Nat.eq_of_beq_eq_true h]
  · simp only [Bool.and_eq_true, Nat.beq_eq] at h; rw [h.1, h.2]
  · simp only [Bool.and_eq_true, Nat.beq_eq] at h; rw [h.1, h.2]
  · simp only [Bool.and_eq_true, Nat.beq_eq] at h
    refine ⟨_, rfl, h.1, fun j f hj => ?_⟩
    obtain ⟨g, fi, gd, h1, h2⟩ := fldChk_spec h.2 j f hj
    exact ⟨g, fi, gd, by rw [← Array.getElem?_toList]; exact h1, h2⟩
  · split at h
    · rename_i ei he
      exact ⟨_, _, ei, rfl, he, by simpa using h⟩
    · simp at h
  · exact ⟨_, _, _, rfl⟩
  · simp at h

def sumRuns : List (Nat × Sc) → Nat
  | [] => 0
  | p :: r => p.1 + sumRuns r

theorem sumRuns_eq : ∀ l : List (Nat × Sc), sumRuns l = (l.flatMap fun p => List.replicate p.1 p.2).length := by
  intro l
  induction l with
  | nil => rfl
  | cons a r ih => simp [sumRuns, ih]

def isAggV : Value → Bool
  | .agg _ => true
  | _ => false

def tiChk (P : Program) (t : Nat) (ti : TI) : Bool :=
  match P.info? t, P.underlying t with
  | some i, some d => (match i.zero with
      | some z => Nat.beq i.size ti.size && Nat.ble i.bytes 1048576 && zOk z.cells.toList ti.zero && (isAggV z == ti.agg) && Nat.beq ti.size (sumRuns ti.zero)
      | none => false) && kindChk P ti.kind d && (aggD d == ti.agg) && (!ti.plain || (match plainChk P 10 t with | some ks => confK ks (zeroCells ti) && !P.eqGuardType P.depth t | none => false))
  | _, _ => false

theorem tiChk_spec {P : Program} {t : Nat} {ti : TI} (h : tiChk P t ti = true) : TiOk P t ti := by
  unfold tiChk at h
  split at h
  · rename_i i d hi hd
    simp only [Bool.and_eq_true] at h
    obtain ⟨⟨⟨h1, h2⟩, h3⟩, h4⟩ := h
    cases hz : i.zero with
    | none => simp [hz] at h1
    | some z =>
      simp only [hz, Bool.and_eq_true, Nat.beq_eq, Nat.ble_eq, beq_iff_eq] at h1
      obtain ⟨⟨⟨⟨g1, g2⟩, g3⟩, g4⟩, g5⟩ := h1
      refine ⟨⟨i, z, hi, g1, g2, hz, zOk_spec g3, by rw [g5, sumRuns_eq]; rfl, fun ha => ?_, fun ha => ?_⟩, ⟨d, hd, kindChk_spec h2, by simpa using h3⟩, fun hp => ?_⟩
      · rw [ha] at g4
        cases z <;> simp [isAggV] at g4
        exact ⟨_, rfl⟩
      · rw [ha] at g4
        cases z <;> simp [isAggV] at g4 <;> rfl
      · simp only [hp, Bool.not_true, Bool.false_or] at h4
        split at h4
        · rename_i ks hks
          simp only [Bool.and_eq_true, Bool.not_eq_true'] at h4
          exact ⟨ks, hks, h4.1, h4.2⟩
        · simp at h4
  · simp at h

theorem tyOk_of {P : Program} {E : Env} (h : PT.all (tiChk P) E.ty 1 0 = true) : TyOk P E := fun t ti ht => by
  have := PT.all_get h ht
  simp at this
  exact tiChk_spec this
end Go.Mx
