/- Operations on maps. -/
import Derived.Test.YtmookoajpcnigaaGreatMxO7
set_option linter.unusedSimpArgs false
namespace Go.Mx
open Go

theorem eqSc_true {a b : Sc} (h : eqSc a b = some true) : a = b := by
  unfold eqSc at h
  split at h
  · simp at h; rw [h]
  · simp only [cond_eq_ite, decide_eq_true_eq] at h
    split at h
    · rename_i hk; subst hk; simp at h; rw [h]
    · simp at h
  · simp at h

theorem eqL_true : ∀ {l m : List Sc}, eqL l m = some true → l = m := by
  intro l
  induction l with
  | nil => intro m h; cases m with | nil => rfl | cons => simp [eqL] at h
  | cons a r ih =>
    intro m h
    cases m with
    | nil => simp [eqL] at h
    | cons b q =>
      simp only [eqL] at h
      cases h1 : eqSc a b with
      | none => simp [h1] at h
      | some x =>
        cases h2 : eqL r q with
        | none => simp [h1, h2] at h
        | some y =>
          simp [h1, h2] at h
          obtain ⟨rfl, rfl⟩ := h
          rw [eqSc_true h1, ih h2]

theorem eqK_true {a b : Vv} (h : eqK a b = some true) : a = b := by
  unfold eqK at h
  simp only [cond_eq_ite] at h
  split at h
  · rename_i h1
    have := eqL_true h
    obtain ⟨a1, a2⟩ := a
    obtain ⟨b1, b2⟩ := b
    simp at h1 this
    rw [h1, this]
  · simp at h

/-- a plain cell's value: an integer or a bool -/
def Plain (v : Value) : Prop := (∃ b, v = .bool b) ∨ (∃ k n, v = .int k n)

theorem confL_plain {φ : Phi} : ∀ {z l : List Sc} {xs : List Value}, confL z l = true → concL φ l = some xs → ∀ x ∈ xs, Plain x := by
  intro z
  induction z with
  | nil => intro l xs h hc; cases l with | nil => (simp [concL] at hc; subst hc; simp) | cons => simp [confL] at h
  | cons a z ih =>
    intro l xs h hc
    cases l with
    | nil => simp [confL] at h
    | cons c q =>
      simp [confL] at h
      obtain ⟨u, v, h1, h2, rfl⟩ := concL_cons.1 hc
      intro x hx
      rcases List.mem_cons.1 hx with rfl | hx
      · cases a <;> cases c <;> simp [sameKd] at h <;> simp [concS] at h1
        · exact .inl ⟨_, h1.symm⟩
        · exact .inr ⟨_, _, h1.symm⟩
      · exact ih h.2 h2 x hx

theorem sameBits_plain (n : Nat) {v : Value} (h : Plain v) : Instr.sameBits n v v = true := by
  rcases h with ⟨b, rfl⟩ | ⟨k, m, rfl⟩ <;> cases n <;> simp [Instr.sameBits]

theorem sameBits_agg (n : Nat) {xs : Array Value} (h : ∀ x ∈ xs.toList, Plain x) : Instr.sameBits (n + 1) (.agg xs) (.agg xs) = true := by
  simp only [Instr.sameBits, beq_self_eq_true, Bool.true_and]
  rw [List.all_eq_true]
  intro p hp
  have : p.1 = p.2 ∧ p.1 ∈ xs.toList := by
    obtain ⟨i, hi⟩ := List.getElem?_of_mem hp
    rw [List.getElem?_zip_eq_some] at hi
    have h1 := hi.1; have h2 := hi.2
    rw [h1] at h2; injection h2 with h2
    exact ⟨h2, List.mem_of_getElem? h1⟩
  rw [← this.1]
  exact sameBits_plain n (h _ this.2)

section
variable {P : Program} {E : Env} {φ : Phi} {s s' : St} {w : World} {tm : Tm} {a : Act} {v : AV} {cf : CF} {o : Oper}

/-- what a key of a type is -/
theorem key_val (hE : TyOk P E) {kt : Nat} {k : Vv} {kv : Value} (hk : keyOk E kt k = true) (hc : concV φ k = some kv) :
    ∃ tk ks d xs, E.ty.get kt = some tk ∧ plainChk P 10 kt = some ks ∧ confK ks k.2 = true ∧ concL φ k.2 = some xs ∧ (∀ x ∈ xs, Plain x) ∧ P.underlying kt = some d ∧
      P.eqGuardType P.depth kt = false ∧ ((aggD d = true ∧ kv = .agg xs.toArray) ∨ (aggD d = false ∧ xs = [kv])) := by
  unfold keyOk at hk
  cases ht : E.ty.get kt with
  | none => simp [ht] at hk
  | some tk =>
    simp only [ht, Bool.and_eq_true, beq_iff_eq] at hk
    obtain ⟨⟨hp, hag⟩, hcf⟩ := hk
    obtain ⟨ks, hks, hconf, hg⟩ := (hE _ _ ht).plain hp
    obtain ⟨d, hd, _, hda⟩ := (hE _ _ ht).und
    unfold concV at hc
    cases hl : concL φ k.2 with
    | none => simp [hl] at hc
    | some xs =>
      refine ⟨tk, ks, d, xs, rfl, hks, confL_confK hconf hcf, rfl, confL_plain hcf hl, hd, hg, ?_⟩
      simp only [hl] at hc
      cases ha : k.1 with
      | true => simp [ha] at hc; exact .inl ⟨by rw [hda, ← hag, ha], hc.symm⟩
      | false =>
        simp [ha] at hc
        split at hc
        · simp at hc; subst hc; exact .inr ⟨by rw [hda, ← hag, ha], rfl⟩
        · simp at hc

/-- a key of a plain type can be asked for -/
theorem checkKey_plain (empty : Bool) : ∀ (m : Nat) (t : TypeId) (ks : List Kd), plainChk P m t = some ks → ∀ (D : Nat) (d : TypeDesc) (φ : Phi) (w : World) (l : List Sc) (xs : List Value) (x : Value),
    P.underlying t = some d → confK ks l = true → concL φ l = some xs → ((aggD d = true ∧ x = .agg xs.toArray) ∨ (aggD d = false ∧ xs = [x])) →
    (Instr.checkKey empty (D + m) t x).run P w = .ok () w := by
  intro m
  induction m with
  | zero => intro t ks h; simp [plainChk] at h
  | succ m ih =>
    intro t ks h D d φ w l xs x hd hcf hl hx
    simp only [plainChk, hd] at h
    rw [show D + (m + 1) = (D + m) + 1 from rfl]
    have part1 : ∀ (e : TypeId) (k : List Kd) (ei : TypeInfo) (off : Nat), plainChk P m e = some k → P.info? e = some ei → ei.size = k.length →
        confK k ((l.drop off).take k.length) = true → ∃ y, (part e xs.toArray off).run P w = .ok y w ∧ (Instr.checkKey empty (D + m) e y).run P w = .ok () w := by
      intro e k ei off hk hi hsz hck
      have h1 := concL_drop_take hl off k.length
      have hde : ∃ de, P.underlying e = some de := by
        cases m with
        | zero => simp [plainChk] at hk
        | succ m =>
          simp only [plainChk] at hk
          cases hu : P.underlying e with
          | none => simp [hu] at hk
          | some de => exact ⟨de, rfl⟩
      obtain ⟨de, hde⟩ := hde
      cases hag : aggD de with
      | true =>
        refine ⟨.agg ((xs.drop off).take k.length).toArray, run_part hi hde _ off _ (.inl ⟨hag, by simp [hsz]⟩), ?_⟩
        exact ih e k hk D de φ w _ _ _ hde hck h1 (.inl ⟨hag, rfl⟩)
      | false =>
        have hlen := (concL_length h1).trans (confK_length hck)
        have hk1 : k.length = 1 := by
          cases m with
          | zero => simp [plainChk] at hk
          | succ m =>
            simp only [plainChk, hde] at hk
            cases de <;> simp [aggD] at hag <;> simp at hk <;> subst hk <;> rfl
        have one : ∀ (q : List Value), q.length = 1 → ∃ x, q = [x] := fun q hq => by
          match q, hq with
          | [x], _ => exact ⟨x, rfl⟩
        obtain ⟨y, hy⟩ := one _ (hlen.trans hk1)
        refine ⟨y, run_part hi hde _ off _ (.inr ⟨hag, by rw [hsz]; simpa using hy⟩), ?_⟩
        rw [hy] at h1
        exact ih e k hk D de φ w _ _ _ hde hck h1 (.inr ⟨hag, rfl⟩)
    cases d with
    | int q =>
      rcases hx with ⟨hh, _⟩ | ⟨_, rfl⟩
      · simp [aggD] at hh
      · simp at h; subst h
        simp only [Instr.checkKey, Sem.run_bind, run_und hd, Result.andThen_ok]
        obtain ⟨u, v, h1, h2, h3⟩ : ∃ u v, concL φ l = some [u] ∧ u = x ∧ v = () := ⟨x, (), hl, rfl, rfl⟩
        have hp : Plain x := by
          have e1 := confK_length hcf
          match l, e1 with
          | [c], _ =>
            simp [confK] at hcf
            obtain ⟨p, q, g1, g2, g3⟩ := concL_cons.1 hl
            injection g3 with g3 _; subst g3
            cases c <;> simp [Kd.ok] at hcf
            simp [concS] at g1; exact .inr ⟨_, _, g1.symm⟩
        rcases hp with ⟨b, rfl⟩ | ⟨k, n, rfl⟩ <;> simp
    | bool =>
      rcases hx with ⟨hh, _⟩ | ⟨_, rfl⟩
      · simp [aggD] at hh
      · simp at h; subst h
        simp only [Instr.checkKey, Sem.run_bind, run_und hd, Result.andThen_ok]
        have hp : Plain x := by
          have e1 := confK_length hcf
          match l, e1 with
          | [c], _ =>
            simp [confK] at hcf
            obtain ⟨p, q, g1, g2, g3⟩ := concL_cons.1 hl
            injection g3 with g3 _; subst g3
            cases c <;> simp [Kd.ok] at hcf
            simp [concS] at g1; exact .inl ⟨_, g1.symm⟩
        rcases hp with ⟨b, rfl⟩ | ⟨k, n, rfl⟩ <;> simp
    | array n e =>
      rcases hx with ⟨_, rfl⟩ | ⟨hh, _⟩
      · simp only at h
        cases hc : plainChk P m e with
        | none => simp [hc] at h
        | some q =>
          cases hi : P.info? e with
          | none => simp [hc, hi] at h
          | some ei =>
            simp only [hc, hi, cond_eq_ite, Nat.beq_eq] at h
            split at h
            · rename_i hq
              injection h with h; subst h
              simp only [Instr.checkKey, Sem.run_bind, run_und hd, Result.andThen_ok]
              simp only [Std.Legacy.Range.forIn_eq_forIn_range', Std.Legacy.Range.size, Nat.sub_zero, Nat.add_one_sub_one, Nat.div_one]
              have loop : ∀ (c j : Nat), confK (repK c q) (l.drop (j * q.length)) = true →
                  (forIn (List.range' j c) PUnit.unit (fun i _ => do
                    Instr.checkKey empty (D + m) e (← part e xs.toArray (i * (← sizeOf e)))
                    pure (ForInStep.yield PUnit.unit) : Nat → PUnit → Sem (ForInStep PUnit))).run P w = .ok PUnit.unit w := by
                intro c
                induction c with
                | zero => intro j _; simp
                | succ c ihc =>
                  intro j hcj
                  simp only [repK] at hcj
                  obtain ⟨c1, c2⟩ := confK_append hcj
                  rw [List.drop_drop, ← Nat.succ_mul] at c2
                  obtain ⟨y, p1, p2⟩ := part1 e q ei (j * q.length) hc hi hq c1
                  simp only [List.range'_succ, List.forIn_cons, Sem.run_bind, run_sizeOf hi, Result.andThen_ok, hq, p1, p2, Sem.run_pure]
                  exact ihc (j + 1) c2
              have := loop n 0 (by simpa using hcf)
              rw [this]; rfl
            · simp at h
      · simp [aggD] at hh
    | struct fields =>
      rcases hx with ⟨_, rfl⟩ | ⟨hh, _⟩
      · simp only [cond_eq_ite] at h
        split at h
        · simp at h
        · simp only [Instr.checkKey, Sem.run_bind, run_und hd, Result.andThen_ok]
          rw [← Array.forIn_toList]
          have loop : ∀ (fs : List Field) (off : Nat) (ks : List Kd), plainFields P (plainChk P m) fs off = some ks → confK ks (l.drop off) = true →
              (forIn fs PUnit.unit (fun f _ => do
                if f.name ≠ "_" then Instr.checkKey empty (D + m) f.type (← part f.type xs.toArray f.offset)
                pure (ForInStep.yield PUnit.unit) : Field → PUnit → Sem (ForInStep PUnit))).run P w = .ok PUnit.unit w := by
            intro fs
            induction fs with
            | nil => intro off ks _ _; simp
            | cons f fs ihf =>
              intro off ks h hck
              simp only [plainFields] at h
              cases hc : plainChk P m f.type with
              | none => simp [hc] at h
              | some k =>
                cases hi : P.info? f.type with
                | none => simp [hc, hi] at h
                | some fi =>
                  simp only [hc, hi, cond_eq_ite, Bool.and_eq_true, Nat.beq_eq, bne_iff_ne] at h
                  split at h
                  · rename_i hcond
                    obtain ⟨⟨h1, h2⟩, h3⟩ := hcond
                    split at h
                    · rename_i rest hrest
                      injection h with h; subst h
                      obtain ⟨c1, c2⟩ := confK_append hck
                      rw [List.drop_drop] at c2
                      obtain ⟨y, p1, p2⟩ := part1 f.type k fi off hc hi h2 c1
                      have g := ihf (off + k.length) rest hrest c2
                      simp only [List.forIn_cons, Sem.run_bind, ne_eq, h3, not_false_eq_true, if_true, h1, p1, p2, Result.andThen_ok, Sem.run_pure]
                      simpa using g
                    · simp at h
                  · simp at h
          have := loop fields.toList 0 ks h (by simpa using hcf)
          rw [this]; rfl
      · simp [aggD] at hh
    | _ => simp at h
end
end Go.Mx
