/- Operations: equality of plain aggregates, and all that stands between two operands. -/
import Derived.Test.YtmookoajpcnigaaGreatMxO4
import Derived.DeepKeys
set_option linter.unusedSimpArgs false
namespace Go.Mx
open Go

theorem eqL_append : ∀ {l1 m1 l2 m2 : List Sc} {r : Bool}, l1.length = m1.length → eqL (l1 ++ l2) (m1 ++ m2) = some r →
    ∃ r1 r2, eqL l1 m1 = some r1 ∧ eqL l2 m2 = some r2 ∧ r = (r1 && r2) := by
  intro l1
  induction l1 with
  | nil => intro m1 l2 m2 r h e; cases m1 with | nil => exact ⟨true, r, rfl, e, by simp⟩ | cons => simp at h
  | cons a l ih =>
    intro m1 l2 m2 r h e
    cases m1 with
    | nil => simp at h
    | cons b m =>
      simp only [List.cons_append, eqL] at e
      cases hab : eqSc a b with
      | none => simp [hab] at e
      | some x =>
        cases hr : eqL (l ++ l2) (m ++ m2) with
        | none => simp [hab, hr] at e
        | some y =>
          simp [hab, hr] at e
          obtain ⟨r1, r2, h1, h2, h3⟩ := ih (by simpa using h) hr
          exact ⟨x && r1, r2, by simp [eqL, hab, h1], h2, by rw [← e, h3, Bool.and_assoc]⟩

theorem eqL_cut {l m : List Sc} {r : Bool} (k : Nat) (hlen : l.length = m.length) (h : eqL l m = some r) :
    ∃ r1 r2, eqL (l.take k) (m.take k) = some r1 ∧ eqL (l.drop k) (m.drop k) = some r2 ∧ r = (r1 && r2) := by
  refine eqL_append (by simp [hlen]) ?_
  rw [List.take_append_drop, List.take_append_drop]; exact h

section
variable {P : Program} {φ : Phi} {w : World}

theorem confK_length : ∀ {ks : List Kd} {l : List Sc}, confK ks l = true → l.length = ks.length := by
  intro ks
  induction ks with
  | nil => intro l h; cases l with | nil => rfl | cons => simp [confK] at h
  | cons k r ih =>
    intro l h
    cases l with
    | nil => simp [confK] at h
    | cons c q => simp [confK] at h; simp [ih h.2]

theorem confK_append : ∀ {k1 k2 : List Kd} {l : List Sc}, confK (k1 ++ k2) l = true → confK k1 (l.take k1.length) = true ∧ confK k2 (l.drop k1.length) = true := by
  intro k1
  induction k1 with
  | nil => intro k2 l h; exact ⟨rfl, by simpa using h⟩
  | cons k r ih =>
    intro k2 l h
    cases l with
    | nil => simp [confK] at h
    | cons c q =>
      simp only [List.cons_append, confK, Bool.and_eq_true] at h
      obtain ⟨h1, h2⟩ := ih h.2
      exact ⟨by simp [confK, h.1, h1], by simpa using h2⟩

theorem sameKd_ok {k : Kd} {z c : Sc} (h : k.ok z = true) (hs : sameKd z c = true) : k.ok c = true := by
  cases k <;> cases z <;> simp [Kd.ok] at h <;> cases c <;> simp [sameKd] at hs <;> simp [Kd.ok]
  rw [h, hs]

theorem confL_confK : ∀ {ks : List Kd} {z l : List Sc}, confK ks z = true → confL z l = true → confK ks l = true := by
  intro ks
  induction ks with
  | nil => intro z l h hl; cases z with | nil => (cases l with | nil => rfl | cons => simp [confL] at hl) | cons => simp [confK] at h
  | cons k r ih =>
    intro z l h hl
    cases z with
    | nil => simp [confK] at h
    | cons a z =>
      cases l with
      | nil => simp [confL] at hl
      | cons c q =>
        simp [confK] at h; simp [confL] at hl
        simp [confK, sameKd_ok h.1 hl.1, ih h.2 hl.2]

/-- two values of a type, equal as their cells are -/
def EqOk (P : Program) (D : Nat) (t : TypeId) (ks : List Kd) : Prop :=
  ∀ (φ : Phi) (w : World) (l m : List Sc) (xs ys : List Value) (r : Bool), concL φ l = some xs → concL φ m = some ys → confK ks l = true → confK ks m = true → eqL l m = some r →
    (∃ d, P.underlying t = some d ∧ (aggD d = true → (Op.equalIn D t (.agg xs.toArray) (.agg ys.toArray)).run P w = .ok r w) ∧
      (aggD d = false → ks.length = 1 ∧ ∀ x y, xs = [x] → ys = [y] → (Op.equalIn D t x y).run P w = .ok r w))

theorem eq_part {D : Nat} {t : TypeId} {ks : List Kd} {i : TypeInfo} (h : EqOk P D t ks) (hi : P.info? t = some i) (hn : i.size = ks.length) {l m : List Sc} {xs ys : List Value} {r : Bool} (off : Nat)
    (hl : concL φ l = some xs) (hm : concL φ m = some ys) (hkl : confK ks ((l.drop off).take ks.length) = true) (hkm : confK ks ((m.drop off).take ks.length) = true)
    (he : eqL ((l.drop off).take ks.length) ((m.drop off).take ks.length) = some r) :
    ∃ x y, (part t xs.toArray off).run P w = .ok x w ∧ (part t ys.toArray off).run P w = .ok y w ∧ (Op.equalIn D t x y).run P w = .ok r w := by
  have h1 := concL_drop_take hl off ks.length
  have h2 := concL_drop_take hm off ks.length
  obtain ⟨d, hd, ha, hb⟩ := h φ w _ _ _ _ r h1 h2 hkl hkm he
  cases hag : aggD d with
  | true =>
    refine ⟨_, _, run_part hi hd _ off _ (.inl ⟨hag, rfl⟩), run_part hi hd _ off _ (.inl ⟨hag, rfl⟩), ?_⟩
    rw [hn]; simpa using ha hag
  | false =>
    obtain ⟨h0, hb⟩ := hb hag
    have k1 := (concL_length h1).trans (confK_length hkl)
    have k2 := (concL_length h2).trans (confK_length hkm)
    have one : ∀ (q : List Value), q.length = 1 → ∃ x, q = [x] := fun q hq => by
      match q, hq with
      | [x], _ => exact ⟨x, rfl⟩
    obtain ⟨x, hx⟩ := one _ (k1.trans h0)
    obtain ⟨y, hy⟩ := one _ (k2.trans h0)
    exact ⟨x, y, run_part hi hd _ off _ (.inr ⟨hag, by rw [hn]; simpa using hx⟩), run_part hi hd _ off _ (.inr ⟨hag, by rw [hn]; simpa using hy⟩), hb x y hx hy⟩

theorem eq_fields {D : Nat} {chk : TypeId → Option (List Kd)} (hchk : ∀ t ks, chk t = some ks → EqOk P D t ks) : ∀ (fs : List Field) (off : Nat) (ks : List Kd) (l m : List Sc) (xs ys : List Value) (r : Bool),
    plainFields P chk fs off = some ks → concL φ l = some xs → concL φ m = some ys → confK ks (l.drop off) = true → confK ks (m.drop off) = true → eqL (l.drop off) (m.drop off) = some r →
    (Op.eqFields D xs.toArray ys.toArray fs).run P w = .ok r w := by
  intro fs
  induction fs with
  | nil =>
    intro off ks l m xs ys r h _ _ hl hm he
    simp [plainFields] at h; subst h
    have h1 : l.drop off = [] := List.eq_nil_of_length_eq_zero (confK_length hl)
    have h2 : m.drop off = [] := List.eq_nil_of_length_eq_zero (confK_length hm)
    rw [h1, h2] at he
    simp [eqL] at he; subst he
    simp [Op.eqFields]
  | cons f fs ih =>
    intro off ks l m xs ys r h hl hm hll hml he
    simp only [plainFields] at h
    cases hc : chk f.type with
    | none => simp [hc] at h
    | some k =>
      cases hi : P.info? f.type with
      | none => simp [hc, hi] at h
      | some fi =>
        simp only [hc, hi, cond_eq_ite, Bool.and_eq_true, Nat.beq_eq, bne_iff_ne] at h
        split at h
        · rename_i hcond
          obtain ⟨⟨h1, h2⟩, h3⟩ := hcond
          split at h
          · rename_i rest hrest
            injection h with h; subst h
            obtain ⟨cl1, cl2⟩ := confK_append hll
            obtain ⟨cm1, cm2⟩ := confK_append hml
            obtain ⟨r1, r2, e1, e2, rfl⟩ := eqL_cut k.length (by rw [confK_length hll, confK_length hml]) he
            rw [List.drop_drop] at cl2 cm2
            rw [List.drop_drop, List.drop_drop] at e2
            have g1 := ih (off + k.length) rest l m xs ys r2 hrest hl hm cl2 cm2 e2
            obtain ⟨x, y, p1, p2, p3⟩ := eq_part (φ := φ) (w := w) (hchk _ _ hc) hi h2 off hl hm cl1 cm1 e1
            simp only [Op.eqFields, ne_eq, h3, not_false_eq_true, if_true, Sem.run_bind, h1, p1, p2, p3, Result.andThen_ok]
            cases r1 with
            | true => simpa using g1
            | false => simp
          · simp at h
        · simp at h

theorem eq_items {D : Nat} {e : TypeId} {k : List Kd} {ei : TypeInfo} (h : EqOk P D e k) (hi : P.info? e = some ei) (hk : ei.size = k.length) : ∀ (c j : Nat) (l m : List Sc) (xs ys : List Value) (r : Bool),
    concL φ l = some xs → concL φ m = some ys → confK (repK c k) (l.drop (j * k.length)) = true → confK (repK c k) (m.drop (j * k.length)) = true →
    eqL (l.drop (j * k.length)) (m.drop (j * k.length)) = some r → (Op.eqItems D e k.length xs.toArray ys.toArray (List.range' j c)).run P w = .ok r w := by
  intro c
  induction c with
  | zero =>
    intro j l m xs ys r _ _ hl hm he
    have h1 : l.drop (j * k.length) = [] := List.eq_nil_of_length_eq_zero (confK_length hl)
    have h2 : m.drop (j * k.length) = [] := List.eq_nil_of_length_eq_zero (confK_length hm)
    rw [h1, h2] at he
    simp [eqL] at he; subst he
    simp [Op.eqItems]
  | succ c ih =>
    intro j l m xs ys r hl hm hll hml he
    simp only [repK] at hll hml
    obtain ⟨cl1, cl2⟩ := confK_append hll
    obtain ⟨cm1, cm2⟩ := confK_append hml
    obtain ⟨r1, r2, e1, e2, rfl⟩ := eqL_cut k.length (by rw [confK_length hll, confK_length hml]) he
    rw [List.drop_drop, ← Nat.succ_mul] at cl2 cm2
    rw [List.drop_drop, List.drop_drop, ← Nat.succ_mul] at e2
    have g := ih (j + 1) l m xs ys r2 hl hm cl2 cm2 e2
    obtain ⟨x, y, p1, p2, p3⟩ := eq_part (φ := φ) (w := w) h hi hk (j * k.length) hl hm cl1 cm1 e1
    simp only [List.range'_succ, Op.eqItems, Sem.run_bind, p1, p2, p3, Result.andThen_ok]
    cases r1 with
    | true => simpa using g
    | false => simp

theorem eq_plain : ∀ (m : Nat) (t : TypeId) (ks : List Kd), plainChk P m t = some ks → ∀ D, EqOk P (D + m) t ks := by
  intro m
  induction m with
  | zero => intro t n h; simp [plainChk] at h
  | succ m ih =>
    intro t ks h D φ w l m' xs ys r hl hm hll hml he
    simp only [plainChk] at h
    have cell : ∀ k, ks = [k] → (∀ x y c c' b, k.ok c = true → k.ok c' = true → concS φ c = some x → concS φ c' = some y → eqSc c c' = some b → (Op.equalIn (D + (m + 1)) t x y).run P w = .ok b w) →
        ∀ x y, xs = [x] → ys = [y] → (Op.equalIn (D + (m + 1)) t x y).run P w = .ok r w := by
      intro k hn hall x y hx hy
      subst hn; subst hx; subst hy
      have e1 := confK_length hll
      have e2 := confK_length hml
      match l, e1, m', e2 with
      | [c], _, [c'], _ =>
        obtain ⟨u, v, h1, h2, h3⟩ := concL_cons.1 hl
        obtain ⟨u', v', h1', h2', h3'⟩ := concL_cons.1 hm
        injection h3 with h3 _; subst h3
        injection h3' with h3' _; subst h3'
        simp only [eqL] at he
        simp [confK] at hll hml
        cases hb : eqSc c c' with
        | none => simp [hb] at he
        | some b => simp [hb] at he; subst he; exact hall _ _ c c' b hll hml h1 h1' hb
    cases hu : P.underlying t with
    | none => simp [hu] at h
    | some d =>
      refine ⟨d, rfl, ?_, ?_⟩
      · intro hag
        cases d with
        | array k e =>
          simp only [hu] at h
          cases hc : plainChk P m e with
          | none => simp [hc] at h
          | some q =>
            cases hi : P.info? e with
            | none => simp [hc, hi] at h
            | some ei =>
              simp only [hc, hi, cond_eq_ite, Nat.beq_eq] at h
              split at h
              · rename_i hq
                injection h with h; subst h
                rw [show D + (m + 1) = (D + m) + 1 from rfl, run_equalIn_array w (D + m) xs.toArray ys.toArray hu hi, cellsOf_eq hi, hq, List.range_eq_range']
                exact eq_items (ih e q hc D) hi hq k 0 l m' xs ys r hl hm (by simpa using hll) (by simpa using hml) (by simpa using he)
              · simp at h
        | struct fields =>
          simp only [hu, cond_eq_ite] at h
          split at h
          · simp at h
          · rename_i hst
            have hfs : P.fieldsOf t = fields := by simp [Program.fieldsOf, hu]
            rw [show D + (m + 1) = (D + m) + 1 from rfl, run_equalIn_struct w (D + m) t xs.toArray ys.toArray (by rw [hfs]; exact hu) (by simpa using hst), hfs]
            exact eq_fields (fun t n hh => ih t n hh D) fields.toList 0 ks l m' xs ys r h hl hm (by simpa using hll) (by simpa using hml) (by simpa using he)
        | _ => simp [aggD] at hag
      · intro hag
        cases d with
        | int k =>
          simp only [hu, Option.some.injEq] at h
          subst h
          refine ⟨rfl, cell _ rfl ?_⟩
          intro x y c c' b hk hk' hx hy hb
          cases c <;> simp [Kd.ok] at hk
          cases c' <;> simp [Kd.ok] at hk'
          subst hk; subst hk'
          simp [eqSc] at hb; subst hb
          simp [concS] at hx hy; subst hx; subst hy
          rw [show D + (m + 1) = (D + m) + 1 from rfl, run_equalIn_int _ _ _ _ _ _ _ hu]
        | bool =>
          simp only [hu, Option.some.injEq] at h
          subst h
          refine ⟨rfl, cell _ rfl ?_⟩
          intro x y c c' b hk hk' hx hy hb
          cases c <;> simp [Kd.ok] at hk
          cases c' <;> simp [Kd.ok] at hk'
          simp [eqSc] at hb; subst hb
          simp [concS] at hx hy; subst hx; subst hy
          rw [show D + (m + 1) = (D + m) + 1 from rfl, run_equalIn_bool' _ _ _ _ _ hu]
        | _ => first | (simp [aggD] at hag; done) | (simp [hu] at h; done)
end
end Go.Mx
