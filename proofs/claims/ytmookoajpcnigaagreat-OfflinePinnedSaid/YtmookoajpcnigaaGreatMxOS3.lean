/- 'copy' and 'append' of as many bytes as the argument has. -/
import Derived.Test.YtmookoajpcnigaaGreatMxOS2
set_option linter.unusedSimpArgs false
set_option linter.unusedVariables false
namespace Go.Mx
open Go

section
variable {P : Program} {E : Env} {φ : Phi} {s s' : St} {w : World} {tm : Tm} {a : Act} {v : AV} {cf : CF} {o : Oper}

/-- a state behind a step, seen otherwise -/
theorem Post.chg {ψ : Phi} {s1 s2 : St} {w' : World} (h : Post P φ s w ψ s1 w') (hn : s2.next = s1.next)
    (hg : ∀ i, s2.hp.get i = s1.hp.get i ∨ ∃ o1 o2, s1.hp.get i = some o1 ∧ s2.hp.get i = some o2 ∧ (∀ L, ψ i = some L → objRel P ψ o1 L w' → objRel P ψ o2 L w') ∧
      (o1.isRo = true → o2.isRo = true) ∧ (s.hp.get i = none ∨ ∃ L, φ i = some L)) : Post P φ s w ψ s2 w' := by
  have hdom : ∀ {i o}, s2.hp.get i = some o → ∃ o1, s1.hp.get i = some o1 ∧ (o1.isRo = true → o.isRo = true) ∧ (∀ L, ψ i = some L → objRel P ψ o1 L w' → objRel P ψ o L w') := fun {i o} hi => by
    rcases hg i with h1 | ⟨o1, o2, h1, h2, h3, h4, _⟩
    · exact ⟨o, by rw [← h1]; exact hi, fun h => h, fun _ _ h => h⟩
    · rw [h2] at hi; injection hi with hi; subst hi; exact ⟨o1, h1, h4, h3⟩
  refine ⟨⟨fun i o L hi hL => ?_, fun i j o o' L L' hi hj hL hL' hb hne => ?_, fun i L hL => by rw [hn]; exact h.sat.bnd i L hL, fun i o hi => ?_⟩, h.sub, by rw [hn]; exact h.nx, h.os, h.tape, h.output, h.size, h.fr, fun i o L hi hL hro => ?_, h.new, fun i o hi ho => ?_, fun i o hi => ?_⟩
  · obtain ⟨o1, h1, _, h3⟩ := hdom hi
    exact h3 L hL (h.sat.obj i o1 L h1 hL)
  · obtain ⟨o1, h1, h2, _⟩ := hdom hi
    obtain ⟨o2, h3, h4, _⟩ := hdom hj
    have := h.sat.inj i j o1 o2 L L' h1 h3 hL hL' hb hne
    exact ⟨h2 this.1, h4 this.2⟩
  · obtain ⟨o1, h1, _, _⟩ := hdom hi
    rw [hn]; exact h.sat.dom i o1 h1
  · obtain ⟨o1, h1, h2, _⟩ := hdom hi
    refine h.live i o1 L h1 hL ?_
    cases ho1 : o1.isRo with
    | false => rfl
    | true => rw [h2 ho1] at hro; cases hro
  · have h1 := h.un i o hi ho
    rcases hg i with h2 | ⟨o1, o2, _, _, _, _, h5⟩
    · rw [h2]; exact h1
    · rcases h5 with h5 | ⟨L, h5⟩
      · rw [h5] at ho; cases ho
      · rw [h5] at hi; cases hi
  · obtain ⟨o1, h1, _⟩ := hdom hi
    exact h.newdom i o1 h1

/-- a state with the argument's length put in -/
def actO (n : Nat) : AO → AO
  | .sy c => .ro n c
  | o => o
theorem Sat.act (hs : Sat P φ s w) {N : Lo} (hN : φ 0 = some N) : Sat P φ ⟨s.next, s.hp.mp (actO (nlen N))⟩ w := by
  have hg : ∀ {i o}, (s.hp.mp (actO (nlen N))).get i = some o → ∃ o1, s.hp.get i = some o1 ∧ o = actO (nlen N) o1 := fun {i o} hi => by
    rw [PT.mp_get] at hi
    cases hq : s.hp.get i with
    | none => rw [hq] at hi; cases hi
    | some o1 => rw [hq] at hi; injection hi with hi; exact ⟨o1, rfl, hi.symm⟩
  refine ⟨fun i o L hi hL => ?_, fun i j o o' L L' hi hj hL hL' hb hne => ?_, hs.bnd, fun i o hi => ?_⟩
  · obtain ⟨o1, h1, rfl⟩ := hg hi
    have := hs.obj i o1 L h1 hL
    cases o1 with
    | sy c =>
      obtain ⟨N', cs, e, fr, h0, h2, h3⟩ := this
      rw [hN] at h0; injection h0 with h0; subst h0
      exact ⟨cs, e, fr, h2, h3⟩
    | _ => exact this
  · obtain ⟨o1, h1, rfl⟩ := hg hi
    obtain ⟨o2, h2, rfl⟩ := hg hj
    have := hs.inj i j o1 o2 L L' h1 h2 hL hL' hb hne
    constructor
    · cases o1 <;> first | exact this.1 | rfl
    · cases o2 <;> first | exact this.2 | rfl
  · obtain ⟨o1, h1, rfl⟩ := hg hi
    exact hs.dom i o1 h1

theorem cellsV_take (z : Zr) (t : PT Sc) : ∀ (u n k : Nat), n ≤ u → cellsV z t k n = (cellsV z t k u).take n := by
  intro u
  induction u with
  | zero => intro n k h; have : n = 0 := by omega
            subst this; rfl
  | succ u ih =>
    intro n k h
    cases n with
    | zero => rfl
    | succ n => simp only [cellsV, List.take_succ_cons]; rw [ih n (k + 1) (by omega)]
theorem cellsR_take (f : Nat → Sc) : ∀ (u n k : Nat), n ≤ u → cellsR f k n = (cellsR f k u).take n := by
  intro u
  induction u with
  | zero => intro n k h; have : n = 0 := by omega
            subst this; rfl
  | succ u ih =>
    intro n k h
    cases n with
    | zero => rfl
    | succ n => simp only [cellsR, List.take_succ_cons]; rw [ih n (k + 1) (by omega)]

theorem symSrc_len {q : Nat × Nat} {u : Nat} {new : List Sc} (h : symSrc s q u = some new) : new.length = u := by
  unfold symSrc at h
  split at h
  · simp only [cond_eq_ite, Nat.ble_eq] at h
    split at h
    · injection h with h; subst h; exact cellsV_length _ _ _ _
    · simp at h
  · simp only [cond_eq_ite, Nat.beq_eq] at h
    split at h
    · injection h with h; subst h; exact cellsR_length _ _ _
    · simp at h
  · simp at h

/-- the source's cells, as many as there are -/
theorem symSrc_ld {N : Lo} {q : Nat × Nat} {u : Nat} {new : List Sc} (h : symSrc s q u = some new) (hn : nlen N ≤ u) :
    ldCells ⟨s.next, s.hp.mp (actO (nlen N))⟩ q (nlen N) = some (new.take (nlen N)) := by
  unfold symSrc at h
  unfold ldCells
  simp only [PT.mp_get]
  split at h
  · rename_i n z t e op hg
    simp only [cond_eq_ite, Nat.ble_eq] at h
    split at h
    · rename_i hle
      injection h with h; subst h
      simp only [hg, Option.map_some, actO, cond_eq_ite, Nat.ble_eq]
      rw [if_pos (by omega), cellsV_take z t u (nlen N) q.2 hn]
    · simp at h
  · rename_i c hg
    simp only [cond_eq_ite, Nat.beq_eq] at h
    split at h
    · rename_i h0
      injection h with h; subst h
      simp only [hg, Option.map_some, actO, cond_eq_ite, Nat.ble_eq, h0]
      rw [if_pos (by omega), cellsR_take c u (nlen N) 0 hn]
    · simp at h
  · simp at h

theorem mixL_len : ∀ {i : Nat} {l m c : List Sc}, mixL i l m = some c → c.length = l.length ∧ m.length = l.length := by
  intro i l
  induction l generalizing i with
  | nil => intro m c h; cases m with
    | nil => simp only [mixL] at h; injection h with h; subst h; exact ⟨rfl, rfl⟩
    | cons b q => simp [mixL] at h
  | cons a r ih => intro m c h; cases m with
    | nil => simp [mixL] at h
    | cons b q =>
      simp only [mixL] at h
      split at h
      · rename_i c1 l1 h1 h2
        injection h with h; subst h
        have := ih h2
        simp [this.1, this.2]
      · simp at h
theorem mixL_get : ∀ {i : Nat} {l m c : List Sc}, mixL i l m = some c → ∀ (j : Nat) (x : Sc), c[j]? = some x → ∃ p q, l[j]? = some p ∧ m[j]? = some q ∧ mixS (i + j) p q = some x := by
  intro i l
  induction l generalizing i with
  | nil => intro m c h j x hx; cases m with
    | nil => simp only [mixL] at h; injection h with h; subst h; simp at hx
    | cons b q => simp [mixL] at h
  | cons a r ih => intro m c h j x hx; cases m with
    | nil => simp [mixL] at h
    | cons b q =>
      simp only [mixL] at h
      split at h
      · rename_i c1 l1 h1 h2
        injection h with h; subst h
        cases j with
        | zero => simp at hx; subst hx; exact ⟨a, b, by simp, by simp, h1⟩
        | succ j =>
          simp at hx
          obtain ⟨p, q', g1, g2, g3⟩ := ih h2 j x hx
          exact ⟨p, q', by simpa using g1, by simpa using g2, by rw [show i + (j + 1) = i + 1 + j from by omega]; exact g3⟩
      · simp at h
theorem mixS_conc {N : Lo} (hN : φ 0 = some N) {j : Nat} {p q x : Sc} (h : mixS j p q = some x) :
    (j < nlen N → ∀ y, concS φ p = some y → concS φ x = some y) ∧ (nlen N ≤ j → ∀ y, concS φ q = some y → concS φ x = some y) := by
  unfold mixS at h
  split at h
  · rename_i k old b
    simp only [cond_eq_ite, Nat.beq_eq] at h
    split at h
    · rename_i hk
      injection h with h; subst h
      refine ⟨fun hj y hy => ?_, fun hj y hy => ?_⟩
      · simp only [concS, hN] at hy ⊢
        rw [if_pos (by omega)] at hy ⊢; exact hy
      · simp only [concS, hN] at hy ⊢
        rw [if_neg (by omega)]; exact hy
    · simp at h
  · rename_i k old k' b
    simp only [cond_eq_ite, Bool.and_eq_true, Nat.beq_eq] at h
    split at h
    · rename_i hk
      injection h with h; subst h
      refine ⟨fun hj y hy => ?_, fun hj y hy => ?_⟩
      · simp only [concS, hN] at hy ⊢
        rw [if_pos (by omega)] at hy ⊢; exact hy
      · simp only [concS, hN] at hy ⊢
        rw [if_neg (by omega)] at hy ⊢; exact hy
    · simp at h
  · simp at h
end
end Go.Mx
