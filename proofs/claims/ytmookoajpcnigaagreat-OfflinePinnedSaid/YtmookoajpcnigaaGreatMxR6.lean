/- Regions whose order is drawn: one step of any order. -/
import Derived.Test.YtmookoajpcnigaaGreatMxR5
set_option linter.unusedSimpArgs false
namespace Go.Mx
open Go

theorem DrFacts.seq {ops : Array Oper} {d : Dr} (F : DrFacts ops d) : Seq ops d.order := by
  have key : ∀ (r pre : List Nat), d.order = pre ++ r → Seq ops r := by
    intro r
    induction r with
    | nil => intro _ _; trivial
    | cons i r ih =>
      intro pre he
      have hnd := F.nodup
      rw [he] at hnd
      obtain ⟨_, hnd2, hnd3⟩ := List.nodup_append.1 hnd
      refine ⟨fun o ho t ht j hj q hq hqt => ?_, ih (pre ++ [i]) (by simp [he])⟩
      have := F.dst i j o q t ho hq ht hqt
      subst this
      exact (List.nodup_cons.1 hnd2).1 hj
  exact key d.order [] rfl

theorem freeOk_spec {E : Env} {cf : CF} {ops : Array Oper} {tm : Tm} {l : List St} : ∀ {fr : List (Nat × Nat × Nat)}, freeOk E cf ops tm l fr = true → ∀ i lo hi o, (i, lo, hi) ∈ fr → ops[i]? = some o →
    wanted tm ops o = some true → lo ≤ hi → ∃ dd v, o.dst = some dd ∧ tm.get dd = some v ∧ ∀ k, lo ≤ k → k ≤ hi → ∃ s s', l[k]? = some s ∧ doOp E cf tm s o = some (v, s') := by
  intro fr
  induction fr with
  | nil => intro _ i lo hi o h; simp at h
  | cons a r ih =>
    intro h i lo hi o hm ho hw hr
    obtain ⟨j, lo', hi'⟩ := a
    simp only [freeOk, Bool.and_eq_true] at h
    rcases List.mem_cons.1 hm with he | hm
    · injection he with e1 e2; injection e2 with e2 e3; subst e1; subst e2; subst e3
      have h := h.1
      simp only [ho, hw] at h
      cases hd : o.dst with
      | none => simp [hd] at h
      | some dd =>
        simp only [hd, List.all_eq_true, List.mem_range, Bool.or_eq_true, Nat.ble_eq] at h
        have get : ∀ k, lo ≤ k → k ≤ hi → ∃ s s' v, l[k]? = some s ∧ doOp E cf tm s o = some (v, s') ∧ tm.get dd = some v := by
          intro k h1 h2
          have := h k (by omega)
          rcases this with g | g
          · omega
          · cases hl : l[k]? with
            | none => simp [hl] at g
            | some s =>
              simp only [hl] at g
              cases hdo : doOp E cf tm s o with
              | none => simp [hdo] at g
              | some p =>
                obtain ⟨v, s'⟩ := p
                cases ht : tm.get dd with
                | none => simp [hdo, ht] at g
                | some v' =>
                  simp only [hdo, ht, decide_eq_true_eq] at g
                  subst g
                  exact ⟨s, s', v, rfl, hdo, rfl⟩
        obtain ⟨s, s', v, _, _, hv⟩ := get lo (Nat.le_refl _) hr
        refine ⟨dd, v, rfl, hv, fun k h1 h2 => ?_⟩
        obtain ⟨s, s', v', g1, g2, g3⟩ := get k h1 h2
        rw [hv] at g3; injection g3 with g3; subst g3
        exact ⟨s, s', g1, g2⟩
    · exact ih h.2 i lo hi o hm ho hw hr

section
variable {P : Program} {φ φ0 ψ : Phi} {s s0 τ σ : St} {w w0 w' : World}

theorem Post.ext (h : Post P φ0 s0 w0 ψ τ w) (he : Ext τ σ) (hd : Dom σ) : Post P φ0 s0 w0 ψ σ w where
  sat := {
    obj := fun i o L h1 h2 => by
      rcases he.2.2 i o h1 with g | g
      · exact h.sat.obj i o L g h2
      · have := h.sat.bnd i L h2; omega
    inj := fun i j o o' L L' h1 h2 h3 h4 h5 h6 => by
      rcases he.2.2 i o h1 with g | g
      · rcases he.2.2 j o' h2 with g' | g'
        · exact h.sat.inj i j o o' L L' g g' h3 h4 h5 h6
        · have := h.sat.bnd j L' h4; omega
      · have := h.sat.bnd i L h3; omega
    bnd := fun i L h1 => Nat.lt_of_lt_of_le (h.sat.bnd i L h1) he.1
    dom := hd }
  sub := h.sub
  nx := Nat.le_trans h.nx he.1
  os := h.os
  tape := h.tape
  output := h.output
  size := h.size
  fr := h.fr
  live := fun i o L h1 h2 h3 => by
    rcases he.2.2 i o h1 with g | g
    · exact h.live i o L g h2 h3
    · have := h.sat.bnd i L h2; omega
  new := h.new
  un := fun i o h1 h2 => he.2.1 i o (h.un i o h1 h2)
  newdom := fun i o h1 => by
    rcases he.2.2 i o h1 with g | g
    · exact h.newdom i o g
    · exact .inr (Nat.le_trans h.nx g)

/-- a thing that is there on one side comes to be on the other one -/
theorem Post.add (h : Post P φ0 s0 w0 φ σ w) {n : Nat} {ob : AO} {b : Obj} (hn : φ n = none) (hg : σ.hp.get n = some ob) (h0 : s0.next ≤ n)
    (hobj : objRel P (φ.upd n ⟨w.heap.size, 0, 0⟩) ob ⟨w.heap.size, 0, 0⟩ { w with heap := w.heap.push b }) :
    Post P φ0 s0 w0 (φ.upd n ⟨w.heap.size, 0, 0⟩) σ { w with heap := w.heap.push b } := by
  have hle := Phi.le_upd ⟨w.heap.size, 0, 0⟩ hn
  have hold : ∀ j M, j ≠ n → (φ.upd n ⟨w.heap.size, 0, 0⟩) j = some M → φ j = some M := fun j M e h => by simpa [Phi.upd, e] using h
  have hnew : ∀ M, (φ.upd n ⟨w.heap.size, 0, 0⟩) n = some M → M = ⟨w.heap.size, 0, 0⟩ := fun M h => by simp [Phi.upd] at h; exact h.symm
  have hheap : ∀ k, k < w.heap.size → (w.heap.push b)[k]? = w.heap[k]? := fun k hk => by rw [Array.getElem?_push, if_neg (by omega)]
  refine { sat := ?_, sub := Phi.le_trans h.sub hle, nx := h.nx, os := h.os, tape := h.tape, output := h.output, size := by have := h.size; simp; omega, fr := ?_, live := ?_, new := ?_, un := h.un, newdom := h.newdom }
  · refine { obj := ?_, inj := ?_, bnd := ?_, dom := h.sat.dom }
    · intro i o L h1 h2
      by_cases e : i = n
      · subst e; have := hnew L h2; subst this; rw [hg] at h1; injection h1 with h1; subst h1; exact hobj
      · have hob := h.sat.obj i o L h1 (hold i L e h2)
        exact objRel_mono hle (hheap _ (objRel_lt hob)) hob
    · intro i j o o' L L' h1 h2 h3 h4 h5 h6
      by_cases e : i = n
      · subst e
        have := hnew L h3; subst this
        have hob := h.sat.obj j o' L' h2 (hold j L' (fun e => h6 e.symm) h4)
        have := objRel_lt hob
        simp at h5; omega
      · by_cases e2 : j = n
        · subst e2
          have := hnew L' h4; subst this
          have hob := h.sat.obj i o L h1 (hold i L e h3)
          have := objRel_lt hob
          simp at h5; omega
        · exact h.sat.inj i j o o' L L' h1 h2 (hold i L e h3) (hold j L' e2 h4) h5 h6
    · intro i L h1
      by_cases e : i = n
      · subst e; exact h.sat.dom _ _ hg
      · exact h.sat.bnd i L (hold i L e h1)
  · intro k hk hno
    have := h.size
    simp only []
    rw [hheap k (by omega)]
    exact h.fr k hk hno
  · intro i o L h1 h2 h3
    by_cases e : i = n
    · subst e; have := hnew L h2; subst this; exact .inl h.size
    · exact h.live i o L h1 (hold i L e h2) h3
  · intro i L h1
    by_cases e : i = n
    · subst e
      right
      refine ⟨?_, h0⟩
      cases hq : φ0 i with
      | none => rfl
      | some M => rw [h.sub i M hq] at hn; simp at hn
    · exact h.new i L (hold i L e h1)
end
end Go.Mx
