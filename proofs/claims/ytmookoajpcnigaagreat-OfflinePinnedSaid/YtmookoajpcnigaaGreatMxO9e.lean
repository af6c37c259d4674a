/- 'append', as a built-in function. -/
import Derived.Test.YtmookoajpcnigaaGreatMxO9d
set_option linter.unusedSimpArgs false
namespace Go.Mx
open Go

section
variable {P : Program} {E : Env} {φ : Phi} {s s' : St} {w : World} {tm : Tm} {a : Act} {v : AV} {cf : CF} {o : Oper}

theorem bi_append (hE : TyOk P E) (hs : Sat P φ s w) {tys : List Nat} {args : List Operand} {ty : Nat} {cs : Array Bool} (hev : ∀ x ∈ args, EvOk P φ tm a x)
    (h : builtinOp0 E tm s .append tys args = some (v, s')) : Done P φ s w s' v ((builtin .append tys.toArray ty cs (args.map a.eval).toArray).run P w) := by
  unfold builtinOp0 at h
  split at h <;> simp only [reduceCtorEq, false_and, and_false] at *
  all_goals try contradiction
  rename_i t t' x y _
  have hx := hev x (by simp)
  have hy := hev y (by simp)
  have fin : (∃ ψ q w', (Builtin.append_ #[t, t'] ty #[a.eval x, a.eval y]).run P w = .ok q w' ∧ Post P φ s w ψ s' w' ∧ conc P ψ v = some q) →
      Done P φ s w s' v ((builtin .append [t, t'].toArray ty cs (List.map a.eval [x, y]).toArray).run P w) := fun ⟨ψ, q, w', r1, r2, r3⟩ =>
    ⟨ψ, q, w', .inl (by simp only [builtin]; exact run_v _ r1), r2, r3⟩
  refine fin ?_
  split at h
  · rename_i e _ _ ti' ad len cap op u ht ht' hxe hye
    obtain ⟨d, hd, hdk, _⟩ := (hE _ _ ht).und
    simp only [KindOk] at hdk; subst hdk
    obtain ⟨d', hd', hdk', _⟩ := (hE _ _ ht').und
    have hxc := evV_one hx hxe
    have hyc := hy _ hye
    split at h
    · rename_i te hte
      obtain ⟨i0, z0, k1, k2, k3, k4, k5, k6, _⟩ := (hE _ _ hte).info
      have other : (∀ k, d' ≠ .int k) → (match lenS u with
          | some n => match srcCells s te.size n u with
            | some new => bif Nat.beq new.length (n * te.size) then appendOp te e s ad len cap op new n else none
            | none => none
          | none => none) = some (v, s') →
          (∃ ψ q w', (Builtin.append_ #[t, t'] ty #[a.eval x, a.eval y]).run P w = .ok q w' ∧ Post P φ s w ψ s' w' ∧ conc P ψ v = some q) := fun hnot h => by
        split at h
        · rename_i n hn
          split at h
          · rename_i new hnew
            simp only [cond_eq_ite, Nat.beq_eq] at h
            split at h
            · rename_i hl
              obtain ⟨vs, g1, g2⟩ := src_ok hs hyc hn (Nat.le_refl _) hnew
              refine append_done hE hs hd hte hd' g1 hl (fun i z hi hz => .inr ⟨hnot, fun w => lenS_run hyc hn, fun w' hw => ?_⟩) hxc h
              have : i.size = te.size := by rw [hi] at k1; injection k1 with k1; rw [k1, k2]
              rw [this]
              exact g2 w' hw
            · simp at h
          · simp at h
        · simp at h
      split at h
      · rename_i kk q1 n hkk
        rw [hkk] at hdk'; simp only [KindOk] at hdk'; subst hdk'
        simp only [cond_eq_ite, Nat.ble_eq] at h
        split at h
        · rename_i hn
          obtain ⟨i, z, h1, h2, h3, h4, h5, h6⟩ := zero_row hE hte (φ := φ) n
          have hyv : a.eval y = .int q1 (n : Int) := by simpa [conc, concS] using hyc.symm
          refine append_done hE hs hd hte hd' h6 (by rw [repCells_length, ← k6]) (fun i' z' hi hz => .inl ⟨⟨_, rfl⟩, ⟨q1, hyv⟩, hn, ?_⟩) hxc h
          rw [hi] at h1; injection h1 with h1; subst h1
          rw [hz] at h4; injection h4 with h4; subst h4
          simp [Builtin.zeroCells, h5]
          apply Array.ext'; simp
        · simp at h
      · simp at h
      · simp at h
      · rename_i h2 h3 _
        refine other (fun k e => ?_) h
        subst e
        cases hkk : ti'.kind <;> rw [hkk] at hdk' <;> simp [KindOk] at hdk'
        · exact h2 _ hkk
        · exact h3 hkk
    · simp at h
  · simp at h
end
end Go.Mx
