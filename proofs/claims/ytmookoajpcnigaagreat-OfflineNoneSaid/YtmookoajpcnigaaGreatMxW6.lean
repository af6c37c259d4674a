/- A part of the abstract interpreter: a step on the way to the statement. -/
import Derived.Test.YtmookoajpcnigaaGreatMxR23
set_option linter.unusedSimpArgs false
set_option linter.unusedVariables false
namespace Go.Mx
open Go Go.Proofs
theorem offlineNone_walk (a0 : Int) (w0 : (Lit.int .i64 a0).wf = true) (w : World) : Calls Tryz.prog 6 #[.int .i64 a0] w fun e w' => e = .returned (.bool true) ∧ Stays w w' := by
  have hw : -9223372036854775808 ≤ a0 ∧ a0 ≤ 9223372036854775807 := by
    simp only [Lit.wf, Bool.and_eq_true, decide_eq_true_eq, IntKind.min, IntKind.max, IntKind.signed, IntKind.bits] at w0
    simp at w0; omega
  have hs : Sat Tryz.prog (phi0.put 3 (ofI a0)) s210 w := Sat.ghost s210 rfl fun i L h => by
    by_cases e : i = 3
    · subst e; decide
    · rw [Phi.put_other _ _ e] at h; cases h
  have hl : ∀ lo hi : Int, lo ≤ a0 → a0 ≤ hi → concs Tryz.prog (phi0.put 3 (ofI a0)) [.one (.ln 3 0 lo hi)] = some [.int .i64 a0] := fun lo hi h1 h2 => by
    simp only [concs, conc, concS, Phi.put_self, gval_ofI, Int.add_zero]
    rw [if_pos ⟨h1, h2⟩]
  have hro : ∀ i o, s210.hp.get i = some o → o.isRo = true := fun i o h => by simp [s210, PT.get] at h
  by_cases h1 : a0 < 0
  · exact run_true E23_ok on_lo hro hs (hl _ _ (by omega) (by omega))
  · by_cases h2 : 32 ≤ a0
    · exact run_true E23_ok on_hi hro hs (hl _ _ (by omega) (by omega))
    · have hm := List.all_eq_true.1 on_mid a0.toNat (by simp; omega)
      have he : Int.ofNat a0.toNat = a0 := by simp; omega
      simp only [he] at hm
      exact run_true E23_ok hm hro hs rfl
end Go.Mx
