/- The closed facts of the row of 'EvictFrees'. -/
import Derived.Test.YtmookoajpcnigaaGreatMxFactsP
import Derived.ProofKit
set_option linter.unusedVariables false
namespace Go.Proofs.YtmookoajpcnigaaGreat.evictFrees
open Go Go.Proofs.YtmookoajpcnigaaGreat.Facts
theorem k0 : K0 Tryz.prog 5 Tryz.f5 Rows.evictFreesSpec Rows.evictFreesRow = true := by kernel_rfl
theorem k3 : K3 Tryz.prog 5 Tryz.f5 Rows.evictFreesSpec Rows.evictFreesRow = true := by kernel_rfl
theorem k4 : K4 Tryz.prog 5 Tryz.f5 Rows.evictFreesSpec Rows.evictFreesRow = true := by kernel_rfl
theorem k5 : K5 Tryz.prog 5 Tryz.f5 Rows.evictFreesSpec Rows.evictFreesRow = true := by kernel_rfl
theorem k7 : K7 Tryz.prog 5 Tryz.f5 Rows.evictFreesSpec Rows.evictFreesRow = true := by kernel_rfl
theorem k9 : K9 Tryz.prog 5 Tryz.f5 Rows.evictFreesSpec Rows.evictFreesRow = true := by kernel_rfl
theorem k10 : K10 Tryz.prog 5 Tryz.f5 Rows.evictFreesSpec Rows.evictFreesRow = true := by kernel_rfl
theorem k11 : K11 Tryz.prog 5 Tryz.f5 Rows.evictFreesSpec Rows.evictFreesRow = true := by kernel_rfl
theorem k12 : K12 Tryz.prog 5 Tryz.f5 Rows.evictFreesSpec Rows.evictFreesRow = true := by kernel_rfl
theorem k13 : K13 Tryz.prog 5 Tryz.f5 Rows.evictFreesSpec Rows.evictFreesRow = true := by kernel_rfl
theorem k14 : K14 Tryz.prog 5 Tryz.f5 Rows.evictFreesSpec Rows.evictFreesRow = true := by kernel_rfl
theorem k15 : K15 Tryz.prog 5 Tryz.f5 Rows.evictFreesSpec Rows.evictFreesRow = true := by kernel_rfl
theorem k16 : K16 Tryz.prog 5 Tryz.f5 Rows.evictFreesSpec Rows.evictFreesRow = true := by kernel_rfl
theorem k17 : K17 Tryz.prog 5 Tryz.f5 Rows.evictFreesSpec Rows.evictFreesRow = true := by kernel_rfl
theorem k18 : K18 Tryz.prog 5 Tryz.f5 Rows.evictFreesSpec Rows.evictFreesRow = true := by kernel_rfl
theorem k19 : K19 Tryz.prog 5 Tryz.f5 Rows.evictFreesSpec Rows.evictFreesRow = true := by kernel_rfl
theorem k20 : K20 Tryz.prog 5 Tryz.f5 Rows.evictFreesSpec Rows.evictFreesRow = true := by kernel_rfl
theorem k21 : K21 Tryz.prog 5 Tryz.f5 Rows.evictFreesSpec Rows.evictFreesRow = true := by kernel_rfl
theorem k22 : K22 Tryz.prog 5 Tryz.f5 Rows.evictFreesSpec Rows.evictFreesRow = true := by kernel_rfl
theorem k23 : K23 Tryz.prog 5 Tryz.f5 Rows.evictFreesSpec Rows.evictFreesRow = true := by kernel_rfl
theorem k26 : K26 Tryz.prog 5 Tryz.f5 Rows.evictFreesSpec Rows.evictFreesRow = true := by
  show (Rows.evictFreesRow.lifted == Tryz.prog.liftsFinal) = true
  rw [lifts_ok]; rfl
theorem k27 : K27 Tryz.prog 5 Tryz.f5 Rows.evictFreesSpec Rows.evictFreesRow = true := make_ok _ (by kernel_rfl)
theorem k28 : K28 Tryz.prog 5 Tryz.f5 Rows.evictFreesSpec Rows.evictFreesRow = true := by kernel_rfl
theorem k29 : K29 Tryz.prog 5 Tryz.f5 Rows.evictFreesSpec Rows.evictFreesRow = true := by kernel_rfl
theorem k30 : K30 Tryz.prog 5 Tryz.f5 Rows.evictFreesSpec Rows.evictFreesRow = true := by kernel_rfl
theorem k31 : K31 Tryz.prog 5 Tryz.f5 Rows.evictFreesSpec Rows.evictFreesRow = true := by kernel_rfl
theorem closed : joinedFacts Tryz.prog 5 Tryz.f5 Rows.evictFreesSpec Rows.evictFreesRow = true := joined_of k0 (g1 _ _ _ _) (g2 _ _ _ _) k3 k4 k5 (g6 _ _ _ _) k7 (g8 _ _ _ _) k9 k10 k11 k12 k13 k14 k15 k16 k17 k18 k19 k20 k21 k22 k23 (g24 _ _ _ _) (g25 _ _ _ _) k26 k27 k28 k29 k30 k31
theorem named : Tryz.prog.funcNamed Rows.evictFreesRow.func = some 5 := by kernel_rfl
theorem inst : Tryz.f5.isInstance Tryz.prog Rows.evictFreesRow.origin Rows.evictFreesRow.targs := of_decide_eq_true (by kernel_rfl)
theorem wrapped : Tryz.f5.isWrapper Tryz.prog Rows.evictFreesRow.wrapper Rows.evictFreesRow.mainSum := by
  unfold Func.isWrapper; first | (rw [if_pos (by decide +kernel)]; kernel_rfl) | (rw [if_neg (by decide +kernel)]; exact ⟨rfl, rfl⟩)
end Go.Proofs.YtmookoajpcnigaaGreat.evictFrees
