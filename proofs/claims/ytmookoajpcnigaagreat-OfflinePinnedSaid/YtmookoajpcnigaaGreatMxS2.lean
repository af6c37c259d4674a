/- A part of the abstract interpreter: a step on the way to the statement. -/
import Derived.Test.YtmookoajpcnigaaGreatMxS1
import Derived.Test.YtmookoajpcnigaaGreatMxTab
set_option linter.unusedSimpArgs false
namespace Go.Mx
open Go Go.Proofs
noncomputable def E0 : Env := ⟨tyT, fnT, .leaf, frT⟩
theorem ty_checked : PT.all (tiChk Tryz.prog) tyT 1 0 = true := by decide +kernel
theorem E0_ty : TyOk Tryz.prog E0 := tyOk_of ty_checked
end Go.Mx
