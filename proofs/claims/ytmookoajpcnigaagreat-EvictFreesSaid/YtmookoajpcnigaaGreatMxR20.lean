/- Runs of law 20's functions. -/
import Derived.Test.YtmookoajpcnigaaGreatMxMi
set_option linter.unusedSimpArgs false
set_option linter.unusedVariables false

namespace Go.Mx
open Go Go.Proofs
set_option maxRecDepth 1000000 in
theorem ans20_run : isT (callF E0 3000 40 36 [] St.emp) = true := by decide +kernel
noncomputable def I20 : PT Intr := PT.set (PT.set .leaf 34 sameI) 36 ansI
noncomputable def E20 : Env := ⟨tyT, fnT, I20, frT⟩
theorem E20_ok : EnvOk Tryz.prog E20 := env_ok fun f F h => by
  unfold I20 at h
  rw [PT.get_set] at h
  split at h
  · rename_i e
    injection h with h; subst e; subst h
    obtain ⟨s', hr⟩ := isT_some ans20_run
    rw [callF_eq] at hr
    exact ans_ok ((call_sound E0_ok 3000 40).triple hr)
  · rw [PT.get_set] at h
    split at h
    · rename_i e
      injection h with h; subst e; subst h
      exact same_ok
    · simp [PT.get] at h
end Go.Mx
