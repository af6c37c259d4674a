/- Runs of law 23's functions. -/
import Derived.Test.YtmookoajpcnigaaGreatMxSame
set_option linter.unusedSimpArgs false
set_option linter.unusedVariables false

namespace Go.Mx
open Go Go.Proofs
set_option maxRecDepth 1000000 in
theorem ans23_run : isT (callF E0 3000 40 46 [] St.emp) = true := by decide +kernel
noncomputable def I23 : PT Intr := PT.set (PT.set .leaf 34 sameI) 46 ansI
noncomputable def E23 : Env := ⟨tyT, fnT, I23, frT⟩
theorem E23_ok : EnvOk Tryz.prog E23 := env_ok fun f F h => by
  unfold I23 at h
  rw [PT.get_set] at h
  split at h
  · rename_i e
    injection h with h; subst e; subst h
    obtain ⟨s', hr⟩ := isT_some ans23_run
    rw [callF_eq] at hr
    exact ans_ok ((call_sound E0_ok 3000 40).triple hr)
  · rw [PT.get_set] at h
    split at h
    · rename_i e
      injection h with h; subst e; subst h
      exact same_ok
    · simp [PT.get] at h
set_option maxRecDepth 1000000 in
theorem on_lo : isT (callF E23 3000 40 6 [.one (.ln 3 0 (-9223372036854775808) (-1))] s210) = true := by decide +kernel
set_option maxRecDepth 1000000 in
theorem on_hi : isT (callF E23 3000 40 6 [.one (.ln 3 0 32 9223372036854775807)] s210) = true := by decide +kernel
end Go.Mx

namespace Go.Mx
open Go Go.Proofs
set_option maxRecDepth 1000000 in
theorem on_mid : (List.range 32).all (fun n => isT (callF E23 3000 40 6 [.one (.i .i64 (Int.ofNat n))] s210)) = true := by decide +kernel
end Go.Mx
