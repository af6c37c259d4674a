/- A part of the abstract interpreter: a step on the way to the statement. -/
import Derived.Test.YtmookoajpcnigaaGreatMxS2
set_option linter.unusedSimpArgs false
namespace Go.Mx
open Go Go.Proofs
def fnChk (E : Env) (f : Nat) (fn : Func) : Bool := (fn.name == "runtime.NumGoroutine") == false && match fn.body with | some c => codeOk fn.ntmps (freeOf E f) c | none => true
theorem fn_checked : PT.all (fnChk E0) fnT 1 0 = true := by decide +kernel
end Go.Mx
