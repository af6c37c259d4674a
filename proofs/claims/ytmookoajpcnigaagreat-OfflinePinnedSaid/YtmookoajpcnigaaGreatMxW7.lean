/- A part of the abstract interpreter: a step on the way to the statement. -/
import Derived.Test.YtmookoajpcnigaaGreatMxRPin
import Derived.Test.YtmookoajpcnigaaGreatMxGC
set_option linter.unusedSimpArgs false
set_option linter.unusedVariables false
namespace Go.Mx
open Go Go.Proofs



theorem offlinePinned_walk (a0 : Int) (w0 : (Lit.int .u8 a0).wf = true) (v : Value) (w : World) (hv : Arg w v) : Calls Tryz.prog 7 #[.int .u8 a0, v] w fun e w' => e = .returned (.bool true) ∧ Stays w w' := by
  obtain ⟨h0, h1⟩ := u8_bnd w0
  have hf : Few (phi0.put 3 (ofI a0)) := few_put few0 (by omega) _
  rcases hv with rfl | ⟨blk, off, len, cap, zs, hb⟩
  · refine run_true E23_ok pin_nil ro_s210 (φ := phi0.put 3 (ofI a0)) (sat_nums hf) ?_
    simp only [concs, conc_md (Phi.put_self phi0 3 (ofI a0)) h0 (show a0 % ((1 : Nat) : Int) = ((0 : Nat) : Int) by omega)]
    rfl
  · have hg : phiB (phi0.put 3 (ofI a0)) blk off len cap zs 3 = some (ofI a0) := by rw [phiB_few hf (by omega)]; exact Phi.put_self _ _ _
    have e0 : conc Tryz.prog (phiB (phi0.put 3 (ofI a0)) blk off len cap zs) (.one (.md 3 .u8 0 1)) = some (.int .u8 a0) := conc_md hg h0 (by omega)
    by_cases hz : len = 0
    · refine run_true E23_ok pin_zero ro_s210 (sat_ghost (blk := blk) (off := off) (len := len) (cap := cap) (zs := zs) hf) ?_
      simp only [concs, e0, conc_sn hb (show 0 ≤ len by omega) (show len ≤ 0 by omega)]
    · by_cases hbig : 64 < len
      · refine run_true E23_ok pin_big ro_s210 (sat_ghost (blk := blk) (off := off) (len := len) (cap := cap) (zs := zs) hf) ?_
        simp only [concs, e0, conc_sn hb (show 65 ≤ len by omega) (show len ≤ 9223372036854775807 by have := hb.le; have := hb.room; omega)]
      · have e1 : conc Tryz.prog (phiB (phi0.put 3 (ofI a0)) blk off len cap zs) (.one (.md 3 .u8 (a0 % 20).toNat 20)) = some (.int .u8 a0) := conc_md hg h0 (by omega)
        refine run_true E23_ok (pin_all (a0 % 20).toNat (by omega)) ro_sB (sat_bytes hf hb (by omega)) ?_
        simp only [concs, e1, conc_sn hb (show 1 ≤ len by omega) (show len ≤ 64 by omega)]
end Go.Mx
