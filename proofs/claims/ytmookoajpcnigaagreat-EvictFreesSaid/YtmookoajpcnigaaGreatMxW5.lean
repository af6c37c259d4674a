/- 'EvictFrees': what it answers, whatever it is called with. -/
import Derived.Test.YtmookoajpcnigaaGreatMxRFre
import Derived.Test.YtmookoajpcnigaaGreatMxMi
set_option linter.unusedSimpArgs false
set_option linter.unusedVariables false
namespace Go.Mx
open Go Go.Proofs

theorem evictFrees_walk (v : Value) (a1 : Int) (w1 : (Lit.int .u8 a1).wf = true) (w : World) (hv : Arg w v) : Calls Tryz.prog 5 #[v, .int .u8 a1] w fun e w' => e = .returned (.bool true) ∧ Stays w w' := by
  obtain ⟨h0, h1⟩ := u8_bnd w1
  have hf : Few (phi0.put 3 (ofI a1)) := few_put few0 (by omega) _
  have hr : (a1 % 8).toNat < 8 := by omega
  rcases hv with rfl | ⟨blk, off, len, cap, zs, hb⟩
  · refine run_true E20_ok (fre_nil _ hr) ro_s210 (φ := phi0.put 3 (ofI a1)) (sat_nums hf) ?_
    have e1 : conc Tryz.prog (phi0.put 3 (ofI a1)) (.one (.md 3 .u8 (a1 % 8).toNat 8)) = some (.int .u8 a1) := conc_md (Phi.put_self phi0 3 (ofI a1)) h0 (by omega)
    simp only [concs, e1]
    rfl
  · have hg : phiB (phi0.put 3 (ofI a1)) blk off len cap zs 3 = some (ofI a1) := by rw [phiB_few hf (by omega)]; exact Phi.put_self _ _ _
    have e0 : conc Tryz.prog (phiB (phi0.put 3 (ofI a1)) blk off len cap zs) (.one (.md 3 .u8 0 1)) = some (.int .u8 a1) := conc_md hg h0 (by omega)
    have e1 : conc Tryz.prog (phiB (phi0.put 3 (ofI a1)) blk off len cap zs) (.one (.md 3 .u8 (a1 % 8).toNat 8)) = some (.int .u8 a1) := conc_md hg h0 (by omega)
    by_cases hz : len = 0
    · refine run_true E20_ok (fre_zero _ hr) ro_s210 (sat_ghost (blk := blk) (off := off) (len := len) (cap := cap) (zs := zs) hf) ?_
      simp only [concs, e1, conc_sn hb (show 0 ≤ len by omega) (show len ≤ 0 by omega)]
    · by_cases hbig : 64 < len
      · refine run_true E20_ok fre_big ro_s210 (sat_ghost (blk := blk) (off := off) (len := len) (cap := cap) (zs := zs) hf) ?_
        simp only [concs, e0, conc_sn hb (show 65 ≤ len by omega) (show len ≤ 9223372036854775807 by have := hb.le; have := hb.room; omega)]
      · refine run_true E20_ok (fre_all _ hr) ro_sB (sat_bytes hf hb (by omega)) ?_
        simp only [concs, e1, conc_sn hb (show 1 ≤ len by omega) (show len ≤ 64 by omega)]
end Go.Mx
