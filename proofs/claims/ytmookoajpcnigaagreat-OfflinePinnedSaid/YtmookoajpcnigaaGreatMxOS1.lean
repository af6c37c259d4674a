/- Numbers and slices that are not known: operations on them. -/
import Derived.Test.YtmookoajpcnigaaGreatMxO9e
set_option linter.unusedSimpArgs false
set_option linter.unusedVariables false
namespace Go.Mx
open Go

theorem symCmp_ok {op : BinOp} {lo hi b p : Int} {r : Bool} (h : symCmp op lo hi b = some r) (h1 : lo ≤ p) (h2 : p ≤ hi) : intOp op .i64 p b = some (.b r) := by
  cases op <;> simp only [symCmp, cond_eq_ite, decide_eq_true_eq, Bool.or_eq_true, Bool.and_eq_true, reduceCtorEq] at h <;> simp only [intOp] <;>
    (split at h <;> (try split at h) <;> simp at h <;> subst h <;> simp <;> omega)
theorem turned_ok {op : BinOp} {lo hi b p : Int} {r : Bool} (h : symCmp (turned op) lo hi b = some r) (h1 : lo ≤ p) (h2 : p ≤ hi) : intOp op .i64 b p = some (.b r) := by
  have := symCmp_ok h h1 h2
  cases op <;> simp only [turned, intOp, symCmp, reduceCtorEq] at this h ⊢ <;> (try contradiction) <;> rw [← this] <;> simp [eq_comm, bne, BEq.comm] 
theorem shift_ok {op : BinOp} {c c' g : Int} {r : Bool} (h : symCmp op c c c' = some r) : intOp op .i64 (g + c) (g + c') = some (.b r) := by
  have := symCmp_ok h (Int.le_refl c) (Int.le_refl c)
  cases op <;> simp only [intOp, symCmp, reduceCtorEq] at this h ⊢ <;> (try contradiction) <;> rw [← this] <;> simp
  · have : (g + c = g + c') ↔ c = c' := by omega
    rw [Bool.eq_iff_iff]; simp [this]
  · have : (g + c = g + c') ↔ c = c' := by omega
    unfold bne; congr 1; rw [Bool.eq_iff_iff]; simp [this]

theorem wrap_in {n : Int} (h1 : -9223372036854775808 ≤ n) (h2 : n < 9223372036854775808) : IntKind.i64.wrap n = n := by
  simp only [IntKind.wrap, IntKind.bits, IntKind.signed]
  simp
  omega

section
variable {P : Program} {E : Env} {φ : Phi} {s s' : St} {w : World} {tm : Tm} {a : Act} {v : AV} {cf : CF} {o : Oper}

theorem sym_bin (hE : TyOk P E) (hs : Sat P φ s w) {op : BinOp} {t yt : Nat} {x y : Operand} (ho : o.op = .binOp op t x y yt) (hev : OpsOk P φ tm a o)
    {u u' : AV} (hxe : ev tm x = some u) (hye : ev tm y = some u') (h' : symBin E op t u u' = some v) : Done P φ s w s v ((execOp a.eval o).run P w) := by
  have hcx := hev x (by simp [ho, Op.operands]) _ hxe
  have hcy := hev y (by simp [ho, Op.operands]) _ hye
  have hrun : (execOp a.eval o).run P w = (do pure (Next.value (← (do eqGuard op t x y (a.eval x) (a.eval y); binOp op t (a.eval x) (a.eval y)))) : Sem Next).run P w := by
    simp only [execOp, ho]
  have fin : ∀ (z : Value), conc P φ v = some z → (eqGuard op t x y (a.eval x) (a.eval y)).run P w = .ok () w → (binOp op t (a.eval x) (a.eval y)).run P w = .ok z w →
      Done P φ s w s v ((execOp a.eval o).run P w) := by
    intro z hz hg hb
    refine done_same hs ?_ hz
    rw [hrun]
    refine run_v _ ?_
    simp [hg, hb]
  -- two integers that are known behind the curtain
  have ints : ∀ (k : IntKind) (p q : Int) (c c' : Sc), a.eval x = .int k p → a.eval y = .int k q → op ≠ .shl → op ≠ .shr → intOp op k p q = some c' → concS φ c = concS φ c' → v = .one c →
      Done P φ s w s v ((execOp a.eval o).run P w) := fun k p q c c' hp hq n1 n2 hi hc hv => by
    obtain ⟨z, hz, hr⟩ := intOp_run (P := P) (φ := φ) (w := w) hi
    subst hv
    refine fin z (by simp only [conc]; rw [hc]; exact hz) (by rw [hp, hq]; exact run_eqGuard (by simp) (by simp)) ?_
    rw [hp, hq]
    simp only [binOp]
    cases op <;> first | exact absurd rfl n1 | exact absurd rfl n2 | simpa using hr
  unfold symBin at h'
  split at h'
  · rename_i p q
    split at h'
    · rename_i ti hti
      split at h'
      · rename_i c hc
        injection h' with h'
        unfold symSc at hc
        split at hc
        · -- an unknown number, and a known one
          rename_i g cc l u b
          simp only [conc, concS] at hcx hcy
          split at hcx
          · rename_i L hL
            split at hcx
            · rename_i hin
              injection hcx with hcx; injection hcy with hcy
              split at hc
              · simp only [cond_eq_ite, inR, Bool.and_eq_true, decide_eq_true_eq] at hc
                split at hc
                · rename_i hr
                  injection hc with hc; subst hc
                  refine ints .i64 (gval L + cc) b _ (.i .i64 (IntKind.i64.wrap (gval L + cc + b))) hcx.symm hcy.symm (by simp) (by simp) (by simp [intOp]) ?_ h'.symm
                  simp only [concS, hL, if_pos hin]
                  rw [wrap_in (by omega) (by omega)]; congr 2; omega
                · simp at hc
              · simp only [cond_eq_ite, inR, Bool.and_eq_true, decide_eq_true_eq] at hc
                split at hc
                · rename_i hr
                  injection hc with hc; subst hc
                  refine ints .i64 (gval L + cc) b _ (.i .i64 (IntKind.i64.wrap (gval L + cc - b))) hcx.symm hcy.symm (by simp) (by simp) (by simp [intOp]) ?_ h'.symm
                  simp only [concS, hL, if_pos hin]
                  rw [wrap_in (by omega) (by omega)]; congr 2; omega
                · simp at hc
              · cases hq : symCmp op (l + cc) (u + cc) b with
                | none => simp [hq] at hc
                | some r =>
                  simp [hq] at hc; subst hc
                  have := symCmp_ok hq (p := gval L + cc) (by omega) (by omega)
                  refine ints .i64 (gval L + cc) b _ (.b r) hcx.symm hcy.symm ?_ ?_ this rfl h'.symm <;> (intro e; subst e; simp [symCmp] at hq)
            · simp at hcx
          · simp at hcx
        · rename_i b g cc l u
          simp only [conc, concS] at hcx hcy
          split at hcy
          · rename_i L hL
            split at hcy
            · rename_i hin
              injection hcx with hcx; injection hcy with hcy
              split at hc
              · simp only [cond_eq_ite, inR, Bool.and_eq_true, decide_eq_true_eq] at hc
                split at hc
                · rename_i hr
                  injection hc with hc; subst hc
                  refine ints .i64 b (gval L + cc) _ (.i .i64 (IntKind.i64.wrap (b + (gval L + cc)))) hcx.symm hcy.symm (by simp) (by simp) (by simp [intOp]) ?_ h'.symm
                  simp only [concS, hL, if_pos hin]
                  rw [wrap_in (by omega) (by omega)]; congr 2; omega
                · simp at hc
              · cases hq : symCmp (turned op) (l + cc) (u + cc) b with
                | none => simp [hq] at hc
                | some r =>
                  simp [hq] at hc; subst hc
                  have := turned_ok hq (p := gval L + cc) (by omega) (by omega)
                  refine ints .i64 b (gval L + cc) _ (.b r) hcx.symm hcy.symm ?_ ?_ this rfl h'.symm <;> (intro e; subst e; simp [symCmp, turned] at hq)
            · simp at hcy
          · simp at hcy
        · rename_i g cc l u g' cc' l' u'
          simp only [cond_eq_ite, Nat.beq_eq] at hc
          split at hc
          · rename_i hgg; subst hgg
            simp only [conc, concS] at hcx hcy
            split at hcx
            · rename_i L hL
              rw [hL] at hcy
              simp only at hcy
              split at hcx
              · split at hcy
                · injection hcx with hcx; injection hcy with hcy
                  split at hc
                  · simp only [cond_eq_ite, inR, Bool.and_eq_true, decide_eq_true_eq] at hc
                    split at hc
                    · rename_i hr
                      injection hc with hc; subst hc
                      refine ints .i64 (gval L + cc) (gval L + cc') _ (.i .i64 (IntKind.i64.wrap (gval L + cc - (gval L + cc')))) hcx.symm hcy.symm (by simp) (by simp) (by simp [intOp]) ?_ h'.symm
                      simp only [concS]
                      rw [wrap_in (by omega) (by omega)]; congr 2; omega
                    · simp at hc
                  · cases hq : symCmp op cc cc cc' with
                    | none => simp [hq] at hc
                    | some r =>
                      simp [hq] at hc; subst hc
                      refine ints .i64 (gval L + cc) (gval L + cc') _ (.b r) hcx.symm hcy.symm ?_ ?_ (shift_ok hq) rfl h'.symm <;> (intro e; subst e; simp [symCmp] at hq)
                · simp at hcy
              · simp at hcx
            · simp at hcx
          · simp at hc
        · -- what a number leaves
          rename_i g k r m k' b
          split at hc
          · simp only [cond_eq_ite, Bool.and_eq_true, decide_eq_true_eq, Nat.ble_eq] at hc
            split at hc
            · rename_i hr
              obtain ⟨⟨hk, hb⟩, hm⟩ := hr
              subst hk; subst hb
              injection hc with hc; subst hc
              simp only [conc, concS] at hcx hcy
              split at hcx
              · rename_i L hL
                split at hcx
                · rename_i hin
                  injection hcx with hcx; injection hcy with hcy
                  refine ints k (gval L) m _ (.i k ((gval L).tmod m)) hcx.symm hcy.symm (by simp) (by simp) ?_ ?_ h'.symm
                  · simp only [intOp, cond_eq_ite, decide_eq_true_eq]; rw [if_neg (by omega)]
                  · simp only [concS]
                    rw [Int.tmod_eq_emod_of_nonneg hin.1, hin.2]
                · simp at hcx
              · simp at hcx
            · simp at hc
          · simp at hc
        · -- the same byte
          rename_i k1 b1 k2 b2
          simp only [cond_eq_ite, Bool.and_eq_true, Nat.beq_eq] at hc
          split at hc
          · rename_i hk
            obtain ⟨rfl, rfl⟩ := hk
            simp only [conc] at hcx hcy
            rw [hcx] at hcy
            have hxy : a.eval y = a.eval x := by injection hcy with hcy; exact hcy.symm
            have hint : ∃ n, a.eval x = .int .u8 n := by
              simp only [concS] at hcx
              split at hcx
              · split at hcx
                · split at hcx
                  · injection hcx with hcx; exact ⟨_, hcx.symm⟩
                  · simp at hcx
                · injection hcx with hcx; exact ⟨_, hcx.symm⟩
              · simp at hcx
            obtain ⟨n, hn⟩ := hint
            cases op <;> simp only [reduceCtorEq] at hc <;> injection hc with hc <;> subst hc
            · exact ints .u8 n n _ (.b true) hn (hxy.trans hn) (by simp) (by simp) (by simp [intOp]) rfl h'.symm
            · exact ints .u8 n n _ (.b false) hn (hxy.trans hn) (by simp) (by simp) (by simp [intOp]) rfl h'.symm
          · simp at hc
        · -- slices against nil
          rename_i q l u m op0
          obtain ⟨d, hd, hk, _⟩ := (hE _ _ hti).und
          have hsl : ∃ N L c, φ 0 = some N ∧ φ q.1 = some L ∧ concS φ (.sl (some q) (nlen N) c false) = some (a.eval x) := by
            simp only [conc, concS] at hcx
            split at hcx
            · rename_i N L hN hL
              split at hcx
              · rename_i cc hcc
                split at hcx
                · injection hcx with hcx
                  exact ⟨N, L, cc, hN, hL, by simp only [concS, hL, ← hcx]; simp⟩
                · simp at hcx
              · simp at hcx
            · simp at hcx
          obtain ⟨N, L, cc, hN, hL, hsl⟩ := hsl
          simp only [conc] at hcy
          cases hkk : ti.kind <;> rw [hkk] at hc hk <;> cases op <;> simp only [reduceCtorEq] at hc <;> injection hc with hc <;> subst hc
          · obtain ⟨hg, h1, h2⟩ := eq_one (P := P) (w := w) (t := t) (r := false) hd hk hsl hcy (by simp [eqOne]) .eql x y
            exact fin _ (by rw [← h']; rfl) hg h1
          · obtain ⟨hg, h1, h2⟩ := eq_one (P := P) (w := w) (t := t) (r := false) hd hk hsl hcy (by simp [eqOne]) .neq x y
            exact fin _ (by rw [← h']; rfl) hg h2
        · simp at hc
      · simp at h'
    · simp at h'
  · simp at h'
end
end Go.Mx
