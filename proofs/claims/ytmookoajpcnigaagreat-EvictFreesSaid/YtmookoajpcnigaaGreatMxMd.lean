/- Parts of the abstract interpreter, in the order in which they build. -/
import Derived.Test.YtmookoajpcnigaaGreatMxMc
/- Numbers and slices that are not known: operations on them. -/
set_option linter.unusedSimpArgs false
set_option linter.unusedVariables false
namespace Go.Mx
open Go

theorem symCmp_ok {op : BinOp} {lo hi b p : Int} {r : Bool} (h : symCmp op lo hi b = some r) (h1 : lo ≤ p) (h2 : p ≤ hi) : intOp op .i64 p b = some (.b r) := by
  cases op <;> simp only [symCmp, cond_eq_ite, decide_eq_true_eq, Bool.or_eq_true, Bool.and_eq_true, reduceCtorEq] at h <;> simp only [intOp] <;>
    (split at h <;> (try split at h) <;> simp at h <;> subst h <;> simp <;> omega)
theorem turned_ok {op : BinOp} {lo hi b p : Int} {r : Bool} (h : symCmp (turned op) lo hi b = some r) (h1 : lo ≤ p) (h2 : p ≤ hi) : intOp op .i64 b p = some (.b r) := by
  have := symCmp_ok h h1 h2
  cases op <;> simp only [turned, intOp, symCmp, reduceCtorEq] at this h ⊢ <;> (try contradiction) <;> rw [← this] <;> simp [eq_comm, bne, BEq.comm] 
theorem shift_ok {op : BinOp} {c c' g : Int} {r : Bool} (h : symCmp op c c c' = some r) : intOp op .i64 (g + c) (g + c') = some (.b r) := by
  have := symCmp_ok h (Int.le_refl c) (Int.le_refl c)
  cases op <;> simp only [intOp, symCmp, reduceCtorEq] at this h ⊢ <;> (try contradiction) <;> rw [← this] <;> simp
  · have : (g + c = g + c') ↔ c = c' := by omega
    rw [Bool.eq_iff_iff]; simp [this]
  · have : (g + c = g + c') ↔ c = c' := by omega
    unfold bne; congr 1; rw [Bool.eq_iff_iff]; simp [this]

theorem wrap_in {n : Int} (h1 : -9223372036854775808 ≤ n) (h2 : n < 9223372036854775808) : IntKind.i64.wrap n = n := by
  simp only [IntKind.wrap, IntKind.bits, IntKind.signed]
  simp
  omega

section
variable {P : Program} {E : Env} {φ : Phi} {s s' : St} {w : World} {tm : Tm} {a : Act} {v : AV} {cf : CF} {o : Oper}

theorem sym_bin (hE : TyOk P E) (hs : Sat P φ s w) {op : BinOp} {t yt : Nat} {x y : Operand} (ho : o.op = .binOp op t x y yt) (hev : OpsOk P φ tm a o)
    {u u' : AV} (hxe : ev tm x = some u) (hye : ev tm y = some u') (h' : symBin E op t u u' = some v) : Done P φ s w s v ((execOp a.eval o).run P w) := by
  have hcx := hev x (by simp [ho, Op.operands]) _ hxe
  have hcy := hev y (by simp [ho, Op.operands]) _ hye
  have hrun : (execOp a.eval o).run P w = (do pure (Next.value (← (do eqGuard op t x y (a.eval x) (a.eval y); binOp op t (a.eval x) (a.eval y)))) : Sem Next).run P w := by
    simp only [execOp, ho]
  have fin : ∀ (z : Value), conc P φ v = some z → (eqGuard op t x y (a.eval x) (a.eval y)).run P w = .ok () w → (binOp op t (a.eval x) (a.eval y)).run P w = .ok z w →
      Done P φ s w s v ((execOp a.eval o).run P w) := by
    intro z hz hg hb
    refine done_same hs ?_ hz
    rw [hrun]
    refine run_v _ ?_
    simp [hg, hb]
  -- two integers that are known behind the curtain
  have ints : ∀ (k : IntKind) (p q : Int) (c c' : Sc), a.eval x = .int k p → a.eval y = .int k q → op ≠ .shl → op ≠ .shr → intOp op k p q = some c' → concS φ c = concS φ c' → v = .one c →
      Done P φ s w s v ((execOp a.eval o).run P w) := fun k p q c c' hp hq n1 n2 hi hc hv => by
    obtain ⟨z, hz, hr⟩ := intOp_run (P := P) (φ := φ) (w := w) hi
    subst hv
    refine fin z (by simp only [conc]; rw [hc]; exact hz) (by rw [hp, hq]; exact run_eqGuard (by simp) (by simp)) ?_
    rw [hp, hq]
    simp only [binOp]
    cases op <;> first | exact absurd rfl n1 | exact absurd rfl n2 | simpa using hr
  unfold symBin at h'
  split at h'
  · rename_i p q
    split at h'
    · rename_i ti hti
      split at h'
      · rename_i c hc
        injection h' with h'
        unfold symSc at hc
        split at hc
        · -- an unknown number, and a known one
          rename_i g cc l u b
          simp only [conc, concS] at hcx hcy
          split at hcx
          · rename_i L hL
            split at hcx
            · rename_i hin
              injection hcx with hcx; injection hcy with hcy
              split at hc
              · simp only [cond_eq_ite, inR, Bool.and_eq_true, decide_eq_true_eq] at hc
                split at hc
                · rename_i hr
                  injection hc with hc; subst hc
                  refine ints .i64 (gval L + cc) b _ (.i .i64 (IntKind.i64.wrap (gval L + cc + b))) hcx.symm hcy.symm (by simp) (by simp) (by simp [intOp]) ?_ h'.symm
                  simp only [concS, hL, if_pos hin]
                  rw [wrap_in (by omega) (by omega)]; congr 2; omega
                · simp at hc
              · simp only [cond_eq_ite, inR, Bool.and_eq_true, decide_eq_true_eq] at hc
                split at hc
                · rename_i hr
                  injection hc with hc; subst hc
                  refine ints .i64 (gval L + cc) b _ (.i .i64 (IntKind.i64.wrap (gval L + cc - b))) hcx.symm hcy.symm (by simp) (by simp) (by simp [intOp]) ?_ h'.symm
                  simp only [concS, hL, if_pos hin]
                  rw [wrap_in (by omega) (by omega)]; congr 2; omega
                · simp at hc
              · cases hq : symCmp op (l + cc) (u + cc) b with
                | none => simp [hq] at hc
                | some r =>
                  simp [hq] at hc; subst hc
                  have := symCmp_ok hq (p := gval L + cc) (by omega) (by omega)
                  refine ints .i64 (gval L + cc) b _ (.b r) hcx.symm hcy.symm ?_ ?_ this rfl h'.symm <;> (intro e; subst e; simp [symCmp] at hq)
            · simp at hcx
          · simp at hcx
        · rename_i b g cc l u
          simp only [conc, concS] at hcx hcy
          split at hcy
          · rename_i L hL
            split at hcy
            · rename_i hin
              injection hcx with hcx; injection hcy with hcy
              split at hc
              · simp only [cond_eq_ite, inR, Bool.and_eq_true, decide_eq_true_eq] at hc
                split at hc
                · rename_i hr
                  injection hc with hc; subst hc
                  refine ints .i64 b (gval L + cc) _ (.i .i64 (IntKind.i64.wrap (b + (gval L + cc)))) hcx.symm hcy.symm (by simp) (by simp) (by simp [intOp]) ?_ h'.symm
                  simp only [concS, hL, if_pos hin]
                  rw [wrap_in (by omega) (by omega)]; congr 2; omega
                · simp at hc
              · cases hq : symCmp (turned op) (l + cc) (u + cc) b with
                | none => simp [hq] at hc
                | some r =>
                  simp [hq] at hc; subst hc
                  have := turned_ok hq (p := gval L + cc) (by omega) (by omega)
                  refine ints .i64 b (gval L + cc) _ (.b r) hcx.symm hcy.symm ?_ ?_ this rfl h'.symm <;> (intro e; subst e; simp [symCmp, turned] at hq)
            · simp at hcy
          · simp at hcy
        · rename_i g cc l u g' cc' l' u'
          simp only [cond_eq_ite, Nat.beq_eq] at hc
          split at hc
          · rename_i hgg; subst hgg
            simp only [conc, concS] at hcx hcy
            split at hcx
            · rename_i L hL
              rw [hL] at hcy
              simp only at hcy
              split at hcx
              · split at hcy
                · injection hcx with hcx; injection hcy with hcy
                  split at hc
                  · simp only [cond_eq_ite, inR, Bool.and_eq_true, decide_eq_true_eq] at hc
                    split at hc
                    · rename_i hr
                      injection hc with hc; subst hc
                      refine ints .i64 (gval L + cc) (gval L + cc') _ (.i .i64 (IntKind.i64.wrap (gval L + cc - (gval L + cc')))) hcx.symm hcy.symm (by simp) (by simp) (by simp [intOp]) ?_ h'.symm
                      simp only [concS]
                      rw [wrap_in (by omega) (by omega)]; congr 2; omega
                    · simp at hc
                  · cases hq : symCmp op cc cc cc' with
                    | none => simp [hq] at hc
                    | some r =>
                      simp [hq] at hc; subst hc
                      refine ints .i64 (gval L + cc) (gval L + cc') _ (.b r) hcx.symm hcy.symm ?_ ?_ (shift_ok hq) rfl h'.symm <;> (intro e; subst e; simp [symCmp] at hq)
                · simp at hcy
              · simp at hcx
            · simp at hcx
          · simp at hc
        · -- what a number leaves
          rename_i g k r m k' b
          split at hc
          · simp only [cond_eq_ite, Bool.and_eq_true, decide_eq_true_eq, Nat.ble_eq] at hc
            split at hc
            · rename_i hr
              obtain ⟨⟨hk, hb⟩, hm⟩ := hr
              subst hk; subst hb
              injection hc with hc; subst hc
              simp only [conc, concS] at hcx hcy
              split at hcx
              · rename_i L hL
                split at hcx
                · rename_i hin
                  injection hcx with hcx; injection hcy with hcy
                  refine ints k (gval L) m _ (.i k ((gval L).tmod m)) hcx.symm hcy.symm (by simp) (by simp) ?_ ?_ h'.symm
                  · simp only [intOp, cond_eq_ite, decide_eq_true_eq]; rw [if_neg (by omega)]
                  · simp only [concS]
                    rw [Int.tmod_eq_emod_of_nonneg hin.1, hin.2]
                · simp at hcx
              · simp at hcx
            · simp at hc
          · simp at hc
        · -- the same byte
          rename_i k1 b1 k2 b2
          simp only [cond_eq_ite, Bool.and_eq_true, Nat.beq_eq] at hc
          split at hc
          · rename_i hk
            obtain ⟨rfl, rfl⟩ := hk
            simp only [conc] at hcx hcy
            rw [hcx] at hcy
            have hxy : a.eval y = a.eval x := by injection hcy with hcy; exact hcy.symm
            have hint : ∃ n, a.eval x = .int .u8 n := by
              simp only [concS] at hcx
              split at hcx
              · split at hcx
                · split at hcx
                  · injection hcx with hcx; exact ⟨_, hcx.symm⟩
                  · simp at hcx
                · injection hcx with hcx; exact ⟨_, hcx.symm⟩
              · simp at hcx
            obtain ⟨n, hn⟩ := hint
            cases op <;> simp only [reduceCtorEq] at hc <;> injection hc with hc <;> subst hc
            · exact ints .u8 n n _ (.b true) hn (hxy.trans hn) (by simp) (by simp) (by simp [intOp]) rfl h'.symm
            · exact ints .u8 n n _ (.b false) hn (hxy.trans hn) (by simp) (by simp) (by simp [intOp]) rfl h'.symm
          · simp at hc
        · -- slices against nil
          rename_i q l u m op0
          obtain ⟨d, hd, hk, _⟩ := (hE _ _ hti).und
          have hsl : ∃ N L c, φ 0 = some N ∧ φ q.1 = some L ∧ concS φ (.sl (some q) (nlen N) c false) = some (a.eval x) := by
            simp only [conc, concS] at hcx
            split at hcx
            · rename_i N L hN hL
              split at hcx
              · rename_i cc hcc
                split at hcx
                · injection hcx with hcx
                  exact ⟨N, L, cc, hN, hL, by simp only [concS, hL, ← hcx]; simp⟩
                · simp at hcx
              · simp at hcx
            · simp at hcx
          obtain ⟨N, L, cc, hN, hL, hsl⟩ := hsl
          simp only [conc] at hcy
          cases hkk : ti.kind <;> rw [hkk] at hc hk <;> cases op <;> simp only [reduceCtorEq] at hc <;> injection hc with hc <;> subst hc
          · obtain ⟨hg, h1, h2⟩ := eq_one (P := P) (w := w) (t := t) (r := false) hd hk hsl hcy (by simp [eqOne]) .eql x y
            exact fin _ (by rw [← h']; rfl) hg h1
          · obtain ⟨hg, h1, h2⟩ := eq_one (P := P) (w := w) (t := t) (r := false) hd hk hsl hcy (by simp [eqOne]) .neq x y
            exact fin _ (by rw [← h']; rfl) hg h2
        · simp at hc
      · simp at h'
    · simp at h'
  · simp at h'
end
end Go.Mx

/- Slices whose length is not known: they are seen with the length that they have. -/
set_option linter.unusedSimpArgs false
set_option linter.unusedVariables false
namespace Go.Mx
open Go

def actS (φ : Phi) : Sc → Sc
  | .ln g c lo hi => match φ g with
    | some L => .i .i64 (gval L + c)
    | none => .ln g c lo hi
  | .sn a lo hi m => match φ 0, φ a.1 with
    | some N, some L => match roomOf φ N L m with
      | some c => .sl (some a) (nlen N) c false
      | none => .sn a lo hi m
    | _, _ => .sn a lo hi m
  | c => c
def actV (φ : Phi) : AV → AV
  | .one c => .one (actS φ c)
  | v => v

section
variable {P : Program} {E : Env} {φ : Phi} {s s' : St} {w : World} {tm : Tm} {a : Act} {v : AV} {cf : CF} {o : Oper}

theorem actS_conc {c : Sc} {x : Value} (h : concS φ c = some x) : concS φ (actS φ c) = some x := by
  cases c with
  | ln g c lo hi =>
    simp only [concS] at h
    cases hg : φ g with
    | none => simp [hg] at h
    | some L =>
      simp only [hg] at h
      split at h
      · injection h with h; simp only [actS, hg, concS, h]
      · simp at h
  | sn q lo hi m =>
    simp only [concS] at h
    cases h0 : φ 0 with
    | none => simp [h0] at h
    | some N => cases hq : φ q.1 with
      | none => simp [h0, hq] at h
      | some L =>
        simp only [h0, hq] at h
        cases hr : roomOf φ N L m with
        | none => simp [hr] at h
        | some c =>
          simp only [hr] at h
          split at h
          · injection h with h; simp only [actS, h0, hq, hr, concS, ← h]; simp
          · simp at h
  | _ => exact h
theorem actV_conc {u : AV} {x : Value} (h : conc P φ u = some x) : conc P φ (actV φ u) = some x := by
  cases u with
  | one c => exact actS_conc h
  | _ => exact h
theorem ev_act (x : Operand) : ev (tm.mp (actV φ)) x = (ev tm x).map (actV φ) := by
  cases x with
  | tmp t =>
    simp only [ev, PT.mp_get]
    cases tm.get t with
    | none => rfl
    | some v => rfl
  | const c =>
    simp only [ev]
    cases hc : ofConst c with
    | none => rfl
    | some v =>
      have : actV φ v = v := by
        unfold ofConst at hc
        split at hc <;> first | (injection hc with hc; subst hc; rfl) | (simp at hc)
      simp [this]
  | func f => rfl
  | global g => rfl
theorem evOk_act {x : Operand} (h : EvOk P φ tm a x) : EvOk P φ (tm.mp (actV φ)) a x := fun v hv => by
  rw [ev_act] at hv
  cases he : ev tm x with
  | none => rw [he] at hv; cases hv
  | some u => rw [he] at hv; cases hv; exact actV_conc (h u he)

theorem sn_some {q : Nat × Nat} {lo hi m : Nat} {x : Value} (h : concS φ (.sn q lo hi m) = some x) :
    ∃ N L c, φ 0 = some N ∧ φ q.1 = some L ∧ roomOf φ N L m = some c ∧ (lo ≤ nlen N ∧ nlen N ≤ hi) ∧ nlen N ≤ c ∧ 0 ≤ gval N ∧ x = .slice (some ⟨L.blk, L.base + q.2, none⟩) (nlen N) c := by
  simp only [concS] at h
  cases h0 : φ 0 with
  | none => simp [h0] at h
  | some N => cases hq : φ q.1 with
    | none => simp [h0, hq] at h
    | some L =>
      simp only [h0, hq] at h
      cases hr : roomOf φ N L m with
      | none => simp [hr] at h
      | some c =>
        simp only [hr] at h
        split at h
        · rename_i hc
          injection h with h
          exact ⟨N, L, c, rfl, rfl, hr, hc.1, hc.2.1, hc.2.2, h.symm⟩
        · simp at h
theorem ln_some {g : Nat} {c lo hi : Int} {x : Value} (h : concS φ (.ln g c lo hi) = some x) : ∃ L, φ g = some L ∧ lo ≤ gval L ∧ gval L ≤ hi ∧ x = .int .i64 (gval L + c) := by
  simp only [concS] at h
  cases hg : φ g with
  | none => simp [hg] at h
  | some L =>
    simp only [hg] at h
    split at h
    · rename_i hc; injection h with h; exact ⟨L, rfl, hc.1, hc.2, h.symm⟩
    · simp at h
theorem lnOf_some {x : Operand} {c lo hi : Int} (hx : EvOk P φ tm a x) (h : lnOf tm x = some (c, lo, hi)) : ∃ N, φ 0 = some N ∧ lo ≤ gval N ∧ gval N ≤ hi ∧ ev (tm.mp (actV φ)) x = some (.one (.i .i64 (gval N + c))) := by
  unfold lnOf at h
  split at h
  · rename_i c' lo' hi' he
    injection h with h; injection h with h1 h; injection h with h2 h3
    subst h1; subst h2; subst h3
    obtain ⟨N, h1, h2, h3, _⟩ := ln_some (hx _ he)
    refine ⟨N, h1, h2, h3, ?_⟩
    rw [ev_act, he]; simp [actV, actS, h1]
  · simp at h
theorem lowOf_some {lo : Option Operand} {k : Nat} (h : lowOf tm lo = some k) : ∀ y, k ≤ y → bound (tm.mp (actV φ)) lo 0 y = some k := by
  intro y hy
  unfold lowOf at h
  cases lo with
  | none => injection h with h; subst h; rfl
  | some x =>
    simp only at h
    split at h
    · rename_i kk n he
      cases n with
      | ofNat n =>
        simp only [natOf] at h; injection h with h; subst h
        simp only [bound, evI, ev_act, he, Option.map_some, actV, actS, cond_eq_ite, Nat.ble_eq]
        rw [if_pos hy]
      | negSucc n => simp [natOf] at h
    · simp at h

theorem natOf_some {x : Int} {n : Nat} (h : natOf x = some n) : x = (n : Int) := by
  cases x with
  | ofNat m => simp only [natOf] at h; injection h with h; subst h; rfl
  | negSucc m => simp [natOf] at h

theorem Done.chg {P : Program} {φ : Phi} {s s' : St} {w : World} {v v' : AV} {r : Result Next} (h : Done P φ s w s' v' r) (hv : ∀ ψ x, φ.le ψ → conc P ψ v' = some x → conc P ψ v = some x) : Done P φ s w s' v r := by
  obtain ⟨ψ, x, w', h1, h2, h3⟩ := h
  exact ⟨ψ, x, w', h1, h2, hv ψ x h2.sub h3⟩

theorem sym_slice (hE : TyOk P E) (hs : Sat P φ s w) {t : Nat} {x : Operand} {lo hi mx : Option Operand} (ho : o.op = .slice t x lo hi mx) (hev : OpsOk P φ tm a o)
    (h : symSlice E tm t x lo hi mx = some v) : Done P φ s w s v ((execOp a.eval o).run P w) := by
  have hx := hev x (by simp [ho, Op.operands])
  have hlo : ∀ y ∈ lo, EvOk P φ tm a y := fun y hy => hev y (by simp [ho, Op.operands]; simp at hy; simp [hy])
  have hhi : ∀ y ∈ hi, EvOk P φ tm a y := fun y hy => hev y (by simp [ho, Op.operands]; simp at hy; simp [hy])
  have hmx : ∀ y ∈ mx, EvOk P φ tm a y := fun y hy => hev y (by simp [ho, Op.operands]; simp at hy; simp [hy])
  have hevA : OpsOk P φ (tm.mp (actV φ)) a o := fun y hy => evOk_act (hev y hy)
  have go : ∀ v', sliceOp0 E (tm.mp (actV φ)) t x lo hi mx = some v' → (∀ ψ x, φ.le ψ → conc P ψ v' = some x → conc P ψ v = some x) → Done P φ s w s v ((execOp a.eval o).run P w) :=
    fun v' h1 h2 => (op_slice0 hE hs ho hevA (by rw [h1]; rfl)).chg h2
  unfold symSlice at h
  split at h
  · -- of an array
    rename_i sz ag n e zr pl i q ht hxe
    have hxA : ev (tm.mp (actV φ)) x = some (.one (.p (some (i, q)))) := by rw [ev_act, hxe]; rfl
    split at h
    · rename_i hi mx
      split at h
      · rename_i c l u c' l' u' k te hlh hlm hlo2 hte
        split at h
        · rename_i l1 u1 hl1 hu1
          simp only [cond_eq_ite, Bool.and_eq_true, decide_eq_true_eq, Nat.beq_eq, Nat.ble_eq] at h
          split at h
          · rename_i hc
            injection h with h; subst h
            obtain ⟨⟨⟨⟨hc1, hc2⟩, hsz⟩, h1l⟩, hku⟩ := hc
            subst hc1; subst hc2
            have e1 := natOf_some hl1
            have e2 := natOf_some hu1
            subst e1; subst e2
            obtain ⟨N, hN, g1, g2, g3⟩ := lnOf_some (hhi hi (by simp)) hlh
            obtain ⟨N', hN', _, _, g4⟩ := lnOf_some (hmx mx (by simp)) hlm
            rw [hN] at hN'; injection hN' with hN'; subst hN'
            have hnl : (nlen N : Int) = gval N := by unfold nlen; omega
            have hval : gval N + (k : Int) = Int.ofNat (nlen N + k) := by rw [← hnl]; rfl
            have b1 : bound (tm.mp (actV φ)) (some mx) n n = some (nlen N + k) := by
              simp only [bound, evI, g4, hval, cond_eq_ite, Nat.ble_eq]; rw [if_pos (by omega)]
            have b2 : bound (tm.mp (actV φ)) (some hi) n (nlen N + k) = some (nlen N + k) := by
              simp only [bound, evI, g3, hval, cond_eq_ite, Nat.ble_eq]; rw [if_pos (by omega)]
            have b3 := lowOf_some (φ := φ) hlo2 (nlen N + k) (by omega)
            refine go (.one (.sl (some (i, q + k)) (nlen N) (nlen N) false)) ?_ fun ψ y hle hy => ?_
            · unfold sliceOp0
              simp only [ht, hxA, hte, bounds3, b1, b2, b3, Option.isSome_some, Option.isNone_some, Bool.true_and, cond_false, cond_eq_ite, Bool.and_eq_true, Nat.ble_eq, Nat.beq_eq, hsz, Bool.false_eq_true, if_false]
              rw [if_pos ⟨by omega, by omega⟩]
              simp only [Nat.mul_one]
              rw [if_neg (by omega), show nlen N + k - k = nlen N from by omega, hsz, Nat.mul_one]
            · simp only [conc, concS] at hy ⊢
              have hN2 := hle _ _ hN
              cases hi2 : ψ i with
              | none => simp [hi2] at hy
              | some L =>
                simp only [hi2] at hy
                simp only [hN2, hi2, roomOf]
                rw [if_pos (by omega)]
                simpa using hy
          · simp at h
        · simp at h
      · simp at h
    · simp at h
  · -- of a slice that is as long as the argument
    rename_i sz ag e zr pl q l u m ht hxe
    obtain ⟨N, L, c, hN, hL, hr, hb, hnc, h0, hxv⟩ := sn_some (hx _ hxe)
    have hxA : ev (tm.mp (actV φ)) x = some (.one (.sl (some q) (nlen N) c false)) := by rw [ev_act, hxe]; simp [actV, actS, hN, hL, hr]
    have hnl : (nlen N : Int) = gval N := by unfold nlen; omega
    split at h
    · rename_i te hte
      simp only [cond_eq_ite, Nat.beq_eq] at h
      split at h
      · rename_i hsz
        split at h
        · rename_i hi
          split at h
          · rename_i c0 l0 u0 hlh
            simp only [Bool.and_eq_true, decide_eq_true_eq, Nat.ble_eq] at h
            split at h
            · rename_i hc
              injection h with h; subst h
              obtain ⟨hc0, hl1⟩ := hc
              subst hc0
              obtain ⟨N', hN', _, _, g3⟩ := lnOf_some (hhi hi (by simp)) hlh
              rw [hN] at hN'; injection hN' with hN'; subst hN'
              have hval : gval N + 0 = Int.ofNat (nlen N) := by rw [← hnl]; simp
              have b2 : bound (tm.mp (actV φ)) (some hi) (nlen N) c = some (nlen N) := by
                simp only [bound, evI, g3, hval, cond_eq_ite, Nat.ble_eq]; rw [if_pos hnc]
              refine go (.one (.sl (some q) (nlen N) c false)) ?_ fun ψ y hle hy => ?_
              · obtain ⟨q1, q2⟩ := q
                unfold sliceOp0
                simp only [ht, hxA, hte, bounds3, bound, evI, g3, hval, Option.isSome_none, Bool.false_and, cond_false, cond_eq_ite, Bool.and_eq_true, Nat.ble_eq, Nat.beq_eq, Nat.sub_zero, Bool.false_eq_true, if_false, if_pos hnc]
                rw [if_pos ⟨by omega, by omega⟩]
                simp
              · simp only [conc, concS] at hy ⊢
                have hN2 := hle _ _ hN
                have hL2 := hle _ _ hL
                simp only [hL2] at hy
                simp only [hN2, hL2, roomOf_mono hle hr]
                rw [if_pos ⟨hb, hnc, h0⟩]
                simpa using hy
            · simp at h
          · simp at h
        · rename_i lo
          split at h
          · rename_i c0 l0 u0 hlh
            simp only [decide_eq_true_eq] at h
            split at h
            · rename_i hc0
              injection h with h; subst h
              subst hc0
              obtain ⟨N', hN', _, _, g3⟩ := lnOf_some (hlo lo (by simp)) hlh
              rw [hN] at hN'; injection hN' with hN'; subst hN'
              have hval : gval N + 0 = Int.ofNat (nlen N) := by rw [← hnl]; simp
              refine go (.one (.sl (some (bif Nat.beq c (nlen N) then q else (q.1, q.2 + nlen N))) 0 (c - nlen N) false)) ?_ fun ψ y hle hy => ?_
              · obtain ⟨q1, q2⟩ := q
                unfold sliceOp0
                simp only [ht, hxA, hte, bounds3, bound, evI, g3, hval, Option.isSome_none, Bool.false_and, cond_false, cond_eq_ite, Bool.and_eq_true, Nat.ble_eq, Nat.beq_eq, Nat.le_refl, if_true, hsz, Nat.mul_one, Nat.sub_self, Bool.false_eq_true, if_false]
                rw [if_pos ⟨hnc, hnc⟩]
                simp [hsz]
              · simp only [conc, concS] at hy ⊢
                have hN2 := hle _ _ hN
                have hL2 := hle _ _ hL
                simp only [hN2, hL2, roomOf_mono hle hr]
                rw [if_pos ⟨hb, hnc, h0⟩]
                by_cases hcn : c = nlen N
                · simp only [cond_eq_ite, Nat.beq_eq, hcn, if_true, hL2] at hy ⊢; simpa using hy
                · simp only [cond_eq_ite, Nat.beq_eq, hcn, if_false, hL2] at hy ⊢; simpa using hy
            · simp at h
          · simp at h
        · simp at h
      · simp at h
    · simp at h
  · -- of a slice that is known
    rename_i sz ag e zr pl q len cap op ht hxe
    have hxA : ev (tm.mp (actV φ)) x = some (.one (.sl (some q) len cap op)) := by rw [ev_act, hxe]; rfl
    split at h
    · rename_i te hte
      simp only [cond_eq_ite, Nat.beq_eq] at h
      split at h
      · rename_i hsz
        split at h
        · rename_i hi
          split at h
          · rename_i c0 l0 u0 hlh
            split at h
            · rename_i l1 u1 hl1 hu1
              simp only [Bool.and_eq_true, decide_eq_true_eq, Nat.ble_eq] at h
              split at h
              · rename_i hc
                injection h with h; subst h
                obtain ⟨⟨hc0, h1l⟩, huc⟩ := hc
                subst hc0
                have e1 := natOf_some hl1
                have e2 := natOf_some hu1
                subst e1; subst e2
                obtain ⟨N, hN, g1, g2, g3⟩ := lnOf_some (hhi hi (by simp)) hlh
                have hnl : (nlen N : Int) = gval N := by unfold nlen; omega
                have hval : gval N + 0 = Int.ofNat (nlen N) := by rw [← hnl]; simp
                refine go (.one (.sl (some q) (nlen N) cap op)) ?_ fun ψ y hle hy => ?_
                · obtain ⟨q1, q2⟩ := q
                  unfold sliceOp0
                  simp only [ht, hxA, hte, bounds3, bound, evI, g3, hval, Option.isSome_none, Bool.false_and, cond_false, cond_eq_ite, Bool.and_eq_true, Nat.ble_eq, Nat.beq_eq, Nat.sub_zero, Bool.false_eq_true, if_false, if_pos (show nlen N ≤ cap by omega)]
                  rw [if_pos ⟨by omega, by omega⟩]
                  have hcap : cap ≠ 0 := by omega
                  simp [hcap]
                · simp only [conc, concS] at hy ⊢
                  have hN2 := hle _ _ hN
                  cases hi2 : ψ q.1 with
                  | none => simp [hi2] at hy
                  | some L =>
                    simp only [hi2] at hy
                    have hroom : roomOf ψ N L (4 + (2 * cap + (if op = true then 1 else 0))) = some (cap + (if op = true then L.spare else 0)) := by
                      rw [show 4 + (2 * cap + (if op = true then 1 else 0)) = (2 * cap + (if op = true then 1 else 0)) + 4 from by omega]
                      simp only [roomOf]
                      cases op with
                      | true => simp only [if_true]; rw [if_neg (by omega), show (2 * cap + 1) / 2 = cap from by omega]
                      | false => simp only [Bool.false_eq_true, if_false, Nat.add_zero]; rw [if_pos (by omega), show 2 * cap / 2 = cap from by omega]
                    simp only [hN2, hi2, cond_eq_ite, hroom]
                    rw [if_pos (by omega)]
                    simpa using hy
              · simp at h
            · simp at h
          · simp at h
        · simp at h
      · simp at h
    · simp at h
  · simp at h

theorem sym_idx (hE : TyOk P E) (hs : Sat P φ s w) {t : Nat} {x i : Operand} (ho : o.op = .indexAddr t x i) (hev : OpsOk P φ tm a o)
    (h : symIdx E tm t x i = some v) : Done P φ s w s v ((execOp a.eval o).run P w) := by
  have hx := hev x (by simp [ho, Op.operands])
  have hevA : OpsOk P φ (tm.mp (actV φ)) a o := fun y hy => evOk_act (hev y hy)
  unfold symIdx at h
  split at h
  · rename_i sz ag e zr pl q l u m kk k ht hxe hie
    split at h
    · rename_i te hte
      simp only [cond_eq_ite, Bool.and_eq_true, Nat.beq_eq, Nat.ble_eq] at h
      split at h
      · rename_i hc
        injection h with h; subst h
        obtain ⟨N, L, c, hN, hL, hr, hb, hnc, h0, hxv⟩ := sn_some (hx _ hxe)
        have hxA : ev (tm.mp (actV φ)) x = some (.one (.sl (some q) (nlen N) c false)) := by rw [ev_act, hxe]; simp [actV, actS, hN, hL, hr]
        have hiA : evI (tm.mp (actV φ)) i = some (kk, .ofNat k) := by unfold evI; rw [ev_act, hie]; rfl
        refine op_indexAddr0 hE hs ho hevA ?_
        obtain ⟨q1, q2⟩ := q
        unfold idxOp
        simp only [ht, hxA, hiA, hte, cond_eq_ite, Nat.ble_eq]
        rw [if_pos (by omega), hc.1, Nat.mul_one]
      · simp at h
    · simp at h
  · simp at h

theorem sym_len (hE : TyOk P E) (hs : Sat P φ s w) {tys : List Nat} {args : List Operand} {ty : Nat} {cs : Array Bool} (hev : ∀ x ∈ args, EvOk P φ tm a x)
    (h : symLen E tm s tys args = some (v, s')) : Done P φ s w s' v ((builtin .len tys.toArray ty cs (args.map a.eval).toArray).run P w) := by
  unfold symLen at h
  split at h
  · rename_i t tr x xr
    split at h
    · rename_i sz ag e zr pl q l u m ht hxe
      injection h with h; injection h with h1 h2; subst h1; subst h2
      obtain ⟨N, L, c, hN, hL, hr, hb, hnc, h0, hxv⟩ := sn_some (hev x (by simp) _ hxe)
      have hA : builtinOp0 E (tm.mp (actV φ)) s .len (t :: tr) (x :: xr) = some (.one (.i .i64 (nlen N)), s) := by
        simp only [builtinOp0, ht, ev_act, hxe, Option.map_some, actV, actS, hN, hL, hr, lenV]
      refine (bi_len hE hs (fun y hy => evOk_act (hev y hy)) hA).chg fun ψ y hle hy => ?_
      simp only [conc, concS] at hy ⊢
      have hnl : (nlen N : Int) = gval N := by unfold nlen; omega
      simp only [hle _ _ hN]
      rw [if_pos (by omega), Int.add_zero, ← hnl]
      exact hy
    · simp at h
  · simp at h

theorem sym_min (hs : Sat P φ s w) {tys : List Nat} {args : List Operand} {ty : Nat} {cs : Array Bool} (hev : ∀ x ∈ args, EvOk P φ tm a x)
    (h : symMin tm s args = some (v, s')) : Done P φ s w s' v ((builtin .min tys.toArray ty cs (args.map a.eval).toArray).run P w) := by
  unfold symMin at h
  split at h
  · rename_i x y
    split at h
    · rename_i g c l u b hxe hye
      obtain ⟨L, hL, g1, g2, _⟩ := ln_some (hev x (by simp) _ hxe)
      have hx2 : evI (tm.mp (actV φ)) x = some (.i64, gval L + c) := by simp only [evI, ev_act, hxe, Option.map_some, actV, actS, hL]
      have hy2 : evI (tm.mp (actV φ)) y = some (.i64, b) := by simp only [evI, ev_act, hye, Option.map_some, actV, actS]
      have hA : builtinOp0 (⟨.leaf, .leaf, .leaf, .leaf⟩ : Env) (tm.mp (actV φ)) s .min tys [x, y] = some (.one (.i .i64 (minI (gval L + c) b)), s) := by
        unfold builtinOp0
        simp only [hx2, foldMM, hy2, cond_true]
      have hD := bi_min (P := P) (ty := ty) (cs := cs) hs (fun y hy => evOk_act (hev y hy)) hA
      simp only [cond_eq_ite, decide_eq_true_eq] at h
      split at h
      · rename_i hle
        injection h with h; injection h with h1 h2; subst h1; subst h2
        refine hD.chg fun ψ y hle2 hy => ?_
        simp only [conc, concS] at hy ⊢
        simp only [hle2 _ _ hL]
        rw [if_pos ⟨g1, g2⟩, ← hy]
        simp only [minI, cond_eq_ite, decide_eq_true_eq]; rw [if_neg (by omega)]
      · split at h
        · rename_i hle
          injection h with h; injection h with h1 h2; subst h1; subst h2
          refine hD.chg fun ψ y hle2 hy => ?_
          simp only [conc, concS] at hy ⊢
          rw [← hy]
          simp only [minI, cond_eq_ite, decide_eq_true_eq]
          by_cases hh : b < gval L + c
          · rw [if_pos hh]
          · rw [if_neg hh]; congr 2; omega
        · simp at h
    · simp at h
  · simp at h
end
end Go.Mx

/- 'copy' and 'append' of as many bytes as the argument has. -/
set_option linter.unusedSimpArgs false
set_option linter.unusedVariables false
namespace Go.Mx
open Go

section
variable {P : Program} {E : Env} {φ : Phi} {s s' : St} {w : World} {tm : Tm} {a : Act} {v : AV} {cf : CF} {o : Oper}

/-- a state behind a step, seen otherwise -/
theorem Post.chg {ψ : Phi} {s1 s2 : St} {w' : World} (h : Post P φ s w ψ s1 w') (hn : s2.next = s1.next)
    (hg : ∀ i, s2.hp.get i = s1.hp.get i ∨ ∃ o1 o2, s1.hp.get i = some o1 ∧ s2.hp.get i = some o2 ∧ (∀ L, ψ i = some L → objRel P ψ o1 L w' → objRel P ψ o2 L w') ∧
      (o1.isRo = true → o2.isRo = true) ∧ (s.hp.get i = none ∨ ∃ L, φ i = some L)) : Post P φ s w ψ s2 w' := by
  have hdom : ∀ {i o}, s2.hp.get i = some o → ∃ o1, s1.hp.get i = some o1 ∧ (o1.isRo = true → o.isRo = true) ∧ (∀ L, ψ i = some L → objRel P ψ o1 L w' → objRel P ψ o L w') := fun {i o} hi => by
    rcases hg i with h1 | ⟨o1, o2, h1, h2, h3, h4, _⟩
    · exact ⟨o, by rw [← h1]; exact hi, fun h => h, fun _ _ h => h⟩
    · rw [h2] at hi; injection hi with hi; subst hi; exact ⟨o1, h1, h4, h3⟩
  refine ⟨⟨fun i o L hi hL => ?_, fun i j o o' L L' hi hj hL hL' hb hne => ?_, fun i L hL => by rw [hn]; exact h.sat.bnd i L hL, fun i o hi => ?_⟩, h.sub, by rw [hn]; exact h.nx, h.os, h.tape, h.output, h.size, h.fr, fun i o L hi hL hro => ?_, h.new, fun i o hi ho => ?_, fun i o hi => ?_⟩
  · obtain ⟨o1, h1, _, h3⟩ := hdom hi
    exact h3 L hL (h.sat.obj i o1 L h1 hL)
  · obtain ⟨o1, h1, h2, _⟩ := hdom hi
    obtain ⟨o2, h3, h4, _⟩ := hdom hj
    have := h.sat.inj i j o1 o2 L L' h1 h3 hL hL' hb hne
    exact ⟨h2 this.1, h4 this.2⟩
  · obtain ⟨o1, h1, _, _⟩ := hdom hi
    rw [hn]; exact h.sat.dom i o1 h1
  · obtain ⟨o1, h1, h2, _⟩ := hdom hi
    refine h.live i o1 L h1 hL ?_
    cases ho1 : o1.isRo with
    | false => rfl
    | true => rw [h2 ho1] at hro; cases hro
  · have h1 := h.un i o hi ho
    rcases hg i with h2 | ⟨o1, o2, _, _, _, _, h5⟩
    · rw [h2]; exact h1
    · rcases h5 with h5 | ⟨L, h5⟩
      · rw [h5] at ho; cases ho
      · rw [h5] at hi; cases hi
  · obtain ⟨o1, h1, _⟩ := hdom hi
    exact h.newdom i o1 h1

/-- a state with the argument's length put in -/
def actO (n : Nat) : AO → AO
  | .sy c => .ro n c
  | o => o
theorem Sat.act (hs : Sat P φ s w) {N : Lo} (hN : φ 0 = some N) : Sat P φ ⟨s.next, s.hp.mp (actO (nlen N))⟩ w := by
  have hg : ∀ {i o}, (s.hp.mp (actO (nlen N))).get i = some o → ∃ o1, s.hp.get i = some o1 ∧ o = actO (nlen N) o1 := fun {i o} hi => by
    rw [PT.mp_get] at hi
    cases hq : s.hp.get i with
    | none => rw [hq] at hi; cases hi
    | some o1 => rw [hq] at hi; injection hi with hi; exact ⟨o1, rfl, hi.symm⟩
  refine ⟨fun i o L hi hL => ?_, fun i j o o' L L' hi hj hL hL' hb hne => ?_, hs.bnd, fun i o hi => ?_⟩
  · obtain ⟨o1, h1, rfl⟩ := hg hi
    have := hs.obj i o1 L h1 hL
    cases o1 with
    | sy c =>
      obtain ⟨N', cs, e, fr, h0, h2, h3⟩ := this
      rw [hN] at h0; injection h0 with h0; subst h0
      exact ⟨cs, e, fr, h2, h3⟩
    | _ => exact this
  · obtain ⟨o1, h1, rfl⟩ := hg hi
    obtain ⟨o2, h2, rfl⟩ := hg hj
    have := hs.inj i j o1 o2 L L' h1 h2 hL hL' hb hne
    constructor
    · cases o1 <;> first | exact this.1 | rfl
    · cases o2 <;> first | exact this.2 | rfl
  · obtain ⟨o1, h1, rfl⟩ := hg hi
    exact hs.dom i o1 h1

theorem cellsV_take (z : Zr) (t : PT Sc) : ∀ (u n k : Nat), n ≤ u → cellsV z t k n = (cellsV z t k u).take n := by
  intro u
  induction u with
  | zero => intro n k h; have : n = 0 := by omega
            subst this; rfl
  | succ u ih =>
    intro n k h
    cases n with
    | zero => rfl
    | succ n => simp only [cellsV, List.take_succ_cons]; rw [ih n (k + 1) (by omega)]
theorem cellsR_take (f : Nat → Sc) : ∀ (u n k : Nat), n ≤ u → cellsR f k n = (cellsR f k u).take n := by
  intro u
  induction u with
  | zero => intro n k h; have : n = 0 := by omega
            subst this; rfl
  | succ u ih =>
    intro n k h
    cases n with
    | zero => rfl
    | succ n => simp only [cellsR, List.take_succ_cons]; rw [ih n (k + 1) (by omega)]

theorem symSrc_len {q : Nat × Nat} {u : Nat} {new : List Sc} (h : symSrc s q u = some new) : new.length = u := by
  unfold symSrc at h
  split at h
  · simp only [cond_eq_ite, Nat.ble_eq] at h
    split at h
    · injection h with h; subst h; exact cellsV_length _ _ _ _
    · simp at h
  · simp only [cond_eq_ite, Nat.beq_eq] at h
    split at h
    · injection h with h; subst h; exact cellsR_length _ _ _
    · simp at h
  · simp at h

/-- the source's cells, as many as there are -/
theorem symSrc_ld {N : Lo} {q : Nat × Nat} {u : Nat} {new : List Sc} (h : symSrc s q u = some new) (hn : nlen N ≤ u) :
    ldCells ⟨s.next, s.hp.mp (actO (nlen N))⟩ q (nlen N) = some (new.take (nlen N)) := by
  unfold symSrc at h
  unfold ldCells
  simp only [PT.mp_get]
  split at h
  · rename_i n z t e op hg
    simp only [cond_eq_ite, Nat.ble_eq] at h
    split at h
    · rename_i hle
      injection h with h; subst h
      simp only [hg, Option.map_some, actO, cond_eq_ite, Nat.ble_eq]
      rw [if_pos (by omega), cellsV_take z t u (nlen N) q.2 hn]
    · simp at h
  · rename_i c hg
    simp only [cond_eq_ite, Nat.beq_eq] at h
    split at h
    · rename_i h0
      injection h with h; subst h
      simp only [hg, Option.map_some, actO, cond_eq_ite, Nat.ble_eq, h0]
      rw [if_pos (by omega), cellsR_take c u (nlen N) 0 hn]
    · simp at h
  · simp at h

theorem mixL_len : ∀ {i : Nat} {l m c : List Sc}, mixL i l m = some c → c.length = l.length ∧ m.length = l.length := by
  intro i l
  induction l generalizing i with
  | nil => intro m c h; cases m with
    | nil => simp only [mixL] at h; injection h with h; subst h; exact ⟨rfl, rfl⟩
    | cons b q => simp [mixL] at h
  | cons a r ih => intro m c h; cases m with
    | nil => simp [mixL] at h
    | cons b q =>
      simp only [mixL] at h
      split at h
      · rename_i c1 l1 h1 h2
        injection h with h; subst h
        have := ih h2
        simp [this.1, this.2]
      · simp at h
theorem mixL_get : ∀ {i : Nat} {l m c : List Sc}, mixL i l m = some c → ∀ (j : Nat) (x : Sc), c[j]? = some x → ∃ p q, l[j]? = some p ∧ m[j]? = some q ∧ mixS (i + j) p q = some x := by
  intro i l
  induction l generalizing i with
  | nil => intro m c h j x hx; cases m with
    | nil => simp only [mixL] at h; injection h with h; subst h; simp at hx
    | cons b q => simp [mixL] at h
  | cons a r ih => intro m c h j x hx; cases m with
    | nil => simp [mixL] at h
    | cons b q =>
      simp only [mixL] at h
      split at h
      · rename_i c1 l1 h1 h2
        injection h with h; subst h
        cases j with
        | zero => simp at hx; subst hx; exact ⟨a, b, by simp, by simp, h1⟩
        | succ j =>
          simp at hx
          obtain ⟨p, q', g1, g2, g3⟩ := ih h2 j x hx
          exact ⟨p, q', by simpa using g1, by simpa using g2, by rw [show i + (j + 1) = i + 1 + j from by omega]; exact g3⟩
      · simp at h
theorem mixS_conc {N : Lo} (hN : φ 0 = some N) {j : Nat} {p q x : Sc} (h : mixS j p q = some x) :
    (j < nlen N → ∀ y, concS φ p = some y → concS φ x = some y) ∧ (nlen N ≤ j → ∀ y, concS φ q = some y → concS φ x = some y) := by
  unfold mixS at h
  split at h
  · rename_i k old b
    simp only [cond_eq_ite, Nat.beq_eq] at h
    split at h
    · rename_i hk
      injection h with h; subst h
      refine ⟨fun hj y hy => ?_, fun hj y hy => ?_⟩
      · simp only [concS, hN] at hy ⊢
        rw [if_pos (by omega)] at hy ⊢; exact hy
      · simp only [concS, hN] at hy ⊢
        rw [if_neg (by omega)]; exact hy
    · simp at h
  · rename_i k old k' b
    simp only [cond_eq_ite, Bool.and_eq_true, Nat.beq_eq] at h
    split at h
    · rename_i hk
      injection h with h; subst h
      refine ⟨fun hj y hy => ?_, fun hj y hy => ?_⟩
      · simp only [concS, hN] at hy ⊢
        rw [if_pos (by omega)] at hy ⊢; exact hy
      · simp only [concS, hN] at hy ⊢
        rw [if_neg (by omega)] at hy ⊢; exact hy
    · simp at h
  · simp at h
end
end Go.Mx

set_option linter.unusedSimpArgs false
set_option linter.unusedVariables false
namespace Go.Mx
open Go

section
variable {P : Program} {E : Env} {φ : Phi} {s s' : St} {w : World} {tm : Tm} {a : Act} {v : AV} {cf : CF} {o : Oper}

theorem concL_take {l : List Sc} {n : Nat} {vs : List Value} (h : concL φ l = some vs) : concL φ (l.take n) = some (vs.take n) := by
  have := concL_drop_take h 0 n
  simpa using this

theorem sym_copy (hE : TyOk P E) (hs : Sat P φ s w) {tys : List Nat} {args : List Operand} {ty : Nat} {cs : Array Bool} (hev : ∀ x ∈ args, EvOk P φ tm a x)
    (h : symCopy E tm s tys args = some (v, s')) : Done P φ s w s' v ((builtin .copy tys.toArray ty cs (args.map a.eval).toArray).run P w) := by
  unfold symCopy at h
  split at h
  · rename_i t tr x y yr
    split at h
    · rename_i sz ag e zr pl d l u m q l' u' m' ht hxe hye
      split at h
      · rename_i te new old hte hsrc hdst
        split at h
        · rename_i mix hmix
          split at h
          · rename_i s1 hst
            simp only [cond_eq_ite, Bool.and_eq_true, Nat.beq_eq, Nat.ble_eq] at h
            split at h
            · rename_i hc
              obtain ⟨hsz, hu64⟩ := hc
              injection h with h; injection h with h1 h2; subst h1; subst h2
              obtain ⟨dd, hd, hdk, _⟩ := (hE _ _ ht).und
              simp only [KindOk] at hdk; subst hdk
              obtain ⟨i, z, g1, g2, g3, g4, _⟩ := (hE _ _ hte).info
              obtain ⟨N, L, c, hN, hL, hr, hb, hnc, h0, hxv⟩ := sn_some (hev x (by simp) _ hxe)
              obtain ⟨N', L', c', hN', hL', hr', hb', hnc', h0', hyv⟩ := sn_some (hev y (by simp) _ hye)
              rw [hN] at hN'; injection hN' with hN'; subst hN'
              have hnl : (nlen N : Int) = gval N := by unfold nlen; omega
              -- the source
              have hld := symSrc_ld (s := s) (N := N) hsrc hb.2
              have hsA := Sat.act hs hN
              have hq : concA φ q = some ⟨L'.blk, L'.base + q.2, none⟩ := by simp [concA, hL']
              obtain ⟨vs, k1, k2, k3⟩ := ld_cells hsA hld hq
              -- the target: n cells
              unfold symDst at hdst
              split at hdst
              · rename_i n zz tt ee op hg
                simp only [cond_eq_ite, Nat.ble_eq] at hdst
                split at hdst
                · rename_i hle
                  injection hdst with hdst; subst hdst
                  have hnlen := symSrc_len hsrc
                  have hml := mixL_len hmix
                  have hst2 : ∃ s2, stCells s d (new.take (nlen N)) = some s2 ∧ s2 = { s with hp := s.hp.set d.1 (.arr n zz (setCells tt d.2 (new.take (nlen N))) ee op) } := by
                    refine ⟨_, ?_, rfl⟩
                    unfold stCells
                    simp only [hg, cond_eq_ite, Nat.ble_eq, List.length_take, hnlen]
                    rw [if_pos (by omega)]
                  obtain ⟨s2, hs2, hs2e⟩ := hst2
                  have hs1e : s1 = { s with hp := s.hp.set d.1 (.arr n zz (setCells tt d.2 mix) ee op) } := by
                    unfold stCells at hst
                    simp only [hg, cond_eq_ite, Nat.ble_eq] at hst
                    split at hst
                    · injection hst with hst; exact hst.symm
                    · simp at hst
                  have hA : concA φ d = some ⟨L.blk, L.base + d.2, none⟩ := by simp [concA, hL]
                  obtain ⟨w', r1, r2⟩ := st_cells hs hs2 hA k1
                  have hD : Done P φ s w s2 (.one (.i .i64 (nlen N))) ((builtin .copy (t :: tr).toArray ty cs (List.map a.eval (x :: y :: yr)).toArray).run P w) := by
                    refine ⟨φ, goInt (nlen N), w', .inl ?_, r2, by simp [conc, concS, goInt]⟩
                    simp only [builtin]
                    refine run_v _ ?_
                    have hlen : (Builtin.lenOf (a.eval y)).run P w = .ok (nlen N) w := by rw [hyv]; simp [Builtin.lenOf]
                    have hf : (Builtin.firstCells i.size (nlen N) (a.eval y)).run P w = .ok vs.toArray w := by
                      rw [hyv, g2, hsz]
                      simp only [Builtin.firstCells, Nat.mul_one]
                      exact run_loadCells_of k2 k3
                    simp [Builtin.copy_, run_und hd, hxv, run_sizeOf g1, hlen, hf, r1]
                  obtain ⟨ψ, rv, w2, e1, e2, e3⟩ := hD
                  have hψN := e2.sub _ _ hN
                  refine ⟨ψ, rv, w2, e1, e2.chg (by rw [hs2e, hs1e]) fun j => ?_, ?_⟩
                  · rw [hs2e, hs1e]
                    simp only [PT.get_set]
                    by_cases hj : j = d.1
                    · right
                      refine ⟨.arr n zz (setCells tt d.2 (new.take (nlen N))) ee op, .arr n zz (setCells tt d.2 mix) ee op, by rw [if_pos hj], by rw [if_pos hj], fun M hM hob => ?_, fun h => h, .inr (by rw [hj]; exact ⟨L, hL⟩)⟩
                      obtain ⟨cells, fr, q1, q2, q3, q4, q5⟩ := hob
                      refine ⟨cells, fr, q1, q2, q3, q4, fun k hk => ?_⟩
                      obtain ⟨val, p1, p2⟩ := q5 k hk
                      refine ⟨val, p1, ?_⟩
                      by_cases hin : d.2 ≤ k ∧ k < d.2 + u
                      · have hkl : k - d.2 < mix.length := by omega
                        have hm := cellV_setCells zz mix tt d.2 k (by omega) mix[k - d.2] (by simp [hkl])
                        rw [hm]
                        obtain ⟨p, q0, b1, b2, b3⟩ := mixL_get hmix (k - d.2) mix[k - d.2] (by simp [hkl])
                        rw [Nat.zero_add] at b3
                        have hmc := mixS_conc hψN b3
                        by_cases hlt : k - d.2 < nlen N
                        · have hnt : (new.take (nlen N))[k - d.2]? = some p := by rw [List.getElem?_take]; rw [if_pos hlt]; exact b1
                          have := cellV_setCells zz (new.take (nlen N)) tt d.2 k (by rw [List.length_take]; omega) p hnt
                          rw [this] at p2
                          exact hmc.1 hlt _ p2
                        · have := cellV_setCells_other zz (new.take (nlen N)) tt d.2 k (by rw [List.length_take]; omega)
                          rw [this] at p2
                          have hq0 : q0 = cellV zz tt k := by
                            have := cellsV_get zz tt u d.2 (k - d.2) (by omega)
                            rw [this] at b2; injection b2 with b2
                            rw [← b2]; congr 1; omega
                          rw [← hq0] at p2
                          exact hmc.2 (by omega) _ p2
                      · have e1 := cellV_setCells_other zz (new.take (nlen N)) tt d.2 k (by rw [List.length_take]; omega)
                        have e2 := cellV_setCells_other zz mix tt d.2 k (by omega)
                        rw [e2, ← e1]; exact p2
                    · left; rw [if_neg hj, if_neg hj]
                  · simp only [conc, concS] at e3 ⊢
                    simp only [hψN]
                    rw [if_pos (by omega), Int.add_zero, ← hnl]; exact e3
                · simp at hdst
              · simp at hdst
            · simp at h
          · simp at h
        · simp at h
      · simp at h
    · simp at h
  · simp at h

theorem nthS_get {l : List Sc} {k : Nat} {c : Sc} (h : l[k]? = some c) : nthS l k = c := by unfold nthS; rw [h]

theorem sym_append (hE : TyOk P E) (hs : Sat P φ s w) {tys : List Nat} {args : List Operand} {ty : Nat} {cs : Array Bool} (hev : ∀ x ∈ args, EvOk P φ tm a x)
    (h : symAppend E tm s tys args = some (v, s')) : Done P φ s w s' v ((builtin .append tys.toArray ty cs (args.map a.eval).toArray).run P w) := by
  unfold symAppend at h
  split at h
  · rename_i t t' x y
    split at h
    · rename_i sz ag e zr pl sz' ag' e' zr' pl' ad op q l u m ht ht' hxe hye
      split at h
      · rename_i te new hte hsrc
        simp only [cond_eq_ite, Bool.and_eq_true, Nat.beq_eq, Nat.ble_eq] at h
        split at h
        · rename_i hc
          obtain ⟨⟨⟨hsz, hu64⟩, h1l⟩, hroom⟩ := hc
          injection h with h; injection h with h1 h2; subst h1; subst h2
          obtain ⟨dd, hd, hdk, _⟩ := (hE _ _ ht).und
          simp only [KindOk] at hdk; subst hdk
          obtain ⟨dd', hd', hdk', _⟩ := (hE _ _ ht').und
          simp only [KindOk] at hdk'; subst hdk'
          obtain ⟨i0, z0, k1, k2, k3, k4, k5, k6, _⟩ := (hE _ _ hte).info
          have hxc : concS φ (.sl ad 0 0 op) = some (a.eval x) := hev x (by simp) _ hxe
          obtain ⟨N, L, c, hN, hL, hr, hb, hnc, h0, hyv⟩ := sn_some (hev y (by simp) _ hye)
          have hld := symSrc_ld (s := s) (N := N) hsrc hb.2
          have hsA := Sat.act hs hN
          have hq : concA φ q = some ⟨L.blk, L.base + q.2, none⟩ := by simp [concA, hL]
          obtain ⟨vs, j1, j2, j3⟩ := ld_cells hsA hld hq
          have hnlen := symSrc_len hsrc
          have htl : (new.take (nlen N)).length = nlen N := by rw [List.length_take]; omega
          have happ : ∃ z2 t2, appendOp te e s ad 0 0 op (new.take (nlen N)) (nlen N) = some (.one (.sl (some (s.next, 0)) (nlen N) (nlen N) true), (alloc s (.arr (nlen N * te.size) z2 t2 e true)).2) := by
            unfold appendOp
            simp only [cond_eq_ite, Nat.ble_eq, Nat.zero_add]
            rw [if_neg (by omega), if_pos (by unfold lim; omega)]
            cases ad with
            | none => exact ⟨_, _, rfl⟩
            | some p =>
              unfold apRoom at hroom
              simp only at hroom
              split at hroom
              · rename_i k z1 t1 e1 md hg
                simp only [Bool.and_eq_true, Nat.ble_eq, Bool.not_eq_true'] at hroom
                obtain ⟨p1, p2⟩ := p
                simp only at hg
                simp only [hg]
                rw [if_pos (by simp; exact hroom.1), hroom.2]
                exact ⟨_, _, rfl⟩
              · cases hroom
          obtain ⟨z2, t2, happ⟩ := happ
          obtain ⟨ψ, rv, w', r1, r2, r3⟩ := append_done (ty := ty) (x := a.eval y) hE hs hd hte hd' j1 (by rw [htl, hsz, Nat.mul_one]) (fun i z hi hz => .inr ⟨fun k e => (by cases e), fun w => by rw [hyv]; simp [Builtin.lenOf], fun w' hw => by
            have : i.size = 1 := by rw [hi] at k1; injection k1 with k1; rw [k1, k2, hsz]
            rw [this, hyv]
            simp only [Builtin.firstCells, Nat.mul_one]
            refine run_loadCells_of j2 fun j val hj => ?_
            have := j3 j val hj
            simpa [World.cell?, hw] using this⟩) hxc happ
          have hψN := r2.sub _ _ hN
          have hld2 := j1
          refine ⟨ψ, rv, w', .inl (by simp only [builtin]; exact run_v _ r1), r2.chg rfl fun j => ?_, ?_⟩
          · simp only [alloc, PT.get_set]
            by_cases hj : j = s.next
            · right
              have hnone : s.hp.get j = none := by
                cases hq2 : s.hp.get j with
                | none => rfl
                | some ob => have := hs.dom j ob hq2; omega
              refine ⟨.arr (nlen N * te.size) z2 t2 e true, .sy (nthS new), by rw [if_pos hj], by rw [if_pos hj], ?_, fun _ => rfl, Or.inl hnone⟩
              intro M hM hob
              obtain ⟨cells, fr, q1, q2, q3, q4, q5⟩ := hob
              refine ⟨N, cells, e, fr, hψN, q1, fun k hk => ?_⟩
              obtain ⟨val, p1, p2⟩ := q5 k (by rw [hsz]; omega)
              refine ⟨val, p1, ?_⟩
              -- the cell that was appended
              have hkl : k < (new.take (nlen N)).length := by omega
              have hcell : cellV z2 t2 k = (new.take (nlen N))[k] := by
                unfold appendOp at happ
                simp only [cond_eq_ite, Nat.ble_eq, Nat.zero_add] at happ
                rw [if_neg (by omega), if_pos (by unfold lim; omega)] at happ
                cases ad with
                | none =>
                  simp only [Nat.beq_eq, if_true] at happ
                  injection happ with happ; injection happ with _ happ
                  have h3 := congrArg (fun st => st.hp.get s.next) happ
                  simp only [alloc, PT.get_set, if_true] at h3
                  injection h3 with h3; injection h3 with _ hz ht2 _ _
                  rw [← hz, ← ht2]
                  exact setCells_leaf_get _ _ k _ hkl (List.getElem?_eq_getElem hkl)
                | some p =>
                  unfold apRoom at hroom
                  simp only at hroom
                  split at hroom
                  · rename_i k' z1 t1 e1 md hg
                    simp only [Bool.and_eq_true, Nat.ble_eq, Bool.not_eq_true'] at hroom
                    obtain ⟨p1', p2'⟩ := p
                    simp only at hg
                    simp only [hg] at happ
                    rw [if_pos (by simp; exact hroom.1), hroom.2] at happ
                    simp only [Bool.false_eq_true, if_false] at happ
                    injection happ with happ; injection happ with _ happ
                    have h3 := congrArg (fun st => st.hp.get s.next) happ
                    simp only [alloc, PT.get_set, if_true] at h3
                    injection h3 with h3; injection h3 with _ hz ht2 _ _
                    rw [← hz, ← ht2]
                    have : cellsV z1 t1 p2' (0 * te.size) = [] := by rw [Nat.zero_mul]; rfl
                    rw [this, List.nil_append]
                    exact setCells_leaf_get _ _ k _ hkl (List.getElem?_eq_getElem hkl)
                  · cases hroom
              rw [hcell] at p2
              have : nthS new k = (new.take (nlen N))[k] := nthS_get (by rw [List.getElem_take]; exact List.getElem?_eq_getElem _)
              rw [this]; exact p2
            · left; rw [if_neg hj, if_neg hj]
          · simp only [conc, concS] at r3 ⊢
            cases hM : ψ s.next with
            | none => simp [hM] at r3
            | some M =>
              simp only [hM] at r3
              simp only [hψN, roomOf]
              rw [if_pos ⟨hb, by omega, h0⟩]
              simpa using r3
        · simp at h
      · simp at h
    · simp at h
  · simp at h

theorem sym_builtin (hE : TyOk P E) (hs : Sat P φ s w) {b : Builtin} {tys : List Nat} {args : List Operand} {ty : Nat} {cs : Array Bool} (hev : ∀ x ∈ args, EvOk P φ tm a x)
    (h : symB E tm s b tys args = some (v, s')) : Done P φ s w s' v ((builtin b tys.toArray ty cs (args.map a.eval).toArray).run P w) := by
  cases b <;> simp only [symB, reduceCtorEq] at h
  case append => exact sym_append hE hs hev h
  case copy => exact sym_copy hE hs hev h
  case len => exact sym_len hE hs hev h
  case min => exact sym_min hs hev h
end
end Go.Mx

/- Each operation: what the abstract interpreter answers, the model does. -/
set_option linter.unusedSimpArgs false
namespace Go.Mx
open Go

/-- what the interpreter answers for calls, the model's calls do -/
def CfOk (P : Program) (cf : CF) : Prop :=
  ∀ (f : Nat) (args : List AV) (s : St) (v : AV) (s' : St), cf f args s = some (v, s') →
    (∃ fn, P.funcs[f]? = some fn ∧ (fn.name == "runtime.NumGoroutine") = false ∧ fn.body.isNone = false) ∧
    ∀ (φ : Phi) (w : World) (xs : List Value), Sat P φ s w → concs P φ args = some xs →
      Calls P f xs.toArray w fun e w' => ∃ x ψ, e = .returned x ∧ Post P φ s w ψ s' w' ∧ conc P ψ v = some x

/-- an operation, done in a frame -/
def Fine (P : Program) (φ : Phi) (s : St) (w : World) (s' : St) (v : AV) (o : Oper) (a : Act) : Prop :=
  ∀ (next : Act → World → Prop) (Q : Exit → Act → World → Prop),
    (∀ ψ x w', Post P φ s w ψ s' w' → conc P ψ v = some x → next (a.put o.dst x) w') → o.wp P a w next Q

section
variable {P : Program} {E : Env} {φ : Phi} {s s' : St} {w : World} {tm : Tm} {a : Act} {v : AV} {cf : CF} {o : Oper}

theorem Done.fine (h : Done P φ s w s' v ((execOp a.eval o).run P w)) : Fine P φ s w s' v o a := by
  intro next Q hn
  obtain ⟨ψ, x, w', hr, hp, hc⟩ := h
  unfold Oper.wp
  rcases hr with hr | ⟨hr, rfl⟩
  · rw [hr]; exact hn ψ x w' hp hc
  · rw [hr]; exact hn ψ undef w' hp hc

theorem concs_append {l1 l2 : List AV} {x1 x2 : List Value} (h1 : concs P φ l1 = some x1) (h2 : concs P φ l2 = some x2) : concs P φ (l1 ++ l2) = some (x1 ++ x2) := by
  induction l1 generalizing x1 with
  | nil => simp [concs] at h1; subst h1; simpa using h2
  | cons a r ih =>
    simp only [concs] at h1
    cases ha : conc P φ a with
    | none => simp [ha] at h1
    | some y =>
      cases hr : concs P φ r with
      | none => simp [ha, hr] at h1
      | some z => simp [ha, hr] at h1; subst h1; simp [concs, ha, ih hr]

theorem concs_ptrs : ∀ {l : List (Nat × Nat)} {xs : List Value}, concPs φ l = some xs → concs P φ (l.map fun a => AV.one (.p (some a))) = some xs := by
  intro l
  induction l with
  | nil => intro xs h; simpa [concPs, concs] using h
  | cons a r ih =>
    intro xs h
    simp only [concPs] at h
    cases ha : concA φ a with
    | none => simp [ha] at h
    | some y =>
      cases hr : concPs φ r with
      | none => simp [ha, hr] at h
      | some z => simp [ha, hr] at h; subst h; simp [concs, conc, concS, ha, ih hr]

theorem op_call (hcf : CfOk P cf) (hs : Sat P φ s w) {c : Call} {f : Operand} (ho : o.op = .call c) (hc : c.callee = .value f) (hev : OpsOk P φ tm a o)
    (h : doOp E cf tm s o = some (v, s')) : Fine P φ s w s' v o a := by
  have hf := hev f (by simp [ho, Op.operands, Call.operands, hc])
  have hargs : ∀ x ∈ c.args.toList, EvOk P φ tm a x := fun x hx => hev x (by simp [ho, Op.operands, Call.operands, hc]; exact .inr (by simpa using hx))
  simp only [doOp, ho, hc] at h
  split at h
  · rename_i g first cap args hfe hae
    have hfv := evV_one hf hfe
    simp only [concS] at hfv
    split at hfv
    · rename_i x1 x2 hx1 hx2
      injection hfv with hfv
      have hav := evs_some _ _ hae hargs
      obtain ⟨⟨fn, hfn, hname, hbody⟩, hcall⟩ := hcf _ _ _ _ _ h
      have := hcall φ w (x1 ++ (c.args.toList.map a.eval) ++ x2) hs (concs_append (concs_append (concs_ptrs hx1) hav) (concs_ptrs hx2))
      intro next Q hn
      unfold Oper.wp
      have hrun : (execOp a.eval o).run P w = .ok (.enter g (x1 ++ (c.args.toList.map a.eval) ++ x2).toArray) w := by
        simp only [execOp, ho, resolve, hc, Sem.run_bind]
        rw [← hfv]
        have hp : (program).run P w = .ok P w := rfl
        simp only [Deferred.ofValue, Sem.run_pure, Result.andThen_ok, invoke, callFunc, Sem.run_bind, hp, hfn, hname, hbody, Bool.false_eq_true, if_false]
        congr 2
        simp
      rw [hrun, Oper.upon_enter]
      refine Calls.mono this fun e w' he => ?_
      obtain ⟨x, ψ, rfl, hp, hv⟩ := he
      exact hn ψ x w' hp hv
    · simp at hfv
  · simp at h

theorem op_slice (hE : TyOk P E) (hs : Sat P φ s w) {t : Nat} {x : Operand} {lo hi mx : Option Operand} (ho : o.op = .slice t x lo hi mx) (hev : OpsOk P φ tm a o)
    (h : doOp E cf tm s o = some (v, s')) : Done P φ s w s' v ((execOp a.eval o).run P w) := by
  simp only [doOp, ho] at h
  unfold sliceOp at h
  split at h
  · rename_i v1 hv
    injection h with h; injection h with h1 h2; subst h1; subst h2
    exact sym_slice hE hs ho hev hv
  · exact op_slice0 hE hs ho hev h

theorem op_indexAddr (hE : TyOk P E) (hs : Sat P φ s w) {t : Nat} {x i : Operand} (ho : o.op = .indexAddr t x i) (hev : OpsOk P φ tm a o)
    (h : doOp E cf tm s o = some (v, s')) : Done P φ s w s' v ((execOp a.eval o).run P w) := by
  simp only [doOp, ho] at h
  split at h
  · rename_i v1 hv
    injection h with h; injection h with h1 h2; subst h1; subst h2
    exact sym_idx hE hs ho hev hv
  · exact op_indexAddr0 hE hs ho hev h

theorem op_binOp (hE : TyOk P E) (hs : Sat P φ s w) {op : BinOp} {t yt : Nat} {x y : Operand} (ho : o.op = .binOp op t x y yt) (hev : OpsOk P φ tm a o)
    (h : doOp E cf tm s o = some (v, s')) : Done P φ s w s' v ((execOp a.eval o).run P w) := by
  simp only [doOp, ho] at h
  cases hxe : ev tm x with
  | none => simp [hxe] at h
  | some u =>
    cases hye : ev tm y with
    | none => simp [hxe, hye] at h
    | some u' =>
      simp only [hxe, hye] at h
      obtain ⟨h', rfl⟩ := ov_some h
      unfold binOp1 at h'
      split at h'
      · rename_i v1 hv
        injection h' with h'; subst h'
        exact sym_bin hE hs ho hev hxe hye hv
      · exact op_binOp0 hE hs ho hev hxe hye h'

theorem doOp_sound (hE : TyOk P E) (hcf : CfOk P cf) (hs : Sat P φ s w) (hev : OpsOk P φ tm a o) (h : doOp E cf tm s o = some (v, s')) : Fine P φ s w s' v o a := by
  cases ho : o.op with
  | move x => exact (op_move hs (.inl ho) hev h).fine
  | assign x => exact (op_move hs (.inr ho) hev h).fine
  | pick c x y => exact (op_pick hs ho hev h).fine
  | alloc t => exact (op_alloc hE hs ho h).fine
  | box t x => exact (op_box hE hs ho hev h).fine
  | build t ps => exact (op_build hE hs ho hev h).fine
  | buildSlice t l ps => exact (op_buildSlice hE hs ho hev h).fine
  | load t x => exact (op_load hE hs ho hev h).fine
  | store t x y => exact (op_store hE hs ho hev h).fine
  | nilCheck x => exact (op_nilCheck hs ho hev h).fine
  | binOp op t x y yt => exact (op_binOp hE hs ho hev h).fine
  | unOp op t x => exact (op_unOp hs ho hev h).fine
  | convert src dst x => exact (op_convert hE hs ho hev h).fine
  | sliceToArrayPointer t x => exact (op_s2ap hE hs ho hev h).fine
  | makeFunc fn first cap => exact (op_makeFunc hs ho hev h).fine
  | makeMap t r =>
    cases r with
    | none => exact (op_makeMap hs ho h).fine
    | some r => simp [doOp, ho] at h
  | makeChan t x => exact (op_makeChan hE hs ho hev h).fine
  | makeSlice t l c => exact (op_makeSlice hE hs ho hev h).fine
  | slice t x lo hi mx => exact (op_slice hE hs ho hev h).fine
  | fieldAddr t x f => exact (op_fieldAddr hE hs ho hev h).fine
  | field t x f => exact (op_field hE hs ho hev h).fine
  | indexAddr t x i => exact (op_indexAddr hE hs ho hev h).fine
  | index t x i => exact (op_index hE hs ho hev h).fine
  | lookup t x i ok => exact (op_lookup hE hs ho hev h).fine
  | mapUpdate t x i y => exact (op_mapUpdate hE hs ho hev h).fine
  | mapEntry t x i => exact (op_mapEntry hE hs ho hev h).fine
  | entryStore t x i y => exact (op_entryStore hE hs ho hev h).fine
  | extract x i => exact (op_extract hs ho hev h).fine
  | call c =>
    cases hc : c.callee with
    | value f => exact op_call hcf hs ho hc hev h
    | invoke r n => simp [doOp, ho, hc] at h
    | builtin b =>
      have hargs : ∀ x ∈ c.args.toList, EvOk P φ tm a x := fun x hx => hev x (by simp [ho, Op.operands, Call.operands, hc]; simpa using hx)
      simp only [doOp, ho, hc] at h
      refine Done.fine ?_
      rw [run_builtin ho hc]
      have e1 : c.argTypes = c.argTypes.toList.toArray := by simp
      have e2 : c.args.map a.eval = (c.args.toList.map a.eval).toArray := by apply Array.ext'; simp
      rw [e1, e2]
      unfold builtinOp at h
      split at h
      · rename_i r hr
        injection h with h; subst h
        exact sym_builtin hE hs hargs hr
      · cases b with
        | len => exact bi_len hE hs hargs h
        | cap => exact bi_cap hE hs hargs h
        | append => exact bi_append hE hs hargs h
        | copy => exact bi_copy hE hs hargs h
        | clear => exact bi_clear hE hs hargs h
        | delete => exact bi_delete hE hs hargs h
        | min => exact bi_min hs hargs h
        | max => exact bi_max hs hargs h
        | _ => simp [builtinOp0] at h
  | _ => simp [doOp, ho] at h
end
end Go.Mx
