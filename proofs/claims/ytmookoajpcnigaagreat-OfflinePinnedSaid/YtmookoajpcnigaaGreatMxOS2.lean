/- Slices whose length is not known: they are seen with the length that they have. -/
import Derived.Test.YtmookoajpcnigaaGreatMxOS1
set_option linter.unusedSimpArgs false
set_option linter.unusedVariables false
namespace Go.Mx
open Go

def actS (φ : Phi) : Sc → Sc
  | .ln g c lo hi => match φ g with
    | some L => .i .i64 (gval L + c)
    | none => .ln g c lo hi
  | .sn a lo hi m => match φ 0, φ a.1 with
    | some N, some L => match roomOf φ N L m with
      | some c => .sl (some a) (nlen N) c false
      | none => .sn a lo hi m
    | _, _ => .sn a lo hi m
  | c => c
def actV (φ : Phi) : AV → AV
  | .one c => .one (actS φ c)
  | v => v

section
variable {P : Program} {E : Env} {φ : Phi} {s s' : St} {w : World} {tm : Tm} {a : Act} {v : AV} {cf : CF} {o : Oper}

theorem actS_conc {c : Sc} {x : Value} (h : concS φ c = some x) : concS φ (actS φ c) = some x := by
  cases c with
  | ln g c lo hi =>
    simp only [concS] at h
    cases hg : φ g with
    | none => simp [hg] at h
    | some L =>
      simp only [hg] at h
      split at h
      · injection h with h; simp only [actS, hg, concS, h]
      · simp at h
  | sn q lo hi m =>
    simp only [concS] at h
    cases h0 : φ 0 with
    | none => simp [h0] at h
    | some N => cases hq : φ q.1 with
      | none => simp [h0, hq] at h
      | some L =>
        simp only [h0, hq] at h
        cases hr : roomOf φ N L m with
        | none => simp [hr] at h
        | some c =>
          simp only [hr] at h
          split at h
          · injection h with h; simp only [actS, h0, hq, hr, concS, ← h]; simp
          · simp at h
  | _ => exact h
theorem actV_conc {u : AV} {x : Value} (h : conc P φ u = some x) : conc P φ (actV φ u) = some x := by
  cases u with
  | one c => exact actS_conc h
  | _ => exact h
theorem ev_act (x : Operand) : ev (tm.mp (actV φ)) x = (ev tm x).map (actV φ) := by
  cases x with
  | tmp t =>
    simp only [ev, PT.mp_get]
    cases tm.get t with
    | none => rfl
    | some v => rfl
  | const c =>
    simp only [ev]
    cases hc : ofConst c with
    | none => rfl
    | some v =>
      have : actV φ v = v := by
        unfold ofConst at hc
        split at hc <;> first | (injection hc with hc; subst hc; rfl) | (simp at hc)
      simp [this]
  | func f => rfl
  | global g => rfl
theorem evOk_act {x : Operand} (h : EvOk P φ tm a x) : EvOk P φ (tm.mp (actV φ)) a x := fun v hv => by
  rw [ev_act] at hv
  cases he : ev tm x with
  | none => rw [he] at hv; cases hv
  | some u => rw [he] at hv; cases hv; exact actV_conc (h u he)

theorem sn_some {q : Nat × Nat} {lo hi m : Nat} {x : Value} (h : concS φ (.sn q lo hi m) = some x) :
    ∃ N L c, φ 0 = some N ∧ φ q.1 = some L ∧ roomOf φ N L m = some c ∧ (lo ≤ nlen N ∧ nlen N ≤ hi) ∧ nlen N ≤ c ∧ 0 ≤ gval N ∧ x = .slice (some ⟨L.blk, L.base + q.2, none⟩) (nlen N) c := by
  simp only [concS] at h
  cases h0 : φ 0 with
  | none => simp [h0] at h
  | some N => cases hq : φ q.1 with
    | none => simp [h0, hq] at h
    | some L =>
      simp only [h0, hq] at h
      cases hr : roomOf φ N L m with
      | none => simp [hr] at h
      | some c =>
        simp only [hr] at h
        split at h
        · rename_i hc
          injection h with h
          exact ⟨N, L, c, rfl, rfl, hr, hc.1, hc.2.1, hc.2.2, h.symm⟩
        · simp at h
theorem ln_some {g : Nat} {c lo hi : Int} {x : Value} (h : concS φ (.ln g c lo hi) = some x) : ∃ L, φ g = some L ∧ lo ≤ gval L ∧ gval L ≤ hi ∧ x = .int .i64 (gval L + c) := by
  simp only [concS] at h
  cases hg : φ g with
  | none => simp [hg] at h
  | some L =>
    simp only [hg] at h
    split at h
    · rename_i hc; injection h with h; exact ⟨L, rfl, hc.1, hc.2, h.symm⟩
    · simp at h
theorem lnOf_some {x : Operand} {c lo hi : Int} (hx : EvOk P φ tm a x) (h : lnOf tm x = some (c, lo, hi)) : ∃ N, φ 0 = some N ∧ lo ≤ gval N ∧ gval N ≤ hi ∧ ev (tm.mp (actV φ)) x = some (.one (.i .i64 (gval N + c))) := by
  unfold lnOf at h
  split at h
  · rename_i c' lo' hi' he
    injection h with h; injection h with h1 h; injection h with h2 h3
    subst h1; subst h2; subst h3
    obtain ⟨N, h1, h2, h3, _⟩ := ln_some (hx _ he)
    refine ⟨N, h1, h2, h3, ?_⟩
    rw [ev_act, he]; simp [actV, actS, h1]
  · simp at h
theorem lowOf_some {lo : Option Operand} {k : Nat} (h : lowOf tm lo = some k) : ∀ y, k ≤ y → bound (tm.mp (actV φ)) lo 0 y = some k := by
  intro y hy
  unfold lowOf at h
  cases lo with
  | none => injection h with h; subst h; rfl
  | some x =>
    simp only at h
    split at h
    · rename_i kk n he
      cases n with
      | ofNat n =>
        simp only [natOf] at h; injection h with h; subst h
        simp only [bound, evI, ev_act, he, Option.map_some, actV, actS, cond_eq_ite, Nat.ble_eq]
        rw [if_pos hy]
      | negSucc n => simp [natOf] at h
    · simp at h

theorem natOf_some {x : Int} {n : Nat} (h : natOf x = some n) : x = (n : Int) := by
  cases x with
  | ofNat m => simp only [natOf] at h; injection h with h; subst h; rfl
  | negSucc m => simp [natOf] at h

theorem Done.chg {P : Program} {φ : Phi} {s s' : St} {w : World} {v v' : AV} {r : Result Next} (h : Done P φ s w s' v' r) (hv : ∀ ψ x, φ.le ψ → conc P ψ v' = some x → conc P ψ v = some x) : Done P φ s w s' v r := by
  obtain ⟨ψ, x, w', h1, h2, h3⟩ := h
  exact ⟨ψ, x, w', h1, h2, hv ψ x h2.sub h3⟩

theorem sym_slice (hE : TyOk P E) (hs : Sat P φ s w) {t : Nat} {x : Operand} {lo hi mx : Option Operand} (ho : o.op = .slice t x lo hi mx) (hev : OpsOk P φ tm a o)
    (h : symSlice E tm t x lo hi mx = some v) : Done P φ s w s v ((execOp a.eval o).run P w) := by
  have hx := hev x (by simp [ho, Op.operands])
  have hlo : ∀ y ∈ lo, EvOk P φ tm a y := fun y hy => hev y (by simp [ho, Op.operands]; simp at hy; simp [hy])
  have hhi : ∀ y ∈ hi, EvOk P φ tm a y := fun y hy => hev y (by simp [ho, Op.operands]; simp at hy; simp [hy])
  have hmx : ∀ y ∈ mx, EvOk P φ tm a y := fun y hy => hev y (by simp [ho, Op.operands]; simp at hy; simp [hy])
  have hevA : OpsOk P φ (tm.mp (actV φ)) a o := fun y hy => evOk_act (hev y hy)
  have go : ∀ v', sliceOp0 E (tm.mp (actV φ)) t x lo hi mx = some v' → (∀ ψ x, φ.le ψ → conc P ψ v' = some x → conc P ψ v = some x) → Done P φ s w s v ((execOp a.eval o).run P w) :=
    fun v' h1 h2 => (op_slice0 hE hs ho hevA (by rw [h1]; rfl)).chg h2
  unfold symSlice at h
  split at h
  · -- of an array
    rename_i sz ag n e zr pl i q ht hxe
    have hxA : ev (tm.mp (actV φ)) x = some (.one (.p (some (i, q)))) := by rw [ev_act, hxe]; rfl
    split at h
    · rename_i hi mx
      split at h
      · rename_i c l u c' l' u' k te hlh hlm hlo2 hte
        split at h
        · rename_i l1 u1 hl1 hu1
          simp only [cond_eq_ite, Bool.and_eq_true, decide_eq_true_eq, Nat.beq_eq, Nat.ble_eq] at h
          split at h
          · rename_i hc
            injection h with h; subst h
            obtain ⟨⟨⟨⟨hc1, hc2⟩, hsz⟩, h1l⟩, hku⟩ := hc
            subst hc1; subst hc2
            have e1 := natOf_some hl1
            have e2 := natOf_some hu1
            subst e1; subst e2
            obtain ⟨N, hN, g1, g2, g3⟩ := lnOf_some (hhi hi (by simp)) hlh
            obtain ⟨N', hN', _, _, g4⟩ := lnOf_some (hmx mx (by simp)) hlm
            rw [hN] at hN'; injection hN' with hN'; subst hN'
            have hnl : (nlen N : Int) = gval N := by unfold nlen; omega
            have hval : gval N + (k : Int) = Int.ofNat (nlen N + k) := by rw [← hnl]; rfl
            have b1 : bound (tm.mp (actV φ)) (some mx) n n = some (nlen N + k) := by
              simp only [bound, evI, g4, hval, cond_eq_ite, Nat.ble_eq]; rw [if_pos (by omega)]
            have b2 : bound (tm.mp (actV φ)) (some hi) n (nlen N + k) = some (nlen N + k) := by
              simp only [bound, evI, g3, hval, cond_eq_ite, Nat.ble_eq]; rw [if_pos (by omega)]
            have b3 := lowOf_some (φ := φ) hlo2 (nlen N + k) (by omega)
            refine go (.one (.sl (some (i, q + k)) (nlen N) (nlen N) false)) ?_ fun ψ y hle hy => ?_
            · unfold sliceOp0
              simp only [ht, hxA, hte, bounds3, b1, b2, b3, Option.isSome_some, Option.isNone_some, Bool.true_and, cond_false, cond_eq_ite, Bool.and_eq_true, Nat.ble_eq, Nat.beq_eq, hsz, Bool.false_eq_true, if_false]
              rw [if_pos ⟨by omega, by omega⟩]
              simp only [Nat.mul_one]
              rw [if_neg (by omega), show nlen N + k - k = nlen N from by omega, hsz, Nat.mul_one]
            · simp only [conc, concS] at hy ⊢
              have hN2 := hle _ _ hN
              cases hi2 : ψ i with
              | none => simp [hi2] at hy
              | some L =>
                simp only [hi2] at hy
                simp only [hN2, hi2, roomOf]
                rw [if_pos (by omega)]
                simpa using hy
          · simp at h
        · simp at h
      · simp at h
    · simp at h
  · -- of a slice that is as long as the argument
    rename_i sz ag e zr pl q l u m ht hxe
    obtain ⟨N, L, c, hN, hL, hr, hb, hnc, h0, hxv⟩ := sn_some (hx _ hxe)
    have hxA : ev (tm.mp (actV φ)) x = some (.one (.sl (some q) (nlen N) c false)) := by rw [ev_act, hxe]; simp [actV, actS, hN, hL, hr]
    have hnl : (nlen N : Int) = gval N := by unfold nlen; omega
    split at h
    · rename_i te hte
      simp only [cond_eq_ite, Nat.beq_eq] at h
      split at h
      · rename_i hsz
        split at h
        · rename_i hi
          split at h
          · rename_i c0 l0 u0 hlh
            simp only [Bool.and_eq_true, decide_eq_true_eq, Nat.ble_eq] at h
            split at h
            · rename_i hc
              injection h with h; subst h
              obtain ⟨hc0, hl1⟩ := hc
              subst hc0
              obtain ⟨N', hN', _, _, g3⟩ := lnOf_some (hhi hi (by simp)) hlh
              rw [hN] at hN'; injection hN' with hN'; subst hN'
              have hval : gval N + 0 = Int.ofNat (nlen N) := by rw [← hnl]; simp
              have b2 : bound (tm.mp (actV φ)) (some hi) (nlen N) c = some (nlen N) := by
                simp only [bound, evI, g3, hval, cond_eq_ite, Nat.ble_eq]; rw [if_pos hnc]
              refine go (.one (.sl (some q) (nlen N) c false)) ?_ fun ψ y hle hy => ?_
              · obtain ⟨q1, q2⟩ := q
                unfold sliceOp0
                simp only [ht, hxA, hte, bounds3, bound, evI, g3, hval, Option.isSome_none, Bool.false_and, cond_false, cond_eq_ite, Bool.and_eq_true, Nat.ble_eq, Nat.beq_eq, Nat.sub_zero, Bool.false_eq_true, if_false, if_pos hnc]
                rw [if_pos ⟨by omega, by omega⟩]
                simp
              · simp only [conc, concS] at hy ⊢
                have hN2 := hle _ _ hN
                have hL2 := hle _ _ hL
                simp only [hL2] at hy
                simp only [hN2, hL2, roomOf_mono hle hr]
                rw [if_pos ⟨hb, hnc, h0⟩]
                simpa using hy
            · simp at h
          · simp at h
        · rename_i lo
          split at h
          · rename_i c0 l0 u0 hlh
            simp only [decide_eq_true_eq] at h
            split at h
            · rename_i hc0
              injection h with h; subst h
              subst hc0
              obtain ⟨N', hN', _, _, g3⟩ := lnOf_some (hlo lo (by simp)) hlh
              rw [hN] at hN'; injection hN' with hN'; subst hN'
              have hval : gval N + 0 = Int.ofNat (nlen N) := by rw [← hnl]; simp
              refine go (.one (.sl (some (bif Nat.beq c (nlen N) then q else (q.1, q.2 + nlen N))) 0 (c - nlen N) false)) ?_ fun ψ y hle hy => ?_
              · obtain ⟨q1, q2⟩ := q
                unfold sliceOp0
                simp only [ht, hxA, hte, bounds3, bound, evI, g3, hval, Option.isSome_none, Bool.false_and, cond_false, cond_eq_ite, Bool.and_eq_true, Nat.ble_eq, Nat.beq_eq, Nat.le_refl, if_true, hsz, Nat.mul_one, Nat.sub_self, Bool.false_eq_true, if_false]
                rw [if_pos ⟨hnc, hnc⟩]
                simp [hsz]
              · simp only [conc, concS] at hy ⊢
                have hN2 := hle _ _ hN
                have hL2 := hle _ _ hL
                simp only [hN2, hL2, roomOf_mono hle hr]
                rw [if_pos ⟨hb, hnc, h0⟩]
                by_cases hcn : c = nlen N
                · simp only [cond_eq_ite, Nat.beq_eq, hcn, if_true, hL2] at hy ⊢; simpa using hy
                · simp only [cond_eq_ite, Nat.beq_eq, hcn, if_false, hL2] at hy ⊢; simpa using hy
            · simp at h
          · simp at h
        · simp at h
      · simp at h
    · simp at h
  · -- of a slice that is known
    rename_i sz ag e zr pl q len cap op ht hxe
    have hxA : ev (tm.mp (actV φ)) x = some (.one (.sl (some q) len cap op)) := by rw [ev_act, hxe]; rfl
    split at h
    · rename_i te hte
      simp only [cond_eq_ite, Nat.beq_eq] at h
      split at h
      · rename_i hsz
        split at h
        · rename_i hi
          split at h
          · rename_i c0 l0 u0 hlh
            split at h
            · rename_i l1 u1 hl1 hu1
              simp only [Bool.and_eq_true, decide_eq_true_eq, Nat.ble_eq] at h
              split at h
              · rename_i hc
                injection h with h; subst h
                obtain ⟨⟨hc0, h1l⟩, huc⟩ := hc
                subst hc0
                have e1 := natOf_some hl1
                have e2 := natOf_some hu1
                subst e1; subst e2
                obtain ⟨N, hN, g1, g2, g3⟩ := lnOf_some (hhi hi (by simp)) hlh
                have hnl : (nlen N : Int) = gval N := by unfold nlen; omega
                have hval : gval N + 0 = Int.ofNat (nlen N) := by rw [← hnl]; simp
                refine go (.one (.sl (some q) (nlen N) cap op)) ?_ fun ψ y hle hy => ?_
                · obtain ⟨q1, q2⟩ := q
                  unfold sliceOp0
                  simp only [ht, hxA, hte, bounds3, bound, evI, g3, hval, Option.isSome_none, Bool.false_and, cond_false, cond_eq_ite, Bool.and_eq_true, Nat.ble_eq, Nat.beq_eq, Nat.sub_zero, Bool.false_eq_true, if_false, if_pos (show nlen N ≤ cap by omega)]
                  rw [if_pos ⟨by omega, by omega⟩]
                  have hcap : cap ≠ 0 := by omega
                  simp [hcap]
                · simp only [conc, concS] at hy ⊢
                  have hN2 := hle _ _ hN
                  cases hi2 : ψ q.1 with
                  | none => simp [hi2] at hy
                  | some L =>
                    simp only [hi2] at hy
                    have hroom : roomOf ψ N L (4 + (2 * cap + (if op = true then 1 else 0))) = some (cap + (if op = true then L.spare else 0)) := by
                      rw [show 4 + (2 * cap + (if op = true then 1 else 0)) = (2 * cap + (if op = true then 1 else 0)) + 4 from by omega]
                      simp only [roomOf]
                      cases op with
                      | true => simp only [if_true]; rw [if_neg (by omega), show (2 * cap + 1) / 2 = cap from by omega]
                      | false => simp only [Bool.false_eq_true, if_false, Nat.add_zero]; rw [if_pos (by omega), show 2 * cap / 2 = cap from by omega]
                    simp only [hN2, hi2, cond_eq_ite, hroom]
                    rw [if_pos (by omega)]
                    simpa using hy
              · simp at h
            · simp at h
          · simp at h
        · simp at h
      · simp at h
    · simp at h
  · simp at h

theorem sym_idx (hE : TyOk P E) (hs : Sat P φ s w) {t : Nat} {x i : Operand} (ho : o.op = .indexAddr t x i) (hev : OpsOk P φ tm a o)
    (h : symIdx E tm t x i = some v) : Done P φ s w s v ((execOp a.eval o).run P w) := by
  have hx := hev x (by simp [ho, Op.operands])
  have hevA : OpsOk P φ (tm.mp (actV φ)) a o := fun y hy => evOk_act (hev y hy)
  unfold symIdx at h
  split at h
  · rename_i sz ag e zr pl q l u m kk k ht hxe hie
    split at h
    · rename_i te hte
      simp only [cond_eq_ite, Bool.and_eq_true, Nat.beq_eq, Nat.ble_eq] at h
      split at h
      · rename_i hc
        injection h with h; subst h
        obtain ⟨N, L, c, hN, hL, hr, hb, hnc, h0, hxv⟩ := sn_some (hx _ hxe)
        have hxA : ev (tm.mp (actV φ)) x = some (.one (.sl (some q) (nlen N) c false)) := by rw [ev_act, hxe]; simp [actV, actS, hN, hL, hr]
        have hiA : evI (tm.mp (actV φ)) i = some (kk, .ofNat k) := by unfold evI; rw [ev_act, hie]; rfl
        refine op_indexAddr0 hE hs ho hevA ?_
        obtain ⟨q1, q2⟩ := q
        unfold idxOp
        simp only [ht, hxA, hiA, hte, cond_eq_ite, Nat.ble_eq]
        rw [if_pos (by omega), hc.1, Nat.mul_one]
      · simp at h
    · simp at h
  · simp at h

theorem sym_len (hE : TyOk P E) (hs : Sat P φ s w) {tys : List Nat} {args : List Operand} {ty : Nat} {cs : Array Bool} (hev : ∀ x ∈ args, EvOk P φ tm a x)
    (h : symLen E tm s tys args = some (v, s')) : Done P φ s w s' v ((builtin .len tys.toArray ty cs (args.map a.eval).toArray).run P w) := by
  unfold symLen at h
  split at h
  · rename_i t tr x xr
    split at h
    · rename_i sz ag e zr pl q l u m ht hxe
      injection h with h; injection h with h1 h2; subst h1; subst h2
      obtain ⟨N, L, c, hN, hL, hr, hb, hnc, h0, hxv⟩ := sn_some (hev x (by simp) _ hxe)
      have hA : builtinOp0 E (tm.mp (actV φ)) s .len (t :: tr) (x :: xr) = some (.one (.i .i64 (nlen N)), s) := by
        simp only [builtinOp0, ht, ev_act, hxe, Option.map_some, actV, actS, hN, hL, hr, lenV]
      refine (bi_len hE hs (fun y hy => evOk_act (hev y hy)) hA).chg fun ψ y hle hy => ?_
      simp only [conc, concS] at hy ⊢
      have hnl : (nlen N : Int) = gval N := by unfold nlen; omega
      simp only [hle _ _ hN]
      rw [if_pos (by omega), Int.add_zero, ← hnl]
      exact hy
    · simp at h
  · simp at h

theorem sym_min (hs : Sat P φ s w) {tys : List Nat} {args : List Operand} {ty : Nat} {cs : Array Bool} (hev : ∀ x ∈ args, EvOk P φ tm a x)
    (h : symMin tm s args = some (v, s')) : Done P φ s w s' v ((builtin .min tys.toArray ty cs (args.map a.eval).toArray).run P w) := by
  unfold symMin at h
  split at h
  · rename_i x y
    split at h
    · rename_i g c l u b hxe hye
      obtain ⟨L, hL, g1, g2, _⟩ := ln_some (hev x (by simp) _ hxe)
      have hx2 : evI (tm.mp (actV φ)) x = some (.i64, gval L + c) := by simp only [evI, ev_act, hxe, Option.map_some, actV, actS, hL]
      have hy2 : evI (tm.mp (actV φ)) y = some (.i64, b) := by simp only [evI, ev_act, hye, Option.map_some, actV, actS]
      have hA : builtinOp0 (⟨.leaf, .leaf, .leaf, .leaf⟩ : Env) (tm.mp (actV φ)) s .min tys [x, y] = some (.one (.i .i64 (minI (gval L + c) b)), s) := by
        unfold builtinOp0
        simp only [hx2, foldMM, hy2, cond_true]
      have hD := bi_min (P := P) (ty := ty) (cs := cs) hs (fun y hy => evOk_act (hev y hy)) hA
      simp only [cond_eq_ite, decide_eq_true_eq] at h
      split at h
      · rename_i hle
        injection h with h; injection h with h1 h2; subst h1; subst h2
        refine hD.chg fun ψ y hle2 hy => ?_
        simp only [conc, concS] at hy ⊢
        simp only [hle2 _ _ hL]
        rw [if_pos ⟨g1, g2⟩, ← hy]
        simp only [minI, cond_eq_ite, decide_eq_true_eq]; rw [if_neg (by omega)]
      · split at h
        · rename_i hle
          injection h with h; injection h with h1 h2; subst h1; subst h2
          refine hD.chg fun ψ y hle2 hy => ?_
          simp only [conc, concS] at hy ⊢
          rw [← hy]
          simp only [minI, cond_eq_ite, decide_eq_true_eq]
          by_cases hh : b < gval L + c
          · rw [if_pos hh]
          · rw [if_neg hh]; congr 2; omega
        · simp at h
    · simp at h
  · simp at h
end
end Go.Mx
