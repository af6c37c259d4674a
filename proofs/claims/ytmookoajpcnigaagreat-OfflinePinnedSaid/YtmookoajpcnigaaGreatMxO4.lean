/- Operations: slice expressions, conversions, function values, literals. -/
import Derived.Test.YtmookoajpcnigaaGreatMxO3
set_option linter.unusedSimpArgs false
namespace Go.Mx
open Go

section
variable {P : Program} {E : Env} {φ : Phi} {s s' : St} {w : World} {tm : Tm} {a : Act} {v : AV} {cf : CF} {o : Oper}

theorem add_at (b B q d : Nat) : (⟨b, B + q, none⟩ : Addr).add d = ⟨b, B + (q + d), none⟩ := by
  rw [Addr.add_none, Nat.add_assoc]

theorem bound_le {x : Option Operand} {d y n : Nat} (h : bound tm x d y = some n) (hd : d ≤ y) : n ≤ y := by
  unfold bound at h
  split at h
  · simp at h; omega
  · split at h
    · simp only [cond_eq_ite, Nat.ble_eq] at h
      split at h
      · injection h with h; omega
      · simp at h
    · simp at h

theorem bound_more {x : Option Operand} {d y n : Nat} (h : bound tm x d y = some n) {z : Nat} (hz : y ≤ z) : bound tm x d z = some n := by
  unfold bound at h ⊢
  split at h
  · exact h
  · split at h
    · simp only [cond_eq_ite, Nat.ble_eq] at h
      split at h
      · rename_i he hle
        simp only [he, cond_eq_ite, Nat.ble_eq]
        rw [if_pos (by omega)]; exact h
      · simp at h
    · simp at h

/-- the same bounds, under a greater capacity -/
theorem bounds3_more {lo hi mx : Option Operand} {len cap l h m : Nat} (hb : bounds3 tm lo hi mx len cap = some (l, h, m)) {C : Nat} (hC : cap ≤ C) :
    bounds3 tm lo hi mx len C = some (l, h, if mx.isNone then C else m) ∧ (mx.isNone = true → m = cap) := by
  unfold bounds3 at hb ⊢
  cases hm : bound tm mx cap cap with
  | none => simp [hm] at hb
  | some m' =>
    simp only [hm] at hb
    cases hh : (bif mx.isSome && hi.isNone then none else bound tm hi len m') with
    | none => simp [hh] at hb
    | some h' =>
      simp only [hh] at hb
      cases hl : bound tm lo 0 h' with
      | none => simp [hl] at hb
      | some l' =>
        simp only [hl, cond_eq_ite, Bool.and_eq_true, Nat.ble_eq] at hb
        split at hb
        · rename_i hlm
          simp at hb
          obtain ⟨rfl, rfl, rfl⟩ := hb
          cases mx with
          | none =>
            have hm' : m' = cap := by simp [bound] at hm; exact hm.symm
            subst hm'
            have hhC : bound tm hi len C = some h' := bound_more (by simpa using hh) hC
            have hmC : bound tm none C C = some C := by simp [bound]
            simp only [hmC, Option.isSome_none, Bool.false_and, cond_false]
            simp only [hhC, hl, cond_eq_ite, Bool.and_eq_true, Nat.ble_eq]
            rw [if_pos (by omega)]
            simp
          | some z =>
            have hmC : bound tm (some z) C C = some m' := by
              have := bound_more hm hC
              simpa [bound] using this
            simp only [hmC]
            rw [hh]
            simp only [hl, cond_eq_ite, Bool.and_eq_true, Nat.ble_eq]
            rw [if_pos hlm]
            simp
        · simp at hb

theorem op_slice0 (hE : TyOk P E) (hs : Sat P φ s w) {t : Nat} {x : Operand} {lo hi mx : Option Operand} (ho : o.op = .slice t x lo hi mx) (hev : OpsOk P φ tm a o)
    (h : ov (sliceOp0 E tm t x lo hi mx) s = some (v, s')) : Done P φ s w s' v ((execOp a.eval o).run P w) := by
  have hx := hev x (by simp [ho, Op.operands])
  have hlo : ∀ y ∈ lo, EvOk P φ tm a y := fun y hy => hev y (by simp [ho, Op.operands]; simp at hy; simp [hy])
  have hhi : ∀ y ∈ hi, EvOk P φ tm a y := fun y hy => hev y (by simp [ho, Op.operands]; simp at hy; simp [hy])
  have hmx : ∀ y ∈ mx, EvOk P φ tm a y := fun y hy => hev y (by simp [ho, Op.operands]; simp at hy; simp [hy])
  obtain ⟨h', rfl⟩ := ov_some h
  clear h
  unfold sliceOp0 at h'
  cases ht : E.ty.get t with
  | none => simp [ht] at h'
  | some ti =>
    cases hxe : ev tm x with
    | none => simp [ht, hxe] at h'
    | some u =>
      obtain ⟨d, hd, hk, _⟩ := (hE _ _ ht).und
      have hc := hx _ hxe
      simp only [ht, hxe] at h'
      split at h'
      · rename_i sz ag e zr pl q len cap op e1 e2
        injection e1 with e1; subst e1
        injection e2 with e2; subst e2
        obtain rfl := hk
        split at h'
        · rename_i te l hh m hte hb
          obtain ⟨ei, ez, he1, he2, _⟩ := (hE _ _ hte).info
          have hrun : ∀ (A : Option Addr) (n c : Nat), a.eval x = .slice A n c → (execOp a.eval o).run P w =
              (do pure (Next.value (← Instr.slice t (.slice A n c) (lo.map a.eval) (hi.map a.eval) (mx.map a.eval))) : Sem Next).run P w := by
            intro A n c hA
            simp only [execOp, ho, hA, Instr.sliceAt, Sem.run_bind, run_und hd, Result.andThen_ok]
          cases q with
          | none =>
            simp at h'; subst h'
            simp [conc, concS] at hc
            obtain ⟨hb1, hb2⟩ := bounds3_some (w := w) hlo hhi hmx hb true
            refine done_same hs (x := .slice none (hh - l) (m - l)) ?_ (by simp [conc, concS])
            rw [hrun _ _ _ hc.symm]
            refine run_v _ ?_
            simp only [Instr.slice, Sem.run_bind, run_und hd, Result.andThen_ok, hb1, run_sizeOf he1, Sem.run_pure]
            by_cases hml : m = l <;> simp [hml]
          | some p =>
            obtain ⟨i, q⟩ := p
            simp only [conc, concS] at hc
            cases hL : φ i with
            | none => simp [hL] at hc
            | some L =>
              simp only [hL, Option.some.injEq] at hc
              obtain ⟨hb3, hcap⟩ := bounds3_more hb (C := cap + (if op then L.spare else 0)) (by omega)
              obtain ⟨hb1, hb2, _⟩ := bounds3_some (w := w) hlo hhi hmx hb3 true
              obtain ⟨hlm, hhm⟩ := (bounds3_some (w := w) hlo hhi hmx hb true).2.2
              have hfin : ∀ X, (if (if mx.isNone = true then cap + (if op = true then L.spare else 0) else m) = l then (some ⟨L.blk, L.base + q, none⟩ : Option Addr)
                    else (some ((⟨L.blk, L.base + q, none⟩ : Addr).add (l * te.size)))) = X →
                  (execOp a.eval o).run P w = .ok (.value (.slice X (hh - l) ((if mx.isNone = true then cap + (if op = true then L.spare else 0) else m) - l))) w := by
                intro X hX
                rw [hrun _ _ _ hc.symm]
                refine run_v _ ?_
                simp only [Instr.slice, Sem.run_bind, run_und hd, Result.andThen_ok, hb1, run_sizeOf he1, Sem.run_pure, he2, Option.map_some]
                rw [← hX]
              simp only [cond_eq_ite, Bool.and_eq_true, Nat.beq_eq, Option.some.injEq] at h'
              rw [add_at] at hfin
              split at h'
              · rename_i hcond
                obtain ⟨⟨hop, hmn⟩, hml⟩ := hcond
                injection h' with h'; subst h'
                have hcp := hcap hmn
                refine done_same hs (hfin _ rfl) ?_
                simp only [conc, concS, hL, hmn, hop, if_true]
                have h0 : hh - l = 0 := by omega
                have h1 : cap + L.spare - l = L.spare := by omega
                rw [h0, h1]
                by_cases hsp : L.spare = 0
                · rw [if_pos hsp, if_pos (by omega)]
                · rw [if_neg hsp, if_neg (by omega)]
              · rename_i hcond
                injection h' with h'; subst h'
                refine done_same hs (hfin _ rfl) ?_
                by_cases hml : m = l
                · rw [if_pos hml]
                  simp only [conc, concS, hL]
                  cases hmn : mx.isNone with
                  | true =>
                    have hcp := hcap hmn
                    cases op with
                    | true => exact absurd ⟨⟨rfl, hmn⟩, hml⟩ hcond
                    | false => simp [hcp, hml]; intro hne; omega
                  | false => simp [hml]
                · rw [if_neg hml]
                  simp only [conc, concS, hL]
                  cases hmn : mx.isNone with
                  | true =>
                    have hcp := hcap hmn
                    cases op with
                    | true => simp only [if_true, Bool.and_true]; rw [if_neg (by omega)]; congr 2; omega
                    | false => simp; exact ⟨fun hne => absurd (hcp.trans hne) hml, by omega⟩
                  | false => simp; exact fun hne => absurd hne hml
        · simp at h'
      · rename_i sz ag n e zr pl i q e1 e2
        injection e1 with e1; subst e1
        injection e2 with e2; subst e2
        obtain rfl := hk
        split at h'
        · rename_i te l hh m hte hb
          obtain ⟨ei, ez, he1, he2, _⟩ := (hE _ _ hte).info
          simp only [conc, concS] at hc
          split at hc
          · rename_i A hA
            injection hc with hc
            obtain ⟨L, hL, rfl⟩ := concA_some hA
            have hL' : φ i = some L := hL
            obtain ⟨hb1, hb2, hlm, hhm⟩ := bounds3_some (w := w) hlo hhi hmx hb false
            simp only [cond_eq_ite, Nat.beq_eq] at h'
            injection h' with h'; subst h'
            refine done_same hs (x := .slice (some (if m = l then ⟨L.blk, L.base + q, none⟩ else ⟨L.blk, L.base + (q + l * te.size), none⟩)) (hh - l) (m - l)) ?_ ?_
            · simp only [execOp, ho]
              refine run_v _ ?_
              rw [← hc]
              simp only [Instr.sliceAt, Sem.run_bind, run_und hd, Result.andThen_ok, Instr.sureAddr, Sem.run_pure, hb1, run_sizeOf he1, he2, add_at]
            · by_cases hml : m = l <;> simp [conc, concS, hL', hml]
          · simp at hc
        · simp at h'
      · simp at h'

theorem evs_some : ∀ (l : List Operand) (vs : List AV), evs tm l = some vs → (∀ x ∈ l, EvOk P φ tm a x) → concs P φ vs = some (l.map a.eval) := by
  intro l
  induction l with
  | nil => intro vs h _; simp [evs] at h; subst h; rfl
  | cons x r ih =>
    intro vs h hx
    simp only [evs] at h
    cases h1 : ev tm x with
    | none => simp [h1] at h
    | some u =>
      cases h2 : evs tm r with
      | none => simp [h1, h2] at h
      | some us =>
        simp [h1, h2] at h; subst h
        simp only [concs, hx x (by simp) u h1, ih us h2 (fun y hy => hx y (by simp [hy])), List.map_cons]

theorem ptrs_some : ∀ (vs : List AV) (ps : List (Nat × Nat)) (xs : List Value), ptrs vs = some ps → concs P φ vs = some xs → concPs φ ps = some xs := by
  intro vs
  induction vs with
  | nil => intro ps xs h hc; simp [ptrs] at h; subst h; simpa [concs, concPs] using hc
  | cons u r ih =>
    intro ps xs h hc
    simp only [concs] at hc
    cases h1 : conc P φ u with
    | none => simp [h1] at hc
    | some y =>
      cases h2 : concs P φ r with
      | none => simp [h1, h2] at hc
      | some ys =>
        simp [h1, h2] at hc; subst hc
        unfold ptrs at h
        split at h
        · rename_i e; cases e
        · rename_i p q e
          injection e with e1 e2; subst e1; subst e2
          split at h
          · rename_i qs hq
            injection h with h; subst h
            simp only [conc, concS] at h1
            split at h1
            · rename_i A hA
              injection h1 with h1; subst h1
              simp only [concPs, hA, ih qs ys hq h2]
            · simp at h1
          · simp at h
        · simp at h

theorem op_makeFunc (hs : Sat P φ s w) {fn : Fn} {first cap : Array Operand} (ho : o.op = .makeFunc fn first cap) (hev : OpsOk P φ tm a o)
    (h : doOp E cf tm s o = some (v, s')) : Done P φ s w s' v ((execOp a.eval o).run P w) := by
  have hf : ∀ x ∈ first.toList, EvOk P φ tm a x := fun x hx => hev x (by simp [ho, Op.operands]; left; simpa using hx)
  have hcp : ∀ x ∈ cap.toList, EvOk P φ tm a x := fun x hx => hev x (by simp [ho, Op.operands]; right; simpa using hx)
  simp only [doOp, ho] at h
  cases fn with
  | func f =>
    simp only at h
    split at h
    · rename_i u1 u2 h1 h2
      split at h
      · rename_i p1 p2 h3 h4
        simp at h; obtain ⟨rfl, rfl⟩ := h
        have k1 := ptrs_some (P := P) (φ := φ) _ _ _ h3 (evs_some _ _ h1 hf)
        have k2 := ptrs_some (P := P) (φ := φ) _ _ _ h4 (evs_some _ _ h2 hcp)
        refine done_same hs (x := .func (.func f) (first.toList.map a.eval).toArray (cap.toList.map a.eval).toArray) ?_ (by simp only [conc, concS, k1, k2])
        simp only [execOp, ho]
        refine run_v _ ?_
        simp [Instr.makeFunc]
        constructor <;> (apply Array.ext'; simp)
      · simp at h
    · simp at h
  | _ => simp at h

theorem op_s2ap (hE : TyOk P E) (hs : Sat P φ s w) {t : Nat} {x : Operand} (ho : o.op = .sliceToArrayPointer t x) (hev : OpsOk P φ tm a o)
    (h : doOp E cf tm s o = some (v, s')) : Done P φ s w s' v ((execOp a.eval o).run P w) := by
  have hx := hev x (by simp [ho, Op.operands])
  simp only [doOp, ho] at h
  split at h
  · rename_i sz ag n e zr pl q len cap op ht hxe
    simp only [cond_eq_ite, Nat.ble_eq] at h
    split at h
    · rename_i hle
      simp at h; obtain ⟨rfl, rfl⟩ := h
      obtain ⟨d, hd, hk, _⟩ := (hE _ _ ht).und
      obtain rfl := hk
      have hc := hx _ hxe
      cases q with
      | none =>
        simp [conc, concS] at hc
        refine done_same hs (x := .pointer none) ?_ (by simp [conc, concS])
        simp only [execOp, ho]
        refine run_v _ ?_
        rw [← hc]
        simp only [Instr.arrayAt, Sem.run_bind, run_und hd, Result.andThen_ok, Sem.run_ite]
        rw [if_neg (by omega)]; simp
      | some p =>
        simp only [conc, concS] at hc
        split at hc
        · rename_i L hL
          injection hc with hc
          refine done_same hs (x := .pointer (some ⟨L.blk, L.base + p.2, none⟩)) ?_ (by simp [conc, concS, concA, hL])
          simp only [execOp, ho]
          refine run_v _ ?_
          rw [← hc]
          simp only [Instr.arrayAt, Sem.run_bind, run_und hd, Result.andThen_ok, Sem.run_ite]
          rw [if_neg (by omega)]; simp
        · simp at hc
    · simp at h
  · simp at h
end
end Go.Mx
