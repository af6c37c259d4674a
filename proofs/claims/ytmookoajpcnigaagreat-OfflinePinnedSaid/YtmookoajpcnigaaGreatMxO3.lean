/- Operations: slices, conversions, literals. -/
import Derived.Test.YtmookoajpcnigaaGreatMxO2
import Derived.Laws.Tables
import Derived.Laws.IdiomStrings
set_option linter.unusedSimpArgs false
namespace Go.Mx
open Go

theorem fold_set : ∀ (ys : List Value) (off i : Nat) (cells : Array Value),
    ((ys.zipIdx i).foldl (fun cs (p : Value × Nat) => cs.setIfInBounds (off + p.2) p.1) cells).size = cells.size ∧
    (off + i + ys.length ≤ cells.size → ∀ k, ((ys.zipIdx i).foldl (fun cs (p : Value × Nat) => cs.setIfInBounds (off + p.2) p.1) cells)[k]? =
      if off + i ≤ k ∧ k < off + i + ys.length then ys[k - (off + i)]? else cells[k]?) := by
  intro ys
  induction ys with
  | nil => intro off i cells; exact ⟨rfl, fun _ k => by rw [if_neg (by simp only [List.length_nil]; omega)]; rfl⟩
  | cons y r ih =>
    intro off i cells
    simp only [List.zipIdx_cons, List.foldl_cons, List.length_cons]
    obtain ⟨h1, h2⟩ := ih off (i + 1) (cells.setIfInBounds (off + i) y)
    refine ⟨by rw [h1]; simp, fun hle k => ?_⟩
    rw [h2 (by rw [Array.size_setIfInBounds]; omega)]
    by_cases hk : off + (i + 1) ≤ k ∧ k < off + (i + 1) + r.length
    · rw [if_pos hk, if_pos (by omega), show k - (off + i) = (k - (off + (i + 1))) + 1 from by omega]; simp
    · rw [if_neg hk]
      by_cases hk2 : k = off + i
      · subst hk2; rw [if_pos (by omega), Array.getElem?_setIfInBounds_self]; simp; omega
      · rw [if_neg (by omega), Array.getElem?_setIfInBounds_ne (by omega)]

theorem splice_length {cs vs : List Sc} {off : Nat} (h : off + vs.length ≤ cs.length) : (splice cs off vs).length = cs.length := by
  simp [splice]; omega

theorem splice_get {cs vs : List Sc} {off : Nat} (h : off + vs.length ≤ cs.length) (k : Nat) :
    (splice cs off vs)[k]? = if off ≤ k ∧ k < off + vs.length then vs[k - off]? else cs[k]? := by
  unfold splice
  by_cases h1 : k < off
  · rw [List.getElem?_append_left (by simp; omega), List.getElem?_append_left (by simp; omega), if_neg (by omega), List.getElem?_take, if_pos h1]
  · by_cases h2 : k < off + vs.length
    · rw [List.getElem?_append_left (by simp; omega), List.getElem?_append_right (by simp; omega), if_pos (by omega)]
      congr 1; simp; omega
    · rw [List.getElem?_append_right (by simp; omega), if_neg (by omega), List.getElem?_drop]
      congr 1; simp; omega

section
variable {P : Program} {E : Env} {φ : Phi} {s s' : St} {w : World} {tm : Tm} {a : Act} {v : AV} {cf : CF} {o : Oper}

theorem splice_conc {cs vs : List Sc} {xs ys : List Value} {off : Nat} (hc : concL φ cs = some xs) (hv : concL φ vs = some ys) (h : off + vs.length ≤ cs.length) :
    concL φ (splice cs off vs) = some (ys.toArray.zipIdx.foldl (fun cs (p : Value × Nat) => cs.setIfInBounds (off + p.2) p.1) xs.toArray).toList := by
  have hl := concL_length hc
  have hm := concL_length hv
  have hfold : ys.toArray.zipIdx.foldl (fun cs (p : Value × Nat) => cs.setIfInBounds (off + p.2) p.1) xs.toArray =
      (ys.zipIdx 0).foldl (fun cs (p : Value × Nat) => cs.setIfInBounds (off + p.2) p.1) xs.toArray := by
    rw [← Array.foldl_toList]; simp
  rw [hfold]
  obtain ⟨h1, h2⟩ := fold_set ys off 0 xs.toArray
  refine concL_of (by rw [splice_length h, ← hl]; simpa using h1) fun k c hk => ?_
  rw [splice_get h] at hk
  rw [Array.getElem?_toList, h2 (by simp; omega)]
  by_cases hin : off ≤ k ∧ k < off + vs.length
  · rw [if_pos hin] at hk
    rw [if_pos (by omega)]
    obtain ⟨y, hy, hcy⟩ := concL_get hv _ _ hk
    exact ⟨y, by simpa using hy, hcy⟩
  · rw [if_neg hin] at hk
    rw [if_neg (by omega)]
    obtain ⟨y, hy, hcy⟩ := concL_get hc _ _ hk
    exact ⟨y, by simpa using hy, hcy⟩

theorem fill_conc (hE : TyOk P E) (place : Nat → Option (Nat × Nat)) : ∀ (ps : List (Nat × Operand)) (cs cs' : List Sc) (xs : List Value),
    (∀ p ∈ ps, EvOk P φ tm a p.2) → concL φ cs = some xs → fillOp E tm place ps cs = some cs' →
    ∃ xs', Instr.fill place xs.toArray (ps.map fun p => (p.1, a.eval p.2)) = some xs'.toArray ∧ concL φ cs' = some xs' := by
  intro ps
  induction ps with
  | nil => intro cs cs' xs _ hc h; simp [fillOp] at h; subst h; exact ⟨xs, by simp [Instr.fill], hc⟩
  | cons p r ih =>
    intro cs cs' xs hp hc h
    obtain ⟨i, x⟩ := p
    simp only [fillOp] at h
    cases hpl : place i with
    | none => simp [hpl] at h
    | some q =>
      obtain ⟨off, sz⟩ := q
      cases he : evC E tm x with
      | none => simp [hpl, he] at h
      | some vs =>
        simp only [hpl, he, cond_eq_ite, Bool.and_eq_true, Nat.beq_eq, Nat.ble_eq] at h
        split at h
        · rename_i hle
          obtain ⟨h1, h2⟩ := hle
          have hv := evC_of hE (hp (i, x) (by simp)) he
          have hvl := concL_length hv
          have hcl := concL_length hc
          have hsp := splice_conc hc hv (off := off) (by omega)
          obtain ⟨xs', hx1, hx2⟩ := ih _ _ _ (fun q hq => hp q (by simp [hq])) hsp h
          refine ⟨xs', ?_, hx2⟩
          simp only [List.map_cons, Instr.fill, hpl]
          have hvs : (a.eval x).cells.size = vs.length := by rw [← hvl]; simp
          rw [if_neg (by simp; omega)]
          simpa using hx1
        · simp at h

theorem concL_rep {l : List Sc} {xs : List Value} (h : concL φ l = some xs) : ∀ n, ∃ ys, concL φ (repCells n l) = some ys ∧ ys.length = n * xs.length ∧ ∀ k, k < n * xs.length → ys[k]? = xs[k % xs.length]? := by
  intro n
  induction n with
  | zero => exact ⟨[], rfl, by simp, fun k hk => by omega⟩
  | succ n ih =>
    obtain ⟨ys, h1, h2, h3⟩ := ih
    refine ⟨xs ++ ys, concL_append h h1, by simp [h2, Nat.add_mul, Nat.add_comm], fun k hk => ?_⟩
    rw [Nat.add_mul] at hk
    by_cases hlt : k < xs.length
    · rw [List.getElem?_append_left hlt, Nat.mod_eq_of_lt hlt]
    · rw [List.getElem?_append_right (by omega), h3 _ (by omega)]
      congr 1
      rw [← Nat.mod_eq_sub_mod (by omega)]

theorem repCells_length (n : Nat) (l : List Sc) : (repCells n l).length = n * l.length := by
  induction n with
  | zero => simp [repCells]
  | succ n ih => simp [repCells, ih, Nat.add_mul, Nat.add_comm]

theorem repCells_get (l : List Sc) : ∀ n k, k < n * l.length → (repCells n l)[k]? = l[k % l.length]? := by
  intro n
  induction n with
  | zero => intro k h; omega
  | succ n ih =>
    intro k hk
    rw [Nat.add_mul] at hk
    simp only [repCells]
    by_cases hlt : k < l.length
    · rw [List.getElem?_append_left hlt, Nat.mod_eq_of_lt hlt]
    · rw [List.getElem?_append_right (by omega), ih _ (by omega)]
      congr 1
      rw [← Nat.mod_eq_sub_mod (by omega)]

/-- zero cells, again and again, as the model lays them -/
theorem zero_row (hE : TyOk P E) {t : Nat} {ti : TI} (ht : E.ty.get t = some ti) (n : Nat) : ∃ i z, P.info? t = some i ∧ i.size = ti.size ∧ i.bytes ≤ 1048576 ∧ i.zero = some z ∧
    z.cells.size = ti.size ∧ concL φ (repCells n (zeroCells ti)) = some (((Array.range (n * ti.size)).map fun k => z.cells[k % z.cells.size]!).toList) := by
  obtain ⟨i, z, h1, h2, h3, h4, h5, h6, _⟩ := (hE _ _ ht).info
  have hl := concL_mono (Phi.nil_le φ) h5
  have hlen := concL_length hl
  have hzs : z.cells.size = ti.size := by simp at hlen; omega
  refine ⟨i, z, h1, h2, h3, h4, hzs, ?_⟩
  obtain ⟨ys, hy1, hy2, hy3⟩ := concL_rep hl n
  rw [hy1]
  congr 1
  apply List.ext_getElem?
  intro k
  have hcl : z.cells.toList.length = ti.size := by simpa using hzs
  by_cases hk : k < n * ti.size
  · rw [hy3 k (by rw [hcl]; exact hk)]
    have hpos : 0 < ti.size := by
      rcases Nat.eq_zero_or_pos ti.size with h | h
      · rw [h] at hk; omega
      · exact h
    have hmod : k % ti.size < z.cells.size := by rw [hzs]; exact Nat.mod_lt _ hpos
    simp only [hcl, Array.toList_map, Array.toList_range, List.getElem?_map, List.getElem?_range hk, Option.map_some, hzs]
    rw [getElem!_pos z.cells _ hmod, Array.getElem?_toList, Array.getElem?_eq_getElem hmod]
  · rw [List.getElem?_eq_none (by rw [hy2, hcl]; omega), List.getElem?_eq_none (by simp; omega)]

theorem cellV_zero (ti : TI) (hl : ti.size = (zeroCells ti).length) (n k : Nat) (hk : k < n * ti.size) :
    (repCells n (zeroCells ti))[k]? = some (cellV (zeroOf ti) .leaf k) := by
  rw [repCells_get _ _ _ (by rw [← hl]; exact hk), ← hl]
  have hpos : 0 < ti.size := by
    rcases Nat.eq_zero_or_pos ti.size with h | h
    · rw [h] at hk; omega
    · exact h
  have := cellV_leaf ti (k % ti.size) (Nat.mod_lt _ hpos) hl
  rw [this]
  simp only [cellV, PT.get, zeroOf, Nat.mod_mod]

theorem op_makeSlice (hE : TyOk P E) (hs : Sat P φ s w) {t : Nat} {l c : Operand} (ho : o.op = .makeSlice t l c) (hev : OpsOk P φ tm a o)
    (h : doOp E cf tm s o = some (v, s')) : Done P φ s w s' v ((execOp a.eval o).run P w) := by
  have hl := hev l (by simp [ho, Op.operands])
  have hc := hev c (by simp [ho, Op.operands])
  simp only [doOp, ho] at h
  split at h
  · rename_i sz ag e zr pl k1 n k2 m ht hln hcn
    split at h
    · rename_i te hte
      simp only [cond_eq_ite, Bool.and_eq_true, Nat.ble_eq] at h
      split at h
      · rename_i hle
        obtain ⟨hnm, hm⟩ := hle
        unfold lim at hm
        simp at h; obtain ⟨rfl, rfl⟩ := h
        obtain ⟨d, hd, rfl, _⟩ := (hE _ _ ht).und
        obtain ⟨i, z, h1, h2, h3, h4, h5, h6⟩ := zero_row hE hte (φ := φ) m
        obtain ⟨_, _, _, _, _, _, _, hzl, _⟩ := (hE _ _ hte).info
        have hlv := evI_of hl hln
        have hcv := evI_of hc hcn
        have hb : i.bytes * m ≤ 1048576 * 1048576 := Nat.mul_le_mul h3 hm
        refine ⟨φ.upd s.next ⟨w.heap.size, 0, 0⟩, .slice (some ⟨w.heap.size, 0, none⟩) n m,
          { w with heap := w.heap.push (.cells ((Array.range (m * te.size)).map fun k => z.cells[k % z.cells.size]!) e) }, .inl ?_, ?_, by simp [conc, concS, upd_self]⟩
        · simp only [execOp, ho]
          refine run_v _ ?_
          have hw1 : IntKind.i64.wrap (n : Int) = n := by simp [IntKind.wrap, IntKind.bits, IntKind.signed]; omega
          have hw2 : IntKind.i64.wrap (m : Int) = m := by simp [IntKind.wrap, IntKind.bits, IntKind.signed]; omega
          have hb' : (i.bytes : Int) * (m : Int) ≤ 1048576 * 1048576 := by
            have h3 : ((i.bytes * m : Nat) : Int) ≤ ((1048576 * 1048576 : Nat) : Int) := Int.ofNat_le.2 hb
            rw [Int.natCast_mul] at h3
            exact h3
          simp only [Instr.makeSlice, hlv, hcv, asInt, asIntOf, Sem.run_bind, Sem.run_pure, Result.andThen_ok, run_und hd, run_typeInfo h1, Int.ofNat_eq_natCast, hw1, hw2]
          have hcond : ¬ (((m : Int) < 0 || (i.bytes : Int) * (m : Int) > 2 ^ 48) || (n : Int) < 0 || (n : Int) > (m : Int)) = true := by
            simp only [Bool.or_eq_true, decide_eq_true_eq]
            rintro (((h | h) | h) | h) <;> omega
          simp only [Sem.run_ite, Sem.run_bind]
          rw [if_neg (by simpa using hcond)]
          simp only [Sem.run_pure, Result.andThen_ok, run_askRoom, Int.toNat_natCast, run_sizeOf h1, h2]
          by_cases hz : m * te.size = 0
          · simp only [hz, if_true, Sem.run_pure, Result.andThen_ok, newRow, Sem.run_bind, run_newObj]
            have e0 : ∀ f : Nat → Value, (Array.range 0).map f = #[] := fun f => Array.eq_empty_of_size_eq_zero (by simp)
            rw [e0, e0]
          · simp only [hz, if_false, Sem.run_bind, run_zeroValue h1 h4, Result.andThen_ok, Sem.run_pure, newRow, run_newObj]
        · refine new_arr hs h6 (by rw [repCells_length, ← hzl]) (fun k c hk hc => ?_) false
          rw [cellV_zero te hzl m k hk] at hc; injection hc
      · simp at h
    · simp at h
  · simp at h

/-- the bounds of a slice expression -/
theorem bounds3_some {lo hi mx : Option Operand} {len cap l h m : Nat} (hlo : ∀ x ∈ lo, EvOk P φ tm a x) (hhi : ∀ x ∈ hi, EvOk P φ tm a x) (hmx : ∀ x ∈ mx, EvOk P φ tm a x)
    (hb : bounds3 tm lo hi mx len cap = some (l, h, m)) (isS : Bool) :
    (Instr.sliceBounds isS len cap (lo.map a.eval) (hi.map a.eval) (mx.map a.eval)).run P w = .ok (l, h, m) w ∧ l ≤ h ∧ l ≤ m ∧ h ≤ m := by
  have hbound : ∀ (x : Operand) (d y n : Nat) (code : BoundsCode), EvOk P φ tm a x → bound tm (some x) d y = some n →
      (Instr.sliceBound (a.eval x) y code).run P w = .ok n w ∧ n ≤ y := by
    intro x d y n code hx hbn
    unfold bound at hbn
    simp only at hbn
    split at hbn
    · rename_i kk q he
      simp only [cond_eq_ite, Nat.ble_eq] at hbn
      split at hbn
      · rename_i hle
        injection hbn with hbn; subst hbn
        have := evI_of hx he
        refine ⟨?_, hle⟩
        simp only [Instr.sliceBound, this, asIntOf, Sem.run_bind, Sem.run_pure, Result.andThen_ok, Sem.run_ite]
        rw [if_pos (by constructor <;> simp only [Int.ofNat_eq_natCast] <;> omega)]
        simp
      · simp at hbn
    · simp at hbn
  have hnone : ∀ d y n, bound tm none d y = some n → n = d := fun d y n h => by simp [bound] at h; exact h.symm
  unfold bounds3 at hb
  cases hm : bound tm mx cap cap with
  | none => simp [hm] at hb
  | some m' =>
    simp only [hm] at hb
    cases hh : (bif mx.isSome && hi.isNone then none else bound tm hi len m') with
    | none => simp [hh] at hb
    | some h' =>
      simp only [hh] at hb
      cases hl : bound tm lo 0 h' with
      | none => simp [hl] at hb
      | some l' =>
        simp only [hl, cond_eq_ite, Bool.and_eq_true, Nat.ble_eq] at hb
        split at hb
        · rename_i hlm
          simp at hb
          obtain ⟨rfl, rfl, rfl⟩ := hb
          have hl0 : l' ≤ h' := by
            cases lo with
            | none => have := hnone _ _ _ hl; omega
            | some x => exact (hbound x 0 h' l' .sliceB (hlo x (by simp)) hl).2
          refine ⟨?_, hl0, hlm⟩
          cases mx with
          | none =>
            have hm' := hnone _ _ _ hm; subst hm'
            simp only [Option.isSome_none, Bool.false_and, cond_false] at hh
            cases hi with
            | none =>
              have hh' := hnone _ _ _ hh; subst hh'
              cases lo with
              | none => have hl' := hnone _ _ _ hl; subst hl'; simp [Instr.sliceBounds]
              | some x => simp [Instr.sliceBounds, (hbound x 0 _ l' .sliceB (hlo x (by simp)) hl).1]
            | some y =>
              have h1 := fun code => (hbound y len m' h' code (hhi y (by simp)) hh).1
              cases lo with
              | none => have hl' := hnone _ _ _ hl; subst hl'; simp [Instr.sliceBounds, h1]
              | some x => simp [Instr.sliceBounds, h1, (hbound x 0 _ l' .sliceB (hlo x (by simp)) hl).1]
          | some z =>
            have h0 := fun code => (hbound z cap cap m' code (hmx z (by simp)) hm).1
            cases hi with
            | none => simp at hh
            | some y =>
              simp only [Option.isNone_some, Bool.and_false, cond_false] at hh
              have h1 := fun code => (hbound y len m' h' code (hhi y (by simp)) hh).1
              cases lo with
              | none => have hl' := hnone _ _ _ hl; subst hl'; simp [Instr.sliceBounds, h0, h1]
              | some x => simp [Instr.sliceBounds, h0, h1, (hbound x 0 _ l' .slice3C (hlo x (by simp)) hl).1]
        · simp at hb
end
end Go.Mx
