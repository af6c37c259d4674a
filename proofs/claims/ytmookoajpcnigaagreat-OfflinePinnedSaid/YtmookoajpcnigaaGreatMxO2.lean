/- Operations: addresses, parts, slices, conversions, literals. -/
import Derived.Test.YtmookoajpcnigaaGreatMxO1
set_option linter.unusedSimpArgs false
namespace Go.Mx
open Go

section
variable {P : Program} {E : Env} {φ : Phi} {s s' : St} {w : World} {tm : Tm} {a : Act} {v : AV} {cf : CF} {o : Oper}

theorem run_fieldPlace {A : Addr} {g : Field} {fi : TypeInfo} (h : P.info? g.type = some fi) (hz : fi.size ≠ 0) : (fieldPlace A g).run P w = .ok (A.add g.offset) w := by
  simp [fieldPlace, run_sizeOf h, hz]

theorem structFields_some {k : TK} {fs : List (Nat × Nat × Bool)} (h : structFields k = some fs) : k = .struct fs := by
  cases k <;> simp [structFields] at h; rw [h]

theorem op_fieldAddr (hE : TyOk P E) (hs : Sat P φ s w) {t : Nat} {x : Operand} {f : Nat} (ho : o.op = .fieldAddr t x f) (hev : OpsOk P φ tm a o)
    (h : doOp E cf tm s o = some (v, s')) : Done P φ s w s' v ((execOp a.eval o).run P w) := by
  have hx := hev x (by simp [ho, Op.operands])
  simp only [doOp, ho] at h
  cases ht : E.ty.get t with
  | none => simp [ht] at h
  | some ti =>
    cases hp : evP tm x with
    | none => simp [ht, hp] at h
    | some p =>
      obtain ⟨i, q⟩ := p
      simp only [ht, hp] at h
      cases hsf : structFields ti.kind with
      | none => simp [hsf] at h
      | some fs =>
        simp only [hsf] at h
        cases hf : fs[f]? with
        | none => simp [hf] at h
        | some r =>
          obtain ⟨off, sz, ag⟩ := r
          simp only [hf, cond_eq_ite, Nat.beq_eq] at h
          split at h
          · simp at h
          · rename_i hz
            simp at h; obtain ⟨rfl, rfl⟩ := h
            obtain ⟨d, hd, hk, _⟩ := (hE _ _ ht).und
            rw [structFields_some hsf] at hk
            obtain ⟨fields, rfl, hlen, hall⟩ := hk
            obtain ⟨g, fi, gd, h1, h2, h3, h4, _⟩ := hall f _ hf
            obtain ⟨A, hA, hxa⟩ := evP_of hx hp
            obtain ⟨L, hL, rfl⟩ := concA_some hA
            have hL' : φ i = some L := hL
            refine done_same hs (x := .pointer (some ⟨L.blk, L.base + (q + off), none⟩)) ?_ (by simp [conc, concS, concA, hL'])
            simp only [execOp, ho]
            refine run_v _ ?_
            simp only [Instr.fieldAt, hxa, Instr.sureAddr, Sem.run_bind, run_und hd, Result.andThen_ok, h1, Sem.run_pure, run_fieldPlace h3 (by rw [h4]; exact hz), h2, Addr.add_none]
            simp [Nat.add_assoc]

theorem concL_drop_take {l : List Sc} {xs : List Value} (h : concL φ l = some xs) (off sz : Nat) : concL φ ((l.drop off).take sz) = some ((xs.drop off).take sz) := by
  have hl := concL_length h
  refine concL_of (by simp [hl]) fun k c hk => ?_
  rw [List.getElem?_take] at hk
  split at hk
  · rename_i hlt
    rw [List.getElem?_drop] at hk
    obtain ⟨y, hy, hc⟩ := concL_get h _ _ hk
    exact ⟨y, by rw [List.getElem?_take, if_pos hlt, List.getElem?_drop]; exact hy, hc⟩
  · simp at hk

theorem run_part {t : Nat} {i : TypeInfo} {d : TypeDesc} (hi : P.info? t = some i) (hd : P.underlying t = some d) (cs : Array Value) (off : Nat) (x : Value)
    (h : (aggD d = true ∧ x = .agg ((cs.toList.drop off).take i.size).toArray) ∨ (aggD d = false ∧ (cs.toList.drop off).take i.size = [x])) :
    (part t cs off).run P w = .ok x w := by
  unfold part
  simp only [Sem.run_bind, run_isAgg hd, Result.andThen_ok, Sem.run_ite]
  rcases h with ⟨h, rfl⟩ | ⟨h, hx⟩
  · simp only [h, if_true, Sem.run_map, Sem.run_bind, run_sizeOf hi, Result.andThen_ok, Sem.run_pure]
    congr 2
    apply Array.ext'
    simp [Array.toList_extract]
  · simp only [h, Bool.false_eq_true, if_false]
    have : cs[off]? = some x := by
      have h0 : ((cs.toList.drop off).take i.size)[0]? = some x := by rw [hx]; rfl
      rw [List.getElem?_take] at h0
      split at h0
      · rw [List.getElem?_drop] at h0; simpa using h0
      · simp at h0
    simp [this]

theorem op_field (hE : TyOk P E) (hs : Sat P φ s w) {t : Nat} {x : Operand} {f : Nat} (ho : o.op = .field t x f) (hev : OpsOk P φ tm a o)
    (h : doOp E cf tm s o = some (v, s')) : Done P φ s w s' v ((execOp a.eval o).run P w) := by
  have hx := hev x (by simp [ho, Op.operands])
  simp only [doOp, ho] at h
  cases ht : E.ty.get t with
  | none => simp [ht] at h
  | some ti =>
    cases hp : ev tm x with
    | none => simp [ht, hp] at h
    | some u =>
      cases u with
      | agg cs =>
        simp only [ht, hp] at h
        cases hsf : structFields ti.kind with
        | none => simp [hsf] at h
        | some fs =>
          simp only [hsf] at h
          cases hf : fs[f]? with
          | none => simp [hf] at h
          | some r =>
            obtain ⟨off, sz, ag⟩ := r
            simp only [hf, cond_eq_ite, Nat.ble_eq] at h
            split at h
            · rename_i hle
              obtain ⟨hv, rfl⟩ := ov_some h
              obtain ⟨d, hd, hk, _⟩ := (hE _ _ ht).und
              rw [structFields_some hsf] at hk
              obtain ⟨fields, rfl, hlen, hall⟩ := hk
              obtain ⟨g, fi, gd, h1, h2, h3, h4, h5, h6⟩ := hall f _ hf
              have hc := hx _ hp
              simp only [conc] at hc
              split at hc
              · rename_i xs hxs
                injection hc with hc
                obtain ⟨y, hy, hcase⟩ := mkV_conc (P := P) (concL_drop_take hxs off sz) hv
                refine done_same hs ?_ hy
                simp only [execOp, ho]
                refine run_v _ ?_
                rw [← hc]
                simp only [Instr.field, Sem.run_bind, run_und hd, Result.andThen_ok, h1, asAgg, Sem.run_pure]
                refine run_part h3 h5 _ _ _ ?_
                rw [h4, h6, h2]
                simpa using hcase
              · simp at hc
            · simp at h
      | _ => simp [ht, hp] at h

theorem op_indexAddr0 (hE : TyOk P E) (hs : Sat P φ s w) {t : Nat} {x i : Operand} (ho : o.op = .indexAddr t x i) (hev : OpsOk P φ tm a o)
    (h : idxOp E tm s t x i = some (v, s')) : Done P φ s w s' v ((execOp a.eval o).run P w) := by
  have hx := hev x (by simp [ho, Op.operands])
  have hi := hev i (by simp [ho, Op.operands])
  unfold idxOp at h
  split at h
  · rename_i sz ag n e zr pl b q kk k ht hxe hie
    cases hte : E.ty.get e with
    | none => simp [hte] at h
    | some te =>
      simp only [hte, cond_eq_ite, Nat.ble_eq] at h
      split at h
      · rename_i hle
        simp at h; obtain ⟨rfl, rfl⟩ := h
        obtain ⟨d, hd, rfl, _⟩ := (hE _ _ ht).und
        obtain ⟨ei, ez, he1, he2, _⟩ := (hE _ _ hte).info
        have hc := hx _ hxe
        simp only [conc, concS] at hc
        split at hc
        · rename_i A hA
          injection hc with hc
          obtain ⟨L, hL, rfl⟩ := concA_some hA
          have hL' : φ b = some L := hL
          have hiv := evI_of hi hie
          refine done_same hs (x := .pointer (some ⟨L.blk, L.base + (q + k * te.size), none⟩)) ?_ (by simp [conc, concS, concA, hL'])
          simp only [execOp, ho]
          refine run_v _ ?_
          rw [← hc, hiv]
          simp only [Instr.indexAt, asIntOf, Sem.run_bind, Sem.run_pure, Result.andThen_ok, run_und hd, Instr.sureAddr, Sem.run_ite]
          rw [if_pos (by constructor <;> simp only [Int.ofNat_eq_natCast] <;> omega)]
          simp only [Sem.run_bind, run_sizeOf he1, Result.andThen_ok, he2, Sem.run_pure, Int.ofNat_eq_natCast, Int.toNat_natCast, Addr.add_none]
          simp [Nat.add_assoc]
        · simp at hc
      · simp at h
  · rename_i sz ag e zr pl b q n c op kk k ht hxe hie
    cases hte : E.ty.get e with
    | none => simp [hte] at h
    | some te =>
      simp only [hte, cond_eq_ite, Nat.ble_eq] at h
      split at h
      · rename_i hle
        simp at h; obtain ⟨rfl, rfl⟩ := h
        obtain ⟨d, hd, rfl, _⟩ := (hE _ _ ht).und
        obtain ⟨ei, ez, he1, he2, _⟩ := (hE _ _ hte).info
        have hc := hx _ hxe
        simp only [conc, concS] at hc
        split at hc
        · rename_i L hL
          injection hc with hc
          have hL' : φ b = some L := hL
          have hiv := evI_of hi hie
          refine done_same hs (x := .pointer (some ⟨L.blk, L.base + (q + k * te.size), none⟩)) ?_ (by simp [conc, concS, concA, hL'])
          simp only [execOp, ho]
          refine run_v _ ?_
          rw [← hc, hiv]
          simp only [Instr.indexAt, asIntOf, Sem.run_bind, Sem.run_pure, Result.andThen_ok, run_und hd, Sem.run_ite]
          rw [if_pos (by constructor <;> simp only [Int.ofNat_eq_natCast] <;> omega)]
          simp only [Sem.run_bind, run_sizeOf he1, Result.andThen_ok, he2, Sem.run_pure, Int.ofNat_eq_natCast, Int.toNat_natCast, Addr.add_none]
          simp [Nat.add_assoc]
        · simp at hc
      · simp at h
  · simp at h

theorem op_index (hE : TyOk P E) (hs : Sat P φ s w) {t : Nat} {x i : Operand} (ho : o.op = .index t x i) (hev : OpsOk P φ tm a o)
    (h : doOp E cf tm s o = some (v, s')) : Done P φ s w s' v ((execOp a.eval o).run P w) := by
  have hx := hev x (by simp [ho, Op.operands])
  have hi := hev i (by simp [ho, Op.operands])
  simp only [doOp, ho] at h
  split at h
  · rename_i sz ag n e zr pl cs kk k ht hxe hie
    split at h
    · rename_i te hte
      simp only [cond_eq_ite] at h
      split at h
      · rename_i hle
        simp only [Bool.and_eq_true, Nat.ble_eq] at hle
        obtain ⟨hv, rfl⟩ := ov_some h
        obtain ⟨d, hd, rfl, _⟩ := (hE _ _ ht).und
        obtain ⟨ei, ez, he1, he2, _⟩ := (hE _ _ hte).info
        obtain ⟨ed, hed, _, hea⟩ := (hE _ _ hte).und
        have hc := hx _ hxe
        simp only [conc] at hc
        split at hc
        · rename_i xs hxs
          injection hc with hc
          have hiv := evI_of hi hie
          obtain ⟨y, hy, hcase⟩ := mkV_conc (P := P) (concL_drop_take hxs (k * te.size) te.size) hv
          refine done_same hs ?_ hy
          simp only [execOp, ho]
          refine run_v _ ?_
          rw [← hc, hiv]
          simp only [Instr.index, asIntOf, Sem.run_bind, Sem.run_pure, Result.andThen_ok, run_und hd, Sem.run_ite]
          rw [if_pos (by constructor <;> simp only [Int.ofNat_eq_natCast] <;> omega)]
          simp only [Sem.run_bind, run_sizeOf he1, Result.andThen_ok, he2, Int.ofNat_eq_natCast, Int.toNat_natCast]
          refine run_part he1 hed _ _ _ ?_
          rw [he2, hea]
          simpa using hcase
        · simp at hc
      · simp at h
    · simp at h
  · rename_i sz ag zr pl l kk k ht hxe hie
    split at h
    · rename_i c hl
      simp at h; obtain ⟨rfl, rfl⟩ := h
      obtain ⟨d, hd, rfl, _⟩ := (hE _ _ ht).und
      have hc := hx _ hxe
      simp [conc, concS] at hc
      have hiv := evI_of hi hie
      refine done_same hs (x := .int .u8 (Int.ofNat (c % 256))) ?_ (by simp [conc, concS])
      simp only [execOp, ho]
      refine run_v _ ?_
      rw [← hc, hiv]
      have hget : (str l)[k]? = some (UInt8.ofNat c) := by
        have hk : k < l.length := by
          rcases Nat.lt_or_ge k l.length with h | h
          · exact h
          · rw [List.getElem?_eq_none h] at hl; simp at hl
        have hk2 : k < (str l).size := by simp [str, ByteArray.size]; exact hk
        have hl' : l[k] = c := by rw [List.getElem?_eq_getElem hk] at hl; injection hl
        rw [getElem?_pos (str l) k hk2]
        congr 1
        show (str l).data[k] = _
        simp [str, hl']
      simp only [Instr.index, asIntOf, Sem.run_bind, Sem.run_pure, Result.andThen_ok, run_und hd]
      simp [hget]
    · simp at h
  · simp at h
end
end Go.Mx
