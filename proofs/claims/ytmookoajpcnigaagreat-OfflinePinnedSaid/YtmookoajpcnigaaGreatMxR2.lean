/- Operations that make new things, and nothing else. -/
import Derived.Test.YtmookoajpcnigaaGreatMxR1
set_option linter.unusedSimpArgs false
namespace Go.Mx
open Go

section
variable {P : Program} {E : Env} {φ : Phi} {s s' : St} {w : World} {tm : Tm} {a : Act} {v : AV} {cf : CF} {o : Oper}

/-- one new thing, in one new block -/
def Made (P : Program) (φ : Phi) (s : St) (w : World) (s' : St) (v : AV) (r : Result Next) : Prop :=
  ∃ x ob b, r = .ok (.value x) { w with heap := w.heap.push b } ∧ s' = (alloc s ob).2 ∧ objRel P (φ.upd s.next ⟨w.heap.size, 0, 0⟩) ob ⟨w.heap.size, 0, 0⟩ { w with heap := w.heap.push b } ∧
    conc P (φ.upd s.next ⟨w.heap.size, 0, 0⟩) v = some x

theorem arr_rel (hn : φ s.next = none) {n : Nat} {z : Zr} {t : PT Sc} {e : Nat} {cs : List Sc} {vs : Array Value} (hl : concL φ cs = some vs.toList) (hc0 : n = cs.length)
    (hc : ∀ k c, k < n → cs[k]? = some c → cellV z t k = c) (op : Bool) :
    objRel P (φ.upd s.next ⟨w.heap.size, 0, 0⟩) (.arr n z t e op) ⟨w.heap.size, 0, 0⟩ { w with heap := w.heap.push (.cells vs e) } := by
  have hlen := concL_length hl
  refine ⟨vs, (0, 0), by simp, .inl rfl, by simp at hlen; simp; omega, fun _ => rfl, fun k hk => ?_⟩
  have hk' : k < cs.length := by omega
  obtain ⟨v, hv, hcv⟩ := concL_get hl k cs[k] (by simp [hk'])
  refine ⟨v, by simpa using hv, ?_⟩
  rw [hc k cs[k] hk (by simp [hk'])]
  exact concS_mono (Phi.le_upd _ hn) hcv

theorem mk_var (hE : TyOk P E) (hn : φ s.next = none) {t : Nat} {v u : AV} {x : Value} {s' : St} (hx : conc P φ v = some x) (h : newVar E s t v = some (u, s')) :
    ∃ ob, s' = (alloc s ob).2 ∧ objRel P (φ.upd s.next ⟨w.heap.size, 0, 0⟩) ob ⟨w.heap.size, 0, 0⟩ { w with heap := w.heap.push (.cells x.cells t) } ∧
      conc P (φ.upd s.next ⟨w.heap.size, 0, 0⟩) u = some (.pointer (some ⟨w.heap.size, 0, none⟩)) := by
  have hptr : conc P (φ.upd s.next ⟨w.heap.size, 0, 0⟩) (.one (.p (some (s.next, 0)))) = some (.pointer (some ⟨w.heap.size, 0, none⟩)) := by
    simp [conc, concS, concA, upd_self]
  unfold newVar at h
  cases ht : E.ty.get t with
  | none => simp [ht] at h
  | some ti =>
    obtain ⟨i, z, h1, h2, h3, h4, h5, h6, h7, h8⟩ := (hE _ _ ht).info
    simp only [ht] at h
    have plain : ∀ cs, cellsAs E v = some cs → cs.length = ti.size →
        objRel P (φ.upd s.next ⟨w.heap.size, 0, 0⟩) (.arr ti.size (zeroOf ti) (setCells .leaf 0 cs) t false) ⟨w.heap.size, 0, 0⟩ { w with heap := w.heap.push (.cells x.cells t) } := by
      intro cs hcs hlen
      refine arr_rel hn (cellsAs_conc hE hx hcs) (by omega) (fun k c hk hc => ?_) false
      exact cellV_setCells _ _ _ _ _ (by omega) _ (by simpa using hc)
    cases v with
    | zag t' =>
      simp only [cond_eq_ite, Nat.beq_eq] at h
      split at h
      · rename_i e; subst e
        simp at h; obtain ⟨rfl, rfl⟩ := h
        refine ⟨_, rfl, arr_rel hn (cs := zeroCells ti) ?_ h6 (fun k c hk hc => ?_) false, hptr⟩
        · simp only [conc, zeroP, h1, Option.bind_some, h4] at hx
          injection hx with hx; subst hx
          exact concL_mono (Phi.nil_le φ) h5
        · rw [cellV_leaf ti k hk h6] at hc; injection hc
      · simp at h
    | one c =>
      simp only [cellsAs, cond_eq_ite, Nat.beq_eq] at h
      split at h
      · rename_i e; simp at h; obtain ⟨rfl, rfl⟩ := h; exact ⟨_, rfl, plain _ rfl e, hptr⟩
      · simp at h
    | agg l =>
      simp only [cellsAs, cond_eq_ite, Nat.beq_eq] at h
      split at h
      · rename_i e; simp at h; obtain ⟨rfl, rfl⟩ := h; exact ⟨_, rfl, plain _ rfl e, hptr⟩
      · simp at h
    | tup l => simp [cellsAs] at h

/-- a whole variable is read -/

theorem mk_alloc (hE : TyOk P E) (hn : φ s.next = none) {t : Nat} (ho : o.op = .alloc t) (h : doOp E cf tm s o = some (v, s')) :
    Made P φ s w s' v ((execOp a.eval o).run P w) := by
  simp only [doOp, ho] at h
  have ht : ∃ ti, E.ty.get t = some ti := by
    unfold newVar at h
    cases ht : E.ty.get t with
    | none => simp [ht] at h
    | some ti => exact ⟨ti, rfl⟩
  obtain ⟨ti, ht⟩ := ht
  obtain ⟨i, z, h1, _, _, h4, _⟩ := (hE _ _ ht).info
  have hx : conc P φ (.zag t) = some z := by simp [conc, zeroP, h1, h4]
  obtain ⟨ob, hp, hr, hv⟩ := mk_var (w := w) hE hn hx h
  refine ⟨_, ob, _, ?_, hp, hr, hv⟩
  simp only [execOp, ho]
  refine run_v _ ?_
  simp [Instr.alloc, run_zeroValue h1 h4, run_newVar]


theorem mk_box (hE : TyOk P E) (hn : φ s.next = none) {t : Nat} {x : Operand} (ho : o.op = .box t x) (hev : OpsOk P φ tm a o) (h : doOp E cf tm s o = some (v, s')) :
    Made P φ s w s' v ((execOp a.eval o).run P w) := by
  have hx := hev x (by simp [ho, Op.operands])
  simp only [doOp, ho] at h
  cases he : ev tm x with
  | none => simp [he] at h
  | some u =>
    simp only [he] at h
    obtain ⟨ob, hp, hr, hv⟩ := mk_var (w := w) hE hn (hx u he) h
    refine ⟨_, ob, _, ?_, hp, hr, hv⟩
    simp only [execOp, ho]
    refine run_v _ ?_
    simp [Instr.box, run_newVar]


theorem mk_makeMap (hn : φ s.next = none) {t : Nat} (ho : o.op = .makeMap t none) (h : doOp E cf tm s o = some (v, s')) :
    Made P φ s w s' v ((execOp a.eval o).run P w) := by
  simp only [doOp, ho] at h
  simp at h; obtain ⟨rfl, rfl⟩ := h
  refine ⟨.map (some w.heap.size), .map [] 0, .map #[] 0, ?_, rfl, ?_, by simp [conc, concS, upd_self]⟩
  · simp [execOp, ho, Instr.makeMap]
  · exact ⟨#[], by simp, .nil, by simp, by simp⟩

theorem mk_makeChan (hE : TyOk P E) (hn : φ s.next = none) {t : Nat} {x : Operand} (ho : o.op = .makeChan t x) (hev : OpsOk P φ tm a o) (h : doOp E cf tm s o = some (v, s')) :
    Made P φ s w s' v ((execOp a.eval o).run P w) := by
  have hx := hev x (by simp [ho, Op.operands])
  simp only [doOp, ho] at h
  split at h
  · rename_i sz ag zr pl k n ht hi
    simp only [cond_eq_ite, Nat.ble_eq] at h
    split at h
    · rename_i hle
      simp at h; obtain ⟨rfl, rfl⟩ := h
      obtain ⟨d, hd, hk, _⟩ := (hE _ _ ht).und
      obtain ⟨a1, e, ei, rfl, hei, hb⟩ := hk
      have hxv := evI_of hx hi
      unfold lim at hle
      refine ⟨.chan (some w.heap.size), .chan n [], .chan n #[] false 0 0 false, ?_, rfl, ?_, by simp [conc, concS, upd_self]⟩
      · simp only [execOp, ho]
        refine run_v _ ?_
        simp only [Instr.makeChan, hxv, asInt, asIntOf, Sem.run_bind, Sem.run_pure, Result.andThen_ok, run_und hd, run_typeInfo hei]
        rw [if_neg]
        · simp
        · have h1 : (ei.bytes : Int) * (n : Int) ≤ 1048576 * 1048576 := by
            have h2 : ei.bytes * n ≤ 1048576 * 1048576 := Nat.mul_le_mul hb hle
            have h3 : ((ei.bytes * n : Nat) : Int) ≤ ((1048576 * 1048576 : Nat) : Int) := Int.ofNat_le.2 h2
            rw [Int.natCast_mul] at h3
            exact h3
          simp only [Int.ofNat_eq_natCast, IntKind.max, IntKind.signed, IntKind.bits, if_true]
          omega
      · exact ⟨#[], 0, 0, by simp, .nil⟩
    · simp at h
  · simp at h


theorem mk_makeSlice (hE : TyOk P E) (hn : φ s.next = none) {t : Nat} {l c : Operand} (ho : o.op = .makeSlice t l c) (hev : OpsOk P φ tm a o)
    (h : doOp E cf tm s o = some (v, s')) : Made P φ s w s' v ((execOp a.eval o).run P w) := by
  have hl := hev l (by simp [ho, Op.operands])
  have hc := hev c (by simp [ho, Op.operands])
  simp only [doOp, ho] at h
  split at h
  · rename_i sz ag e zr pl k1 n k2 m ht hln hcn
    split at h
    · rename_i te hte
      simp only [cond_eq_ite, Bool.and_eq_true, Nat.ble_eq] at h
      split at h
      · rename_i hle
        obtain ⟨hnm, hm⟩ := hle
        unfold lim at hm
        simp at h; obtain ⟨rfl, rfl⟩ := h
        obtain ⟨d, hd, rfl, _⟩ := (hE _ _ ht).und
        obtain ⟨i, z, h1, h2, h3, h4, h5, h6⟩ := zero_row hE hte (φ := φ) m
        obtain ⟨_, _, _, _, _, _, _, hzl, _⟩ := (hE _ _ hte).info
        have hlv := evI_of hl hln
        have hcv := evI_of hc hcn
        have hb : i.bytes * m ≤ 1048576 * 1048576 := Nat.mul_le_mul h3 hm
        refine ⟨.slice (some ⟨w.heap.size, 0, none⟩) n m, _,
          .cells ((Array.range (m * te.size)).map fun k => z.cells[k % z.cells.size]!) e, ?_, rfl, ?_, by simp [conc, concS, upd_self]⟩
        · simp only [execOp, ho]
          refine run_v _ ?_
          have hw1 : IntKind.i64.wrap (n : Int) = n := by simp [IntKind.wrap, IntKind.bits, IntKind.signed]; omega
          have hw2 : IntKind.i64.wrap (m : Int) = m := by simp [IntKind.wrap, IntKind.bits, IntKind.signed]; omega
          have hb' : (i.bytes : Int) * (m : Int) ≤ 1048576 * 1048576 := by
            have h3 : ((i.bytes * m : Nat) : Int) ≤ ((1048576 * 1048576 : Nat) : Int) := Int.ofNat_le.2 hb
            rw [Int.natCast_mul] at h3
            exact h3
          simp only [Instr.makeSlice, hlv, hcv, asInt, asIntOf, Sem.run_bind, Sem.run_pure, Result.andThen_ok, run_und hd, run_typeInfo h1, Int.ofNat_eq_natCast, hw1, hw2]
          have hcond : ¬ (((m : Int) < 0 || (i.bytes : Int) * (m : Int) > 2 ^ 48) || (n : Int) < 0 || (n : Int) > (m : Int)) = true := by
            simp only [Bool.or_eq_true, decide_eq_true_eq]
            rintro (((h | h) | h) | h) <;> omega
          simp only [Sem.run_ite, Sem.run_bind]
          rw [if_neg (by simpa using hcond)]
          simp only [Sem.run_pure, Result.andThen_ok, run_askRoom, Int.toNat_natCast, run_sizeOf h1, h2]
          by_cases hz : m * te.size = 0
          · simp only [hz, if_true, Sem.run_pure, Result.andThen_ok, newRow, Sem.run_bind, run_newObj]
            have e0 : ∀ f : Nat → Value, (Array.range 0).map f = #[] := fun f => Array.eq_empty_of_size_eq_zero (by simp)
            rw [e0, e0]
          · simp only [hz, if_false, Sem.run_bind, run_zeroValue h1 h4, Result.andThen_ok, Sem.run_pure, newRow, run_newObj]
        · refine arr_rel hn h6 (by rw [repCells_length, ← hzl]) (fun k c hk hc => ?_) false
          rw [cellV_zero te hzl m k hk] at hc; injection hc
      · simp at h
    · simp at h
  · simp at h

/-- the bounds of a slice expression -/

theorem mk_buildSlice (hE : TyOk P E) (hn : φ s.next = none) {t len : Nat} {ps : Array (Nat × Operand)} (ho : o.op = .buildSlice t len ps) (hev : OpsOk P φ tm a o)
    (h : doOp E cf tm s o = some (v, s')) : Made P φ s w s' v ((execOp a.eval o).run P w) := by
  have hps : ∀ p ∈ ps.toList, EvOk P φ tm a p.2 := fun p hp => hev p.2 (by
    simp only [ho, Op.operands, List.mem_toArray, List.mem_map]
    exact ⟨p, hp, rfl⟩)
  simp only [doOp, ho] at h
  split at h
  · rename_i sz ag e zr pl ht
    split at h
    · rename_i te hte
      simp only [cond_eq_ite, Nat.ble_eq] at h
      split at h
      · rename_i hle
        unfold lim at hle
        split at h
        · rename_i cs hcs
          simp at h; obtain ⟨rfl, rfl⟩ := h
          obtain ⟨d, hd, rfl, _⟩ := (hE _ _ ht).und
          obtain ⟨i, z, h1, h2, h3, h4, h5, h6⟩ := zero_row hE hte (φ := φ) len
          obtain ⟨_, _, _, _, _, _, _, hzl, _⟩ := (hE _ _ hte).info
          obtain ⟨xs', hf, hc'⟩ := fill_conc hE (fun i => some (i * te.size, te.size)) ps.toList _ _ _ hps h6 hcs
          have hlen : cs.length = len * te.size := by
            have : ∀ (place : Nat → Option (Nat × Nat)) (ps : List (Nat × Operand)) (c c' : List Sc), fillOp E tm place ps c = some c' → c'.length = c.length := by
              intro place ps
              induction ps with
              | nil => intro c c' h; simp [fillOp] at h; rw [h]
              | cons p r ih =>
                intro c c' h
                obtain ⟨i, x⟩ := p
                simp only [fillOp] at h
                split at h
                · simp only [cond_eq_ite, Bool.and_eq_true, Nat.beq_eq, Nat.ble_eq] at h
                  split at h
                  · rename_i hcond
                    rw [ih _ _ h, splice_length (by omega)]
                  · simp at h
                · simp at h
            rw [this _ _ _ _ hcs, repCells_length, ← hzl]
          refine ⟨.slice (some ⟨w.heap.size, 0, none⟩) len len, _, .cells xs'.toArray e, ?_, rfl, ?_,
            by simp [conc, concS, upd_self]⟩
          · simp only [execOp, ho]
            refine run_v _ ?_
            simp only [Instr.buildSlice, Sem.run_bind, run_und hd, Result.andThen_ok, run_sizeOf h1, h2, Sem.run_ite]
            rw [if_neg (by omega)]
            rw [Array.toArray_toList] at hf
            have hf2 : Instr.fill (fun i => some (i * te.size, te.size)) ((Array.range (len * te.size)).map fun k => z.cells[k % z.cells.size]!)
                (ps.map fun p => (p.1, a.eval p.2)).toList = some xs'.toArray := by rw [Array.toList_map]; exact hf
            by_cases h0 : len * te.size = 0
            · rw [if_pos h0]
              simp only [Sem.run_pure, Result.andThen_ok]
              have e0 : ∀ f g : Nat → Value, (Array.range (len * te.size)).map f = (Array.range (len * te.size)).map g := fun f g => by
                rw [h0, Array.eq_empty_of_size_eq_zero (xs := (Array.range 0).map f) (by simp), Array.eq_empty_of_size_eq_zero (xs := (Array.range 0).map g) (by simp)]
              rw [e0 _ (fun k => z.cells[k % z.cells.size]!)]
              rw [hf2]; simp [newRow]
            · rw [if_neg h0]
              simp only [Sem.run_bind, run_zeroValue h1 h4, Sem.run_pure, Result.andThen_ok]
              rw [hf2]; simp [newRow]
          · refine arr_rel hn (by simpa using hc') hlen.symm (fun k c hk hc => ?_) false
            exact cellV_setCells _ _ _ _ _ (by omega) _ (by simpa using hc)
        · simp at h
      · simp at h
    · simp at h
  · simp at h


/-- is an operation one that makes a new thing? -/
def isA : Op → Bool
  | .alloc _ | .box _ _ | .buildSlice _ _ _ | .makeMap _ none | .makeChan _ _ | .makeSlice _ _ _ => true
  | _ => false

theorem made_of (hE : TyOk P E) (hA : isA o.op = true) (hn : φ s.next = none) (hev : OpsOk P φ tm a o) (h : doOp E cf tm s o = some (v, s')) :
    Made P φ s w s' v ((execOp a.eval o).run P w) := by
  cases ho : o.op with
  | alloc t => exact mk_alloc hE hn ho h
  | box t x => exact mk_box hE hn ho hev h
  | buildSlice t l ps => exact mk_buildSlice hE hn ho hev h
  | makeMap t r =>
    cases r with
    | none => exact mk_makeMap hn ho h
    | some r => simp [isA, ho] at hA
  | makeChan t x => exact mk_makeChan hE hn ho hev h
  | makeSlice t l c => exact mk_makeSlice hE hn ho hev h
  | _ => simp [isA, ho] at hA
end
end Go.Mx
