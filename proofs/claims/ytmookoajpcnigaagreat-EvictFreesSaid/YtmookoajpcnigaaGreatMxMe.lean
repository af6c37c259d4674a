/- Parts of the abstract interpreter, in the order in which they build. -/
import Derived.Test.YtmookoajpcnigaaGreatMxMd
/- Regions whose order is the text's. -/
set_option linter.unusedSimpArgs false
namespace Go.Mx
open Go

/-- the temporaries of a frame -/
def TmOk (P : Program) (φ : Phi) (N : Nat) (tm : Tm) (a : Act) : Prop :=
  a.tmps.size = N ∧ ∀ t, conc P φ ((tm.get t).getD undefV) = some (a.tmps.getD t undef)

def DstOk (N : Nat) (o : Oper) : Prop := ∀ d, o.dst = some d → d < N

section
variable {P : Program} {E : Env} {φ ψ : Phi} {s s' : St} {w : World} {tm tm' : Tm} {a : Act} {v : AV} {cf : CF} {o : Oper} {N : Nat}

theorem TmOk.mono (h : TmOk P φ N tm a) (hle : φ.le ψ) : TmOk P ψ N tm a := ⟨h.1, fun t => conc_mono hle P (h.2 t)⟩

theorem ev_tmp (t : Nat) : ev tm (.tmp t) = some ((tm.get t).getD undefV) := by
  simp only [ev]; cases tm.get t <;> rfl

theorem evOk_const (c : Value) : EvOk P φ tm a (.const c) := fun v h => ofConst_conc h
theorem evOk_func (f : Nat) : EvOk P φ tm a (.func f) := fun v h => by
  simp [ev] at h; subst h; simp [conc, concS, concPs, Act.eval]
theorem evOk_global (g : Nat) : EvOk P φ tm a (.global g) := fun v h => by simp [ev] at h

theorem TmOk.ev (h : TmOk P φ N tm a) (x : Operand) : EvOk P φ tm a x := by
  cases x with
  | tmp t => intro v hv; rw [ev_tmp] at hv; injection hv with hv; subst hv; exact h.2 t
  | const c => exact evOk_const c
  | func f => exact evOk_func f
  | global g => exact evOk_global g

theorem TmOk.put (h : TmOk P φ N tm a) {x : Value} (hc : conc P φ v = some x) {d : Option Nat} (hd : ∀ t, d = some t → t < N) : TmOk P φ N (put tm d v) (a.put d x) := by
  cases d with
  | none => exact h
  | some d =>
    refine ⟨by simp [Act.put, h.1], fun t => ?_⟩
    have hlt := hd d rfl
    simp only [Mx.put, Act.put, PT.get_set]
    by_cases e : t = d
    · subst e; simp [Array.getD_eq_getD_getElem?, h.1, hlt, hc]
    · rw [if_neg e]
      have := h.2 t
      rw [this]
      simp only [Array.getD_eq_getD_getElem?]
      rw [Array.getElem?_setIfInBounds_ne (fun h => e h.symm)]

theorem conc_bool {b : Bool} (h : conc P φ v = some (.bool b)) : v = .one (.b b) ∨ ∃ t, v = .zag t := by
  cases v with
  | one c =>
    left
    simp only [conc] at h
    cases c with
    | b x => simp [concS] at h; rw [h]
    | i k n => simp [concS] at h
    | s l => simp [concS] at h
    | p x => cases x <;> simp only [concS] at h <;> (try split at h) <;> simp at h
    | sl x n c op => cases x <;> simp only [concS] at h <;> (try split at h) <;> simp at h
    | se x d => simp only [concS] at h; split at h <;> simp at h
    | m r => cases r <;> simp only [concS] at h <;> (try split at h) <;> simp at h
    | ch r => cases r <;> simp only [concS] at h <;> (try split at h) <;> simp at h
    | fn f x y => simp only [concS] at h; split at h <;> simp at h
    | nilfn => simp [concS] at h
    | nilifc => simp [concS] at h
    | y k old =>
      simp only [concS] at h
      split at h
      · split at h
        · split at h <;> simp at h
        · simp at h
      · simp at h
    | ln g c lo hi =>
      simp only [concS] at h
      split at h
      · split at h <;> simp at h
      · simp at h
    | md g k r m =>
      simp only [concS] at h
      split at h
      · split at h <;> simp at h
      · simp at h
    | sn q lo hi m =>
      simp only [concS] at h
      split at h
      · split at h
        · split at h <;> simp at h
        · simp at h
      · simp at h
    | sz q lo hi m =>
      simp only [concS] at h
      split at h
      · split at h
        · split at h <;> simp at h
        · simp at h
      · simp at h
  | agg l => simp only [conc] at h; split at h <;> simp at h
  | zag t => exact .inr ⟨t, rfl⟩
  | tup l => simp only [conc] at h; split at h <;> simp at h

/-- a guard, read where the temporary that it looks at reads as it should -/
theorem wanted_of {ops : Array Oper} (hsz : a.tmps.size = N) (hN : ∀ q ∈ ops.toList, DstOk N q)
    (htm : ∀ j w q d, o.guard = some (j, w) → ops[j]? = some q → q.dst = some d → conc P φ ((tm.get d).getD undefV) = some (a.tmps.getD d undef))
    {b : Bool} (h : wanted tm ops o = some b) : Region.wanted o (yielded ops a.tmps) = b := by
  unfold wanted at h
  unfold Region.wanted
  cases hg : o.guard with
  | none => simp [hg] at h; simp [h]
  | some g =>
    obtain ⟨j, wn⟩ := g
    simp only [hg] at h
    simp only [yielded]
    cases hq : ops[j]? with
    | none => simp [hq] at h; simp [← h]
    | some q =>
      simp only [hq] at h
      cases hd : q.dst with
      | none => simp [hd] at h; simp [hd, ← h]
      | some d =>
        simp only [hd] at h
        have hlt := hN q (by simpa using Array.mem_of_getElem? hq) d hd
        have hv := htm j wn q d hg hq hd
        have hget : a.tmps[d]? = some (a.tmps.getD d undef) := by
          simp [Array.getD_eq_getD_getElem?, hsz, hlt]
        simp only [Option.bind_some, hd, hget]
        cases hx : tm.get d with
        | none =>
          simp [hx] at h
          rw [hx] at hv
          simp [undefV, conc, concVs] at hv
          simp [← hv, ← h]
        | some u =>
          rw [hx] at hv
          simp only [Option.getD_some] at hv
          simp only [hx] at h
          by_cases hb : ∃ b, a.tmps.getD d undef = .bool b
          · obtain ⟨b', hb'⟩ := hb
            rw [hb'] at hv
            rcases conc_bool hv with rfl | ⟨t, rfl⟩
            · simp at h; rw [hb']; simp only []; rw [← h]; cases b' <;> cases wn <;> rfl
            · simp at h
          · generalize a.tmps.getD d undef = val at hv hb ⊢
            split at h
            · rename_i u' x' hxx
              injection hxx with hxx; subst hxx
              simp [conc, concS] at hv
              exact absurd ⟨_, hv.symm⟩ hb
            · simp at h
            · injection h with h
              subst h
              cases val <;> first | rfl | exact absurd ⟨_, rfl⟩ hb

theorem TmOk.wanted (h : TmOk P φ N tm a) {ops : Array Oper} (hN : ∀ q ∈ ops.toList, DstOk N q) {b : Bool} (hw : wanted tm ops o = some b) :
    Region.wanted o (yielded ops a.tmps) = b := wanted_of h.1 hN (fun _ _ _ d _ _ _ => h.2 d) hw

theorem conc_undefV : conc P φ undefV = some undef := by simp [conc, concVs, undefV, undef]

theorem Act.put_defers' (a : Act) (d : Option Nat) (x : Value) : (a.put d x).defers = a.defers := by cases d <;> rfl

/-- a region, in the text's order -/
theorem runOps_sound (hE : TyOk P E) (hcf : CfOk P cf) {ops : Array Oper} (hN : ∀ q ∈ ops.toList, DstOk N q) {Q : Exit → Act → World → Prop} {tmF : Tm} {sF : St} :
    ∀ (l : List Oper) (k : Nat) (tm : Tm) (s : St) (a : Act) (φ : Phi) (w : World), ops.toList.drop k = l → Sat P φ s w → TmOk P φ N tm a →
      runOps E cf ops l tm s = some (tmF, sF) →
      (∀ ψ a' w', Post P φ s w ψ sF w' → TmOk P ψ N tmF a' → a'.defers = a.defers → Q .normal a' w') →
      wpOps P ops Q (List.range' k l.length) a w := by
  intro l
  induction l with
  | nil =>
    intro k tm s a φ w hl hs ht h hq
    simp [runOps] at h; obtain ⟨rfl, rfl⟩ := h
    exact hq φ a w (Post.refl hs) ht rfl
  | cons o r ih =>
    intro k tm s a φ w hl hs ht h hq
    have hk : ops[k]? = some o := by
      have : (ops.toList.drop k)[0]? = some o := by rw [hl]; rfl
      simpa using this
    have hr : ops.toList.drop (k + 1) = r := by
      have : (ops.toList.drop k).drop 1 = r := by rw [hl]; rfl
      rw [List.drop_drop] at this; exact this
    have hmem : o ∈ ops.toList := by simpa using Array.mem_of_getElem? hk
    simp only [List.length_cons, List.range'_succ, wpOps, hk]
    simp only [runOps] at h
    cases hw : wanted tm ops o with
    | none => simp [hw] at h
    | some b =>
      rw [ht.wanted hN hw]
      cases b with
      | true =>
        simp only [hw] at h
        simp only [if_true]
        cases hd : doOp E cf tm s o with
        | none => simp [hd] at h
        | some p =>
          obtain ⟨v, s1⟩ := p
          simp only [hd] at h
          refine .inl (doOp_sound hE hcf hs (fun x _ => ht.ev x) hd _ _ fun ψ x w' hp hc => ?_)
          refine ih (k + 1) _ s1 _ ψ w' hr hp.sat ((ht.mono hp.sub).put hc (hN o hmem)) h fun χ a' w'' hp' ht' hde => ?_
          exact hq χ a' w'' (Post.trans hs hp hp') ht' (by rw [hde, Act.put_defers'])
      | false =>
        simp only [hw] at h
        simp only [Bool.false_eq_true, if_false]
        refine ih (k + 1) _ s _ φ w hr hs (ht.put conc_undefV (hN o hmem)) h fun χ a' w'' hp' ht' hde => ?_
        exact hq χ a' w'' hp' ht' (by rw [hde, Act.put_defers'])
end
end Go.Mx

/- Operations that make new things, and nothing else. -/
set_option linter.unusedSimpArgs false
namespace Go.Mx
open Go

section
variable {P : Program} {E : Env} {φ : Phi} {s s' : St} {w : World} {tm : Tm} {a : Act} {v : AV} {cf : CF} {o : Oper}

/-- one new thing, in one new block -/
def Made (P : Program) (φ : Phi) (s : St) (w : World) (s' : St) (v : AV) (r : Result Next) : Prop :=
  ∃ x ob b, r = .ok (.value x) { w with heap := w.heap.push b } ∧ s' = (alloc s ob).2 ∧ objRel P (φ.upd s.next ⟨w.heap.size, 0, 0⟩) ob ⟨w.heap.size, 0, 0⟩ { w with heap := w.heap.push b } ∧
    conc P (φ.upd s.next ⟨w.heap.size, 0, 0⟩) v = some x

theorem arr_rel (hn : φ s.next = none) {n : Nat} {z : Zr} {t : PT Sc} {e : Nat} {cs : List Sc} {vs : Array Value} (hl : concL φ cs = some vs.toList) (hc0 : n = cs.length)
    (hc : ∀ k c, k < n → cs[k]? = some c → cellV z t k = c) (op : Bool) :
    objRel P (φ.upd s.next ⟨w.heap.size, 0, 0⟩) (.arr n z t e op) ⟨w.heap.size, 0, 0⟩ { w with heap := w.heap.push (.cells vs e) } := by
  have hlen := concL_length hl
  refine ⟨vs, (0, 0), by simp, .inl rfl, by simp at hlen; simp; omega, fun _ => rfl, fun k hk => ?_⟩
  have hk' : k < cs.length := by omega
  obtain ⟨v, hv, hcv⟩ := concL_get hl k cs[k] (by simp [hk'])
  refine ⟨v, by simpa using hv, ?_⟩
  rw [hc k cs[k] hk (by simp [hk'])]
  exact concS_mono (Phi.le_upd _ hn) hcv

theorem mk_var (hE : TyOk P E) (hn : φ s.next = none) {t : Nat} {v u : AV} {x : Value} {s' : St} (hx : conc P φ v = some x) (h : newVar E s t v = some (u, s')) :
    ∃ ob, s' = (alloc s ob).2 ∧ objRel P (φ.upd s.next ⟨w.heap.size, 0, 0⟩) ob ⟨w.heap.size, 0, 0⟩ { w with heap := w.heap.push (.cells x.cells t) } ∧
      conc P (φ.upd s.next ⟨w.heap.size, 0, 0⟩) u = some (.pointer (some ⟨w.heap.size, 0, none⟩)) := by
  have hptr : conc P (φ.upd s.next ⟨w.heap.size, 0, 0⟩) (.one (.p (some (s.next, 0)))) = some (.pointer (some ⟨w.heap.size, 0, none⟩)) := by
    simp [conc, concS, concA, upd_self]
  unfold newVar at h
  cases ht : E.ty.get t with
  | none => simp [ht] at h
  | some ti =>
    obtain ⟨i, z, h1, h2, h3, h4, h5, h6, h7, h8⟩ := (hE _ _ ht).info
    simp only [ht] at h
    have plain : ∀ cs, cellsAs E v = some cs → cs.length = ti.size →
        objRel P (φ.upd s.next ⟨w.heap.size, 0, 0⟩) (.arr ti.size (zeroOf ti) (setCells .leaf 0 cs) t false) ⟨w.heap.size, 0, 0⟩ { w with heap := w.heap.push (.cells x.cells t) } := by
      intro cs hcs hlen
      refine arr_rel hn (cellsAs_conc hE hx hcs) (by omega) (fun k c hk hc => ?_) false
      exact cellV_setCells _ _ _ _ _ (by omega) _ (by simpa using hc)
    cases v with
    | zag t' =>
      simp only [cond_eq_ite, Nat.beq_eq] at h
      split at h
      · rename_i e; subst e
        simp at h; obtain ⟨rfl, rfl⟩ := h
        refine ⟨_, rfl, arr_rel hn (cs := zeroCells ti) ?_ h6 (fun k c hk hc => ?_) false, hptr⟩
        · simp only [conc, zeroP, h1, Option.bind_some, h4] at hx
          injection hx with hx; subst hx
          exact concL_mono (Phi.nil_le φ) h5
        · rw [cellV_leaf ti k hk h6] at hc; injection hc
      · simp at h
    | one c =>
      simp only [cellsAs, cond_eq_ite, Nat.beq_eq] at h
      split at h
      · rename_i e; simp at h; obtain ⟨rfl, rfl⟩ := h; exact ⟨_, rfl, plain _ rfl e, hptr⟩
      · simp at h
    | agg l =>
      simp only [cellsAs, cond_eq_ite, Nat.beq_eq] at h
      split at h
      · rename_i e; simp at h; obtain ⟨rfl, rfl⟩ := h; exact ⟨_, rfl, plain _ rfl e, hptr⟩
      · simp at h
    | tup l => simp [cellsAs] at h

/-- a whole variable is read -/

theorem mk_alloc (hE : TyOk P E) (hn : φ s.next = none) {t : Nat} (ho : o.op = .alloc t) (h : doOp E cf tm s o = some (v, s')) :
    Made P φ s w s' v ((execOp a.eval o).run P w) := by
  simp only [doOp, ho] at h
  have ht : ∃ ti, E.ty.get t = some ti := by
    unfold newVar at h
    cases ht : E.ty.get t with
    | none => simp [ht] at h
    | some ti => exact ⟨ti, rfl⟩
  obtain ⟨ti, ht⟩ := ht
  obtain ⟨i, z, h1, _, _, h4, _⟩ := (hE _ _ ht).info
  have hx : conc P φ (.zag t) = some z := by simp [conc, zeroP, h1, h4]
  obtain ⟨ob, hp, hr, hv⟩ := mk_var (w := w) hE hn hx h
  refine ⟨_, ob, _, ?_, hp, hr, hv⟩
  simp only [execOp, ho]
  refine run_v _ ?_
  simp [Instr.alloc, run_zeroValue h1 h4, run_newVar]


theorem mk_box (hE : TyOk P E) (hn : φ s.next = none) {t : Nat} {x : Operand} (ho : o.op = .box t x) (hev : OpsOk P φ tm a o) (h : doOp E cf tm s o = some (v, s')) :
    Made P φ s w s' v ((execOp a.eval o).run P w) := by
  have hx := hev x (by simp [ho, Op.operands])
  simp only [doOp, ho] at h
  cases he : ev tm x with
  | none => simp [he] at h
  | some u =>
    simp only [he] at h
    obtain ⟨ob, hp, hr, hv⟩ := mk_var (w := w) hE hn (hx u he) h
    refine ⟨_, ob, _, ?_, hp, hr, hv⟩
    simp only [execOp, ho]
    refine run_v _ ?_
    simp [Instr.box, run_newVar]


theorem mk_makeMap (hn : φ s.next = none) {t : Nat} (ho : o.op = .makeMap t none) (h : doOp E cf tm s o = some (v, s')) :
    Made P φ s w s' v ((execOp a.eval o).run P w) := by
  simp only [doOp, ho] at h
  simp at h; obtain ⟨rfl, rfl⟩ := h
  refine ⟨.map (some w.heap.size), .map [] 0, .map #[] 0, ?_, rfl, ?_, by simp [conc, concS, upd_self]⟩
  · simp [execOp, ho, Instr.makeMap]
  · exact ⟨#[], by simp, .nil, by simp, by simp⟩

theorem mk_makeChan (hE : TyOk P E) (hn : φ s.next = none) {t : Nat} {x : Operand} (ho : o.op = .makeChan t x) (hev : OpsOk P φ tm a o) (h : doOp E cf tm s o = some (v, s')) :
    Made P φ s w s' v ((execOp a.eval o).run P w) := by
  have hx := hev x (by simp [ho, Op.operands])
  simp only [doOp, ho] at h
  split at h
  · rename_i sz ag zr pl k n ht hi
    simp only [cond_eq_ite, Nat.ble_eq] at h
    split at h
    · rename_i hle
      simp at h; obtain ⟨rfl, rfl⟩ := h
      obtain ⟨d, hd, hk, _⟩ := (hE _ _ ht).und
      obtain ⟨a1, e, ei, rfl, hei, hb⟩ := hk
      have hxv := evI_of hx hi
      unfold lim at hle
      refine ⟨.chan (some w.heap.size), .chan n [], .chan n #[] false 0 0 false, ?_, rfl, ?_, by simp [conc, concS, upd_self]⟩
      · simp only [execOp, ho]
        refine run_v _ ?_
        simp only [Instr.makeChan, hxv, asInt, asIntOf, Sem.run_bind, Sem.run_pure, Result.andThen_ok, run_und hd, run_typeInfo hei]
        rw [if_neg]
        · simp
        · have h1 : (ei.bytes : Int) * (n : Int) ≤ 1048576 * 1048576 := by
            have h2 : ei.bytes * n ≤ 1048576 * 1048576 := Nat.mul_le_mul hb hle
            have h3 : ((ei.bytes * n : Nat) : Int) ≤ ((1048576 * 1048576 : Nat) : Int) := Int.ofNat_le.2 h2
            rw [Int.natCast_mul] at h3
            exact h3
          simp only [Int.ofNat_eq_natCast, IntKind.max, IntKind.signed, IntKind.bits, if_true]
          omega
      · exact ⟨#[], 0, 0, by simp, .nil⟩
    · simp at h
  · simp at h


theorem mk_makeSlice (hE : TyOk P E) (hn : φ s.next = none) {t : Nat} {l c : Operand} (ho : o.op = .makeSlice t l c) (hev : OpsOk P φ tm a o)
    (h : doOp E cf tm s o = some (v, s')) : Made P φ s w s' v ((execOp a.eval o).run P w) := by
  have hl := hev l (by simp [ho, Op.operands])
  have hc := hev c (by simp [ho, Op.operands])
  simp only [doOp, ho] at h
  split at h
  · rename_i sz ag e zr pl k1 n k2 m ht hln hcn
    split at h
    · rename_i te hte
      simp only [cond_eq_ite, Bool.and_eq_true, Nat.ble_eq] at h
      split at h
      · rename_i hle
        obtain ⟨hnm, hm⟩ := hle
        unfold lim at hm
        simp at h; obtain ⟨rfl, rfl⟩ := h
        obtain ⟨d, hd, rfl, _⟩ := (hE _ _ ht).und
        obtain ⟨i, z, h1, h2, h3, h4, h5, h6⟩ := zero_row hE hte (φ := φ) m
        obtain ⟨_, _, _, _, _, _, _, hzl, _⟩ := (hE _ _ hte).info
        have hlv := evI_of hl hln
        have hcv := evI_of hc hcn
        have hb : i.bytes * m ≤ 1048576 * 1048576 := Nat.mul_le_mul h3 hm
        refine ⟨.slice (some ⟨w.heap.size, 0, none⟩) n m, _,
          .cells ((Array.range (m * te.size)).map fun k => z.cells[k % z.cells.size]!) e, ?_, rfl, ?_, by simp [conc, concS, upd_self]⟩
        · simp only [execOp, ho]
          refine run_v _ ?_
          have hw1 : IntKind.i64.wrap (n : Int) = n := by simp [IntKind.wrap, IntKind.bits, IntKind.signed]; omega
          have hw2 : IntKind.i64.wrap (m : Int) = m := by simp [IntKind.wrap, IntKind.bits, IntKind.signed]; omega
          have hb' : (i.bytes : Int) * (m : Int) ≤ 1048576 * 1048576 := by
            have h3 : ((i.bytes * m : Nat) : Int) ≤ ((1048576 * 1048576 : Nat) : Int) := Int.ofNat_le.2 hb
            rw [Int.natCast_mul] at h3
            exact h3
          simp only [Instr.makeSlice, hlv, hcv, asInt, asIntOf, Sem.run_bind, Sem.run_pure, Result.andThen_ok, run_und hd, run_typeInfo h1, Int.ofNat_eq_natCast, hw1, hw2]
          have hcond : ¬ (((m : Int) < 0 || (i.bytes : Int) * (m : Int) > 2 ^ 48) || (n : Int) < 0 || (n : Int) > (m : Int)) = true := by
            simp only [Bool.or_eq_true, decide_eq_true_eq]
            rintro (((h | h) | h) | h) <;> omega
          simp only [Sem.run_ite, Sem.run_bind]
          rw [if_neg (by simpa using hcond)]
          simp only [Sem.run_pure, Result.andThen_ok, run_askRoom, Int.toNat_natCast, run_sizeOf h1, h2]
          by_cases hz : m * te.size = 0
          · simp only [hz, if_true, Sem.run_pure, Result.andThen_ok, newRow, Sem.run_bind, run_newObj]
            have e0 : ∀ f : Nat → Value, (Array.range 0).map f = #[] := fun f => Array.eq_empty_of_size_eq_zero (by simp)
            rw [e0, e0]
          · simp only [hz, if_false, Sem.run_bind, run_zeroValue h1 h4, Result.andThen_ok, Sem.run_pure, newRow, run_newObj]
        · refine arr_rel hn h6 (by rw [repCells_length, ← hzl]) (fun k c hk hc => ?_) false
          rw [cellV_zero te hzl m k hk] at hc; injection hc
      · simp at h
    · simp at h
  · simp at h

/-- the bounds of a slice expression -/

theorem mk_buildSlice (hE : TyOk P E) (hn : φ s.next = none) {t len : Nat} {ps : Array (Nat × Operand)} (ho : o.op = .buildSlice t len ps) (hev : OpsOk P φ tm a o)
    (h : doOp E cf tm s o = some (v, s')) : Made P φ s w s' v ((execOp a.eval o).run P w) := by
  have hps : ∀ p ∈ ps.toList, EvOk P φ tm a p.2 := fun p hp => hev p.2 (by
    simp only [ho, Op.operands, List.mem_toArray, List.mem_map]
    exact ⟨p, hp, rfl⟩)
  simp only [doOp, ho] at h
  split at h
  · rename_i sz ag e zr pl ht
    split at h
    · rename_i te hte
      simp only [cond_eq_ite, Nat.ble_eq] at h
      split at h
      · rename_i hle
        unfold lim at hle
        split at h
        · rename_i cs hcs
          simp at h; obtain ⟨rfl, rfl⟩ := h
          obtain ⟨d, hd, rfl, _⟩ := (hE _ _ ht).und
          obtain ⟨i, z, h1, h2, h3, h4, h5, h6⟩ := zero_row hE hte (φ := φ) len
          obtain ⟨_, _, _, _, _, _, _, hzl, _⟩ := (hE _ _ hte).info
          obtain ⟨xs', hf, hc'⟩ := fill_conc hE (fun i => some (i * te.size, te.size)) ps.toList _ _ _ hps h6 hcs
          have hlen : cs.length = len * te.size := by
            have : ∀ (place : Nat → Option (Nat × Nat)) (ps : List (Nat × Operand)) (c c' : List Sc), fillOp E tm place ps c = some c' → c'.length = c.length := by
              intro place ps
              induction ps with
              | nil => intro c c' h; simp [fillOp] at h; rw [h]
              | cons p r ih =>
                intro c c' h
                obtain ⟨i, x⟩ := p
                simp only [fillOp] at h
                split at h
                · simp only [cond_eq_ite, Bool.and_eq_true, Nat.beq_eq, Nat.ble_eq] at h
                  split at h
                  · rename_i hcond
                    rw [ih _ _ h, splice_length (by omega)]
                  · simp at h
                · simp at h
            rw [this _ _ _ _ hcs, repCells_length, ← hzl]
          refine ⟨.slice (some ⟨w.heap.size, 0, none⟩) len len, _, .cells xs'.toArray e, ?_, rfl, ?_,
            by simp [conc, concS, upd_self]⟩
          · simp only [execOp, ho]
            refine run_v _ ?_
            simp only [Instr.buildSlice, Sem.run_bind, run_und hd, Result.andThen_ok, run_sizeOf h1, h2, Sem.run_ite]
            rw [if_neg (by omega)]
            rw [Array.toArray_toList] at hf
            have hf2 : Instr.fill (fun i => some (i * te.size, te.size)) ((Array.range (len * te.size)).map fun k => z.cells[k % z.cells.size]!)
                (ps.map fun p => (p.1, a.eval p.2)).toList = some xs'.toArray := by rw [Array.toList_map]; exact hf
            by_cases h0 : len * te.size = 0
            · rw [if_pos h0]
              simp only [Sem.run_pure, Result.andThen_ok]
              have e0 : ∀ f g : Nat → Value, (Array.range (len * te.size)).map f = (Array.range (len * te.size)).map g := fun f g => by
                rw [h0, Array.eq_empty_of_size_eq_zero (xs := (Array.range 0).map f) (by simp), Array.eq_empty_of_size_eq_zero (xs := (Array.range 0).map g) (by simp)]
              rw [e0 _ (fun k => z.cells[k % z.cells.size]!)]
              rw [hf2]; simp [newRow]
            · rw [if_neg h0]
              simp only [Sem.run_bind, run_zeroValue h1 h4, Sem.run_pure, Result.andThen_ok]
              rw [hf2]; simp [newRow]
          · refine arr_rel hn (by simpa using hc') hlen.symm (fun k c hk hc => ?_) false
            exact cellV_setCells _ _ _ _ _ (by omega) _ (by simpa using hc)
        · simp at h
      · simp at h
    · simp at h
  · simp at h


/-- is an operation one that makes a new thing? -/
def isA : Op → Bool
  | .alloc _ | .box _ _ | .buildSlice _ _ _ | .makeMap _ none | .makeChan _ _ | .makeSlice _ _ _ => true
  | _ => false

theorem made_of (hE : TyOk P E) (hA : isA o.op = true) (hn : φ s.next = none) (hev : OpsOk P φ tm a o) (h : doOp E cf tm s o = some (v, s')) :
    Made P φ s w s' v ((execOp a.eval o).run P w) := by
  cases ho : o.op with
  | alloc t => exact mk_alloc hE hn ho h
  | box t x => exact mk_box hE hn ho hev h
  | buildSlice t l ps => exact mk_buildSlice hE hn ho hev h
  | makeMap t r =>
    cases r with
    | none => exact mk_makeMap hn ho h
    | some r => simp [isA, ho] at hA
  | makeChan t x => exact mk_makeChan hE hn ho hev h
  | makeSlice t l c => exact mk_makeSlice hE hn ho hev h
  | _ => simp [isA, ho] at hA
end
end Go.Mx

/- What an operation looks at: its operands; the state, some of them. -/
set_option linter.unusedSimpArgs false
namespace Go.Mx
open Go

section
variable {E : Env} {s s' : St} {tm tm' : Tm} {v : AV} {cf : CF} {o : Oper}

theorem evI_congr {x : Operand} (h : ev tm x = ev tm' x) : evI tm x = evI tm' x := by unfold evI; rw [h]
theorem evB_congr {x : Operand} (h : ev tm x = ev tm' x) : evB tm x = evB tm' x := by unfold evB; rw [h]
theorem evP_congr {x : Operand} (h : ev tm x = ev tm' x) : evP tm x = evP tm' x := by unfold evP; rw [h]
theorem evC_congr {x : Operand} (h : ev tm x = ev tm' x) : evC E tm x = evC E tm' x := by unfold evC; rw [h]
theorem evV_congr {x : Operand} (h : ev tm x = ev tm' x) : evV E tm x = evV E tm' x := by unfold evV; rw [h]

theorem evs_congr : ∀ {l : List Operand}, (∀ x ∈ l, ev tm x = ev tm' x) → evs tm l = evs tm' l := by
  intro l
  induction l with
  | nil => intro _; rfl
  | cons x r ih => intro h; simp only [evs, h x (by simp), ih (fun y hy => h y (by simp [hy]))]

theorem foldMM_congr {mn : Bool} {k : IntKind} : ∀ {l : List Operand} {n : Int}, (∀ x ∈ l, ev tm x = ev tm' x) → foldMM mn tm k n l = foldMM mn tm' k n l := by
  intro l
  induction l with
  | nil => intro _ _; rfl
  | cons x r ih =>
    intro n h
    simp only [foldMM, evI_congr (h x (by simp))]
    split
    · exact ih (fun y hy => h y (by simp [hy]))
    · rfl

theorem fill_congr (place : Nat → Option (Nat × Nat)) : ∀ {l : List (Nat × Operand)} {cs : List Sc}, (∀ p ∈ l, ev tm p.2 = ev tm' p.2) → fillOp E tm place l cs = fillOp E tm' place l cs := by
  intro l
  induction l with
  | nil => intro _ _; rfl
  | cons p r ih =>
    intro cs h
    obtain ⟨i, x⟩ := p
    simp only [fillOp, evC_congr (E := E) (h (i, x) (by simp))]
    split
    · rw [ih (fun y hy => h y (by simp [hy]))]
    · rfl

theorem bound_congr {x : Option Operand} {d hi : Nat} (h : ∀ y ∈ x, ev tm y = ev tm' y) : bound tm x d hi = bound tm' x d hi := by
  unfold bound
  cases x with
  | none => rfl
  | some x => simp only [evI_congr (h x rfl)]

theorem bounds3_congr {lo hi mx : Option Operand} {len cap : Nat} (h1 : ∀ y ∈ lo, ev tm y = ev tm' y) (h2 : ∀ y ∈ hi, ev tm y = ev tm' y) (h3 : ∀ y ∈ mx, ev tm y = ev tm' y) :
    bounds3 tm lo hi mx len cap = bounds3 tm' lo hi mx len cap := by
  unfold bounds3
  rw [bound_congr h3]
  split
  · rw [bound_congr h2]
    split
    · rw [bound_congr h1]
    · rfl
  · rfl

theorem lnOf_congr {x : Operand} (h : ev tm x = ev tm' x) : lnOf tm x = lnOf tm' x := by unfold lnOf; rw [h]
theorem lowOf_congr {x : Option Operand} (h : ∀ y ∈ x, ev tm y = ev tm' y) : lowOf tm x = lowOf tm' x := by
  unfold lowOf
  cases x with
  | none => rfl
  | some x => simp only [h x rfl]
theorem symSlice_congr {t : Nat} {x : Operand} {lo hi mx : Option Operand} (h0 : ev tm x = ev tm' x) (h1 : ∀ y ∈ lo, ev tm y = ev tm' y) (h2 : ∀ y ∈ hi, ev tm y = ev tm' y)
    (h3 : ∀ y ∈ mx, ev tm y = ev tm' y) : symSlice E tm t x lo hi mx = symSlice E tm' t x lo hi mx := by
  unfold symSlice
  rw [h0]
  split
  · cases hi with
    | none => rfl
    | some hi => cases mx with
      | none => rfl
      | some mx => simp only [lnOf_congr (h2 hi rfl), lnOf_congr (h3 mx rfl), lowOf_congr h1]
  · cases lo with
    | none => cases hi with
      | none => rfl
      | some hi => cases mx with
        | none => simp only [lnOf_congr (h2 hi rfl)]
        | some mx => rfl
    | some lo => cases hi with
      | none => cases mx with
        | none => simp only [lnOf_congr (h1 lo rfl)]
        | some mx => rfl
      | some hi => rfl
  · cases lo with
    | none => cases hi with
      | none => rfl
      | some hi => cases mx with
        | none => simp only [lnOf_congr (h2 hi rfl)]
        | some mx => rfl
    | some lo => rfl
  · rfl
theorem slice_congr {t : Nat} {x : Operand} {lo hi mx : Option Operand} (h0 : ev tm x = ev tm' x) (h1 : ∀ y ∈ lo, ev tm y = ev tm' y) (h2 : ∀ y ∈ hi, ev tm y = ev tm' y)
    (h3 : ∀ y ∈ mx, ev tm y = ev tm' y) : sliceOp E tm t x lo hi mx = sliceOp E tm' t x lo hi mx := by
  unfold sliceOp
  rw [symSlice_congr h0 h1 h2 h3]
  split
  · rfl
  unfold sliceOp0
  rw [h0]
  split
  · rw [bounds3_congr h1 h2 h3]
  · rw [bounds3_congr h1 h2 h3]
  · rfl

theorem symB_congr {b : Builtin} {tys : List Nat} {args : List Operand} (h : ∀ x ∈ args, ev tm x = ev tm' x) : symB E tm s b tys args = symB E tm' s b tys args := by
  unfold symB
  split
  · unfold symLen
    split
    · rw [h _ (by simp)]
    · rfl
  · unfold symCopy
    split
    · rw [h _ (by simp), h _ (by simp)]
    · rfl
  · unfold symAppend
    split
    · rw [h _ (by simp), h _ (by simp)]
    · rfl
  · unfold symMin
    split
    · rw [h _ (by simp), h _ (by simp)]
    · rfl
  · rfl

theorem builtin_congr {b : Builtin} {tys : List Nat} {args : List Operand} (h : ∀ x ∈ args, ev tm x = ev tm' x) : builtinOp E tm s b tys args = builtinOp E tm' s b tys args := by
  unfold builtinOp
  rw [symB_congr h]
  split
  · rfl
  unfold builtinOp0
  split
  · rw [h _ (by simp)]
  · rw [h _ (by simp)]
  · rw [h _ (by simp), h _ (by simp)]
  · rw [h _ (by simp), h _ (by simp)]
  · rw [h _ (by simp)]
  · rw [h _ (by simp), evV_congr (h _ (by simp))]
  · rw [evI_congr (h _ (by simp))]
    split
    · rw [foldMM_congr (fun y hy => h y (by simp [hy]))]
    · rfl
  · rw [evI_congr (h _ (by simp))]
    split
    · rw [foldMM_congr (fun y hy => h y (by simp [hy]))]
    · rfl
  · rfl

theorem doOp_congr (h : ∀ x ∈ o.op.operands, ev tm x = ev tm' x) : doOp E cf tm s o = doOp E cf tm' s o := by
  unfold doOp
  cases ho : o.op with
  | move x => simp only [h x (by simp [ho, Op.operands])]
  | assign x => simp only [h x (by simp [ho, Op.operands])]
  | pick c x y => simp only [evB_congr (h c (by simp [ho, Op.operands])), h x (by simp [ho, Op.operands]), h y (by simp [ho, Op.operands])]
  | alloc t => rfl
  | box t x => simp only [h x (by simp [ho, Op.operands])]
  | build t ps =>
    have hps : ∀ p ∈ ps.toList, ev tm p.2 = ev tm' p.2 := fun p hp => h p.2 (by
      simp only [ho, Op.operands, List.mem_toArray, List.mem_map]; exact ⟨p, hp, rfl⟩)
    simp only [fill_congr _ hps]
  | buildSlice t l ps =>
    have hps : ∀ p ∈ ps.toList, ev tm p.2 = ev tm' p.2 := fun p hp => h p.2 (by
      simp only [ho, Op.operands, List.mem_toArray, List.mem_map]; exact ⟨p, hp, rfl⟩)
    simp only [fill_congr _ hps]
  | load t x => simp only [evP_congr (h x (by simp [ho, Op.operands]))]
  | store t x y => simp only [evP_congr (h x (by simp [ho, Op.operands])), evC_congr (h y (by simp [ho, Op.operands]))]
  | nilCheck x => simp only [h x (by simp [ho, Op.operands])]
  | binOp op t x y yt => simp only [h x (by simp [ho, Op.operands]), h y (by simp [ho, Op.operands])]
  | unOp op t x => simp only [h x (by simp [ho, Op.operands])]
  | convert src dst x => simp only [h x (by simp [ho, Op.operands])]
  | sliceToArrayPointer t x => simp only [h x (by simp [ho, Op.operands])]
  | makeFunc fn first cap =>
    have h1 : ∀ x ∈ first.toList, ev tm x = ev tm' x := fun x hx => h x (by simp [ho, Op.operands]; exact .inl (Array.mem_toList_iff.1 hx))
    have h2 : ∀ x ∈ cap.toList, ev tm x = ev tm' x := fun x hx => h x (by simp [ho, Op.operands]; exact .inr (Array.mem_toList_iff.1 hx))
    simp only [evs_congr h1, evs_congr h2]
  | makeMap t r => cases r <;> rfl
  | makeChan t x => simp only [evI_congr (h x (by simp [ho, Op.operands]))]
  | makeSlice t l c => simp only [evI_congr (h l (by simp [ho, Op.operands])), evI_congr (h c (by simp [ho, Op.operands]))]
  | slice t x lo hi mx =>
    simp only []
    rw [slice_congr (h x (by simp [ho, Op.operands])) (fun y hy => h y (by simp [ho, Op.operands, Option.mem_toArray.2 hy]))
      (fun y hy => h y (by simp [ho, Op.operands, Option.mem_toArray.2 hy])) (fun y hy => h y (by simp [ho, Op.operands, Option.mem_toArray.2 hy]))]
  | fieldAddr t x f => simp only [evP_congr (h x (by simp [ho, Op.operands]))]
  | field t x f => simp only [h x (by simp [ho, Op.operands])]
  | indexAddr t x i => simp only [symIdx, idxOp, h x (by simp [ho, Op.operands]), h i (by simp [ho, Op.operands]), evI_congr (h i (by simp [ho, Op.operands]))]
  | index t x i => simp only [h x (by simp [ho, Op.operands]), evI_congr (h i (by simp [ho, Op.operands]))]
  | lookup t x i ok => simp only [h x (by simp [ho, Op.operands]), evV_congr (h i (by simp [ho, Op.operands]))]
  | mapUpdate t x i y => simp only [h x (by simp [ho, Op.operands]), evV_congr (h i (by simp [ho, Op.operands])), evV_congr (h y (by simp [ho, Op.operands]))]
  | mapEntry t x i => simp only [h x (by simp [ho, Op.operands]), evV_congr (h i (by simp [ho, Op.operands]))]
  | entryStore t x i y => simp only [h x (by simp [ho, Op.operands]), evI_congr (h i (by simp [ho, Op.operands])), evV_congr (h y (by simp [ho, Op.operands]))]
  | extract x i => simp only [h x (by simp [ho, Op.operands])]
  | call c =>
    cases hc : c.callee with
    | builtin b =>
      have hargs : ∀ x ∈ c.args.toList, ev tm x = ev tm' x := fun x hx => h x (by simp [ho, Op.operands, Call.operands, hc]; exact Array.mem_toList_iff.1 hx)
      simp only [hc, builtin_congr hargs]
    | value f =>
      have hargs : ∀ x ∈ c.args.toList, ev tm x = ev tm' x := fun x hx => h x (by simp [ho, Op.operands, Call.operands, hc]; exact .inr (Array.mem_toList_iff.1 hx))
      simp only [hc, h f (by simp [ho, Op.operands, Call.operands, hc]), evs_congr hargs]
    | invoke r n => simp only [hc]
  | _ => rfl

/-- what is there, is there behind too -/
def Sub (s s2 : St) : Prop := ∀ i ob, s.hp.get i = some ob → s2.hp.get i = some ob

/-- does an operation read what may change? -/
def isR : Op → Bool
  | .load .. | .lookup .. | .convert .. => true
  | .call c => match c.callee with | .builtin .len => true | _ => false
  | _ => false

theorem doOp_made (hA : isA o.op = true) (h : doOp E cf tm s o = some (v, s')) : ∃ ob, s' = (alloc s ob).2 := by
  have var : ∀ t u q, newVar E s t u = some (q, s') → ∃ ob, s' = (alloc s ob).2 := fun t u q h => by
    unfold newVar at h
    split at h
    · simp at h
    · split at h
      · simp only [cond_eq_ite] at h; split at h
        · simp at h; exact ⟨_, h.2.symm⟩
        · simp at h
      · split at h
        · simp at h
        · simp only [cond_eq_ite] at h; split at h
          · simp at h; exact ⟨_, h.2.symm⟩
          · simp at h
  cases ho : o.op with
  | alloc t => simp only [doOp, ho] at h; exact var _ _ _ h
  | box t x =>
    simp only [doOp, ho] at h
    split at h
    · exact var _ _ _ h
    · simp at h
  | buildSlice t l ps =>
    simp only [doOp, ho] at h
    split at h
    · split at h
      · simp only [cond_eq_ite] at h
        split at h
        · split at h
          · simp at h; exact ⟨_, h.2.symm⟩
          · simp at h
        · simp at h
      · simp at h
    · simp at h
  | makeMap t r =>
    cases r with
    | none => simp only [doOp, ho] at h; simp at h; exact ⟨_, h.2.symm⟩
    | some r => simp [isA, ho] at hA
  | makeChan t x =>
    simp only [doOp, ho] at h
    split at h
    · simp only [cond_eq_ite] at h; split at h
      · simp at h; exact ⟨_, h.2.symm⟩
      · simp at h
    · simp at h
  | makeSlice t l c =>
    simp only [doOp, ho] at h
    split at h
    · split at h
      · simp only [cond_eq_ite] at h
        split at h
        · simp at h; exact ⟨_, h.2.symm⟩
        · simp at h
      · simp at h
    · simp at h
  | _ => simp [isA, ho] at hA

theorem ldCells_sub {s2 : St} (hb : Sub s s2) {a : Nat × Nat} {n : Nat} {l : List Sc} (h : ldCells s a n = some l) : ldCells s2 a n = some l := by
  unfold ldCells at h ⊢
  cases hg : s.hp.get a.1 with
  | none => simp [hg] at h
  | some ob => rw [hb _ _ hg]; simpa [hg] using h

theorem lenV_sub {s2 : St} (hb : Sub s s2) {k : TK} {u : AV} {n : Nat} (hn : lenV s k u = some n) : lenV s2 k u = some n := by
  unfold lenV at hn ⊢
  split at hn
  · exact hn
  · exact hn
  · exact hn
  · exact hn
  · rename_i r
    cases hg : s.hp.get r with
    | none => simp [hg] at hn
    | some ob =>
      simp only [hg] at hn
      simp only [hb _ _ hg]
      exact hn
  · simp at hn

theorem ov_same {x : Option AV} (h : ov x s = some (v, s')) (s2 : St) : s' = s ∧ ov x s2 = some (v, s2) := by
  obtain ⟨h1, h2⟩ := ov_some h
  exact ⟨h2, by rw [h1]; rfl⟩

theorem doOp_read (hR : isR o.op = true) (h : doOp E cf tm s o = some (v, s')) : s' = s ∧ ∀ s2, Sub s s2 → doOp E cf tm s2 o = some (v, s2) := by
  cases ho : o.op with
  | load t x =>
    simp only [doOp, ho] at h ⊢
    split at h
    · rename_i ti p h1 h2
      split at h
      · rename_i cs hl
        obtain ⟨rfl, _⟩ := ov_same h s
        refine ⟨rfl, fun s2 hb => ?_⟩
        simp only [h1, h2, ldCells_sub hb hl]
        exact (ov_same h s2).2
      · simp at h
    · simp at h
  | lookup t x i ok =>
    simp only [doOp, ho] at h ⊢
    split at h
    · rename_i kt e _ _ r k ht hxe hke
      split at h
      · rename_i es hes
        have hes2 : ∀ s2, Sub s s2 → mapOf s2 r = some es := fun s2 hb => by
          unfold mapOf at hes ⊢
          cases r with
          | none => exact hes
          | some r =>
            cases hg : s.hp.get r with
            | none => simp [hg] at hes
            | some ob =>
              simp only [hg] at hes
              simp only [hb _ _ hg]
              exact hes
        split at h
        · rename_i m hm
          cases ok with
          | true => simp at h; exact ⟨h.2.symm, fun s2 hb => by simp only [hes2 s2 hb, hm]; simp [h.1]⟩
          | false => exact ⟨(ov_same h s).1, fun s2 hb => by simp only [hes2 s2 hb, hm]; exact (ov_same h s2).2⟩
        · rename_i hm
          split at h
          · rename_i te hte
            cases ok with
            | true => simp at h; exact ⟨h.2.symm, fun s2 hb => by simp only [hes2 s2 hb, hm]; simp [h.1]⟩
            | false => exact ⟨(ov_same h s).1, fun s2 hb => by simp only [hes2 s2 hb, hm]; exact (ov_same h s2).2⟩
          · simp at h
        · simp at h
      · simp at h
    · simp at h
  | convert src dst x =>
    simp only [doOp, ho] at h ⊢
    split at h
    · rename_i h1 h2 h3
      simp at h
      exact ⟨h.2.symm, fun s2 _ => by simp [h.1]⟩
    · rename_i h1 h2 h3
      split at h
      · rename_i h4
        split at h
        · simp at h; exact ⟨h.2.symm, fun s2 _ => by simp [h.1]⟩
        · split at h
          · rename_i hl
            split at h
            · rename_i hb2
              simp at h; exact ⟨h.2.symm, fun s2 hb => by simp only [ldCells_sub hb hl, hb2]; simp [h.1]⟩
            · simp at h
          · simp at h
      · simp at h
    · rename_i h1 h2 h3
      split at h
      · rename_i h4
        simp only [cond_eq_ite] at h
        split at h
        · rename_i h5
          split at h
          · rename_i hg
            simp at h; exact ⟨h.2.symm, fun s2 hb => by simp only [cond_eq_ite, if_pos h5, hb _ _ hg]; simp [h.1]⟩
          · simp at h
        · simp at h
      · simp at h
    · simp at h
  | call c =>
    cases hc : c.callee with
    | builtin b =>
      cases b with
      | len =>
        simp only [doOp, ho, hc] at h ⊢
        unfold builtinOp at h ⊢
        have hsym : ∀ s2, symB E tm s2 .len c.argTypes.toList c.args.toList = (symB E tm s .len c.argTypes.toList c.args.toList).map (fun r => (r.1, s2)) := fun s2 => by
          simp only [symB, symLen]
          (repeat' split) <;> first | rfl | simp_all
        split at h
        · rename_i r hr
          injection h with h; subst h
          refine ⟨?_, fun s2 _ => by rw [hsym s2, hr]; rfl⟩
          have := hsym s; rw [hr] at this
          simp only [symB, symLen] at hr
          (repeat' (split at hr)) <;> first | (injection hr with hr; injection hr with _ hr; exact hr.symm) | (simp at hr; done)
        rename_i hnone
        have hnone2 : ∀ s2, symB E tm s2 .len c.argTypes.toList c.args.toList = none := fun s2 => by rw [hsym s2, hnone]; rfl
        simp only [hnone2]
        unfold builtinOp0 at h ⊢
        split at h <;> simp only [reduceCtorEq, false_and, and_false] at *
        all_goals try contradiction
        split at h
        · simp at h; exact ⟨h.2.symm, fun s2 _ => by simp [h.1]⟩
        · split at h
          · split at h
            · rename_i n hn
              simp at h
              refine ⟨h.2.symm, fun s2 hb => ?_⟩
              simp [lenV_sub hb hn, h.1]
            · simp at h
          · simp at h
        · simp at h
      | _ => simp [isR, ho, hc] at hR
    | _ => simp [isR, ho, hc] at hR
  | _ => simp [isR, ho] at hR

theorem symMin_map (s s2 : St) (l : List Operand) : symMin tm s2 l = (symMin tm s l).map (fun r => (r.1, s2)) := by
  simp only [symMin, cond_eq_ite]
  (repeat' split) <;> first | rfl | simp_all

theorem doOp_pure (hE : isE o.op = false) (hA : isA o.op = false) (hR : isR o.op = false) (h : doOp E cf tm s o = some (v, s')) : s' = s ∧ ∀ s2, doOp E cf tm s2 o = some (v, s2) := by
  cases ho : o.op with
  | move x =>
    simp only [doOp, ho, cond_eq_ite] at h ⊢
    (repeat' (split at h)) <;> first
          | exact ⟨(ov_same h s).1, fun s2 => (ov_same h s2).2⟩
          | contradiction
          | (refine ⟨(ov_same h s).1, fun s2 => ?_⟩; have h9 := (ov_same h s2).2; simp_all; done)
          | (simp at h; done)
          | (simp at h; obtain ⟨h1, h2⟩ := h; exact ⟨h2.symm, fun s2 => by simp_all⟩)
  | assign x =>
    simp only [doOp, ho, cond_eq_ite] at h ⊢
    (repeat' (split at h)) <;> first
          | exact ⟨(ov_same h s).1, fun s2 => (ov_same h s2).2⟩
          | contradiction
          | (refine ⟨(ov_same h s).1, fun s2 => ?_⟩; have h9 := (ov_same h s2).2; simp_all; done)
          | (simp at h; done)
          | (simp at h; obtain ⟨h1, h2⟩ := h; exact ⟨h2.symm, fun s2 => by simp_all⟩)
  | pick c x y =>
    simp only [doOp, ho, cond_eq_ite] at h ⊢
    (repeat' (split at h)) <;> first
          | exact ⟨(ov_same h s).1, fun s2 => (ov_same h s2).2⟩
          | contradiction
          | (refine ⟨(ov_same h s).1, fun s2 => ?_⟩; have h9 := (ov_same h s2).2; simp_all; done)
          | (simp at h; done)
          | (simp at h; obtain ⟨h1, h2⟩ := h; exact ⟨h2.symm, fun s2 => by simp_all⟩)
  | build t ps =>
    simp only [doOp, ho, cond_eq_ite] at h ⊢
    (repeat' (split at h)) <;> first
          | exact ⟨(ov_same h s).1, fun s2 => (ov_same h s2).2⟩
          | contradiction
          | (refine ⟨(ov_same h s).1, fun s2 => ?_⟩; have h9 := (ov_same h s2).2; simp_all; done)
          | (simp at h; done)
          | (simp at h; obtain ⟨h1, h2⟩ := h; exact ⟨h2.symm, fun s2 => by simp_all⟩)
  | nilCheck x =>
    simp only [doOp, ho, cond_eq_ite] at h ⊢
    (repeat' (split at h)) <;> first
          | exact ⟨(ov_same h s).1, fun s2 => (ov_same h s2).2⟩
          | contradiction
          | (refine ⟨(ov_same h s).1, fun s2 => ?_⟩; have h9 := (ov_same h s2).2; simp_all; done)
          | (simp at h; done)
          | (simp at h; obtain ⟨h1, h2⟩ := h; exact ⟨h2.symm, fun s2 => by simp_all⟩)
  | binOp op t x y yt =>
    simp only [doOp, ho, cond_eq_ite] at h ⊢
    (repeat' (split at h)) <;> first
          | exact ⟨(ov_same h s).1, fun s2 => (ov_same h s2).2⟩
          | contradiction
          | (refine ⟨(ov_same h s).1, fun s2 => ?_⟩; have h9 := (ov_same h s2).2; simp_all; done)
          | (simp at h; done)
          | (simp at h; obtain ⟨h1, h2⟩ := h; exact ⟨h2.symm, fun s2 => by simp_all⟩)
  | unOp op t x =>
    simp only [doOp, ho, cond_eq_ite] at h ⊢
    (repeat' (split at h)) <;> first
          | exact ⟨(ov_same h s).1, fun s2 => (ov_same h s2).2⟩
          | contradiction
          | (refine ⟨(ov_same h s).1, fun s2 => ?_⟩; have h9 := (ov_same h s2).2; simp_all; done)
          | (simp at h; done)
          | (simp at h; obtain ⟨h1, h2⟩ := h; exact ⟨h2.symm, fun s2 => by simp_all⟩)
  | sliceToArrayPointer t x =>
    simp only [doOp, ho, cond_eq_ite] at h ⊢
    (repeat' (split at h)) <;> first
          | exact ⟨(ov_same h s).1, fun s2 => (ov_same h s2).2⟩
          | contradiction
          | (refine ⟨(ov_same h s).1, fun s2 => ?_⟩; have h9 := (ov_same h s2).2; simp_all; done)
          | (simp at h; done)
          | (simp at h; obtain ⟨h1, h2⟩ := h; exact ⟨h2.symm, fun s2 => by simp_all⟩)
  | makeFunc fn first cap =>
    simp only [doOp, ho, cond_eq_ite] at h ⊢
    (repeat' (split at h)) <;> first
          | exact ⟨(ov_same h s).1, fun s2 => (ov_same h s2).2⟩
          | contradiction
          | (refine ⟨(ov_same h s).1, fun s2 => ?_⟩; have h9 := (ov_same h s2).2; simp_all; done)
          | (simp at h; done)
          | (simp at h; obtain ⟨h1, h2⟩ := h; exact ⟨h2.symm, fun s2 => by simp_all⟩)
  | slice t x lo hi mx =>
    simp only [doOp, ho, cond_eq_ite] at h ⊢
    (repeat' (split at h)) <;> first
          | exact ⟨(ov_same h s).1, fun s2 => (ov_same h s2).2⟩
          | contradiction
          | (refine ⟨(ov_same h s).1, fun s2 => ?_⟩; have h9 := (ov_same h s2).2; simp_all; done)
          | (simp at h; done)
          | (simp at h; obtain ⟨h1, h2⟩ := h; exact ⟨h2.symm, fun s2 => by simp_all⟩)
  | fieldAddr t x f =>
    simp only [doOp, ho, cond_eq_ite] at h ⊢
    (repeat' (split at h)) <;> first
          | exact ⟨(ov_same h s).1, fun s2 => (ov_same h s2).2⟩
          | contradiction
          | (refine ⟨(ov_same h s).1, fun s2 => ?_⟩; have h9 := (ov_same h s2).2; simp_all; done)
          | (simp at h; done)
          | (simp at h; obtain ⟨h1, h2⟩ := h; exact ⟨h2.symm, fun s2 => by simp_all⟩)
  | field t x f =>
    simp only [doOp, ho, cond_eq_ite] at h ⊢
    (repeat' (split at h)) <;> first
          | exact ⟨(ov_same h s).1, fun s2 => (ov_same h s2).2⟩
          | contradiction
          | (refine ⟨(ov_same h s).1, fun s2 => ?_⟩; have h9 := (ov_same h s2).2; simp_all; done)
          | (simp at h; done)
          | (simp at h; obtain ⟨h1, h2⟩ := h; exact ⟨h2.symm, fun s2 => by simp_all⟩)
  | indexAddr t x i =>
    simp only [doOp, ho] at h ⊢
    cases hsym : symIdx E tm t x i with
    | some v1 =>
      simp only [hsym] at h ⊢
      injection h with h; injection h with h1 h2
      exact ⟨h2.symm, fun s2 => by rw [h1]⟩
    | none =>
      simp only [hsym] at h ⊢
      simp only [idxOp, cond_eq_ite] at h ⊢
      (repeat' (split at h)) <;> first
          | exact ⟨(ov_same h s).1, fun s2 => (ov_same h s2).2⟩
          | contradiction
          | (refine ⟨(ov_same h s).1, fun s2 => ?_⟩; have h9 := (ov_same h s2).2; simp_all; done)
          | (simp at h; done)
          | (simp at h; obtain ⟨h1, h2⟩ := h; exact ⟨h2.symm, fun s2 => by simp_all⟩)
  | index t x i =>
    simp only [doOp, ho, cond_eq_ite] at h ⊢
    (repeat' (split at h)) <;> first
          | exact ⟨(ov_same h s).1, fun s2 => (ov_same h s2).2⟩
          | contradiction
          | (refine ⟨(ov_same h s).1, fun s2 => ?_⟩; have h9 := (ov_same h s2).2; simp_all; done)
          | (simp at h; done)
          | (simp at h; obtain ⟨h1, h2⟩ := h; exact ⟨h2.symm, fun s2 => by simp_all⟩)
  | extract x i =>
    simp only [doOp, ho, cond_eq_ite] at h ⊢
    (repeat' (split at h)) <;> first
          | exact ⟨(ov_same h s).1, fun s2 => (ov_same h s2).2⟩
          | contradiction
          | (refine ⟨(ov_same h s).1, fun s2 => ?_⟩; have h9 := (ov_same h s2).2; simp_all; done)
          | (simp at h; done)
          | (simp at h; obtain ⟨h1, h2⟩ := h; exact ⟨h2.symm, fun s2 => by simp_all⟩)
  | makeMap t r => cases r with
    | none => simp [isA, ho] at hA
    | some r => simp [doOp, ho] at h
  | call c =>
    cases hc : c.callee with
    | builtin b =>
      cases b with
      | cap =>
        simp only [doOp, ho, hc, builtinOp, symB, builtinOp0, cond_eq_ite] at h ⊢
        (repeat' (split at h)) <;> first
          | exact ⟨(ov_same h s).1, fun s2 => (ov_same h s2).2⟩
          | contradiction
          | (refine ⟨(ov_same h s).1, fun s2 => ?_⟩; have h9 := (ov_same h s2).2; simp_all; done)
          | (simp at h; done)
          | (simp at h; obtain ⟨h1, h2⟩ := h; exact ⟨h2.symm, fun s2 => by simp_all⟩)
      | min =>
        simp only [doOp, ho, hc, builtinOp, symB] at h ⊢
        split at h
        · rename_i r hr
          injection h with h; subst h
          have h1 := symMin_map (tm := tm) s s c.args.toList
          rw [hr] at h1
          simp only [Option.map_some, Option.some.injEq, Prod.mk.injEq] at h1
          exact ⟨h1.2, fun s2 => by rw [symMin_map s s2, hr]; rfl⟩
        · rename_i hnone
          have hn2 : ∀ s2, symMin tm s2 c.args.toList = none := fun s2 => by rw [symMin_map s s2, hnone]; rfl
          simp only [hn2]
          simp only [builtinOp0, cond_eq_ite] at h ⊢
          (repeat' (split at h)) <;> first
            | exact ⟨(ov_same h s).1, fun s2 => (ov_same h s2).2⟩
            | contradiction
            | (refine ⟨(ov_same h s).1, fun s2 => ?_⟩; have h9 := (ov_same h s2).2; simp_all; done)
            | (simp at h; done)
            | (simp at h; obtain ⟨h1, h2⟩ := h; exact ⟨h2.symm, fun s2 => by simp_all⟩)
      | max =>
        simp only [doOp, ho, hc, builtinOp, symB, builtinOp0, cond_eq_ite] at h ⊢
        (repeat' (split at h)) <;> first
          | exact ⟨(ov_same h s).1, fun s2 => (ov_same h s2).2⟩
          | contradiction
          | (refine ⟨(ov_same h s).1, fun s2 => ?_⟩; have h9 := (ov_same h s2).2; simp_all; done)
          | (simp at h; done)
          | (simp at h; obtain ⟨h1, h2⟩ := h; exact ⟨h2.symm, fun s2 => by simp_all⟩)
      | len => simp [isR, ho, hc] at hR
      | _ => simp [isE, ho, hc] at hE
    | value f => simp [isE, ho, hc] at hE
    | invoke r n => simp [isE, ho, hc] at hE
  | alloc => simp [isA, ho] at hA
  | box => simp [isA, ho] at hA
  | buildSlice => simp [isA, ho] at hA
  | makeChan => simp [isA, ho] at hA
  | makeSlice => simp [isA, ho] at hA
  | load => simp [isR, ho] at hR
  | lookup => simp [isR, ho] at hR
  | convert => simp [isR, ho] at hR
  | store => simp [isE, ho] at hE
  | mapUpdate => simp [isE, ho] at hE
  | mapEntry => simp [isE, ho] at hE
  | entryStore => simp [isE, ho] at hE
  | _ => simp [doOp, ho] at h
end
end Go.Mx

/- Regions whose order is drawn: what is checked of each, once. -/
set_option linter.unusedSimpArgs false
namespace Go.Mx
open Go

/-- the bit of a number -/
def bit1 (i : Nat) : Nat := Nat.shiftLeft 1 i

def hasBit (m i : Nat) : Bool := Nat.testBit m i

/-- what an operation waits for, near and far -/
def upMask (anc : List Nat) : List Edge → Nat
  | [] => 0
  | e :: r => bif Region.binds .any e then Nat.lor (Nat.lor (bit1 e.on) (anc.getD e.on 0)) (upMask anc r) else upMask anc r

def effI (ops : Array Oper) (i : Nat) : Bool := match ops[i]? with | some o => isE o.op | none => false

def hiOk (anc : List Nat) (es : List Nat) (i hi : Nat) : Bool := match es[hi]? with
  | none => true
  | some e => hasBit (anc.getD e 0) i

def allBits (m : Nat) : List Nat → Nat → Bool
  | [], _ => true
  | _, 0 => true
  | e :: r, k + 1 => hasBit m e && allBits m r k

def dstsOf (ops : Array Oper) : List (Option Nat) := ops.toList.map (·.dst)

/-- who writes what is looked at comes ahead ('strict'), or behind -/
def readsOk (anc : List Nat) (strict : Bool) (i t : Nat) : List (Option Nat) → Nat → Bool
  | [], _ => true
  | some d :: r, j => (!Nat.beq d t || hasBit (anc.getD i 0) j || (!strict && hasBit (anc.getD j 0) i)) && readsOk anc strict i t r (j + 1)
  | none :: r, j => readsOk anc strict i t r (j + 1)

def chkI (ops : Array Oper) (d : Dr) (es : List Nat) (i k : Nat) : Bool :=
  match ops[i]? with
  | none => false
  | some o => allBits (d.anc.getD i 0) es k && (!isR o.op || hiOk d.anc es i k || ((Oper.looksAt ops o).all (fun t => readsOk d.anc true i t (dstsOf ops) 0) && d.free.any fun f => Nat.beq f.1 i && Nat.ble f.2.1 k && hiOk d.anc es i f.2.2))

def walk (ops : Array Oper) (d : Dr) (es : List Nat) : List Nat → Nat → Nat → Bool
  | [], _, seen => Nat.beq (seen + 1) (bit1 ops.size)
  | i :: r, k, seen => chkI ops d es i k && !hasBit seen i && Nat.beq (Nat.lor (d.anc.getD i 0) seen) seen && walk ops d es r (bif effI ops i then k + 1 else k) (Nat.lor seen (bit1 i))

def distinct : List (Option Nat) → Bool
  | [] => true
  | some d :: r => r.all (fun x => match x with | some e => !Nat.beq d e | none => true) && distinct r
  | none :: r => distinct r

def opsOk (ops : Array Oper) (anc : List Nat) (dsts : List (Option Nat)) : List Oper → Nat → Bool
  | [], _ => true
  | o :: r, i => (o.after.toList.all fun e => !Region.binds .any e || Nat.ble (e.on + 1) i) && Nat.beq (anc.getD i 0) (upMask anc o.after.toList) &&
      ((Oper.looksAt ops o).all fun t => readsOk anc false i t dsts 0) && (match o.op with | .select _ _ => false | _ => true) && opsOk ops anc dsts r (i + 1)

/-- a region whose order is drawn: the order that is followed here is one of those that may be, and the others differ from it in what does not matter -/
def drOk (ops : Array Oper) (d : Dr) : Bool :=
  distinct (dstsOf ops) && opsOk ops d.anc (dstsOf ops) ops.toList 0 && walk ops d (d.order.filter (effI ops)) d.order 0 0

/-- the same, as facts -/
structure DrFacts (ops : Array Oper) (d : Dr) : Prop where
  edge : ∀ (i : Nat) (o : Oper), ops[i]? = some o → ∀ e ∈ o.after, Region.binds .any e = true → e.on < i
  anc : ∀ (i : Nat) (o : Oper), ops[i]? = some o → ∀ j, (d.anc.getD i 0).testBit j = true → ∃ e ∈ o.after, Region.binds .any e = true ∧ (e.on = j ∨ (d.anc.getD e.on 0).testBit j = true)
  reads : ∀ (i : Nat) (o : Oper), ops[i]? = some o → ∀ t ∈ Oper.looksAt ops o, ∀ (j : Nat) (q : Oper), ops[j]? = some q → q.dst = some t → (d.anc.getD i 0).testBit j = true ∨ (d.anc.getD j 0).testBit i = true
  dst : ∀ (i j : Nat) (o q : Oper) (t : Nat), ops[i]? = some o → ops[j]? = some q → o.dst = some t → q.dst = some t → i = j
  nodup : d.order.Nodup
  all : ∀ i, i < ops.size → i ∈ d.order
  inn : ∀ i ∈ d.order, ∃ o, ops[i]? = some o
  lvl : ∀ pre i post, d.order = pre ++ i :: post → ∀ k, k < (pre.filter (effI ops)).length → ∀ e, (d.order.filter (effI ops))[k]? = some e → (d.anc.getD i 0).testBit e = true
  before : ∀ pre i post, d.order = pre ++ i :: post → ∀ j, (d.anc.getD i 0).testBit j = true → j ∈ pre
  rd : ∀ pre i post o, d.order = pre ++ i :: post → ops[i]? = some o → isR o.op = true → hiOk d.anc (d.order.filter (effI ops)) i (pre.filter (effI ops)).length = true ∨
    (∀ t ∈ Oper.looksAt ops o, ∀ (j : Nat) (q : Oper), ops[j]? = some q → q.dst = some t → (d.anc.getD i 0).testBit j = true) ∧ ∃ lo hi, (i, lo, hi) ∈ d.free ∧ lo ≤ (pre.filter (effI ops)).length ∧ hiOk d.anc (d.order.filter (effI ops)) i hi = true

theorem bit1_test (i j : Nat) : (bit1 i).testBit j = decide (i = j) := by
  unfold bit1
  change (1 <<< i).testBit j = _
  rw [Nat.one_shiftLeft, Nat.testBit_two_pow]

theorem upMask_test (anc : List Nat) (j : Nat) : ∀ l : List Edge, (upMask anc l).testBit j = true → ∃ e ∈ l, Region.binds .any e = true ∧ (e.on = j ∨ (anc.getD e.on 0).testBit j = true) := by
  intro l
  induction l with
  | nil => intro h; simp [upMask] at h
  | cons e r ih =>
    intro h
    simp only [upMask, cond_eq_ite] at h
    split at h
    · rename_i hb
      have : ((bit1 e.on ||| anc.getD e.on 0) ||| upMask anc r).testBit j = true := h
      rw [Nat.testBit_or, Nat.testBit_or, bit1_test] at this
      simp only [Bool.or_eq_true, decide_eq_true_eq] at this
      rcases this with (h1 | h1) | h1
      · exact ⟨e, by simp, hb, .inl h1⟩
      · exact ⟨e, by simp, hb, .inr h1⟩
      · obtain ⟨q, hq, h2⟩ := ih h1
        exact ⟨q, by simp [hq], h2⟩
    · obtain ⟨q, hq, h2⟩ := ih h
      exact ⟨q, by simp [hq], h2⟩

theorem readsOk_spec {anc : List Nat} {strict : Bool} {i t : Nat} : ∀ {l : List (Option Nat)} {k : Nat}, readsOk anc strict i t l k = true → ∀ (j : Nat), l[j]? = some (some t) →
    (anc.getD i 0).testBit (k + j) = true ∨ (strict = false ∧ (anc.getD (k + j) 0).testBit i = true) := by
  intro l
  induction l with
  | nil => intro k _ j h; simp at h
  | cons a r ih =>
    intro k h j hj
    cases a with
    | none =>
      simp only [readsOk] at h
      cases j with
      | zero => simp at hj
      | succ j => have := ih h j (by simpa using hj); rw [show k + (j + 1) = k + 1 + j from by omega]; exact this
    | some d =>
      simp only [readsOk, Bool.and_eq_true, Bool.or_eq_true, Bool.not_eq_true'] at h
      cases j with
      | zero =>
        simp at hj; subst hj
        rcases h.1 with (h1 | h1) | h1
        · simp at h1
        · exact .inl h1
        · exact .inr h1
      | succ j => have := ih h.2 j (by simpa using hj); rw [show k + (j + 1) = k + 1 + j from by omega]; exact this

theorem distinct_spec : ∀ {l : List (Option Nat)}, distinct l = true → ∀ (i j t : Nat), l[i]? = some (some t) → l[j]? = some (some t) → i = j := by
  intro l
  induction l with
  | nil => intro _ i j t h; simp at h
  | cons a r ih =>
    intro h i j t hi hj
    have hr : distinct r = true := by
      cases a with
      | none => simpa [distinct] using h
      | some d => simp only [distinct, Bool.and_eq_true] at h; exact h.2
    have hne : ∀ k, a = some t → r[k]? = some (some t) → False := fun k ha hk => by
      subst ha
      simp only [distinct, Bool.and_eq_true, List.all_eq_true] at h
      have := h.1 _ (List.mem_of_getElem? hk)
      simp at this
    cases i with
    | zero =>
      cases j with
      | zero => rfl
      | succ j => exact (hne j (by simpa using hi) (by simpa using hj)).elim
    | succ i =>
      cases j with
      | zero => exact (hne i (by simpa using hj) (by simpa using hi)).elim
      | succ j => rw [ih hr i j t (by simpa using hi) (by simpa using hj)]

theorem allBits_spec {m : Nat} : ∀ {es : List Nat} {k : Nat}, allBits m es k = true → ∀ j, j < k → ∀ e, es[j]? = some e → m.testBit e = true := by
  intro es
  induction es with
  | nil => intro k _ j _ e he; simp at he
  | cons a r ih =>
    intro k h j hj e he
    cases k with
    | zero => omega
    | succ k =>
      simp only [allBits, Bool.and_eq_true] at h
      cases j with
      | zero => simp at he; subst he; exact h.1
      | succ j => exact ih h.2 j (by omega) e (by simpa using he)

theorem opsOk_spec {ops : Array Oper} {anc : List Nat} {dsts : List (Option Nat)} : ∀ {l : List Oper} {k : Nat}, opsOk ops anc dsts l k = true → ∀ (i : Nat) (o : Oper), l[i]? = some o →
    (∀ e ∈ o.after, Region.binds .any e = true → e.on < k + i) ∧ anc.getD (k + i) 0 = upMask anc o.after.toList ∧ (∀ t ∈ Oper.looksAt ops o, readsOk anc false (k + i) t dsts 0 = true) := by
  intro l
  induction l with
  | nil => intro k _ i o h; simp at h
  | cons a r ih =>
    intro k h i o ho
    simp only [opsOk, Bool.and_eq_true, List.all_eq_true, Bool.or_eq_true, Bool.not_eq_true', Nat.ble_eq, Nat.beq_eq] at h
    obtain ⟨⟨⟨⟨h1, h2⟩, h3⟩, _⟩, h5⟩ := h
    cases i with
    | zero =>
      simp at ho; subst ho
      refine ⟨fun e he hb => ?_, h2, h3⟩
      rcases h1 e (by simpa using he) with h | h
      · rw [hb] at h; simp at h
      · omega
    | succ i =>
      have := ih h5 i o (by simpa using ho)
      rw [show k + 1 + i = k + (i + 1) from by omega] at this
      exact this

theorem walk_spec {ops : Array Oper} {d : Dr} {es : List Nat} : ∀ {l : List Nat} {k seen : Nat}, walk ops d es l k seen = true →
    l.Nodup ∧ (∀ i ∈ l, seen.testBit i = false) ∧ (∀ j, j < ops.size → seen.testBit j = true ∨ j ∈ l) ∧
    ∀ pre i post, l = pre ++ i :: post → chkI ops d es i (k + (pre.filter (effI ops)).length) = true ∧ ∀ j, (d.anc.getD i 0).testBit j = true → seen.testBit j = true ∨ j ∈ pre := by
  intro l
  induction l with
  | nil =>
    intro k seen h
    simp only [walk, Nat.beq_eq] at h
    refine ⟨.nil, by simp, fun j hj => .inl ?_, fun pre i post h => by simp at h⟩
    have : seen = 2 ^ ops.size - 1 := by
      have h2 : bit1 ops.size = 2 ^ ops.size := by unfold bit1; exact Nat.one_shiftLeft _
      omega
    rw [this, Nat.testBit_two_pow_sub_one]; simpa using hj
  | cons a r ih =>
    intro k seen h
    simp only [walk, Bool.and_eq_true, Bool.not_eq_true', Nat.beq_eq] at h
    obtain ⟨⟨⟨h1, h2⟩, h3⟩, h4⟩ := h
    obtain ⟨g1, g2, g3, g4⟩ := ih h4
    have hor : ∀ j, (Nat.lor seen (bit1 a)).testBit j = (seen.testBit j || decide (a = j)) := fun j => by
      have : (seen ||| bit1 a).testBit j = (seen.testBit j || decide (a = j)) := by rw [Nat.testBit_or, bit1_test]
      exact this
    refine ⟨List.nodup_cons.2 ⟨fun hm => ?_, g1⟩, ?_, ?_, ?_⟩
    · have := g2 a hm; rw [hor] at this; simp at this
    · intro i hi
      rcases List.mem_cons.1 hi with rfl | hi
      · exact h2
      · have := g2 i hi; rw [hor] at this; simp at this; exact this.1
    · intro j hj
      rcases g3 j hj with h | h
      · rw [hor] at h; simp at h
        rcases h with h | h
        · exact .inl h
        · exact .inr (by simp [h])
      · exact .inr (by simp [h])
    · intro pre i post hl
      cases pre with
      | nil =>
        simp at hl; obtain ⟨rfl, rfl⟩ := hl
        refine ⟨by simpa using h1, fun j hj => .inl ?_⟩
        rw [← h3]
        have : ((d.anc.getD a 0) ||| seen).testBit j = true := by rw [Nat.testBit_or, hj]; rfl
        exact this
      | cons b pre =>
        simp at hl; obtain ⟨rfl, rfl⟩ := hl
        obtain ⟨e1, e2⟩ := g4 pre i post rfl
        refine ⟨?_, fun j hj => ?_⟩
        · simp only [List.filter_cons]
          cases hb : effI ops a with
          | true =>
            simp only [hb, cond_true] at e1
            simp only [if_true, List.length_cons]
            rw [show k + ((pre.filter (effI ops)).length + 1) = k + 1 + (pre.filter (effI ops)).length from by omega]
            exact e1
          | false =>
            simp only [hb, cond_false] at e1
            simpa using e1
        · rcases e2 j hj with h | h
          · rw [hor] at h; simp at h
            rcases h with h | h
            · exact .inl h
            · exact .inr (by simp [h])
          · exact .inr (by simp [h])

theorem drOk_facts {ops : Array Oper} {d : Dr} (h : drOk ops d = true) : DrFacts ops d := by
  simp only [drOk, Bool.and_eq_true] at h
  obtain ⟨⟨h1, h2⟩, h3⟩ := h
  have hops := opsOk_spec h2
  obtain ⟨w1, w2, w3, w4⟩ := walk_spec h3
  have hget : ∀ (i : Nat) (o : Oper), ops[i]? = some o → ops.toList[i]? = some o := fun i o h => by rw [Array.getElem?_toList]; exact h
  have hd : ∀ (i : Nat) (o : Oper) (t : Nat), ops[i]? = some o → o.dst = some t → (dstsOf ops)[i]? = some (some t) := fun i o t h ht => by
    simp [dstsOf, h, ht]
  have hchk : ∀ pre i post, d.order = pre ++ i :: post → chkI ops d (d.order.filter (effI ops)) i (pre.filter (effI ops)).length = true := fun pre i post he => by
    simpa using (w4 pre i post he).1
  refine { edge := fun i o ho e he hb => ?_, anc := fun i o ho j hj => ?_, reads := fun i o ho t ht j q hq hqd => ?_, dst := fun i j o q t ho hq h1' h2' => ?_, nodup := w1, all := fun i hi => ?_, inn := fun i hi => ?_, lvl := fun pre i post he k hk e hke => ?_, before := fun pre i post he j hj => ?_, rd := fun pre i post o he ho hr => ?_ }
  · simpa using (hops i o (hget i o ho)).1 e he hb
  · have := (hops i o (hget i o ho)).2.1
    simp only [Nat.zero_add] at this
    rw [this] at hj
    obtain ⟨e, he, h⟩ := upMask_test _ _ _ hj
    exact ⟨e, by simpa using he, h⟩
  · have := (hops i o (hget i o ho)).2.2 t ht
    simpa using readsOk_spec this j (hd j q t hq hqd)
  · exact distinct_spec h1 i j t (hd i o t ho h1') (hd j q t hq h2')
  · rcases w3 i hi with h | h
    · simp at h
    · exact h
  · obtain ⟨pre, post, he⟩ := List.append_of_mem hi
    have := hchk pre i post he
    unfold chkI at this
    cases ho : ops[i]? with
    | none => simp [ho] at this
    | some o => exact ⟨o, rfl⟩
  · have := hchk pre i post he
    unfold chkI at this
    cases ho : ops[i]? with
    | none => simp [ho] at this
    | some o => simp only [ho, Bool.and_eq_true] at this; exact allBits_spec this.1 k hk e hke
  · rcases (w4 pre i post he).2 j hj with h | h
    · simp at h
    · exact h
  · have := hchk pre i post he
    simp only [chkI, ho, Bool.and_eq_true, Bool.or_eq_true, hr, Bool.not_true, Bool.false_eq_true, false_or] at this
    rcases this.2 with h | h
    · exact .inl h
    · right
      obtain ⟨hst, h⟩ := h
      rw [List.all_eq_true] at hst
      refine ⟨fun t ht j q hq hqt => by simpa using readsOk_spec (hst t ht) j (hd j q t hq hqt), ?_⟩
      rw [List.any_eq_true] at h
      obtain ⟨⟨j, lo, hi⟩, hm, hc⟩ := h
      simp only [Bool.and_eq_true, Nat.beq_eq, Nat.ble_eq] at hc
      obtain ⟨⟨rfl, h2⟩, h3⟩ := hc
      exact ⟨lo, hi, hm, h2, h3⟩
end Go.Mx

/- Regions whose order is drawn: the run in the order that is followed here. -/
set_option linter.unusedSimpArgs false
namespace Go.Mx
open Go

def Dom (s : St) : Prop := ∀ i ob, s.hp.get i = some ob → i < s.next

/-- more things, none of the old ones changed -/
def Ext (s σ : St) : Prop := s.next ≤ σ.next ∧ Sub s σ ∧ ∀ i ob, σ.hp.get i = some ob → s.hp.get i = some ob ∨ s.next ≤ i

theorem Ext.refl (s : St) : Ext s s := ⟨Nat.le_refl _, fun _ _ h => h, fun _ _ h => .inl h⟩
theorem Ext.trans {a b c : St} (h : Ext a b) (k : Ext b c) : Ext a c :=
  ⟨Nat.le_trans h.1 k.1, fun i ob e => k.2.1 i ob (h.2.1 i ob e), fun i ob e => by
    rcases k.2.2 i ob e with g | g
    · exact h.2.2 i ob g
    · exact .inr (Nat.le_trans h.1 g)⟩

theorem ext_alloc {s : St} (hd : Dom s) (ob : AO) : Ext s (alloc s ob).2 ∧ Dom (alloc s ob).2 := by
  refine ⟨⟨by simp [alloc], fun i q h => ?_, fun i q h => ?_⟩, fun i q h => ?_⟩
  · have := hd i q h
    simp only [alloc, PT.get_set]
    rw [if_neg (by omega)]; exact h
  · simp only [alloc, PT.get_set] at h
    split at h
    · right; omega
    · exact .inl h
  · simp only [alloc, PT.get_set] at h ⊢
    split at h
    · omega
    · have := hd i q h; omega

section
variable {E : Env} {cf : CF} {ops : Array Oper}

theorem step_ext {tm : Tm} {s s' : St} {o : Oper} {v : AV} (he : isE o.op = false) (h : doOp E cf tm s o = some (v, s')) (hd : Dom s) : Ext s s' ∧ Dom s' := by
  cases hA : isA o.op with
  | true => obtain ⟨ob, rfl⟩ := doOp_made hA h; exact ext_alloc hd ob
  | false =>
    cases hR : isR o.op with
    | true => obtain ⟨rfl, _⟩ := doOp_read hR h; exact ⟨Ext.refl _, hd⟩
    | false => obtain ⟨rfl, _⟩ := doOp_pure he hA hR h; exact ⟨Ext.refl _, hd⟩

theorem wanted_congr {tm tm' : Tm} {o : Oper} (h : ∀ t ∈ Oper.looksAt ops o, tm.get t = tm'.get t) : wanted tm ops o = wanted tm' ops o := by
  unfold wanted
  cases hg : o.guard with
  | none => rfl
  | some g =>
    obtain ⟨j, w⟩ := g
    simp only
    cases hq : ops[j]? with
    | none => rfl
    | some q =>
      simp only
      cases hd : q.dst with
      | none => rfl
      | some d =>
        simp only
        rw [h d (by simp [Oper.looksAt, hg, hq, hd])]

theorem doOp_looks {tm tm' : Tm} {s : St} {o : Oper} (h : ∀ t ∈ Oper.looksAt ops o, tm.get t = tm'.get t) : doOp E cf tm s o = doOp E cf tm' s o := by
  refine doOp_congr fun x hx => ?_
  cases x with
  | tmp t =>
    rw [ev_tmp, ev_tmp, h t ?_]
    simp only [Oper.looksAt, List.mem_append, List.mem_filterMap]
    exact .inl ⟨.tmp t, by simpa using hx, rfl⟩
  | _ => rfl

/-- nothing is written twice -/
def Seq (ops : Array Oper) : List Nat → Prop
  | [] => True
  | i :: r => (∀ o, ops[i]? = some o → ∀ t, o.dst = some t → ∀ j ∈ r, ∀ q, ops[j]? = some q → q.dst ≠ some t) ∧ Seq ops r

abbrev cnt (ops : Array Oper) (l : List Nat) : Nat := (l.filter (effI ops)).length

structure Canon (E : Env) (cf : CF) (ops : Array Oper) (tmF tm0 : Tm) (order : List Nat) (S : List Nat → St) (T : List Nat → Tm) (l : List St) (sF : St) : Prop where
  op : ∀ pre i post, order = pre ++ i :: post → ∃ o, ops[i]? = some o ∧
    ((wanted (T pre) ops o = some true ∧ ∃ v, doOp E cf (T pre) (S pre) o = some (v, S (pre ++ [i])) ∧ (S pre).next ≤ (S (pre ++ [i])).next ∧ ∀ t, o.dst = some t → tmF.get t = some v) ∨
     (wanted (T pre) ops o = some false ∧ S (pre ++ [i]) = S pre ∧ ∀ t, o.dst = some t → tmF.get t = some undefV))
  lv : ∀ pre post, order = pre ++ post → ∃ σ, l[cnt ops pre]? = some σ ∧ (Dom (S pre) → Ext (S pre) σ ∧ Dom σ)
  ef : ∀ pre i post, order = pre ++ i :: post → effI ops i = true → l[cnt ops pre]? = some (S pre)
  fin : S order = sF ∧ l[cnt ops order]? = some sF
  tmpsF : ∀ pre post, order = pre ++ post → ∀ t, (∀ i ∈ post, ∀ o, ops[i]? = some o → o.dst ≠ some t) → tmF.get t = (T pre).get t
  tmps0 : ∀ pre post, order = pre ++ post → ∀ t, (∀ i ∈ pre, ∀ o, ops[i]? = some o → o.dst ≠ some t) → (T pre).get t = tm0.get t

theorem canon_of {tmF : Tm} {sF : St} : ∀ (order : List Nat) (tm : Tm) (s : St) (l : List St), Seq ops order → runOpsT E cf ops order tm s = some (tmF, sF, l) →
    ∃ (S : List Nat → St) (T : List Nat → Tm), S [] = s ∧ T [] = tm ∧ Canon E cf ops tmF tm order S T l sF := by
  intro order
  induction order with
  | nil =>
    intro tm s l _ h
    simp [runOpsT] at h; obtain ⟨rfl, rfl, rfl⟩ := h
    refine ⟨fun _ => s, fun _ => tm, rfl, rfl, { op := fun pre i post h => by simp at h, lv := fun pre post h => ?_, ef := fun pre i post h => by simp at h, fin := ⟨rfl, by simp [cnt]⟩, tmpsF := fun _ _ _ _ _ => rfl, tmps0 := fun _ _ _ _ _ => rfl }⟩
    simp at h; obtain ⟨rfl, rfl⟩ := h
    exact ⟨s, by simp [cnt], fun hd => ⟨Ext.refl _, hd⟩⟩
  | cons i r ih =>
    intro tm s l hseq h
    obtain ⟨hseq1, hseq2⟩ := hseq
    simp only [runOpsT] at h
    cases ho : ops[i]? with
    | none => simp [ho] at h
    | some o =>
      simp only [ho] at h
      have hs2 := hseq1 o ho
      -- both arms alike
      have main : ∀ (b : Bool) (v : AV) (s1 : St) (l' : List St), wanted tm ops o = some b → (b = true → doOp E cf tm s o = some (v, s1) ∧ s.next ≤ s1.next) → (b = false → v = undefV ∧ s1 = s) →
          runOpsT E cf ops r (put tm o.dst v) s1 = some (tmF, sF, l') → l = (bif isE o.op then s :: l' else l') →
          ∃ (S : List Nat → St) (T : List Nat → Tm), S [] = s ∧ T [] = tm ∧ Canon E cf ops tmF tm (i :: r) S T l sF := by
        intro b v s1 l' hw hb1 hb2 hr hl
        obtain ⟨S', T', hS0, hT0, hc⟩ := ih _ _ _ hseq2 hr
        have hdst : ∀ t, o.dst = some t → tmF.get t = some v := fun t ht => by
          rw [hc.tmpsF [] r rfl t (fun j hj q hq => hs2 t ht j hj q hq), hT0]
          simp [put, ht, PT.get_set]
        have heff : effI ops i = isE o.op := by simp [effI, ho]
        refine ⟨fun p => match p with | [] => s | _ :: p => S' p, fun p => match p with | [] => tm | _ :: p => T' p, rfl, rfl, { op := ?_, lv := ?_, ef := ?_, fin := ?_, tmpsF := ?_, tmps0 := ?_ }⟩
        · intro pre j post he
          cases pre with
          | nil =>
            simp at he; obtain ⟨rfl, rfl⟩ := he
            refine ⟨o, ho, ?_⟩
            cases b with
            | true =>
              left
              obtain ⟨hd1, hd2⟩ := hb1 rfl
              refine ⟨hw, v, ?_, ?_, hdst⟩
              · show doOp E cf tm s o = some (v, S' [])
                rw [hS0]; exact hd1
              · show s.next ≤ (S' []).next
                rw [hS0]; exact hd2
            | false =>
              right
              obtain ⟨rfl, rfl⟩ := hb2 rfl
              exact ⟨hw, hS0, hdst⟩
          | cons a pre =>
            simp at he; obtain ⟨rfl, rfl⟩ := he
            exact hc.op pre j post rfl
        · intro pre post he
          cases pre with
          | nil =>
            cases hE : isE o.op with
            | true =>
              refine ⟨s, ?_, fun hd => ⟨Ext.refl _, hd⟩⟩
              rw [hl, hE]; simp [cnt]
            | false =>
              obtain ⟨σ, h1, h2⟩ := hc.lv [] r rfl
              refine ⟨σ, ?_, fun hd => ?_⟩
              · rw [hl, hE]; simpa [cnt] using h1
              · have hstep : Ext s s1 ∧ Dom s1 := by
                  cases b with
                  | true => exact step_ext hE (hb1 rfl).1 hd
                  | false => obtain ⟨_, rfl⟩ := hb2 rfl; exact ⟨Ext.refl _, hd⟩
                rw [hS0] at h2
                obtain ⟨h3, h4⟩ := h2 hstep.2
                exact ⟨hstep.1.trans h3, h4⟩
          | cons a pre =>
            simp at he; obtain ⟨rfl, rfl⟩ := he
            obtain ⟨σ, h1, h2⟩ := hc.lv pre post rfl
            refine ⟨σ, ?_, h2⟩
            rw [hl]
            cases hE : isE o.op with
            | true => simp [cnt, List.filter_cons, heff, hE]; exact h1
            | false => simp [cnt, List.filter_cons, heff, hE]; exact h1
        · intro pre j post he hej
          cases pre with
          | nil =>
            simp at he; obtain ⟨rfl, rfl⟩ := he
            rw [heff] at hej
            rw [hl, hej]; simp [cnt]
          | cons a pre =>
            simp at he; obtain ⟨rfl, rfl⟩ := he
            have := hc.ef pre j post rfl hej
            rw [hl]
            cases hE : isE o.op with
            | true => simp [cnt, List.filter_cons, heff, hE]; exact this
            | false => simp [cnt, List.filter_cons, heff, hE]; exact this
        · obtain ⟨h1, h2⟩ := hc.fin
          refine ⟨h1, ?_⟩
          rw [hl]
          cases hE : isE o.op with
          | true => simp [cnt, List.filter_cons, heff, hE]; exact h2
          | false => simp [cnt, List.filter_cons, heff, hE]; exact h2
        · intro pre post he t ht
          cases pre with
          | nil =>
            simp at he; subst he
            have hne : o.dst ≠ some t := ht i (by simp) o ho
            show tmF.get t = tm.get t
            rw [hc.tmpsF [] r rfl t (fun j hj q hq => ht j (by simp [hj]) q hq), hT0]
            cases hd : o.dst with
            | none => simp [put]
            | some d =>
              simp only [put, PT.get_set]
              rw [if_neg]
              intro e; subst e; exact hne hd
          | cons a pre =>
            simp at he; obtain ⟨rfl, rfl⟩ := he
            exact hc.tmpsF pre post rfl t ht
        · intro pre post he t ht
          cases pre with
          | nil => rfl
          | cons a pre =>
            simp at he; obtain ⟨rfl, rfl⟩ := he
            have hne : o.dst ≠ some t := ht i (by simp) o ho
            show (T' pre).get t = tm.get t
            rw [hc.tmps0 pre post rfl t (fun j hj q hq => ht j (by simp [hj]) q hq)]
            cases hd : o.dst with
            | none => simp [put]
            | some d =>
              simp only [put, PT.get_set]
              rw [if_neg]
              intro e; subst e; exact hne hd
      cases hw : wanted tm ops o with
      | none => simp [hw] at h
      | some b =>
        cases b with
        | true =>
          simp only [hw] at h
          cases hd : doOp E cf tm s o with
          | none => simp [hd] at h
          | some p =>
            obtain ⟨v, s1⟩ := p
            simp only [hd, cond_eq_ite, Nat.ble_eq] at h
            split at h
            · rename_i hle
              split at h
              · rename_i tm' s'' l' hr
                simp at h; obtain ⟨rfl, rfl, rfl⟩ := h
                exact main true v s1 l' hw (fun _ => ⟨hd, hle⟩) (fun h => by simp at h) hr (by simp [cond_eq_ite])
              · simp at h
            · simp at h
        | false =>
          simp only [hw] at h
          split at h
          · rename_i tm' s'' l' hr
            simp at h; obtain ⟨rfl, rfl, rfl⟩ := h
            exact main false undefV s l' hw (fun h => by simp at h) (fun _ => ⟨rfl, rfl⟩) hr rfl
          · simp at h

/-- between two changes nothing old is changed -/
theorem Canon.seg {tmF tm0 : Tm} {order : List Nat} {S : List Nat → St} {T : List Nat → Tm} {l : List St} {sF : St} (hc : Canon E cf ops tmF tm0 order S T l sF) :
    ∀ (mid pre post : List Nat), order = pre ++ mid ++ post → cnt ops mid = 0 → Dom (S pre) → Ext (S pre) (S (pre ++ mid)) ∧ Dom (S (pre ++ mid)) := by
  intro mid
  induction mid with
  | nil => intro pre post _ _ hd; simpa using ⟨Ext.refl _, hd⟩
  | cons i r ih =>
    intro pre post he hcnt hd
    have hei : effI ops i = false := by
      cases h : effI ops i with
      | false => rfl
      | true => simp [cnt, List.filter_cons, h] at hcnt
    obtain ⟨o, ho, hop⟩ := hc.op pre i (r ++ post) (by simp [he])
    have hE : isE o.op = false := by simpa [effI, ho] using hei
    have hstep : Ext (S pre) (S (pre ++ [i])) ∧ Dom (S (pre ++ [i])) := by
      rcases hop with ⟨_, v, h1, _⟩ | ⟨_, h1, _⟩
      · exact step_ext hE h1 hd
      · rw [h1]; exact ⟨Ext.refl _, hd⟩
    have := ih (pre ++ [i]) post (by simp [he]) (by simpa [cnt, List.filter_cons, hei] using hcnt) hstep.2
    rw [List.append_assoc] at this
    exact ⟨hstep.1.trans this.1, this.2⟩

theorem Canon.next {tmF tm0 : Tm} {order : List Nat} {S : List Nat → St} {T : List Nat → Tm} {l : List St} {sF : St} (hc : Canon E cf ops tmF tm0 order S T l sF) :
    ∀ (mid pre post : List Nat), order = pre ++ mid ++ post → (S pre).next ≤ (S (pre ++ mid)).next := by
  intro mid
  induction mid with
  | nil => intro pre post _; simp
  | cons i r ih =>
    intro pre post he
    obtain ⟨o, ho, hop⟩ := hc.op pre i (r ++ post) (by simp [he])
    have hstep : (S pre).next ≤ (S (pre ++ [i])).next := by
      rcases hop with ⟨_, v, _, h1, _⟩ | ⟨_, h1, _⟩
      · exact h1
      · rw [h1]; exact Nat.le_refl _
    have := ih (pre ++ [i]) post (by simp [he])
    rw [List.append_assoc] at this
    exact Nat.le_trans hstep this
end
end Go.Mx

/- Regions whose order is drawn: one step of any order. -/
set_option linter.unusedSimpArgs false
namespace Go.Mx
open Go

theorem DrFacts.seq {ops : Array Oper} {d : Dr} (F : DrFacts ops d) : Seq ops d.order := by
  have key : ∀ (r pre : List Nat), d.order = pre ++ r → Seq ops r := by
    intro r
    induction r with
    | nil => intro _ _; trivial
    | cons i r ih =>
      intro pre he
      have hnd := F.nodup
      rw [he] at hnd
      obtain ⟨_, hnd2, hnd3⟩ := List.nodup_append.1 hnd
      refine ⟨fun o ho t ht j hj q hq hqt => ?_, ih (pre ++ [i]) (by simp [he])⟩
      have := F.dst i j o q t ho hq ht hqt
      subst this
      exact (List.nodup_cons.1 hnd2).1 hj
  exact key d.order [] rfl

theorem freeOk_spec {E : Env} {cf : CF} {ops : Array Oper} {tm : Tm} {l : List St} : ∀ {fr : List (Nat × Nat × Nat)}, freeOk E cf ops tm l fr = true → ∀ i lo hi o, (i, lo, hi) ∈ fr → ops[i]? = some o →
    wanted tm ops o = some true → lo ≤ hi → ∃ dd v, o.dst = some dd ∧ tm.get dd = some v ∧ ∀ k, lo ≤ k → k ≤ hi → ∃ s s', l[k]? = some s ∧ doOp E cf tm s o = some (v, s') := by
  intro fr
  induction fr with
  | nil => intro _ i lo hi o h; simp at h
  | cons a r ih =>
    intro h i lo hi o hm ho hw hr
    obtain ⟨j, lo', hi'⟩ := a
    simp only [freeOk, Bool.and_eq_true] at h
    rcases List.mem_cons.1 hm with he | hm
    · injection he with e1 e2; injection e2 with e2 e3; subst e1; subst e2; subst e3
      have h := h.1
      simp only [ho, hw] at h
      cases hd : o.dst with
      | none => simp [hd] at h
      | some dd =>
        simp only [hd, List.all_eq_true, List.mem_range, Bool.or_eq_true, Nat.ble_eq] at h
        have get : ∀ k, lo ≤ k → k ≤ hi → ∃ s s' v, l[k]? = some s ∧ doOp E cf tm s o = some (v, s') ∧ tm.get dd = some v := by
          intro k h1 h2
          have := h k (by omega)
          rcases this with g | g
          · omega
          · cases hl : l[k]? with
            | none => simp [hl] at g
            | some s =>
              simp only [hl] at g
              cases hdo : doOp E cf tm s o with
              | none => simp [hdo] at g
              | some p =>
                obtain ⟨v, s'⟩ := p
                cases ht : tm.get dd with
                | none => simp [hdo, ht] at g
                | some v' =>
                  simp only [hdo, ht, decide_eq_true_eq] at g
                  subst g
                  exact ⟨s, s', v, rfl, hdo, rfl⟩
        obtain ⟨s, s', v, _, _, hv⟩ := get lo (Nat.le_refl _) hr
        refine ⟨dd, v, rfl, hv, fun k h1 h2 => ?_⟩
        obtain ⟨s, s', v', g1, g2, g3⟩ := get k h1 h2
        rw [hv] at g3; injection g3 with g3; subst g3
        exact ⟨s, s', g1, g2⟩
    · exact ih h.2 i lo hi o hm ho hw hr

section
variable {P : Program} {φ φ0 ψ : Phi} {s s0 τ σ : St} {w w0 w' : World}

theorem Post.ext (h : Post P φ0 s0 w0 ψ τ w) (he : Ext τ σ) (hd : Dom σ) : Post P φ0 s0 w0 ψ σ w where
  sat := {
    obj := fun i o L h1 h2 => by
      rcases he.2.2 i o h1 with g | g
      · exact h.sat.obj i o L g h2
      · have := h.sat.bnd i L h2; omega
    inj := fun i j o o' L L' h1 h2 h3 h4 h5 h6 => by
      rcases he.2.2 i o h1 with g | g
      · rcases he.2.2 j o' h2 with g' | g'
        · exact h.sat.inj i j o o' L L' g g' h3 h4 h5 h6
        · have := h.sat.bnd j L' h4; omega
      · have := h.sat.bnd i L h3; omega
    bnd := fun i L h1 => Nat.lt_of_lt_of_le (h.sat.bnd i L h1) he.1
    dom := hd }
  sub := h.sub
  nx := Nat.le_trans h.nx he.1
  os := h.os
  tape := h.tape
  output := h.output
  size := h.size
  fr := h.fr
  live := fun i o L h1 h2 h3 => by
    rcases he.2.2 i o h1 with g | g
    · exact h.live i o L g h2 h3
    · have := h.sat.bnd i L h2; omega
  new := h.new
  un := fun i o h1 h2 => he.2.1 i o (h.un i o h1 h2)
  newdom := fun i o h1 => by
    rcases he.2.2 i o h1 with g | g
    · exact h.newdom i o g
    · exact .inr (Nat.le_trans h.nx g)

/-- a thing that is there on one side comes to be on the other one -/
theorem Post.add (h : Post P φ0 s0 w0 φ σ w) {n : Nat} {ob : AO} {b : Obj} (hn : φ n = none) (hg : σ.hp.get n = some ob) (h0 : s0.next ≤ n)
    (hobj : objRel P (φ.upd n ⟨w.heap.size, 0, 0⟩) ob ⟨w.heap.size, 0, 0⟩ { w with heap := w.heap.push b }) :
    Post P φ0 s0 w0 (φ.upd n ⟨w.heap.size, 0, 0⟩) σ { w with heap := w.heap.push b } := by
  have hle := Phi.le_upd ⟨w.heap.size, 0, 0⟩ hn
  have hold : ∀ j M, j ≠ n → (φ.upd n ⟨w.heap.size, 0, 0⟩) j = some M → φ j = some M := fun j M e h => by simpa [Phi.upd, e] using h
  have hnew : ∀ M, (φ.upd n ⟨w.heap.size, 0, 0⟩) n = some M → M = ⟨w.heap.size, 0, 0⟩ := fun M h => by simp [Phi.upd] at h; exact h.symm
  have hheap : ∀ k, k < w.heap.size → (w.heap.push b)[k]? = w.heap[k]? := fun k hk => by rw [Array.getElem?_push, if_neg (by omega)]
  refine { sat := ?_, sub := Phi.le_trans h.sub hle, nx := h.nx, os := h.os, tape := h.tape, output := h.output, size := by have := h.size; simp; omega, fr := ?_, live := ?_, new := ?_, un := h.un, newdom := h.newdom }
  · refine { obj := ?_, inj := ?_, bnd := ?_, dom := h.sat.dom }
    · intro i o L h1 h2
      by_cases e : i = n
      · subst e; have := hnew L h2; subst this; rw [hg] at h1; injection h1 with h1; subst h1; exact hobj
      · have hob := h.sat.obj i o L h1 (hold i L e h2)
        exact objRel_mono hle (hheap _ (objRel_lt hob)) hob
    · intro i j o o' L L' h1 h2 h3 h4 h5 h6
      by_cases e : i = n
      · subst e
        have := hnew L h3; subst this
        have hob := h.sat.obj j o' L' h2 (hold j L' (fun e => h6 e.symm) h4)
        have := objRel_lt hob
        simp at h5; omega
      · by_cases e2 : j = n
        · subst e2
          have := hnew L' h4; subst this
          have hob := h.sat.obj i o L h1 (hold i L e h3)
          have := objRel_lt hob
          simp at h5; omega
        · exact h.sat.inj i j o o' L L' h1 h2 (hold i L e h3) (hold j L' e2 h4) h5 h6
    · intro i L h1
      by_cases e : i = n
      · subst e; exact h.sat.dom _ _ hg
      · exact h.sat.bnd i L (hold i L e h1)
  · intro k hk hno
    have := h.size
    simp only []
    rw [hheap k (by omega)]
    exact h.fr k hk hno
  · intro i o L h1 h2 h3
    by_cases e : i = n
    · subst e; have := hnew L h2; subst this; exact .inl h.size
    · exact h.live i o L h1 (hold i L e h2) h3
  · intro i L h1
    by_cases e : i = n
    · subst e
      right
      refine ⟨?_, h0⟩
      cases hq : φ0 i with
      | none => rfl
      | some M => rw [h.sub i M hq] at hn; simp at hn
    · exact h.new i L (hold i L e h1)
end
end Go.Mx

/- Regions whose order is drawn: any order. -/
set_option linter.unusedSimpArgs false
set_option linter.unusedVariables false
namespace Go.Mx
open Go

structure DInv (P : Program) (ops : Array Oper) (d : Dr) (tmF tm0 : Tm) (S : List Nat → St) (T : List Nat → Tm) (l : List St) (N : Nat) (φ0 : Phi) (s0 : St) (w0 : World) (a0 : Act)
    (listed : Array Bool) (a : Act) (w : World) (φ : Phi) (c : Nat) (σ : St) : Prop where
  size : listed.size = ops.size
  closed : ∀ (i : Nat) (o : Oper), ops[i]? = some o → listed.getD i false = true → ∀ e ∈ o.after, Region.binds .any e = true → listed.getD e.on false = true
  es : ∀ (k e : Nat), (d.order.filter (effI ops))[k]? = some e → (listed.getD e false = true ↔ k < c)
  cle : c ≤ (d.order.filter (effI ops)).length
  lc : l[c]? = some σ
  post : Post P φ0 s0 w0 φ σ w
  tsz : a.tmps.size = N
  defs : a.defers = a0.defers
  tms : ∀ t, (∀ (i : Nat) (o : Oper), ops[i]? = some o → o.dst = some t → listed.getD i false = true) → conc P φ ((tmF.get t).getD undefV) = some (a.tmps.getD t undef)
  tms0 : ∀ t, (∀ (i : Nat) (o : Oper), ops[i]? = some o → o.dst = some t → listed.getD i false = false) → conc P φ ((tm0.get t).getD undefV) = some (a.tmps.getD t undef)
  new : ∀ pre i post o, d.order = pre ++ i :: post → ops[i]? = some o → listed.getD i false = false → isA o.op = true → wanted (T pre) ops o = some true → cnt ops pre ≤ c →
    φ (S pre).next = none ∧ ∃ ob, S (pre ++ [i]) = (alloc (S pre) ob).2 ∧ σ.hp.get (S pre).next = some ob
  dom : ∀ pre post, d.order = pre ++ post → cnt ops pre ≤ c → Dom (S pre)

section
variable {P : Program} {E : Env} {cf : CF} {ops : Array Oper} {d : Dr} {tmF tm0 : Tm} {S : List Nat → St} {T : List Nat → Tm} {l : List St} {sF : St} {N : Nat} {φ0 φ φ' : Phi} {s0 σ : St} {w0 w w' : World} {a0 a : Act}
  {listed : Array Bool} {c : Nat}

theorem getD_set_self {listed : Array Bool} {i : Nat} (h : i < listed.size) : (listed.setIfInBounds i true).getD i false = true := by
  simp [h]

theorem put_getD {a : Act} {dst : Option Nat} {x : Value} {t : Nat} (h : dst ≠ some t) : (a.put dst x).tmps.getD t undef = a.tmps.getD t undef := by
  cases dst with
  | none => rfl
  | some d =>
    simp only [Act.put, Array.getD_eq_getD_getElem?]
    rw [Array.getElem?_setIfInBounds_ne]
    intro e; subst e; exact h rfl

theorem put_getD_self {a : Act} {x : Value} {t : Nat} (h : t < a.tmps.size) : (a.put (some t) x).tmps.getD t undef = x := by
  simp [Act.put, Array.getD_eq_getD_getElem?, h]

theorem put_tsz {a : Act} {dst : Option Nat} {x : Value} : (a.put dst x).tmps.size = a.tmps.size := by
  cases dst <;> simp [Act.put]

theorem cnt_append (pre post : List Nat) : cnt ops (pre ++ post) = cnt ops pre + cnt ops post := by simp [cnt]

theorem cnt_one (i : Nat) : cnt ops [i] = if effI ops i then 1 else 0 := by
  unfold cnt
  by_cases h : effI ops i = true
  · simp [List.filter_cons, h]
  · simp [List.filter_cons, h]

/-- what comes behind a listed operation's ancestors -/
theorem DInv.up (F : DrFacts ops d) (I : DInv P ops d tmF tm0 S T l N φ0 s0 w0 a0 listed a w φ c σ) : ∀ (i : Nat) (o : Oper), ops[i]? = some o → listed.getD i false = true → ∀ j, (d.anc.getD i 0).testBit j = true →
    listed.getD j false = true := by
  intro i
  induction i using Nat.strongRecOn with
  | ind i ih =>
    intro o ho hl j hj
    obtain ⟨e, he, hb, h⟩ := F.anc i o ho j hj
    have h1 := I.closed i o ho hl e he hb
    rcases h with h | h
    · rw [← h]; exact h1
    · have hlt := F.edge i o ho e he hb
      have hin : ∃ q, ops[e.on]? = some q := by
        have : e.on < ops.size := by
          rcases Nat.lt_or_ge e.on listed.size with h2 | h2
          · rw [← I.size]; exact h2
          · simp [Array.getElem?_eq_none h2] at h1
        exact ⟨_, Array.getElem?_eq_getElem this⟩
      obtain ⟨q, hq⟩ := hin
      exact ih e.on hlt q hq h1 j h

theorem ready_up (F : DrFacts ops d) (I : DInv P ops d tmF tm0 S T l N φ0 s0 w0 a0 listed a w φ c σ) {i : Nat} {o : Oper} (ho : ops[i]? = some o)
    (hr : ∀ e ∈ o.after, Region.binds .any e = true → listed.getD e.on false = true) : ∀ j, (d.anc.getD i 0).testBit j = true → listed.getD j false = true := by
  intro j hj
  obtain ⟨e, he, hb, h⟩ := F.anc i o ho j hj
  have h1 := hr e he hb
  rcases h with h | h
  · rw [← h]; exact h1
  · have hin : ∃ q, ops[e.on]? = some q := by
      have : e.on < ops.size := by
        rcases Nat.lt_or_ge e.on listed.size with h2 | h2
        · rw [← I.size]; exact h2
        · simp [Array.getElem?_eq_none h2] at h1
      exact ⟨_, Array.getElem?_eq_getElem this⟩
    obtain ⟨q, hq⟩ := hin
    exact I.up F e.on q hq h1 j h

/-- an operation that changes nothing old is done -/
theorem DInv.quiet (F : DrFacts ops d) (I : DInv P ops d tmF tm0 S T l N φ0 s0 w0 a0 listed a w φ c σ) {i : Nat} {o : Oper} (ho : ops[i]? = some o) (hN : DstOk N o)
    (hun : listed.getD i false = false) (hr : ∀ e ∈ o.after, Region.binds .any e = true → listed.getD e.on false = true) (heff : effI ops i = false) {x : Value}
    (hle : φ.le φ') (hp : Post P φ0 s0 w0 φ' σ w') (hx : ∀ t, o.dst = some t → conc P φ' ((tmF.get t).getD undefV) = some x)
    (hkeep : ∀ pre' i' post' ob', d.order = pre' ++ i' :: post' → i' ≠ i → S (pre' ++ [i']) = (alloc (S pre') ob').2 → σ.hp.get (S pre').next ≠ none → φ (S pre').next = none → φ' (S pre').next = none) :
    DInv P ops d tmF tm0 S T l N φ0 s0 w0 a0 (listed.setIfInBounds i true) (a.put o.dst x) w' φ' c σ where
  size := by simp [I.size]
  closed := fun i' o' ho' hl e he hb => by
    by_cases h : i = i'
    · subst h; rw [ho] at ho'; injection ho' with ho'; subst ho'
      exact getD_set_true (hr e he hb)
    · rw [getD_set_ne false h] at hl
      exact getD_set_true (I.closed i' o' ho' hl e he hb)
  es := fun k e he => by
    have : effI ops e = true := by
      have := List.mem_of_getElem? he
      exact (List.mem_filter.1 this).2
    have hne : i ≠ e := fun h => by subst h; rw [heff] at this; simp at this
    rw [getD_set_ne false hne]; exact I.es k e he
  cle := I.cle
  lc := I.lc
  post := hp
  tsz := by rw [put_tsz]; exact I.tsz
  defs := by rw [Act.put_defers']; exact I.defs
  tms := fun t ht => by
    by_cases h : o.dst = some t
    · rw [h, put_getD_self (by rw [I.tsz]; exact hN t h)]; exact hx t h
    · rw [put_getD h]
      refine conc_mono hle P (I.tms t fun i' o' ho' hd => ?_)
      have := ht i' o' ho' hd
      have hne : i ≠ i' := fun e => by subst e; rw [ho] at ho'; injection ho' with ho'; subst ho'; exact h hd
      rw [getD_set_ne false hne] at this; exact this
  tms0 := fun t ht => by
    have hne : o.dst ≠ some t := fun h => by
      have := ht i o ho h
      rw [getD_set_self (by rw [I.size]; exact (Array.getElem?_eq_some_iff.1 ho).1)] at this
      simp at this
    rw [put_getD hne]
    refine conc_mono hle P (I.tms0 t fun i' o' ho' hd => ?_)
    have h := ht i' o' ho' hd
    cases hl : listed.getD i' false with
    | false => rfl
    | true => rw [getD_set_true hl] at h; simp at h
  new := fun pre' i' post' o' he ho' hl hA hw hc => by
    have hne : i ≠ i' := fun e => by
      subst e
      rw [getD_set_self] at hl
      · simp at hl
      · rw [I.size]; exact (Array.getElem?_eq_some_iff.1 ho).1
    rw [getD_set_ne false hne] at hl
    obtain ⟨h1, ob, h2, h3⟩ := I.new pre' i' post' o' he ho' hl hA hw hc
    exact ⟨hkeep pre' i' post' ob he (fun e => hne e.symm) h2 (by rw [h3]; simp) h1, ob, h2, h3⟩
  dom := I.dom

/-- where a level begins -/
theorem level_start (F : DrFacts ops d) {pre post pre' post' : List Nat} {i : Nat} (he : d.order = pre ++ i :: post) (heff : effI ops i = true)
    (he' : d.order = pre' ++ post') (hc : cnt ops pre' = cnt ops pre + 1) : ∃ mid, pre' = pre ++ [i] ++ mid ∧ cnt ops mid = 0 ∧ d.order = (pre ++ [i]) ++ mid ++ post' := by
  have h := he.symm.trans he'
  rcases List.append_eq_append_iff.1 h with ⟨as, h1, h2⟩ | ⟨bs, h1, h2⟩
  · cases as with
    | nil => simp at h1; subst h1; omega
    | cons b as =>
      simp at h2; obtain ⟨rfl, h2⟩ := h2
      refine ⟨as, by simp [h1], ?_, by rw [he']; simp [h1]⟩
      rw [h1, show pre ++ i :: as = pre ++ [i] ++ as by simp, cnt_append, cnt_append, cnt_one, heff] at hc
      simp at hc; simp [cnt]; omega
  · rw [h1, cnt_append] at hc; omega

/-- an operation that may change what is there is done -/
theorem DInv.loud (hs0 : Sat P φ0 s0 w0) (F : DrFacts ops d) (hc : Canon E cf ops tmF tm0 d.order S T l sF) (I : DInv P ops d tmF tm0 S T l N φ0 s0 w0 a0 listed a w φ c σ) {i : Nat} {o : Oper} {pre post : List Nat}
    (he : d.order = pre ++ i :: post) (hk : cnt ops pre = c) (ho : ops[i]? = some o) (hN : DstOk N o)
    (hun : listed.getD i false = false) (hr : ∀ e ∈ o.after, Region.binds .any e = true → listed.getD e.on false = true) (heff : effI ops i = true) {x : Value}
    (hp : Post P φ σ w φ' (S (pre ++ [i])) w') (hx : ∀ t, o.dst = some t → conc P φ' ((tmF.get t).getD undefV) = some x) :
    ∃ σ', DInv P ops d tmF tm0 S T l N φ0 s0 w0 a0 (listed.setIfInBounds i true) (a.put o.dst x) w' φ' (c + 1) σ' := by
  have hcnt : cnt ops (pre ++ [i]) = c + 1 := by rw [cnt_append, cnt_one, heff, hk]; rfl
  have he1 : d.order = (pre ++ [i]) ++ post := by simp [he]
  obtain ⟨σ', hl, hext⟩ := hc.lv (pre ++ [i]) post he1
  rw [hcnt] at hl
  obtain ⟨hx1, hx2⟩ := hext hp.sat.dom
  have hesi : (d.order.filter (effI ops))[c]? = some i := by
    rw [he, List.filter_append, List.getElem?_append_right (by simp [← hk, cnt])]
    simp [← hk, cnt, List.filter_cons, heff]
  have hilt : i < listed.size := by rw [I.size]; exact (Array.getElem?_eq_some_iff.1 ho).1
  have hpost := Post.ext (Post.trans hs0 I.post hp) hx1 hx2
  have hdom : ∀ pre' post', d.order = pre' ++ post' → cnt ops pre' ≤ c + 1 → Dom (S pre') := fun pre' post' he' hle' => by
    rcases Nat.lt_or_ge (cnt ops pre') (c + 1) with h | h
    · exact I.dom pre' post' he' (by omega)
    · obtain ⟨mid, rfl, h1, h2⟩ := level_start F he heff he' (by omega)
      exact (hc.seg mid (pre ++ [i]) post' h2 h1 hp.sat.dom).2
  refine ⟨σ', { size := by simp [I.size], closed := ?_, es := ?_, cle := ?_, lc := hl, post := hpost, tsz := by rw [put_tsz]; exact I.tsz, defs := by rw [Act.put_defers']; exact I.defs, tms := ?_, tms0 := ?_, new := ?_, dom := hdom }⟩
  · intro i' o' ho' hl' e hee hb
    by_cases h : i = i'
    · subst h; rw [ho] at ho'; injection ho' with ho'; subst ho'
      exact getD_set_true (hr e hee hb)
    · rw [getD_set_ne false h] at hl'
      exact getD_set_true (I.closed i' o' ho' hl' e hee hb)
  · intro k e hee
    by_cases h : i = e
    · subst h
      have hnd : (d.order.filter (effI ops)).Nodup := F.nodup.filter _
      have hkc : k = c := by
        have h1 := (List.getElem?_eq_some_iff.1 hee)
        have h2 := (List.getElem?_eq_some_iff.1 hesi)
        obtain ⟨h1l, h1e⟩ := h1
        obtain ⟨h2l, h2e⟩ := h2
        exact (List.getElem_inj hnd).1 (h1e.trans h2e.symm)
      rw [getD_set_self hilt]; simp; omega
    · rw [getD_set_ne false h]
      have hne : k ≠ c := fun e1 => by subst e1; rw [hesi] at hee; injection hee with hee; exact h hee
      rw [I.es k e hee]; omega
  · have := (List.getElem?_eq_some_iff.1 hesi).1; omega
  · intro t ht
    by_cases h : o.dst = some t
    · rw [h, put_getD_self (by rw [I.tsz]; exact hN t h)]; exact hx t h
    · rw [put_getD h]
      refine conc_mono hp.sub P (I.tms t fun i' o' ho' hd => ?_)
      have := ht i' o' ho' hd
      have hne : i ≠ i' := fun e => by subst e; rw [ho] at ho'; injection ho' with ho'; subst ho'; exact h hd
      rw [getD_set_ne false hne] at this; exact this
  · intro t ht
    have hne : o.dst ≠ some t := fun h => by
      have := ht i o ho h
      rw [getD_set_self hilt] at this
      simp at this
    rw [put_getD hne]
    refine conc_mono hp.sub P (I.tms0 t fun i' o' ho' hd => ?_)
    have h := ht i' o' ho' hd
    cases hl : listed.getD i' false with
    | false => rfl
    | true => rw [getD_set_true hl] at h; simp at h
  · intro pre' i' post' o' he' ho' hl' hA hw hle'
    have hne : i ≠ i' := fun e => by
      subst e
      rw [getD_set_self hilt] at hl'; simp at hl'
    rw [getD_set_ne false hne] at hl'
    rcases Nat.lt_or_ge (cnt ops pre') (c + 1) with h | h
    · obtain ⟨h1, ob, h2, h3⟩ := I.new pre' i' post' o' he' ho' hl' hA hw (by omega)
      refine ⟨?_, ob, h2, hx1.2.1 _ _ (hp.un _ _ h1 h3)⟩
      cases hq : φ' (S pre').next with
      | none => rfl
      | some M =>
        rcases hp.new _ M hq with g | ⟨_, g⟩
        · rw [h1] at g; simp at g
        · have := I.post.sat.dom _ _ h3; omega
    · obtain ⟨mid, rfl, h1, h2⟩ := level_start F he heff he' (by omega)
      obtain ⟨o2, ho2, hop⟩ := hc.op _ i' post' he'
      rw [ho'] at ho2; injection ho2 with ho2; subst ho2
      obtain ⟨g1, g2⟩ := hc.seg mid (pre ++ [i]) (i' :: post') h2 h1 hp.sat.dom
      have hbelow := g1.1
      rcases hop with ⟨_, v, hdo, _⟩ | ⟨hwf, _⟩
      · obtain ⟨ob, hob⟩ := doOp_made hA hdo
        refine ⟨?_, ob, hob, ?_⟩
        · cases hq : φ' (S (pre ++ [i] ++ mid)).next with
          | none => rfl
          | some M => have := hp.sat.bnd _ M hq; omega
        · have hE : isE o'.op = false := by
            cases hoo : o'.op <;> simp [isA, hoo] at hA <;> simp [isE]
          obtain ⟨k1, k2⟩ := step_ext hE hdo g2
          have heff' : effI ops i' = false := by simp [effI, ho', hE]
          obtain ⟨σ2, hl2, hext2⟩ := hc.lv (pre ++ [i] ++ mid ++ [i']) post' (by rw [he']; simp)
          have : cnt ops (pre ++ [i] ++ mid ++ [i']) = c + 1 := by
            rw [cnt_append, cnt_one, heff']; simp at hle' h ⊢; omega
          rw [this, hl] at hl2; injection hl2 with hl2; subst hl2
          refine (hext2 k2).1.2.1 _ _ ?_
          rw [hob]; simp [alloc, PT.get_set]
      · rw [hw] at hwf; simp at hwf
end
end Go.Mx

/- Regions whose order is drawn: any order, to the end. -/
set_option linter.unusedSimpArgs false
set_option linter.unusedVariables false
namespace Go.Mx
open Go

section
variable {P : Program} {E : Env} {cf : CF} {ops : Array Oper} {d : Dr} {tmF tm0 : Tm} {S : List Nat → St} {T : List Nat → Tm} {l : List St} {sF : St} {N : Nat} {φ0 φ φ' : Phi} {s0 σ : St} {w0 w w' : World} {a0 a : Act}
  {listed : Array Bool} {c : Nat}

/-- two operations' numbers for new things differ -/
theorem ids_apart (F : DrFacts ops d) (hc : Canon E cf ops tmF tm0 d.order S T l sF) {pre post pre' post' : List Nat} {i i' : Nat} {ob ob' : AO} (he : d.order = pre ++ i :: post) (he' : d.order = pre' ++ i' :: post')
    (hne : i' ≠ i) (h : S (pre ++ [i]) = (alloc (S pre) ob).2) (h' : (S pre').next < (S (pre' ++ [i'])).next) : (S pre').next ≠ (S pre).next := by
  have hh := he.symm.trans he'
  rcases List.append_eq_append_iff.1 hh with ⟨as, h1, h2⟩ | ⟨bs, h1, h2⟩
  · cases as with
    | nil => simp at h2; exact absurd h2.1.symm hne
    | cons b as =>
      simp at h2; obtain ⟨rfl, h2⟩ := h2
      have := hc.next as (pre ++ [i]) (i' :: post') (by rw [he']; simp [h1])
      rw [show pre ++ [i] ++ as = pre' by simp [h1], h] at this
      simp [alloc] at this; omega
  · cases bs with
    | nil => simp at h2; exact absurd h2.1 hne
    | cons b bs =>
      simp at h2; obtain ⟨rfl, h2⟩ := h2
      have := hc.next bs (pre' ++ [i']) (i :: post) (by rw [he]; simp [h1])
      rw [show pre' ++ [i'] ++ bs = pre by simp [h1]] at this
      omega

theorem DInv.hi (F : DrFacts ops d) (I : DInv P ops d tmF tm0 S T l N φ0 s0 w0 a0 listed a w φ c σ) {i hi : Nat} {o : Oper} (ho : ops[i]? = some o) (hun : listed.getD i false = false)
    (h : hiOk d.anc (d.order.filter (effI ops)) i hi = true) : c ≤ hi := by
  unfold hiOk at h
  cases he : (d.order.filter (effI ops))[hi]? with
  | none =>
    have := List.getElem?_eq_none_iff.1 he
    have := I.cle
    omega
  | some e =>
    simp only [he] at h
    rcases Nat.lt_or_ge hi c with hlt | hge
    · have hl := (I.es hi e he).2 hlt
      have hm : e ∈ d.order := (List.mem_filter.1 (List.mem_of_getElem? he)).1
      obtain ⟨q, hq⟩ := F.inn e hm
      have := I.up F e q hq hl i h
      rw [hun] at this; simp at this
    · exact hge

theorem draw_step (hE : TyOk P E) (hcf : CfOk P cf) (hs0 : Sat P φ0 s0 w0) (F : DrFacts ops d) (hN : ∀ q ∈ ops.toList, DstOk N q) (hc : Canon E cf ops tmF tm0 d.order S T l sF)
    (hfree : freeOk E cf ops tmF l d.free = true) (hS0 : S [] = s0) {Q : Exit → Act → World → Prop} (I : DInv P ops d tmF tm0 S T l N φ0 s0 w0 a0 listed a w φ c σ) {i : Nat} {o : Oper} (ho : ops[i]? = some o)
    (hun : listed.getD i false = false) (hr : ∀ e ∈ o.after, Region.binds .any e = true → listed.getD e.on false = true) {K : Act → World → Prop}
    (hK : ∀ a' w' φ' c' σ', DInv P ops d tmF tm0 S T l N φ0 s0 w0 a0 (listed.setIfInBounds i true) a' w' φ' c' σ' → K a' w') : wpOp P ops Q i K a w := by
  have hlt : i < ops.size := (Array.getElem?_eq_some_iff.1 ho).1
  obtain ⟨pre, post, he⟩ := List.append_of_mem (F.all i hlt)
  have hNo : DstOk N o := hN o (by simpa using Array.mem_of_getElem? ho)
  have hup := ready_up F I ho hr
  -- what the operation looks at is there
  have hnd := F.nodup
  rw [he] at hnd
  obtain ⟨_, hnd2, hnd3⟩ := List.nodup_append.1 hnd
  have fromF : ∀ t, (∀ (j : Nat) (q : Oper), ops[j]? = some q → q.dst = some t → (d.anc.getD i 0).testBit j = true) → tmF.get t = (T pre).get t := fun t hall =>
    hc.tmpsF pre (i :: post) he t fun j hj q hq hqt => hnd3 j (F.before pre i post he j (hall j q hq hqt)) j hj rfl
  have hlook : ∀ t ∈ Oper.looksAt ops o, conc P φ (((T pre).get t).getD undefV) = some (a.tmps.getD t undef) := fun t ht => by
    by_cases hall : ∀ (j : Nat) (q : Oper), ops[j]? = some q → q.dst = some t → (d.anc.getD i 0).testBit j = true
    · rw [← fromF t hall]
      exact I.tms t fun j q hq hqt => hup j (hall j q hq hqt)
    · simp only [Classical.not_forall] at hall
      obtain ⟨j, q, hq, hqt, hno⟩ := hall
      have hback : (d.anc.getD j 0).testBit i = true := by
        rcases F.reads i o ho t ht j q hq hqt with h | h
        · exact absurd h hno
        · exact h
      have huniq : ∀ (j' : Nat) (q' : Oper), ops[j']? = some q' → q'.dst = some t → j' = j := fun j' q' hq' hqt' => F.dst j' j q' q t hq' hq hqt' hqt
      have hjun : listed.getD j false = false := by
        cases hl : listed.getD j false with
        | false => rfl
        | true => have := I.up F j q hq hl i hback; rw [hun] at this; simp at this
      rw [hc.tmps0 pre (i :: post) he t fun j' hj' q' hq' hqt' => ?_]
      · exact I.tms0 t fun j' q' hq' hqt' => by rw [huniq j' q' hq' hqt']; exact hjun
      · have hjj := huniq j' q' hq' hqt'
        subst hjj
        obtain ⟨p1, p2, hp⟩ := List.append_of_mem hj'
        have hb := F.before p1 j' (p2 ++ i :: post) (by rw [he, hp]; simp) i hback
        exact hnd3 i (by rw [hp]; simp [hb]) i (by simp) rfl
  have hev : OpsOk P φ (T pre) a o := fun x hx => by
    cases x with
    | tmp t =>
      intro v hv
      rw [ev_tmp] at hv; injection hv with hv; subst hv
      refine hlook t ?_
      simp only [Oper.looksAt, List.mem_append, List.mem_filterMap]
      exact .inl ⟨.tmp t, by simpa using hx, rfl⟩
    | const k => exact evOk_const k
    | func f => exact evOk_func f
    | global g => exact evOk_global g
  have hwant : ∀ b, wanted (T pre) ops o = some b → Region.wanted o (yielded ops a.tmps) = b := fun b hb =>
    wanted_of I.tsz hN (fun j wn q t hg hq hqt => hlook t (by simp [Oper.looksAt, hg, hq, hqt])) hb
  -- the level
  have hk : cnt ops pre ≤ c := by
    cases hcn : cnt ops pre with
    | zero => omega
    | succ k =>
      have hin : ∃ e, (d.order.filter (effI ops))[k]? = some e := by
        have : k < (d.order.filter (effI ops)).length := by
          rw [he, List.filter_append, List.length_append]
          have : (pre.filter (effI ops)).length = k + 1 := hcn
          omega
        exact ⟨_, List.getElem?_eq_getElem this⟩
      obtain ⟨e, hek⟩ := hin
      have := F.lvl pre i post he k (by have : (pre.filter (effI ops)).length = k + 1 := hcn; omega) e hek
      have := (I.es k e hek).1 (hup e this)
      omega
  have hke : effI ops i = true → cnt ops pre = c := fun heff => by
    have hesi : (d.order.filter (effI ops))[cnt ops pre]? = some i := by
      rw [he, List.filter_append, List.getElem?_append_right (by simp [cnt])]
      simp [cnt, List.filter_cons, heff]
    rcases Nat.lt_or_ge (cnt ops pre) c with h | h
    · have := (I.es _ i hesi).2 h
      rw [hun] at this; simp at this
    · omega
  obtain ⟨o2, ho2, hop⟩ := hc.op pre i post he
  rw [ho] at ho2; injection ho2 with ho2; subst ho2
  simp only [wpOp, ho]
  -- keeping what is still to come
  have keepP : ∀ {ψ : Phi} {τ : St} {w1 : World}, Post P φ σ w ψ τ w1 → ∀ pre' i' post' ob', d.order = pre' ++ i' :: post' → i' ≠ i → S (pre' ++ [i']) = (alloc (S pre') ob').2 → σ.hp.get (S pre').next ≠ none → φ (S pre').next = none → ψ (S pre').next = none := by
    intro ψ τ w1 hp pre' i' post' _ _ _ _ h1 h2
    cases hq : ψ (S pre').next with
    | none => rfl
    | some M =>
      rcases hp.new _ M hq with g | ⟨_, g⟩
      · rw [h2] at g; simp at g
      · cases hg : σ.hp.get (S pre').next with
        | none => exact absurd hg h1
        | some ob => have := I.post.sat.dom _ _ hg; omega
  rcases hop with ⟨hw, v, hdo, hnx, hdv⟩ | ⟨hw, hSS, hdv⟩
  · rw [hwant true hw]
    simp only [if_true]
    left
    have hxv : ∀ {ψ : Phi} {x : Value}, conc P ψ v = some x → ∀ t, o.dst = some t → conc P ψ ((tmF.get t).getD undefV) = some x := fun hcx t ht => by
      rw [hdv t ht]; exact hcx
    cases heff : effI ops i with
    | true =>
      have hkc := hke heff
      have hσ : σ = S pre := by
        have := hc.ef pre i post he heff
        rw [hkc, I.lc] at this; injection this
      subst hσ
      refine doOp_sound hE hcf I.post.sat hev hdo _ _ fun ψ x w1 hp hcx => ?_
      obtain ⟨σ', I'⟩ := I.loud hs0 F hc he hkc ho hNo hun hr heff hp (hxv hcx)
      exact hK _ _ _ _ _ I'
    | false =>
      have hEo : isE o.op = false := by simpa [effI, ho] using heff
      -- done again at what is there now
      have again : doOp E cf (T pre) σ o = some (v, σ) → o.wp P a w K Q := fun hd2 => by
        refine doOp_sound hE hcf I.post.sat hev hd2 _ _ fun ψ x w1 hp hcx => ?_
        exact hK _ _ _ _ _ (I.quiet F ho hNo hun hr heff hp.sub (Post.trans hs0 I.post hp) (hxv hcx) (keepP hp))
      cases hA : isA o.op with
      | true =>
        obtain ⟨hn, ob, hob, hob2⟩ := I.new pre i post o he ho hun hA hw hk
        obtain ⟨x, ob', b, hrun, hs', hobj, hcx⟩ := made_of (w := w) hE hA hn hev hdo
        have : ob' = ob := by
          rw [hob] at hs'
          have h1 : ((alloc (S pre) ob).2.hp.get (S pre).next) = some ob := by simp [alloc, PT.get_set]
          rw [hs'] at h1
          simp [alloc, PT.get_set] at h1; exact h1
        subst this
        unfold Oper.wp
        rw [hrun]
        have h0 : s0.next ≤ (S pre).next := by
          have := hc.next pre [] (i :: post) (by simpa using he)
          rw [hS0] at this; simpa using this
        have hp := Post.add I.post hn hob2 h0 hobj
        refine hK _ _ _ _ _ (I.quiet F ho hNo hun hr heff (Phi.le_upd _ hn) hp (hxv hcx) ?_)
        intro pre' i' post' ob2 he' hne hal h1 h2
        have hne2 : (S pre').next ≠ (S pre).next := ids_apart F hc (ob := ob') (ob' := ob2) he he' hne hob (by rw [hal]; simp [alloc])
        simp only [Phi.upd, if_neg hne2]; exact h2
      | false =>
        cases hR : isR o.op with
        | true =>
          obtain ⟨hsame, hsub⟩ := doOp_read hR hdo
          obtain ⟨σk, hlk, hext⟩ := hc.lv pre (i :: post) he
          have hdm := I.dom pre (i :: post) he hk
          have direct : cnt ops pre = c → doOp E cf (T pre) σ o = some (v, σ) := fun e => by
            rw [e, I.lc] at hlk; injection hlk with hlk; subst hlk
            exact hsub σ (hext hdm).1.2.1
          rcases F.rd pre i post o he ho hR with h | ⟨hst, lo, hi, hm, h1, h2⟩
          · exact again (direct (Nat.le_antisymm hk (I.hi F ho hun h)))
          · have hhi := I.hi F ho hun h2
            have h1' : lo ≤ cnt ops pre := h1
            have hsame : ∀ t ∈ Oper.looksAt ops o, tmF.get t = (T pre).get t := fun t ht => fromF t fun j q hq hqt => hst t ht j q hq hqt
            have hwF : wanted tmF ops o = some true := by rw [wanted_congr hsame]; exact hw
            obtain ⟨dd, v', hd1, hd2, hd3⟩ := freeOk_spec hfree i lo hi o hm ho hwF (by omega)
            obtain ⟨sc, s', hl1, hl2⟩ := hd3 c (by omega) hhi
            rw [I.lc] at hl1; injection hl1 with hl1; subst hl1
            obtain ⟨rfl, _⟩ := doOp_read hR hl2
            rw [hdv dd hd1] at hd2; injection hd2 with hd2; subst hd2
            rw [doOp_looks hsame] at hl2
            exact again hl2
        | false =>
          obtain ⟨_, hall⟩ := doOp_pure hEo hA hR hdo
          exact again (hall σ)
  · rw [hwant false hw]
    simp only [Bool.false_eq_true, if_false]
    have hxv : ∀ t, o.dst = some t → conc P φ ((tmF.get t).getD undefV) = some undef := fun t ht => by
      rw [hdv t ht]; exact conc_undefV
    cases heff : effI ops i with
    | true =>
      have hkc := hke heff
      have hσ : σ = S pre := by
        have := hc.ef pre i post he heff
        rw [hkc, I.lc] at this; injection this
      subst hσ
      obtain ⟨σ', I'⟩ := I.loud hs0 F hc he hkc ho hNo hun hr heff (by rw [hSS]; exact Post.refl I.post.sat) hxv
      exact hK _ _ _ _ _ I'
    | false => exact hK _ _ _ _ _ (I.quiet F ho hNo hun hr heff (Phi.le_refl φ) I.post hxv (fun _ _ _ _ _ _ _ _ h => h))

theorem filter_less {p q : Nat → Bool} {i : Nat} (h : ∀ x, q x = true → p x = true) (h1 : p i = true) (h2 : q i = false) : ∀ {l : List Nat}, i ∈ l → (l.filter q).length < (l.filter p).length := by
  have le : ∀ (l : List Nat), (l.filter q).length ≤ (l.filter p).length := fun l => by
    induction l with
    | nil => simp
    | cons a r ih =>
      simp only [List.filter_cons]
      cases hq : q a with
      | true => simp [h a hq]; exact ih
      | false => simp only [Bool.false_eq_true, if_false]; split <;> (try simp only [List.length_cons]) <;> omega
  intro l
  induction l with
  | nil => intro h; simp at h
  | cons a r ih =>
    intro hm
    simp only [List.filter_cons]
    rcases List.mem_cons.1 hm with rfl | hm
    · simp [h1, h2]; have := le r; omega
    · have := ih hm
      cases hq : q a with
      | true => simp [h a hq]; exact this
      | false => simp only [Bool.false_eq_true, if_false]; split <;> (try simp only [List.length_cons]) <;> omega

theorem any_order (hE : TyOk P E) (hcf : CfOk P cf) (hs0 : Sat P φ0 s0 w0) (F : DrFacts ops d) (hN : ∀ q ∈ ops.toList, DstOk N q) (hc : Canon E cf ops tmF tm0 d.order S T l sF)
    (hfree : freeOk E cf ops tmF l d.free = true) (hS0 : S [] = s0) {Q : Exit → Act → World → Prop}
    (hq : ∀ ψ a' w', Post P φ0 s0 w0 ψ sF w' → TmOk P ψ N tmF a' → a'.defers = a0.defers → Q .normal a' w') :
    ∀ (fuel : Nat) (listed : Array Bool) (a : Act) (w : World) (φ : Phi) (c : Nat) (σ : St), DInv P ops d tmF tm0 S T l N φ0 s0 w0 a0 listed a w φ c σ →
      ((List.range ops.size).filter fun i => !listed.getD i false).length ≤ fuel → wpAny P .any ops Q fuel listed a w := by
  have done : ∀ (listed : Array Bool) (a : Act) (w : World) (φ : Phi) (c : Nat) (σ : St), DInv P ops d tmF tm0 S T l N φ0 s0 w0 a0 listed a w φ c σ → (∀ i, i < ops.size → listed.getD i false = true) → Q .normal a w := by
    intro listed a w φ c σ I hall
    have hlen : c = (d.order.filter (effI ops)).length := by
      refine Nat.le_antisymm I.cle ?_
      cases hn : (d.order.filter (effI ops)).length with
      | zero => omega
      | succ k =>
        have hin : ∃ e, (d.order.filter (effI ops))[k]? = some e := ⟨_, List.getElem?_eq_getElem (by omega)⟩
        obtain ⟨e, he⟩ := hin
        obtain ⟨q, hq⟩ := F.inn e (List.mem_filter.1 (List.mem_of_getElem? he)).1
        have := (I.es k e he).1 (hall e (Array.getElem?_eq_some_iff.1 hq).1)
        omega
    have hσ : σ = sF := by
      have h1 := hc.fin.2
      have h2 := I.lc
      rw [hlen] at h2
      exact Option.some.inj (h2.symm.trans h1)
    subst hσ
    exact hq φ a w I.post ⟨I.tsz, fun t => I.tms t fun i o ho _ => hall i (Array.getElem?_eq_some_iff.1 ho).1⟩ I.defs
  have stuck : ∀ (listed : Array Bool) (a : Act) (w : World) (φ : Phi) (c : Nat) (σ : St), DInv P ops d tmF tm0 S T l N φ0 s0 w0 a0 listed a w φ c σ → Region.ready .any ops listed = [] →
      ∀ i, i < ops.size → listed.getD i false = true := by
    intro listed a w φ c σ I hr i
    induction i using Nat.strongRecOn with
    | ind i ih =>
      intro hi
      cases hl : listed.getD i false with
      | true => rfl
      | false =>
        have hmem : i ∈ Region.ready .any ops listed := by
          refine mem_ready.2 ⟨?_, ops[i], Array.getElem?_eq_getElem hi, fun e he hb => ?_⟩
          · have : i < listed.size := by rw [I.size]; exact hi
            simp [this] at hl ⊢; exact hl
          · have hlt := F.edge i ops[i] (Array.getElem?_eq_getElem hi) e he hb
            exact ih e.on hlt (by omega)
        rw [hr] at hmem; simp at hmem
  intro fuel
  induction fuel with
  | zero =>
    intro listed a w φ c σ I hf
    have hall : ∀ i, i < ops.size → listed.getD i false = true := fun i hi => by
      have h0 : ((List.range ops.size).filter fun i => !listed.getD i false) = [] := List.eq_nil_of_length_eq_zero (by omega)
      cases hl : listed.getD i false with
      | true => rfl
      | false =>
        have : i ∈ (List.range ops.size).filter fun i => !listed.getD i false := List.mem_filter.2 ⟨List.mem_range.2 hi, by rw [hl]; rfl⟩
        rw [h0] at this; simp at this
    refine ⟨?_, done listed a w φ c σ I hall⟩
    cases hr : Region.ready .any ops listed with
    | nil => rfl
    | cons i r =>
      have hm : i ∈ Region.ready .any ops listed := by rw [hr]; simp
      obtain ⟨h1, o, ho, _⟩ := mem_ready.1 hm
      have hi := (Array.getElem?_eq_some_iff.1 ho).1
      have h2 := hall i hi
      have : i < listed.size := by rw [I.size]; exact hi
      simp [this] at h1 h2
      rw [h1] at h2; simp at h2
  | succ fuel ih =>
    intro listed a w φ c σ I hf
    refine ⟨fun hr => done listed a w φ c σ I (stuck listed a w φ c σ I hr), fun i hm => ?_⟩
    obtain ⟨h1, o, ho, hdeps⟩ := mem_ready.1 hm
    have hi := (Array.getElem?_eq_some_iff.1 ho).1
    have hsz : i < listed.size := by rw [I.size]; exact hi
    have hun : listed.getD i false = false := by simp [hsz] at h1 ⊢; exact h1
    refine draw_step hE hcf hs0 F hN hc hfree hS0 I ho hun hdeps fun a' w' φ' c' σ' I' => ih _ _ _ _ _ _ I' ?_
    have := filter_less (p := fun j => !listed.getD j false) (q := fun j => !(listed.setIfInBounds i true).getD j false) (i := i) (l := List.range ops.size) ?_ (by simp [hun]) (by rw [getD_set_self hsz]; rfl) (List.mem_range.2 hi)
    · omega
    · intro j hj
      cases hl : listed.getD j false with
      | false => rfl
      | true => rw [getD_set_true hl] at hj; simp at hj

/-- a region whose order is drawn -/
theorem draw_sound (hm : P.follows .mixedOrders = true) (hE : TyOk P E) (hcf : CfOk P cf) (hN : ∀ q ∈ ops.toList, DstOk N q) (hdr : drOk ops d = true) {id : Nat} {tm : Tm} (hs : Sat P φ s0 w) (ht : TmOk P φ N tm a)
    (h : runDraw E cf ops d tm s0 = some (tmF, sF)) {Q : Exit → Act → World → Prop}
    (hq : ∀ ψ a' w', Post P φ s0 w ψ sF w' → TmOk P ψ N tmF a' → a'.defers = a.defers → Q .normal a' w') : (Code.region id ops true).wp P Q a w := by
  have F := drOk_facts hdr
  unfold runDraw at h
  split at h
  · rename_i tm' s' l hr
    simp only [cond_eq_ite] at h
    split at h
    · rename_i hfree
      simp at h; obtain ⟨rfl, rfl⟩ := h
      obtain ⟨S, T, hS0, hT0, hc⟩ := canon_of d.order tm s0 l F.seq hr
      refine wp_region_any hm ?_
      have hs' : Sat P φ s0 { w with drawn := w.drawn + 1 } := hs.heap rfl
      obtain ⟨σ, hl, hext⟩ := hc.lv [] d.order rfl
      rw [hS0] at hext
      obtain ⟨hx1, hx2⟩ := hext hs.dom
      have hdom : ∀ pre post, d.order = pre ++ post → cnt ops pre ≤ 0 → Dom (S pre) := fun pre post he hk => by
        have := hc.seg pre [] post (by simpa using he) (by omega) (by rw [hS0]; exact hs.dom)
        simpa using this.2
      refine any_order (φ0 := φ) (w0 := { w with drawn := w.drawn + 1 }) (a0 := a) hE hcf hs' F hN hc hfree hS0 (fun ψ a' w' hp => hq ψ a' w' { hp with }) ops.size _ a _ φ 0 σ ?_ ?_
      · refine { size := by simp, closed := fun i o ho hl => ?_, es := fun k e he => ?_, cle := Nat.zero_le _, lc := by simpa [cnt] using hl, post := Post.ext (Post.refl hs') hx1 hx2, tsz := ht.1, defs := rfl, tms := fun t hall => ?_, tms0 := fun t _ => ht.2 t, new := fun pre i post o he ho hun hA hw hk => ?_, dom := hdom }
        · have hi := (Array.getElem?_eq_some_iff.1 ho).1
          simp [hi] at hl
        · have hm : e ∈ d.order := (List.mem_filter.1 (List.mem_of_getElem? he)).1
          obtain ⟨q, hq⟩ := F.inn e hm
          have hi := (Array.getElem?_eq_some_iff.1 hq).1
          simp [hi]
        · rw [hc.tmpsF [] d.order rfl t fun i hi o ho hd => ?_, hT0]
          · exact ht.2 t
          · have := hall i o ho hd
            have hi := (Array.getElem?_eq_some_iff.1 ho).1
            simp [hi] at this
        · obtain ⟨g1, g2⟩ := hc.seg pre [] (i :: post) (by simpa using he) (by omega) (by rw [hS0]; exact hs.dom)
          simp only [List.nil_append, hS0] at g1 g2
          obtain ⟨o2, ho2, hop⟩ := hc.op pre i post he
          rw [ho] at ho2; injection ho2 with ho2; subst ho2
          rcases hop with ⟨_, v, hdo, _⟩ | ⟨hwf, _⟩
          · obtain ⟨ob, hob⟩ := doOp_made hA hdo
            refine ⟨?_, ob, hob, ?_⟩
            · cases hq : φ (S pre).next with
              | none => rfl
              | some M => have := hs.bnd _ M hq; have := g1.1; omega
            · have hEo : isE o.op = false := by
                cases hoo : o.op <;> simp [isA, hoo] at hA <;> simp [isE]
              obtain ⟨k1, k2⟩ := step_ext hEo hdo g2
              have heff' : effI ops i = false := by simp [effI, ho, hEo]
              obtain ⟨σ2, hl2, hext2⟩ := hc.lv (pre ++ [i]) post (by rw [he]; simp)
              have : cnt ops (pre ++ [i]) = 0 := by
                rw [cnt_append, cnt_one, heff']; simp only [Bool.false_eq_true, if_false]; omega
              rw [this] at hl2
              have hl0 : l[0]? = some σ := by simpa [cnt] using hl
              rw [hl0] at hl2; injection hl2 with hl2; subst hl2
              refine (hext2 k2).1.2.1 _ _ ?_
              rw [hob]; simp [alloc, PT.get_set]
          · rw [hw] at hwf; simp at hwf
      · refine Nat.le_trans (List.length_filter_le _ _) ?_
        simp
    · simp at h
  · simp at h
end
end Go.Mx
