/- A part of the abstract interpreter: a step on the way to the statement. -/
import Derived.Test.YtmookoajpcnigaaGreatMxOS3
set_option linter.unusedSimpArgs false
set_option linter.unusedVariables false
namespace Go.Mx
open Go

section
variable {P : Program} {E : Env} {φ : Phi} {s s' : St} {w : World} {tm : Tm} {a : Act} {v : AV} {cf : CF} {o : Oper}

theorem concL_take {l : List Sc} {n : Nat} {vs : List Value} (h : concL φ l = some vs) : concL φ (l.take n) = some (vs.take n) := by
  have := concL_drop_take h 0 n
  simpa using this

theorem sym_copy (hE : TyOk P E) (hs : Sat P φ s w) {tys : List Nat} {args : List Operand} {ty : Nat} {cs : Array Bool} (hev : ∀ x ∈ args, EvOk P φ tm a x)
    (h : symCopy E tm s tys args = some (v, s')) : Done P φ s w s' v ((builtin .copy tys.toArray ty cs (args.map a.eval).toArray).run P w) := by
  unfold symCopy at h
  split at h
  · rename_i t tr x y yr
    split at h
    · rename_i sz ag e zr pl d l u m q l' u' m' ht hxe hye
      split at h
      · rename_i te new old hte hsrc hdst
        split at h
        · rename_i mix hmix
          split at h
          · rename_i s1 hst
            simp only [cond_eq_ite, Bool.and_eq_true, Nat.beq_eq, Nat.ble_eq] at h
            split at h
            · rename_i hc
              obtain ⟨hsz, hu64⟩ := hc
              injection h with h; injection h with h1 h2; subst h1; subst h2
              obtain ⟨dd, hd, hdk, _⟩ := (hE _ _ ht).und
              simp only [KindOk] at hdk; subst hdk
              obtain ⟨i, z, g1, g2, g3, g4, _⟩ := (hE _ _ hte).info
              obtain ⟨N, L, c, hN, hL, hr, hb, hnc, h0, hxv⟩ := sn_some (hev x (by simp) _ hxe)
              obtain ⟨N', L', c', hN', hL', hr', hb', hnc', h0', hyv⟩ := sn_some (hev y (by simp) _ hye)
              rw [hN] at hN'; injection hN' with hN'; subst hN'
              have hnl : (nlen N : Int) = gval N := by unfold nlen; omega
              -- the source
              have hld := symSrc_ld (s := s) (N := N) hsrc hb.2
              have hsA := Sat.act hs hN
              have hq : concA φ q = some ⟨L'.blk, L'.base + q.2, none⟩ := by simp [concA, hL']
              obtain ⟨vs, k1, k2, k3⟩ := ld_cells hsA hld hq
              -- the target: n cells
              unfold symDst at hdst
              split at hdst
              · rename_i n zz tt ee op hg
                simp only [cond_eq_ite, Nat.ble_eq] at hdst
                split at hdst
                · rename_i hle
                  injection hdst with hdst; subst hdst
                  have hnlen := symSrc_len hsrc
                  have hml := mixL_len hmix
                  have hst2 : ∃ s2, stCells s d (new.take (nlen N)) = some s2 ∧ s2 = { s with hp := s.hp.set d.1 (.arr n zz (setCells tt d.2 (new.take (nlen N))) ee op) } := by
                    refine ⟨_, ?_, rfl⟩
                    unfold stCells
                    simp only [hg, cond_eq_ite, Nat.ble_eq, List.length_take, hnlen]
                    rw [if_pos (by omega)]
                  obtain ⟨s2, hs2, hs2e⟩ := hst2
                  have hs1e : s1 = { s with hp := s.hp.set d.1 (.arr n zz (setCells tt d.2 mix) ee op) } := by
                    unfold stCells at hst
                    simp only [hg, cond_eq_ite, Nat.ble_eq] at hst
                    split at hst
                    · injection hst with hst; exact hst.symm
                    · simp at hst
                  have hA : concA φ d = some ⟨L.blk, L.base + d.2, none⟩ := by simp [concA, hL]
                  obtain ⟨w', r1, r2⟩ := st_cells hs hs2 hA k1
                  have hD : Done P φ s w s2 (.one (.i .i64 (nlen N))) ((builtin .copy (t :: tr).toArray ty cs (List.map a.eval (x :: y :: yr)).toArray).run P w) := by
                    refine ⟨φ, goInt (nlen N), w', .inl ?_, r2, by simp [conc, concS, goInt]⟩
                    simp only [builtin]
                    refine run_v _ ?_
                    have hlen : (Builtin.lenOf (a.eval y)).run P w = .ok (nlen N) w := by rw [hyv]; simp [Builtin.lenOf]
                    have hf : (Builtin.firstCells i.size (nlen N) (a.eval y)).run P w = .ok vs.toArray w := by
                      rw [hyv, g2, hsz]
                      simp only [Builtin.firstCells, Nat.mul_one]
                      exact run_loadCells_of k2 k3
                    simp [Builtin.copy_, run_und hd, hxv, run_sizeOf g1, hlen, hf, r1]
                  obtain ⟨ψ, rv, w2, e1, e2, e3⟩ := hD
                  have hψN := e2.sub _ _ hN
                  refine ⟨ψ, rv, w2, e1, e2.chg (by rw [hs2e, hs1e]) fun j => ?_, ?_⟩
                  · rw [hs2e, hs1e]
                    simp only [PT.get_set]
                    by_cases hj : j = d.1
                    · right
                      refine ⟨.arr n zz (setCells tt d.2 (new.take (nlen N))) ee op, .arr n zz (setCells tt d.2 mix) ee op, by rw [if_pos hj], by rw [if_pos hj], fun M hM hob => ?_, fun h => h, .inr (by rw [hj]; exact ⟨L, hL⟩)⟩
                      obtain ⟨cells, fr, q1, q2, q3, q4, q5⟩ := hob
                      refine ⟨cells, fr, q1, q2, q3, q4, fun k hk => ?_⟩
                      obtain ⟨val, p1, p2⟩ := q5 k hk
                      refine ⟨val, p1, ?_⟩
                      by_cases hin : d.2 ≤ k ∧ k < d.2 + u
                      · have hkl : k - d.2 < mix.length := by omega
                        have hm := cellV_setCells zz mix tt d.2 k (by omega) mix[k - d.2] (by simp [hkl])
                        rw [hm]
                        obtain ⟨p, q0, b1, b2, b3⟩ := mixL_get hmix (k - d.2) mix[k - d.2] (by simp [hkl])
                        rw [Nat.zero_add] at b3
                        have hmc := mixS_conc hψN b3
                        by_cases hlt : k - d.2 < nlen N
                        · have hnt : (new.take (nlen N))[k - d.2]? = some p := by rw [List.getElem?_take]; rw [if_pos hlt]; exact b1
                          have := cellV_setCells zz (new.take (nlen N)) tt d.2 k (by rw [List.length_take]; omega) p hnt
                          rw [this] at p2
                          exact hmc.1 hlt _ p2
                        · have := cellV_setCells_other zz (new.take (nlen N)) tt d.2 k (by rw [List.length_take]; omega)
                          rw [this] at p2
                          have hq0 : q0 = cellV zz tt k := by
                            have := cellsV_get zz tt u d.2 (k - d.2) (by omega)
                            rw [this] at b2; injection b2 with b2
                            rw [← b2]; congr 1; omega
                          rw [← hq0] at p2
                          exact hmc.2 (by omega) _ p2
                      · have e1 := cellV_setCells_other zz (new.take (nlen N)) tt d.2 k (by rw [List.length_take]; omega)
                        have e2 := cellV_setCells_other zz mix tt d.2 k (by omega)
                        rw [e2, ← e1]; exact p2
                    · left; rw [if_neg hj, if_neg hj]
                  · simp only [conc, concS] at e3 ⊢
                    simp only [hψN]
                    rw [if_pos (by omega), Int.add_zero, ← hnl]; exact e3
                · simp at hdst
              · simp at hdst
            · simp at h
          · simp at h
        · simp at h
      · simp at h
    · simp at h
  · simp at h

theorem nthS_get {l : List Sc} {k : Nat} {c : Sc} (h : l[k]? = some c) : nthS l k = c := by unfold nthS; rw [h]

theorem sym_append (hE : TyOk P E) (hs : Sat P φ s w) {tys : List Nat} {args : List Operand} {ty : Nat} {cs : Array Bool} (hev : ∀ x ∈ args, EvOk P φ tm a x)
    (h : symAppend E tm s tys args = some (v, s')) : Done P φ s w s' v ((builtin .append tys.toArray ty cs (args.map a.eval).toArray).run P w) := by
  unfold symAppend at h
  split at h
  · rename_i t t' x y
    split at h
    · rename_i sz ag e zr pl sz' ag' e' zr' pl' ad op q l u m ht ht' hxe hye
      split at h
      · rename_i te new hte hsrc
        simp only [cond_eq_ite, Bool.and_eq_true, Nat.beq_eq, Nat.ble_eq] at h
        split at h
        · rename_i hc
          obtain ⟨⟨⟨hsz, hu64⟩, h1l⟩, hroom⟩ := hc
          injection h with h; injection h with h1 h2; subst h1; subst h2
          obtain ⟨dd, hd, hdk, _⟩ := (hE _ _ ht).und
          simp only [KindOk] at hdk; subst hdk
          obtain ⟨dd', hd', hdk', _⟩ := (hE _ _ ht').und
          simp only [KindOk] at hdk'; subst hdk'
          obtain ⟨i0, z0, k1, k2, k3, k4, k5, k6, _⟩ := (hE _ _ hte).info
          have hxc : concS φ (.sl ad 0 0 op) = some (a.eval x) := hev x (by simp) _ hxe
          obtain ⟨N, L, c, hN, hL, hr, hb, hnc, h0, hyv⟩ := sn_some (hev y (by simp) _ hye)
          have hld := symSrc_ld (s := s) (N := N) hsrc hb.2
          have hsA := Sat.act hs hN
          have hq : concA φ q = some ⟨L.blk, L.base + q.2, none⟩ := by simp [concA, hL]
          obtain ⟨vs, j1, j2, j3⟩ := ld_cells hsA hld hq
          have hnlen := symSrc_len hsrc
          have htl : (new.take (nlen N)).length = nlen N := by rw [List.length_take]; omega
          have happ : ∃ z2 t2, appendOp te e s ad 0 0 op (new.take (nlen N)) (nlen N) = some (.one (.sl (some (s.next, 0)) (nlen N) (nlen N) true), (alloc s (.arr (nlen N * te.size) z2 t2 e true)).2) := by
            unfold appendOp
            simp only [cond_eq_ite, Nat.ble_eq, Nat.zero_add]
            rw [if_neg (by omega), if_pos (by unfold lim; omega)]
            cases ad with
            | none => exact ⟨_, _, rfl⟩
            | some p =>
              unfold apRoom at hroom
              simp only at hroom
              split at hroom
              · rename_i k z1 t1 e1 md hg
                simp only [Bool.and_eq_true, Nat.ble_eq, Bool.not_eq_true'] at hroom
                obtain ⟨p1, p2⟩ := p
                simp only at hg
                simp only [hg]
                rw [if_pos (by simp; exact hroom.1), hroom.2]
                exact ⟨_, _, rfl⟩
              · cases hroom
          obtain ⟨z2, t2, happ⟩ := happ
          obtain ⟨ψ, rv, w', r1, r2, r3⟩ := append_done (ty := ty) (x := a.eval y) hE hs hd hte hd' j1 (by rw [htl, hsz, Nat.mul_one]) (fun i z hi hz => .inr ⟨fun k e => (by cases e), fun w => by rw [hyv]; simp [Builtin.lenOf], fun w' hw => by
            have : i.size = 1 := by rw [hi] at k1; injection k1 with k1; rw [k1, k2, hsz]
            rw [this, hyv]
            simp only [Builtin.firstCells, Nat.mul_one]
            refine run_loadCells_of j2 fun j val hj => ?_
            have := j3 j val hj
            simpa [World.cell?, hw] using this⟩) hxc happ
          have hψN := r2.sub _ _ hN
          have hld2 := j1
          refine ⟨ψ, rv, w', .inl (by simp only [builtin]; exact run_v _ r1), r2.chg rfl fun j => ?_, ?_⟩
          · simp only [alloc, PT.get_set]
            by_cases hj : j = s.next
            · right
              have hnone : s.hp.get j = none := by
                cases hq2 : s.hp.get j with
                | none => rfl
                | some ob => have := hs.dom j ob hq2; omega
              refine ⟨.arr (nlen N * te.size) z2 t2 e true, .sy (nthS new), by rw [if_pos hj], by rw [if_pos hj], ?_, fun _ => rfl, Or.inl hnone⟩
              intro M hM hob
              obtain ⟨cells, fr, q1, q2, q3, q4, q5⟩ := hob
              refine ⟨N, cells, e, fr, hψN, q1, fun k hk => ?_⟩
              obtain ⟨val, p1, p2⟩ := q5 k (by rw [hsz]; omega)
              refine ⟨val, p1, ?_⟩
              -- the cell that was appended
              have hkl : k < (new.take (nlen N)).length := by omega
              have hcell : cellV z2 t2 k = (new.take (nlen N))[k] := by
                unfold appendOp at happ
                simp only [cond_eq_ite, Nat.ble_eq, Nat.zero_add] at happ
                rw [if_neg (by omega), if_pos (by unfold lim; omega)] at happ
                cases ad with
                | none =>
                  simp only [Nat.beq_eq, if_true] at happ
                  injection happ with happ; injection happ with _ happ
                  have h3 := congrArg (fun st => st.hp.get s.next) happ
                  simp only [alloc, PT.get_set, if_true] at h3
                  injection h3 with h3; injection h3 with _ hz ht2 _ _
                  rw [← hz, ← ht2]
                  exact setCells_leaf_get _ _ k _ hkl (List.getElem?_eq_getElem hkl)
                | some p =>
                  unfold apRoom at hroom
                  simp only at hroom
                  split at hroom
                  · rename_i k' z1 t1 e1 md hg
                    simp only [Bool.and_eq_true, Nat.ble_eq, Bool.not_eq_true'] at hroom
                    obtain ⟨p1', p2'⟩ := p
                    simp only at hg
                    simp only [hg] at happ
                    rw [if_pos (by simp; exact hroom.1), hroom.2] at happ
                    simp only [Bool.false_eq_true, if_false] at happ
                    injection happ with happ; injection happ with _ happ
                    have h3 := congrArg (fun st => st.hp.get s.next) happ
                    simp only [alloc, PT.get_set, if_true] at h3
                    injection h3 with h3; injection h3 with _ hz ht2 _ _
                    rw [← hz, ← ht2]
                    have : cellsV z1 t1 p2' (0 * te.size) = [] := by rw [Nat.zero_mul]; rfl
                    rw [this, List.nil_append]
                    exact setCells_leaf_get _ _ k _ hkl (List.getElem?_eq_getElem hkl)
                  · cases hroom
              rw [hcell] at p2
              have : nthS new k = (new.take (nlen N))[k] := nthS_get (by rw [List.getElem_take]; exact List.getElem?_eq_getElem _)
              rw [this]; exact p2
            · left; rw [if_neg hj, if_neg hj]
          · simp only [conc, concS] at r3 ⊢
            cases hM : ψ s.next with
            | none => simp [hM] at r3
            | some M =>
              simp only [hM] at r3
              simp only [hψN, roomOf]
              rw [if_pos ⟨hb, by omega, h0⟩]
              simpa using r3
        · simp at h
      · simp at h
    · simp at h
  · simp at h

theorem sym_builtin (hE : TyOk P E) (hs : Sat P φ s w) {b : Builtin} {tys : List Nat} {args : List Operand} {ty : Nat} {cs : Array Bool} (hev : ∀ x ∈ args, EvOk P φ tm a x)
    (h : symB E tm s b tys args = some (v, s')) : Done P φ s w s' v ((builtin b tys.toArray ty cs (args.map a.eval).toArray).run P w) := by
  cases b <;> simp only [symB, reduceCtorEq] at h
  case append => exact sym_append hE hs hev h
  case copy => exact sym_copy hE hs hev h
  case len => exact sym_len hE hs hev h
  case min => exact sym_min hs hev h
end
end Go.Mx
