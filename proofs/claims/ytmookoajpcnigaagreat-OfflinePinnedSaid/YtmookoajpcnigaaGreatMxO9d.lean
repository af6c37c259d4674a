/- 'append'. -/
import Derived.Test.YtmookoajpcnigaaGreatMxO9c
set_option linter.unusedSimpArgs false
namespace Go.Mx
open Go

section
variable {P : Program} {E : Env} {φ : Phi} {s s' : St} {w : World} {tm : Tm} {a : Act} {v : AV} {cf : CF} {o : Oper}

/-- a thing is let go -/
theorem Post.drop (hs : Sat P φ s w) {i : Nat} {L : Lo} (hL : φ i = some L) : Post P φ s w φ { s with hp := s.hp.del i } w where
  sat := {
    obj := fun j q M h1 h2 => by
      simp only [PT.get_del] at h1
      split at h1
      · simp at h1
      · exact hs.obj j q M h1 h2
    inj := fun j k q r M N h1 h2 => by
      simp only [PT.get_del] at h1 h2
      split at h1
      · simp at h1
      · split at h2
        · simp at h2
        · exact hs.inj j k q r M N h1 h2
    bnd := hs.bnd
    dom := fun j q h1 => by
      simp only [PT.get_del] at h1
      split at h1
      · simp at h1
      · exact hs.dom j q h1 }
  sub := Phi.le_refl φ
  nx := Nat.le_refl _
  os := rfl
  tape := rfl
  output := rfl
  size := Nat.le_refl _
  fr := fun _ _ _ => rfl
  live := fun j q M h1 h2 h3 => by
    simp only [PT.get_del] at h1
    split at h1
    · simp at h1
    · exact .inr ⟨j, q, M, h1, h2, h3, rfl⟩
  new := fun _ _ h => .inl h
  un := fun j q h1 h2 => by
    simp only [PT.get_del]
    split
    · rename_i e; subst e; rw [hL] at h1; simp at h1
    · exact h2
  newdom := fun j q h1 => by
    simp only [PT.get_del] at h1
    split at h1
    · simp at h1
    · exact .inl (by simp [h1])

/-- a new row with room behind it -/
theorem new_open (hs : Sat P φ s w) {n sp : Nat} {z : Zr} {t : PT Sc} {e : Nat} {cs : List Sc} {vs rest : List Value} {cells : Array Value} (hl : concL φ cs = some vs) (hn : n = cs.length)
    (hc : ∀ k c, k < n → cs[k]? = some c → cellV z t k = c) (hcells : cells.toList = vs ++ rest) (hsz : cells.size = n + sp * P.cellsOf e) {w1 : World} (hos : w1.os = w.os)
    (htape : w1.tape = w.tape) (hout : w1.output = w.output) :
    Post P φ s w (φ.upd s.next ⟨w.heap.size, 0, sp⟩) (alloc s (.arr n z t e true)).2 { w1 with heap := w.heap.push (.cells cells e) } := by
  have hnone : φ s.next = none := by
    cases hq : φ s.next with
    | none => rfl
    | some M => have := hs.bnd _ _ hq; omega
  refine Post.more hs rfl (o := .arr n z t e true) (fun j => by simp only [alloc]; rw [PT.get_set]) hos htape hout (by simp) ?_ (Nat.le_refl _) ?_
  · intro b hb; simp only []; rw [Array.getElem?_push, if_neg (by omega)]
  · have hlen := concL_length hl
    refine ⟨cells, (0, 0), by simp, .inl rfl, by simp [hsz], fun h => by simp at h, fun k hk => ?_⟩
    have hk' : k < cs.length := by omega
    obtain ⟨v, hv, hcv⟩ := concL_get hl k cs[k] (by simp [hk'])
    refine ⟨v, ?_, ?_⟩
    · rw [← Array.getElem?_toList, hcells]
      simp only [Nat.zero_add]
      rw [List.getElem?_append_left (by omega)]; exact hv
    · rw [hc k cs[k] hk (by simp [hk'])]
      exact concS_mono (Phi.le_upd _ hnone) hcv

theorem setCells_leaf_get (z : Zr) (cs : List Sc) : ∀ k c, k < cs.length → cs[k]? = some c → cellV z (setCells .leaf 0 cs) k = c := fun k c hk hc => by
  refine cellV_setCells z cs .leaf 0 k ⟨Nat.zero_le _, by omega⟩ c (by simpa using hc)

theorem append_done (hE : TyOk P E) (hs : Sat P φ s w) {t t' e ty : Nat} {d' : TypeDesc} {te : TI} (hd : P.underlying t = some (.slice e)) (hte : E.ty.get e = some te) (hd' : P.underlying t' = some d')
    {x : Value} {n : Nat} {new : List Sc} {news : List Value} (hnew : concL φ new = some news) (hnl : new.length = n * te.size) (hsrc : ∀ i z, P.info? e = some i → i.zero = some z → SrcOk P w i z d' x n news.toArray)
    {ad : Option (Nat × Nat)} {len cap : Nat} {op : Bool} {bv : Value} (hb : concS φ (.sl ad len cap op) = some bv)
    (h : appendOp te e s ad len cap op new n = some (v, s')) :
    ∃ ψ y w', (Builtin.append_ #[t, t'] ty #[bv, x]).run P w = .ok y w' ∧ Post P φ s w ψ s' w' ∧ conc P ψ v = some y := by
  obtain ⟨i, z, h1, h2, h3, h4, h5, h6, _⟩ := (hE _ _ hte).info
  have hzl := concL_length h5
  have hzs : z.cells.size = i.size := by simp at hzl; omega
  have hsr := hsrc i z h1 h4
  have hnews := concL_length hnew
  have hcof : P.cellsOf e = te.size := by rw [cellsOf_eq h1, h2]
  unfold appendOp at h
  simp only [cond_eq_ite, Nat.ble_eq] at h
  split at h
  · rename_i hfit
    cases ad with
    | none =>
      simp only [concS] at hb; injection hb with hb; subst hb
      simp only [Nat.beq_eq] at h
      split at h
      · rename_i hn0
        simp at h; obtain ⟨rfl, rfl⟩ := h
        refine ⟨φ, .slice none (len + n) cap, w, ?_, Post.refl hs, by simp [conc, concS]⟩
        rw [run_append_fits hd h1 h3 h4 hzs hd' hsr hfit]; simp
      · simp at h
    | some A =>
      simp only at h
      split at h
      · rename_i s2 hst
        simp at h; obtain ⟨rfl, rfl⟩ := h
        simp only [concS] at hb
        split at hb
        · rename_i L hL
          injection hb with hb; subst hb
          have hA : concA φ (A.1, A.2 + len * te.size) = some ⟨L.blk, L.base + (A.2 + len * te.size), none⟩ := by simp [concA, hL]
          obtain ⟨w', r1, r2⟩ := st_cells hs hst hA hnew
          refine ⟨φ, .slice (some ⟨L.blk, L.base + A.2, none⟩) (len + n) (cap + if op then L.spare else 0), w', ?_, r2, by simp [conc, concS, hL]⟩
          rw [run_append_fits hd h1 h3 h4 hzs hd' hsr (by split <;> omega)]
          have : (⟨L.blk, L.base + A.2, none⟩ : Addr).add (len * i.size) = ⟨L.blk, L.base + (A.2 + len * te.size), none⟩ := by rw [Addr.add_none, h2]; congr 1; omega
          simp only [this, Sem.run_bind, r1, Result.andThen_ok, Sem.run_pure]
        · simp at hb
      · simp at h
  · rename_i hfit
    split at h
    · rename_i hlim
      unfold lim at hlim
      cases ad with
      | none =>
        simp only [Nat.beq_eq] at h
        split at h
        · rename_i hl0
          subst hl0
          simp at h; obtain ⟨rfl, rfl⟩ := h
          simp only [concS] at hb; injection hb with hb; subst hb
          obtain ⟨N, w1, e1, e2, e3, e4, e5, e6⟩ := run_append_grows (ty := ty) hd h1 h3 h4 hzs hd' hsr (base := none) (len := 0) (C := cap) hfit hlim (old := #[]) (fun w' _ => by simp [Builtin.firstCells])
          refine ⟨φ.upd s.next ⟨w.heap.size, 0, N - n⟩, _, _, e6, ?_, ?_⟩
          · refine new_open hs hnew hnl.symm (by rw [← hnl]; exact setCells_leaf_get _ new) (rest := (Builtin.zeroCells z.cells (N - (0 + n))).toList) (by simp) ?_ e3 e4 e5
            simp [Builtin.zeroCells, hzs, hnews, hnl, hcof, h2]
          · simp [conc, concS, upd_self]; omega
        · simp at h
      | some A =>
        simp only [concS] at hb
        split at hb
        · rename_i L hL
          injection hb with hb; subst hb
          simp only at h
          split at h
          · rename_i k zz tt e' md hg
            simp only [Nat.ble_eq, Nat.beq_eq, Bool.and_eq_true] at h
            split at h
            · rename_i hle
              have hA : concA φ A = some ⟨L.blk, L.base + A.2, none⟩ := by simp [concA, hL]
              have hld : ldCells s A (len * te.size) = some (cellsV zz tt A.2 (len * te.size)) := by
                simp [ldCells, hg, cond_eq_ite, hle]
              obtain ⟨olds, o1, o2, o3⟩ := ld_cells hs hld hA
              have hold : ∀ C w', w'.heap = w.heap → (Builtin.firstCells i.size len (.slice (some ⟨L.blk, L.base + A.2, none⟩) len C)).run P w' = .ok olds.toArray w' := fun C w' hw => by
                simp only [Builtin.firstCells]
                refine run_loadCells_of (by rw [o2, h2]) fun j v hj => ?_
                have := o3 j v hj
                simpa [World.cell?, hw] using this
              split at h
              · rename_i hop
                subst hop
                split at h
                · rename_i hcond
                  obtain ⟨⟨⟨⟨rfl, rfl⟩, ho0⟩, hk⟩, rfl⟩ := hcond
                  simp at h; obtain ⟨rfl, rfl⟩ := h
                  simp only [if_true] at *
                  have hnone : φ s.next = none := by
                    cases hq : φ s.next with
                    | none => rfl
                    | some M => have := hs.bnd _ _ hq; omega
                  have hlt := hs.dom _ _ hg
                  have hob := hs.obj _ _ _ hg hL
                  by_cases hfit2 : len + n ≤ len + L.spare
                  · obtain ⟨cells, fr, b1, b2, b3, b4, b5⟩ := hob
                    have hmul : n * te.size ≤ L.spare * te.size := Nat.mul_le_mul_right _ (by omega)
                    rw [hcof] at b3
                    obtain ⟨cs', r1, r2, r3⟩ := run_storeCells (P := P) news 0 w L.blk (L.base + len * te.size) cells e' fr b1 b2 (by omega) (concL_cell hnew)
                    have hblk : L.blk < w.heap.size := objRel_lt (φ := φ) (P := P) (o := .arr k zz tt e' true) ⟨cells, fr, b1, b2, by rw [hcof]; exact b3, b4, b5⟩
                    refine ⟨φ.upd s.next ⟨L.blk, L.base, L.spare - n⟩, .slice (some ⟨L.blk, L.base + A.2, none⟩) (len + n) (len + L.spare), { w with heap := w.heap.setIfInBounds L.blk (.cells cs' e' fr) }, ?_, Post.moved hs hg hL rfl (L' := ⟨L.blk, L.base, L.spare - n⟩) rfl (s' := (alloc { s with hp := s.hp.del A.1 } (.arr ((len + n) * te.size) zz (setCells tt (len * te.size) new) e' true)).2) (o' := .arr ((len + n) * te.size) zz (setCells tt (len * te.size) new) e' true) rfl ?_ rfl rfl rfl (by simp) ?_ ?_, ?_⟩
                    · rw [run_append_fits hd h1 h3 h4 hzs hd' hsr hfit2]
                      have : (⟨L.blk, L.base + A.2, none⟩ : Addr).add (len * i.size) = ⟨L.blk, L.base + len * te.size, none⟩ := by rw [Addr.add_none, h2]; congr 1; omega
                      simp only [this, Sem.run_bind, r1, Result.andThen_ok, Sem.run_pure]
                    · intro j
                      simp only [alloc, PT.get_set, PT.get_del]
                    · intro b hb; simp only []; rw [Array.getElem?_setIfInBounds_ne (fun e => hb e.symm)]
                    · refine ⟨cs', fr, by simp [hblk], by rw [r2]; exact b2, ?_, fun h => by simp at h, fun j hj => ?_⟩
                      · have e1 : (len + n) * te.size = len * te.size + n * te.size := Nat.add_mul _ _ _
                        have e2 : (L.spare - n) * te.size = L.spare * te.size - n * te.size := Nat.sub_mul _ _ _
                        simp only [hcof, r2, b3, e1, e2]
                        omega
                      · rw [Nat.add_mul] at hj
                        simp only [r3]
                        by_cases hin : len * te.size ≤ j
                        · rw [if_pos (by omega)]
                          have hlt2 : j - len * te.size < new.length := by omega
                          obtain ⟨y, hy, hc⟩ := concL_get hnew (j - len * te.size) new[j - len * te.size] (by simp [hlt2])
                          refine ⟨y, ?_, ?_⟩
                          · rw [← hy]; congr 1; omega
                          · rw [cellV_setCells zz new tt (len * te.size) j ⟨hin, by omega⟩ new[j - len * te.size] (by simp [hlt2])]
                            exact concS_mono (Phi.le_upd _ hnone) hc
                        · rw [if_neg (by omega), cellV_setCells_other zz new tt (len * te.size) j (by omega)]
                          obtain ⟨y, hy, hc⟩ := b5 j (by omega)
                          exact ⟨y, hy, concS_mono (Phi.le_upd _ hnone) hc⟩
                    · simp [conc, concS, upd_self, ho0]; omega
                  · obtain ⟨N, w1, e1, e2, e3, e4, e5, e6⟩ := run_append_grows (ty := ty) hd h1 h3 h4 hzs hd' hsr (base := some ⟨L.blk, L.base + A.2, none⟩) (len := len) (C := len + L.spare) hfit2 hlim (hold _)
                    refine ⟨φ.upd s.next ⟨w.heap.size, 0, N - (len + n)⟩, _, _, e6, ?_, ?_⟩
                    · have hdrop := Post.drop hs (i := A.1) hL
                      refine Post.trans hs hdrop ?_
                      refine new_open (s := { s with hp := s.hp.del A.1 }) hdrop.sat (concL_append o1 hnew) (by simp [cellsV_length, hnl, Nat.add_mul]) ?_ (rest := (Builtin.zeroCells z.cells (N - (len + n))).toList) (by simp) ?_ e3 e4 e5
                      · intro j c hj hc
                        by_cases hin : len * te.size ≤ j
                        · rw [List.getElem?_append_right (by simp [cellsV_length]; exact hin), cellsV_length] at hc
                          rw [Nat.add_mul] at hj
                          exact cellV_setCells zz new tt (len * te.size) j ⟨hin, by omega⟩ c hc
                        · rw [List.getElem?_append_left (by simp [cellsV_length]; omega), cellsV_get _ _ _ _ _ (by omega)] at hc
                          injection hc with hc
                          rw [cellV_setCells_other zz new tt (len * te.size) j (by omega), ← hc, ho0, Nat.zero_add]
                      · simp [Builtin.zeroCells, hzs, hnews, hnl, hcof, h2, o2, Nat.add_mul]
                    · simp [conc, concS, upd_self]; omega
                · simp at h
              · rename_i hop
                simp at hop; subst hop
                simp at h; obtain ⟨rfl, rfl⟩ := h
                simp only [Bool.false_eq_true, if_false, Nat.add_zero] at *
                obtain ⟨N, w1, e1, e2, e3, e4, e5, e6⟩ := run_append_grows (ty := ty) hd h1 h3 h4 hzs hd' hsr (base := some ⟨L.blk, L.base + A.2, none⟩) (len := len) (C := cap) hfit hlim (hold _)
                refine ⟨φ.upd s.next ⟨w.heap.size, 0, N - (len + n)⟩, _, _, e6, ?_, ?_⟩
                · refine new_open hs (concL_append o1 hnew) (by simp [cellsV_length, hnl, Nat.add_mul]) ?_ (rest := (Builtin.zeroCells z.cells (N - (len + n))).toList) (by simp) ?_ e3 e4 e5
                  · rw [show (len + n) * te.size = (cellsV zz tt A.2 (len * te.size) ++ new).length by simp [cellsV_length, hnl, Nat.add_mul]]
                    exact setCells_leaf_get _ _
                  · simp [Builtin.zeroCells, hzs, hnews, hnl, hcof, h2, o2, Nat.add_mul]
                · simp [conc, concS, upd_self]; omega
            · simp at h
          · rename_i k f hg
            simp only [Nat.ble_eq, Bool.and_eq_true, Bool.not_eq_true'] at h
            split at h
            · rename_i hle
              obtain ⟨hle, rfl⟩ := hle
              simp at h; obtain ⟨rfl, rfl⟩ := h
              have hA : concA φ A = some ⟨L.blk, L.base + A.2, none⟩ := by simp [concA, hL]
              have hld : ldCells s A (len * te.size) = some (cellsR f A.2 (len * te.size)) := by
                simp [ldCells, hg, cond_eq_ite, hle]
              obtain ⟨olds, o1, o2, o3⟩ := ld_cells hs hld hA
              have hold : ∀ C w', w'.heap = w.heap → (Builtin.firstCells i.size len (.slice (some ⟨L.blk, L.base + A.2, none⟩) len C)).run P w' = .ok olds.toArray w' := fun C w' hw => by
                simp only [Builtin.firstCells]
                refine run_loadCells_of (by rw [o2, h2]) fun j v hj => ?_
                have := o3 j v hj
                simpa [World.cell?, hw] using this
              simp only [Bool.false_eq_true, if_false, Nat.add_zero] at *
              obtain ⟨N, w1, e1, e2, e3, e4, e5, e6⟩ := run_append_grows (ty := ty) hd h1 h3 h4 hzs hd' hsr (base := some ⟨L.blk, L.base + A.2, none⟩) (len := len) (C := cap) hfit hlim (hold _)
              refine ⟨φ.upd s.next ⟨w.heap.size, 0, N - (len + n)⟩, _, _, e6, ?_, ?_⟩
              · refine new_open hs (concL_append o1 hnew) (by simp [cellsR_length, hnl, Nat.add_mul]) ?_ (rest := (Builtin.zeroCells z.cells (N - (len + n))).toList) (by simp) ?_ e3 e4 e5
                · rw [show (len + n) * te.size = (cellsR f A.2 (len * te.size) ++ new).length by simp [cellsR_length, hnl, Nat.add_mul]]
                  exact setCells_leaf_get _ _
                · simp [Builtin.zeroCells, hzs, hnews, hnl, hcof, h2, o2, Nat.add_mul]
              · simp [conc, concS, upd_self]; omega
            · simp at h
          · simp at h
        · simp at hb
    · simp at h
end
end Go.Mx
