/- Loads, stores and new variables, on the abstract state and on the world. -/
import Derived.Test.YtmookoajpcnigaaGreatMxC
namespace Go.Mx
open Go

theorem Addr.add_none (b o j : Nat) : (⟨b, o, none⟩ : Addr).add j = ⟨b, o + j, none⟩ := by
  unfold Addr.add
  by_cases h : j = 0
  · subst h; simp
  · rw [if_neg h]

theorem cell?_of {w : World} {b : Nat} {cs : Array Value} {e : TypeId} {fr : Nat × Nat} (h : w.heap[b]? = some (.cells cs e fr)) (o : Nat) :
    w.cell? ⟨b, o, none⟩ = cs[o]? := by
  simp [World.cell?, h]

theorem frozen?_of {w : World} {b : Nat} {cs : Array Value} {e : TypeId} {fr : Nat × Nat} (h : w.heap[b]? = some (.cells cs e fr)) (o : Nat) :
    w.frozen? ⟨b, o, none⟩ = (fr.1 ≤ o && o < fr.2) := by
  simp [World.frozen?, h]

theorem cellsV_length (z : Zr) (t : PT Sc) : ∀ (n k : Nat), (cellsV z t k n).length = n := by
  intro n
  induction n with
  | zero => intro k; rfl
  | succ n ih => intro k; simp [cellsV, ih]

theorem cellsV_get (z : Zr) (t : PT Sc) : ∀ (n k j : Nat), j < n → (cellsV z t k n)[j]? = some (cellV z t (k + j)) := by
  intro n
  induction n with
  | zero => intro k j h; omega
  | succ n ih =>
    intro k j h
    cases j with
    | zero => simp [cellsV]
    | succ j => simp only [cellsV, List.getElem?_cons_succ]; rw [ih _ _ (by omega)]; congr 2; omega

theorem cellsR_length (f : Nat → Sc) : ∀ (n k : Nat), (cellsR f k n).length = n := by
  intro n
  induction n with
  | zero => intro k; rfl
  | succ n ih => intro k; simp [cellsR, ih]

theorem cellsR_get (f : Nat → Sc) : ∀ (n k j : Nat), j < n → (cellsR f k n)[j]? = some (f (k + j)) := by
  intro n
  induction n with
  | zero => intro k j h; omega
  | succ n ih =>
    intro k j h
    cases j with
    | zero => simp [cellsR]
    | succ j => simp only [cellsR, List.getElem?_cons_succ]; rw [ih _ _ (by omega)]; congr 2; omega

theorem setCells_get : ∀ (vs : List Sc) (t : PT Sc) (k j : Nat), (setCells t k vs).get j = if k ≤ j ∧ j < k + vs.length then vs[j - k]? else t.get j := by
  intro vs
  induction vs with
  | nil => intro t k j; simp only [setCells, List.length_nil]; rw [if_neg (by omega)]
  | cons v r ih =>
    intro t k j
    simp only [setCells, ih, PT.get_set, List.length_cons]
    by_cases h1 : k + 1 ≤ j ∧ j < k + 1 + r.length
    · rw [if_pos h1, if_pos (by omega)]
      rw [show j - k = (j - (k + 1)) + 1 from by omega]; simp
    · rw [if_neg h1]
      by_cases h2 : j = k
      · subst h2; rw [if_pos rfl, if_pos (by omega)]; simp
      · rw [if_neg h2, if_neg (by omega)]

theorem cellV_setCells (z : Zr) (vs : List Sc) (t : PT Sc) (k j : Nat) (h : k ≤ j ∧ j < k + vs.length) (c : Sc) (hc : vs[j - k]? = some c) :
    cellV z (setCells t k vs) j = c := by
  unfold cellV; rw [setCells_get, if_pos h, hc]

theorem cellV_setCells_other (z : Zr) (vs : List Sc) (t : PT Sc) (k j : Nat) (h : ¬ (k ≤ j ∧ j < k + vs.length)) :
    cellV z (setCells t k vs) j = cellV z t j := by
  unfold cellV; rw [setCells_get, if_neg h]

section
variable {P : Program} {φ : Phi} {s : St} {w : World}

theorem concA_some {a : Nat × Nat} {A : Addr} (h : concA φ a = some A) : ∃ L, φ a.1 = some L ∧ A = ⟨L.blk, L.base + a.2, none⟩ := by
  unfold concA at h
  cases hq : φ a.1 with
  | none => simp [hq] at h
  | some L => simp [hq] at h; exact ⟨L, rfl, h.symm⟩

/-- cells that are read -/
theorem ld_cells (hs : Sat P φ s w) {a : Nat × Nat} {n : Nat} {cs : List Sc} (h : ldCells s a n = some cs) {A : Addr} (ha : concA φ a = some A) :
    ∃ vs, concL φ cs = some vs ∧ vs.length = n ∧ ∀ (j : Nat) (v : Value), vs[j]? = some v → w.cell? (A.add j) = some v := by
  obtain ⟨L, hL, rfl⟩ := concA_some ha
  unfold ldCells at h
  have fin : ∀ (N : Nat) (f : Nat → Sc) (cells : Array Value) (e : TypeId) (fr : Nat × Nat), w.heap[L.blk]? = some (.cells cells e fr) →
      (∀ k, k < N → ∃ v, cells[L.base + k]? = some v ∧ concS φ (f k) = some v) → a.2 + n ≤ N → cs.length = n → (∀ j, j < n → cs[j]? = some (f (a.2 + j))) →
      ∃ vs, concL φ cs = some vs ∧ vs.length = n ∧ ∀ (j : Nat) (v : Value), vs[j]? = some v → w.cell? ((⟨L.blk, L.base + a.2, none⟩ : Addr).add j) = some v := by
    intro N f cells e fr h1 h5 hle hlen hget
    refine ⟨(List.range n).map fun j => cells.getD (L.base + a.2 + j) undef, ?_, by simp, ?_⟩
    · refine concL_of (by simp [hlen]) fun k c hk => ?_
      have hkn : k < n := by
        rcases Nat.lt_or_ge k n with h | h
        · exact h
        · rw [List.getElem?_eq_none (by omega)] at hk; simp at hk
      obtain ⟨v, hv, hc⟩ := h5 (a.2 + k) (by omega)
      rw [hget k hkn] at hk; injection hk with hk; subst hk
      refine ⟨v, ?_, hc⟩
      have : cells[L.base + a.2 + k]? = some v := by rw [← hv]; congr 1; omega
      simp [hkn, Array.getD_eq_getD_getElem?, this]
    · intro j v hj
      have hjn : j < n := by
        rcases Nat.lt_or_ge j n with h | h
        · exact h
        · rw [List.getElem?_eq_none (by simpa using h)] at hj; simp at hj
      obtain ⟨u, hu, _⟩ := h5 (a.2 + j) (by omega)
      have hu' : cells[L.base + a.2 + j]? = some u := by rw [← hu]; congr 1; omega
      simp [hjn, Array.getD_eq_getD_getElem?, hu'] at hj
      rw [Addr.add_none, cell?_of h1, hu', hj]
  cases hg : s.hp.get a.1 with
  | none => simp [hg] at h
  | some o =>
    have hob := hs.obj _ _ _ hg hL
    cases o with
    | arr N z t e op =>
      simp only [hg, cond_eq_ite, Nat.ble_eq] at h
      split at h
      · rename_i hle
        injection h with h; subst h
        obtain ⟨cells, fr, h1, h2, h3, h4, h5⟩ := hob
        exact fin N (cellV z t) cells e fr h1 h5 hle (cellsV_length _ _ _ _) (fun j hj => cellsV_get _ _ _ _ _ hj)
      · simp at h
    | ro N f =>
      simp only [hg, cond_eq_ite, Nat.ble_eq] at h
      split at h
      · rename_i hle
        injection h with h; subst h
        obtain ⟨cells, e, fr, h1, h5⟩ := hob
        exact fin N f cells e fr h1 h5 hle (cellsR_length _ _ _) (fun j hj => cellsR_get _ _ _ _ hj)
      · simp at h
    | sy => simp [hg] at h
    | map => simp [hg] at h
    | chan => simp [hg] at h

theorem run_loadCells_of {A : Addr} {vs : List Value} {n : Nat} (hn : vs.length = n) (h : ∀ (j : Nat) (v : Value), vs[j]? = some v → w.cell? (A.add j) = some v) :
    (loadCells A n).run P w = .ok vs.toArray w := by
  subst hn; exact run_loadCells_list w A vs h

/-- cells that are written, one behind the other -/
theorem run_storeCells : ∀ (xs : List Value) (i : Nat) (w : World) (b o : Nat) (cs : Array Value) (e : TypeId) (fr : Nat × Nat),
    w.heap[b]? = some (.cells cs e fr) → (fr = (0, 0) ∨ fr = (cs.size, cs.size + 1)) → o + i + xs.length ≤ cs.size → (∀ x ∈ xs, x.oneCell' = true) →
    ∃ cs' : Array Value, (storeCells ⟨b, o, none⟩ xs i).run P w = .ok () { w with heap := w.heap.setIfInBounds b (.cells cs' e fr) } ∧ cs'.size = cs.size ∧
      ∀ k, cs'[k]? = if o + i ≤ k ∧ k < o + i + xs.length then xs[k - (o + i)]? else cs[k]? := by
  intro xs
  induction xs with
  | nil =>
    intro i w b o cs e fr h hf hle hx
    refine ⟨cs, ?_, rfl, fun k => by rw [if_neg (by simp only [List.length_nil]; omega)]⟩
    have : w.heap.setIfInBounds b (.cells cs e fr) = w.heap := by
      apply Array.ext_getElem?
      intro k
      by_cases hk : b = k
      · subst hk
        rw [Array.getElem?_setIfInBounds_self, h]
        rcases Nat.lt_or_ge b w.heap.size with hl | hl
        · simp [hl]
        · simp [Array.getElem?_eq_none hl] at h
      · rw [Array.getElem?_setIfInBounds_ne hk]
    simp [storeCells, this]
  | cons x r ih =>
    intro i w b o cs e fr h hf hle hx
    simp only [List.length_cons] at hle
    have hlt : o + i < cs.size := by omega
    have hfz : w.frozen? ⟨b, o + i, none⟩ = false := by
      rw [frozen?_of h]
      rcases hf with hf | hf <;> subst hf <;> simp <;> omega
    have hcell : w.cell? ⟨b, o + i, none⟩ = some cs[o + i] := by rw [cell?_of h]; simp [hlt]
    have hb : b < w.heap.size := by
      rcases Nat.lt_or_ge b w.heap.size with hl | hl
      · exact hl
      · simp [Array.getElem?_eq_none hl] at h
    have hset : w.setCell ⟨b, o + i, none⟩ x = { w with heap := w.heap.setIfInBounds b (.cells (cs.setIfInBounds (o + i) x) e fr) } := by
      simp only [World.setCell]
      congr 1
      apply Array.ext_getElem?
      intro k
      rw [Array.getElem?_modify]
      by_cases hk : b = k
      · subst hk
        rw [if_pos rfl, h, Array.getElem?_setIfInBounds_self, if_pos hb]; simp
      · rw [if_neg hk, Array.getElem?_setIfInBounds_ne hk]
    obtain ⟨cs', h1, h2, h3⟩ := ih (i + 1) { w with heap := w.heap.setIfInBounds b (.cells (cs.setIfInBounds (o + i) x) e fr) } b o (cs.setIfInBounds (o + i) x) e fr
      (by simp [hb]) (by simpa using hf) (by simp; omega) (fun y hy => hx y (by simp [hy]))
    refine ⟨cs', ?_, by simpa using h2, ?_⟩
    · simp only [storeCells, Sem.run_bind, Addr.add_none]
      rw [run_store P w _ _ _ (hx x (by simp)), hcell]
      simp only [hfz, Bool.false_eq_true, if_false, Result.andThen_ok]
      rw [hset, h1]
      simp [Array.setIfInBounds_setIfInBounds]
    · intro k
      rw [h3]
      by_cases hk : o + (i + 1) ≤ k ∧ k < o + (i + 1) + r.length
      · rw [if_pos hk, if_pos (by simp; omega), show k - (o + i) = (k - (o + (i + 1))) + 1 from by omega]; simp
      · rw [if_neg hk]
        by_cases hk2 : k = o + i
        · subst hk2; rw [if_pos (by simp)]; simp [hlt]
        · rw [if_neg (by simp; omega), Array.getElem?_setIfInBounds_ne (by omega)]

theorem concL_cell {l : List Sc} {x : List Value} (h : concL φ l = some x) : ∀ v ∈ x, v.oneCell' = true := by
  induction l generalizing x with
  | nil => simp [concL] at h; subst h; intro v hv; simp at hv
  | cons a r ih =>
    obtain ⟨u, y, h1, h2, rfl⟩ := concL_cons.1 h
    intro v hv
    rcases List.mem_cons.1 hv with rfl | hv
    · exact (concS_cell h1).1
    · exact ih h2 v hv

/-- a store -/
theorem st_cells (hs : Sat P φ s w) {a : Nat × Nat} {vs : List Sc} {s' : St} (h : stCells s a vs = some s') {A : Addr} (ha : concA φ a = some A) {xs : List Value}
    (hx : concL φ vs = some xs) : ∃ w', (storeCells A xs).run P w = .ok () w' ∧ Post P φ s w φ s' w' := by
  obtain ⟨L, hL, rfl⟩ := concA_some ha
  unfold stCells at h
  cases hg : s.hp.get a.1 with
  | none => simp [hg] at h
  | some ob =>
    have hob := hs.obj _ _ _ hg hL
    cases ob with
    | arr N z t e op =>
      simp only [hg, cond_eq_ite, Nat.ble_eq] at h
      split at h
      · rename_i hle
        injection h with h; subst h
        obtain ⟨cells, fr, h1, h2, h3, h4, h5⟩ := hob
        have hxl := concL_length hx
        obtain ⟨cs', r1, r2, r3⟩ := run_storeCells (P := P) xs 0 w L.blk (L.base + a.2) cells e fr h1 h2 (by omega) (concL_cell hx)
        refine ⟨_, r1, ?_⟩
        refine Post.upd hs hg hL rfl (o' := .arr N z (setCells t a.2 vs) e op) (s' := { s with hp := s.hp.set a.1 (.arr N z (setCells t a.2 vs) e op) }) rfl (fun j => by rw [PT.get_set]) rfl rfl rfl (by simp) ?_ ?_
        · intro b hb; simp only []; rw [Array.getElem?_setIfInBounds_ne (fun e => hb e.symm)]
        · have hb : L.blk < w.heap.size := objRel_lt (φ := φ) (P := P) (o := .arr N z t e op) ⟨cells, fr, h1, h2, h3, h4, h5⟩
          refine ⟨cs', fr, by simp [hb], by rw [r2]; exact h2, by rw [r2]; exact h3, h4, fun k hk => ?_⟩
          rw [r3]
          by_cases hin : a.2 ≤ k ∧ k < a.2 + vs.length
          · rw [if_pos (by omega)]
            have hlt : k - a.2 < vs.length := by omega
            obtain ⟨v, hv, hc⟩ := concL_get hx (k - a.2) vs[k - a.2] (by simp [hlt])
            rw [show L.base + k - (L.base + a.2 + 0) = k - a.2 from by omega]
            exact ⟨v, hv, by rw [cellV_setCells z vs t a.2 k hin vs[k - a.2] (by simp [hlt])]; exact hc⟩
          · rw [if_neg (by omega), cellV_setCells_other z vs t a.2 k hin]
            exact h5 k hk
      · simp at h
    | ro => simp [hg] at h
    | sy => simp [hg] at h
    | map => simp [hg] at h
    | chan => simp [hg] at h
end
end Go.Mx
