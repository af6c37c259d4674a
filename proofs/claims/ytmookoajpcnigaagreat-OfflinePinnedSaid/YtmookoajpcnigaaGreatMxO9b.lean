/- 'copy', 'clear'; what 'append' takes. -/
import Derived.Test.YtmookoajpcnigaaGreatMxO9
set_option linter.unusedSimpArgs false
namespace Go.Mx
open Go

section
variable {P : Program} {E : Env} {φ : Phi} {s s' : St} {w : World} {tm : Tm} {a : Act} {v : AV} {cf : CF} {o : Oper}

theorem Sat.heap (hs : Sat P φ s w) {w' : World} (h : w'.heap = w.heap) : Sat P φ s w' where
  obj := fun i o L h1 h2 => objRel_mono (Phi.le_refl φ) (by rw [h]) (hs.obj i o L h1 h2)
  inj := hs.inj
  bnd := hs.bnd
  dom := hs.dom

theorem lenS_run {u : AV} {x : Value} {n : Nat} (hc : conc P φ u = some x) (h : lenS u = some n) : (Builtin.lenOf x).run P w = .ok n w := by
  unfold lenS at h
  split at h
  · rename_i ad _ _ _
    injection h with h; subst h
    simp only [conc] at hc
    cases ad with
    | none => simp [concS] at hc; simp [← hc, Builtin.lenOf]
    | some ad =>
      simp only [concS] at hc
      split at hc
      · injection hc with hc; simp [← hc, Builtin.lenOf]
      · simp at hc
  · injection h with h; subst h
    simp only [conc, concS] at hc
    split at hc
    · injection hc with hc; simp [← hc, Builtin.lenOf]
    · simp at hc
  · injection h with h; subst h
    simp only [conc, concS] at hc
    injection hc with hc; simp [← hc, Builtin.lenOf, str_size]
  · simp at h

theorem bytes_conc : ∀ (l : List Nat), concL φ (l.map fun (x : Nat) => Sc.i .u8 (Int.ofNat (x % 256))) = some ((l.map UInt8.ofNat).map fun (b : UInt8) => Value.int .u8 b.toNat) := by
  intro l
  induction l with
  | nil => rfl
  | cons x r ih =>
    refine concL_cons.2 ⟨_, _, rfl, ih, ?_⟩
    simp

theorem src_ok (hs : Sat P φ s w) {u : AV} {x : Value} {n m sz : Nat} {cs : List Sc} (hc : conc P φ u = some x) (hn : lenS u = some m) (hle : n ≤ m) (h : srcCells s sz n u = some cs) :
    ∃ vs, concL φ cs = some vs ∧ ∀ w', w'.heap = w.heap → (Builtin.firstCells sz n x).run P w' = .ok vs.toArray w' := by
  unfold srcCells at h
  split at h
  · rename_i ad _ _ _
    simp only [conc, concS] at hc
    split at hc
    · rename_i L hL
      injection hc with hc; subst hc
      have hA : concA φ ad = some ⟨L.blk, L.base + ad.2, none⟩ := by simp [concA, hL]
      obtain ⟨vs, h1, h2, h3⟩ := ld_cells hs h hA
      refine ⟨vs, h1, fun w' hw => ?_⟩
      simp only [Builtin.firstCells]
      refine run_loadCells_of h2 fun j v hj => ?_
      have := h3 j v hj
      simpa [World.cell?, hw] using this
    · simp at hc
  · injection h with h; subst h
    simp [conc, concS] at hc; subst hc
    exact ⟨[], rfl, fun w' _ => by simp [Builtin.firstCells]⟩
  · injection h with h; subst h
    simp [lenS] at hn; subst hn
    obtain rfl : n = 0 := by omega
    simp only [conc, concS] at hc
    split at hc
    · injection hc with hc; subst hc
      refine ⟨[], rfl, fun w' _ => ?_⟩
      simp only [Builtin.firstCells]
      exact run_loadCells_of (by simp) (fun j v hj => by simp at hj)
    · simp at hc
  · rename_i l
    injection h with h; subst h
    simp only [conc, concS] at hc
    injection hc with hc; subst hc
    refine ⟨_, bytes_conc _, fun w' _ => ?_⟩
    simp only [Builtin.firstCells, Sem.run_pure]
    congr 1
    apply Array.ext'
    simp [str, ByteArray.data_extract, List.map_take]
  · simp at h

theorem bi_copy (hE : TyOk P E) (hs : Sat P φ s w) {tys : List Nat} {args : List Operand} {ty : Nat} {cs : Array Bool} (hev : ∀ x ∈ args, EvOk P φ tm a x)
    (h : builtinOp0 E tm s .copy tys args = some (v, s')) : Done P φ s w s' v ((builtin .copy tys.toArray ty cs (args.map a.eval).toArray).run P w) := by
  unfold builtinOp0 at h
  split at h <;> simp only [reduceCtorEq, false_and, and_false] at *
  all_goals try contradiction
  rename_i t _ x y _ _
  have hx := hev x (by simp)
  have hy := hev y (by simp)
  split at h
  · rename_i e _ _ ad len _ _ u ht hxe hye
    obtain ⟨d, hd, hdk, _⟩ := (hE _ _ ht).und
    simp only [KindOk] at hdk; subst hdk
    have hxc := evV_one hx hxe
    have hyc := hy _ hye
    split at h
    · rename_i te wl hte hwl
      obtain ⟨i, z, h1, h2, h3, h4, _⟩ := (hE _ _ hte).info
      split at h
      · rename_i cells hcells
        obtain ⟨vs, g1, g2⟩ := src_ok hs hyc hwl (Nat.min_le_left _ _) hcells
        have hlen := lenS_run (w := w) hyc hwl
        cases ad with
        | none =>
          simp at h; obtain ⟨rfl, rfl⟩ := h
          simp [concS] at hxc
          refine done_same (x := goInt (Nat.min wl len)) hs ?_ (by simp [conc, concS, goInt])
          simp only [builtin]
          refine run_v _ ?_
          have hf : (Builtin.firstCells i.size (Nat.min wl len) (a.eval y)).run P w = .ok vs.toArray w := by rw [h2]; exact g2 w rfl
          simp [Builtin.copy_, run_und hd, ← hxc, run_sizeOf h1, hlen, hf]
        | some ad =>
          simp only at h
          split at h
          · rename_i s2 hst
            simp at h; obtain ⟨rfl, rfl⟩ := h
            simp only [concS] at hxc
            split at hxc
            · rename_i L hL
              injection hxc with hxc
              have hA : concA φ ad = some ⟨L.blk, L.base + ad.2, none⟩ := by simp [concA, hL]
              obtain ⟨w', r1, r2⟩ := st_cells hs hst hA g1
              refine ⟨φ, goInt (Nat.min wl len), w', .inl ?_, r2, by simp [conc, concS, goInt]⟩
              simp only [builtin]
              refine run_v _ ?_
              have hf : (Builtin.firstCells i.size (Nat.min wl len) (a.eval y)).run P w = .ok vs.toArray w := by rw [h2]; exact g2 w rfl
              simp [Builtin.copy_, run_und hd, ← hxc, run_sizeOf h1, hlen, hf, r1]
            · simp at hxc
          · simp at h
      · simp at h
    · simp at h
  · simp at h

theorem bi_clear (hE : TyOk P E) (hs : Sat P φ s w) {tys : List Nat} {args : List Operand} {ty : Nat} {cs : Array Bool} (hev : ∀ x ∈ args, EvOk P φ tm a x)
    (h : builtinOp0 E tm s .clear tys args = some (v, s')) : Done P φ s w s' v ((builtin .clear tys.toArray ty cs (args.map a.eval).toArray).run P w) := by
  unfold builtinOp0 at h
  split at h <;> simp only [reduceCtorEq, false_and, and_false] at *
  all_goals try contradiction
  rename_i t _ x _ _
  have hx := hev x (by simp)
  have hu : conc P φ undefV = some undef := by simp [conc, concVs, undefV, undef]
  split at h
  · rename_i ht hxe
    obtain ⟨d, hd, hdk, _⟩ := (hE _ _ ht).und
    simp only [KindOk] at hdk; subst hdk
    simp at h; obtain ⟨rfl, rfl⟩ := h
    have hc := evV_one hx hxe
    simp [concS] at hc
    refine done_same (x := undef) hs ?_ hu
    simp only [builtin]
    refine run_v _ ?_
    simp [Builtin.clear_, run_und hd, ← hc, undef]
  · rename_i r ht hxe
    obtain ⟨d, hd, hdk, _⟩ := (hE _ _ ht).und
    simp only [KindOk] at hdk; subst hdk
    split at h
    · rename_i es c hg
      simp at h; obtain ⟨rfl, rfl⟩ := h
      obtain ⟨L, xs, hL, hxv, hheap, ha, hnd, hlt⟩ := map_of hs hx hxe hg
      refine ⟨φ, undef, { w with heap := w.heap.setIfInBounds L.blk (.map #[] c) }, .inl ?_, set_map hs hg hL .nil (by simp) (by simp), hu⟩
      simp only [builtin]
      refine run_v _ ?_
      simp [Builtin.clear_, run_und hd, hxv, run_getMap hheap, run_setMap _ hheap, undef]
    · simp at h
  · rename_i ht hxe
    obtain ⟨d, hd, hdk, _⟩ := (hE _ _ ht).und
    simp only [KindOk] at hdk; subst hdk
    simp at h; obtain ⟨rfl, rfl⟩ := h
    have hc := evV_one hx hxe
    simp [concS] at hc
    refine done_same (x := undef) hs ?_ hu
    simp only [builtin]
    refine run_v _ ?_
    simp [Builtin.clear_, run_und hd, ← hc, undef]
  · rename_i ht hxe
    obtain ⟨d, hd, hdk, _⟩ := (hE _ _ ht).und
    simp only [KindOk] at hdk; subst hdk
    simp at h; obtain ⟨rfl, rfl⟩ := h
    have hc := evV_one hx hxe
    simp only [concS] at hc
    split at hc
    · injection hc with hc
      refine done_same (x := undef) hs ?_ hu
      simp only [builtin]
      refine run_v _ ?_
      simp [Builtin.clear_, run_und hd, ← hc, undef]
    · simp at hc
  · rename_i e _ _ ad n _ _ hn0 ht hxe
    obtain ⟨d, hd, hdk, _⟩ := (hE _ _ ht).und
    simp only [KindOk] at hdk; subst hdk
    have hc := evV_one hx hxe
    simp only [concS] at hc
    split at hc
    · rename_i L hL
      injection hc with hc
      split at h
      · rename_i te hte
        obtain ⟨i, z, h1, h2, h3, h4, h5, h6⟩ := zero_row hE hte (φ := φ) n
        split at h
        · rename_i s2 hst
          simp at h; obtain ⟨rfl, rfl⟩ := h
          have hA : concA φ ad = some ⟨L.blk, L.base + ad.2, none⟩ := by simp [concA, hL]
          obtain ⟨w', r1, r2⟩ := st_cells hs hst hA h6
          refine ⟨φ, undef, w', .inl ?_, r2, hu⟩
          simp only [builtin]
          refine run_v _ ?_
          have hpos : ¬ n = 0 := by
            intro e; subst e
            exact hn0 rfl
          match n, hpos with
          | k + 1, _ =>
            have hzc : Builtin.zeroCells z.cells (k + 1) = (Array.range ((k + 1) * te.size)).map fun j => z.cells[j % z.cells.size]! := by
              simp [Builtin.zeroCells, h5]
            rw [← hzc] at r1
            simp [Builtin.clear_, run_und hd, ← hc, run_zeroValue h1 h4, r1, undef]
        · simp at h
      · simp at h
    · simp at hc
  · simp at h
end
end Go.Mx
