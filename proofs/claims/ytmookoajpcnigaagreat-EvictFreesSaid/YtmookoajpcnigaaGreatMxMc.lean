/- Parts of the abstract interpreter, in the order in which they build. -/
import Derived.Test.YtmookoajpcnigaaGreatMxMb
/- The built-in functions, but for 'append'. -/
set_option linter.unusedSimpArgs false
namespace Go.Mx
open Go

theorem str_size (l : List Nat) : (str l).size = l.length := by simp [str, ByteArray.size]

section
variable {P : Program} {E : Env} {φ : Phi} {s s' : St} {w : World} {tm : Tm} {a : Act} {v : AV} {cf : CF} {o : Oper}

theorem run_builtin {c : Call} {b : Builtin} (ho : o.op = .call c) (hb : c.callee = .builtin b) :
    (execOp a.eval o).run P w = (builtin b c.argTypes o.type (c.args.map fun | .const _ => true | _ => false) (c.args.map a.eval)).run P w := by
  simp [execOp, ho, resolve, hb, invoke]
  rfl

theorem evV_one {x : Operand} {c : Sc} (hx : EvOk P φ tm a x) (h : ev tm x = some (.one c)) : concS φ c = some (a.eval x) := hx _ h

theorem bi_len (hE : TyOk P E) (hs : Sat P φ s w) {tys : List Nat} {args : List Operand} {ty : Nat} {cs : Array Bool} (hev : ∀ x ∈ args, EvOk P φ tm a x)
    (h : builtinOp0 E tm s .len tys args = some (v, s')) : Done P φ s w s' v ((builtin .len tys.toArray ty cs (args.map a.eval).toArray).run P w) := by
  unfold builtinOp0 at h
  split at h <;> simp only [reduceCtorEq, false_and, and_false] at *
  all_goals try contradiction
  rename_i t tr x xr _
  have hx := hev x (by simp)
  have fin : ∀ n : Nat, (Builtin.len_ (t :: tr).toArray ty (List.map a.eval (x :: xr)).toArray).run P w = .ok (goInt n) w → v = .one (.i .i64 n) → s' = s →
      Done P φ s w s' v ((builtin .len (t :: tr).toArray ty cs (List.map a.eval (x :: xr)).toArray).run P w) := fun n hn hv hs' => by
    subst hv; subst hs'
    exact done_same hs (by simpa [builtin] using run_v _ hn) (by simp [conc, concS, goInt])
  split at h
  · rename_i ht
    obtain ⟨d, hd, hk, _⟩ := (hE _ _ ht).und
    simp only [KindOk] at hk; subst hk
    simp at h
    exact fin _ (by simp [Builtin.len_, run_und hd]) h.1.symm h.2.symm
  · rename_i ti hnarr ht
    obtain ⟨d, hd, hk, _⟩ := (hE _ _ ht).und
    split at h
    · rename_i u hu
      split at h
      · rename_i n hn
        simp at h
        refine fin n ?_ h.1.symm h.2.symm
        have hc := hx _ hu
        unfold lenV at hn
        split at hn
        · rename_i ad n' cp op hkk; rw [hkk] at hk; simp only [KindOk] at hk; subst hk
          injection hn with hn; subst hn
          simp only [conc] at hc
          cases ad with
          | none => simp [concS] at hc; simp [Builtin.len_, run_und hd, ← hc]
          | some ad =>
            simp only [concS] at hc
            split at hc
            · injection hc with hc; simp [Builtin.len_, run_und hd, ← hc]
            · simp at hc
        · rename_i hkk; rw [hkk] at hk; simp only [KindOk] at hk; subst hk
          injection hn with hn; subst hn
          simp only [conc, concS] at hc
          split at hc
          · injection hc with hc; simp [Builtin.len_, run_und hd, ← hc]
          · simp at hc
        · rename_i hkk; rw [hkk] at hk; simp only [KindOk] at hk; subst hk
          injection hn with hn; subst hn
          simp only [conc, concS] at hc
          injection hc with hc; simp [Builtin.len_, run_und hd, ← hc, str_size]
        · rename_i hkk; rw [hkk] at hk; simp only [KindOk] at hk; subst hk
          injection hn with hn; subst hn
          simp only [conc, concS] at hc
          injection hc with hc; simp [Builtin.len_, run_und hd, ← hc]
        · rename_i r hkk; rw [hkk] at hk; simp only [KindOk] at hk; subst hk
          split at hn
          · rename_i es c hg
            injection hn with hn; subst hn
            obtain ⟨L, xs, h1, h2, h3, h4, _⟩ := map_of hs hx hu hg
            simp [Builtin.len_, run_und hd, h2, run_getMap h3, h4.length]
          · simp at hn
        · simp at hn
      · simp at h
    · simp at h
  · simp at h

theorem bi_cap (hE : TyOk P E) (hs : Sat P φ s w) {tys : List Nat} {args : List Operand} {ty : Nat} {cs : Array Bool} (hev : ∀ x ∈ args, EvOk P φ tm a x)
    (h : builtinOp0 E tm s .cap tys args = some (v, s')) : Done P φ s w s' v ((builtin .cap tys.toArray ty cs (args.map a.eval).toArray).run P w) := by
  unfold builtinOp0 at h
  split at h <;> simp only [reduceCtorEq, false_and, and_false] at *
  all_goals try contradiction
  rename_i t _ x _ _
  have hx := hev x (by simp)
  split at h
  · rename_i ad n c ht hu
    obtain ⟨d, hd, hk, _⟩ := (hE _ _ ht).und
    simp only [KindOk] at hk; subst hk
    simp at h; obtain ⟨rfl, rfl⟩ := h
    have hc := evV_one hx hu
    refine done_same (x := goInt c) hs ?_ (by simp [conc, concS, goInt])
    simp only [builtin]
    refine run_v _ ?_
    cases ad with
    | none => simp [concS] at hc; simp [Builtin.cap_, run_und hd, ← hc]
    | some ad =>
      simp only [concS] at hc
      split at hc
      · injection hc with hc; simp [Builtin.cap_, run_und hd, ← hc]
      · simp at hc
  · simp at h

theorem fold_mm (mn : Bool) {k : IntKind} : ∀ (xs : List Operand) (n m : Int), (∀ x ∈ xs, EvOk P φ tm a x) → foldMM mn tm k n xs = some m →
    ((xs.map a.eval).foldlM (if mn then Builtin.min2 else Builtin.max2) (.int k n) : Sem Value).run P w = .ok (.int k m) w := by
  intro xs
  induction xs with
  | nil => intro n m _ h; simp [foldMM] at h; subst h; simp
  | cons x r ih =>
    intro n m hev h
    simp only [foldMM] at h
    split at h
    · rename_i k' y hy
      have hv := evI_of (hev x (by simp)) hy
      have g := ih _ m (fun x hx => hev x (by simp [hx])) h
      cases mn with
      | true =>
        simp only [List.map_cons, List.foldlM_cons, Sem.run_bind, hv, if_true, Builtin.min2, Sem.run_pure, Result.andThen_ok] at g ⊢
        simpa [minI, cond_eq_ite] using g
      | false =>
        simp only [List.map_cons, List.foldlM_cons, Sem.run_bind, hv, Bool.false_eq_true, if_false, Builtin.max2, Sem.run_pure, Result.andThen_ok] at g ⊢
        simpa [maxI, cond_eq_ite] using g
    · simp at h

theorem bi_min (hs : Sat P φ s w) {tys : List Nat} {args : List Operand} {ty : Nat} {cs : Array Bool} (hev : ∀ x ∈ args, EvOk P φ tm a x)
    (h : builtinOp0 E tm s .min tys args = some (v, s')) : Done P φ s w s' v ((builtin .min tys.toArray ty cs (args.map a.eval).toArray).run P w) := by
  unfold builtinOp0 at h
  split at h <;> simp only [reduceCtorEq, false_and, and_false] at *
  all_goals try contradiction
  rename_i x r _
  split at h
  · rename_i k n hn
    split at h
    · rename_i m hm
      simp at h; obtain ⟨rfl, rfl⟩ := h
      refine done_same (x := .int k m) hs ?_ (by simp [conc, concS])
      simp only [builtin]
      refine run_v _ ?_
      have := fold_mm (w := w) true r n m (fun x hx => hev x (by simp [hx])) hm
      simpa [Builtin.min_, evI_of (hev x (by simp)) hn] using this
    · simp at h
  · simp at h

theorem bi_max (hs : Sat P φ s w) {tys : List Nat} {args : List Operand} {ty : Nat} {cs : Array Bool} (hev : ∀ x ∈ args, EvOk P φ tm a x)
    (h : builtinOp0 E tm s .max tys args = some (v, s')) : Done P φ s w s' v ((builtin .max tys.toArray ty cs (args.map a.eval).toArray).run P w) := by
  unfold builtinOp0 at h
  split at h <;> simp only [reduceCtorEq, false_and, and_false] at *
  all_goals try contradiction
  rename_i x r _
  split at h
  · rename_i k n hn
    split at h
    · rename_i m hm
      simp at h; obtain ⟨rfl, rfl⟩ := h
      refine done_same (x := .int k m) hs ?_ (by simp [conc, concS])
      simp only [builtin]
      refine run_v _ ?_
      have := fold_mm (w := w) false r n m (fun x hx => hev x (by simp [hx])) hm
      simpa [Builtin.max_, evI_of (hev x (by simp)) hn] using this
    · simp at h
  · simp at h

theorem bi_delete (hE : TyOk P E) (hs : Sat P φ s w) {tys : List Nat} {args : List Operand} {ty : Nat} {cs : Array Bool} (hev : ∀ x ∈ args, EvOk P φ tm a x)
    (h : builtinOp0 E tm s .delete tys args = some (v, s')) : Done P φ s w s' v ((builtin .delete tys.toArray ty cs (args.map a.eval).toArray).run P w) := by
  unfold builtinOp0 at h
  split at h <;> simp only [reduceCtorEq, false_and, and_false] at *
  all_goals try contradiction
  rename_i t _ x y _ _
  have hx := hev x (by simp)
  have hy := hev y (by simp)
  split at h
  · rename_i kt e _ _ k ht hxe hke
    obtain ⟨d, hd, hdk, _⟩ := (hE _ _ ht).und
    simp only [KindOk] at hdk; subst hdk
    have hkv := evV_of hE hy hke
    simp only [cond_eq_ite] at h
    split at h
    · rename_i hko
      simp at h; obtain ⟨rfl, rfl⟩ := h
      have hc := evV_one hx hxe
      simp [concS] at hc
      refine done_same (x := undef) hs ?_ (by simp [conc, concVs, undefV, undef])
      simp only [builtin]
      refine run_v _ ?_
      simp [Builtin.delete_, run_und hd, ← hc, checkKey_ok hE hko hkv, undef]
    · simp at h
  · rename_i kt e _ _ r k ht hxe hke
    obtain ⟨d, hd, hdk, _⟩ := (hE _ _ ht).und
    simp only [KindOk] at hdk; subst hdk
    have hkv := evV_of hE hy hke
    split at h
    · rename_i es c hg
      simp only [cond_eq_ite] at h
      have hko : keyOk E kt k = true := by
        cases hq : keyOk E kt k with
        | true => rfl
        | false => simp [hq] at h
      rw [if_pos hko] at h
      obtain ⟨L, xs, hL, hxv, hheap, ha, hnd, hlt⟩ := map_of hs hx hxe hg
      split at h
      · rename_i m hm
        simp at h; obtain ⟨rfl, rfl⟩ := h
        obtain ⟨res, hf, hnone, hsome⟩ := findKey_ok hE hko hkv ha hm w
        cases m with
        | none =>
          obtain rfl := hnone rfl
          refine ⟨φ, undef, { w with heap := w.heap.setIfInBounds L.blk (.map xs c) }, .inl ?_, set_map hs hg hL ?_ ?_ ?_, by simp [conc, concVs, undefV, undef]⟩
          · simp only [builtin]
            refine run_v _ ?_
            simp [Builtin.delete_, run_und hd, hxv, run_getMap hheap, checkKey_ok hE hko hkv, hf, run_setMap _ hheap, undef]
          · rw [delK_none hm]; exact ha
          · rw [delK_none hm]; exact hnd
          · rw [delK_none hm]; exact hlt
        | some m =>
          obtain ⟨pre, post, xp, z, xq, rfl, hxs, hl, h1, h2, h3, h4, h5, rfl⟩ := hsome _ rfl
          refine ⟨φ, undef, { w with heap := w.heap.setIfInBounds L.blk (.map (xs.eraseIdxIfInBounds pre.length) c) }, .inl ?_, set_map hs hg hL ?_ ?_ ?_, by simp [conc, concVs, undefV, undef]⟩
          · simp only [builtin]
            refine run_v _ ?_
            simp [Builtin.delete_, run_und hd, hxv, run_getMap hheap, checkKey_ok hE hko hkv, hf, run_setMap _ hheap, undef]
          · rw [delK_form h5 h4, Array.toList_eraseIdxIfInBounds, hxs, ← hl, erase_at]
            exact h1.append h3
          · rw [delK_form h5 h4]
            simp only [List.map_append, List.map_cons] at hnd ⊢
            exact hnd.sublist (List.Sublist.append (List.Sublist.refl _) (List.sublist_cons_self _ _))
          · rw [delK_form h5 h4]
            intro q hq
            simp at hq
            rcases hq with hq | hq
            · exact hlt q (by simp [hq])
            · exact hlt q (by simp [hq])
      · simp at h
    · simp at h
  · simp at h
end
end Go.Mx

/- 'copy', 'clear'; what 'append' takes. -/
set_option linter.unusedSimpArgs false
namespace Go.Mx
open Go

section
variable {P : Program} {E : Env} {φ : Phi} {s s' : St} {w : World} {tm : Tm} {a : Act} {v : AV} {cf : CF} {o : Oper}

theorem Sat.heap (hs : Sat P φ s w) {w' : World} (h : w'.heap = w.heap) : Sat P φ s w' where
  obj := fun i o L h1 h2 => objRel_mono (Phi.le_refl φ) (by rw [h]) (hs.obj i o L h1 h2)
  inj := hs.inj
  bnd := hs.bnd
  dom := hs.dom

theorem lenS_run {u : AV} {x : Value} {n : Nat} (hc : conc P φ u = some x) (h : lenS u = some n) : (Builtin.lenOf x).run P w = .ok n w := by
  unfold lenS at h
  split at h
  · rename_i ad _ _ _
    injection h with h; subst h
    simp only [conc] at hc
    cases ad with
    | none => simp [concS] at hc; simp [← hc, Builtin.lenOf]
    | some ad =>
      simp only [concS] at hc
      split at hc
      · injection hc with hc; simp [← hc, Builtin.lenOf]
      · simp at hc
  · injection h with h; subst h
    simp only [conc, concS] at hc
    split at hc
    · injection hc with hc; simp [← hc, Builtin.lenOf]
    · simp at hc
  · injection h with h; subst h
    simp only [conc, concS] at hc
    injection hc with hc; simp [← hc, Builtin.lenOf, str_size]
  · simp at h

theorem bytes_conc : ∀ (l : List Nat), concL φ (l.map fun (x : Nat) => Sc.i .u8 (Int.ofNat (x % 256))) = some ((l.map UInt8.ofNat).map fun (b : UInt8) => Value.int .u8 b.toNat) := by
  intro l
  induction l with
  | nil => rfl
  | cons x r ih =>
    refine concL_cons.2 ⟨_, _, rfl, ih, ?_⟩
    simp

theorem src_ok (hs : Sat P φ s w) {u : AV} {x : Value} {n m sz : Nat} {cs : List Sc} (hc : conc P φ u = some x) (hn : lenS u = some m) (hle : n ≤ m) (h : srcCells s sz n u = some cs) :
    ∃ vs, concL φ cs = some vs ∧ ∀ w', w'.heap = w.heap → (Builtin.firstCells sz n x).run P w' = .ok vs.toArray w' := by
  unfold srcCells at h
  split at h
  · rename_i ad _ _ _
    simp only [conc, concS] at hc
    split at hc
    · rename_i L hL
      injection hc with hc; subst hc
      have hA : concA φ ad = some ⟨L.blk, L.base + ad.2, none⟩ := by simp [concA, hL]
      obtain ⟨vs, h1, h2, h3⟩ := ld_cells hs h hA
      refine ⟨vs, h1, fun w' hw => ?_⟩
      simp only [Builtin.firstCells]
      refine run_loadCells_of h2 fun j v hj => ?_
      have := h3 j v hj
      simpa [World.cell?, hw] using this
    · simp at hc
  · injection h with h; subst h
    simp [conc, concS] at hc; subst hc
    exact ⟨[], rfl, fun w' _ => by simp [Builtin.firstCells]⟩
  · injection h with h; subst h
    simp [lenS] at hn; subst hn
    obtain rfl : n = 0 := by omega
    simp only [conc, concS] at hc
    split at hc
    · injection hc with hc; subst hc
      refine ⟨[], rfl, fun w' _ => ?_⟩
      simp only [Builtin.firstCells]
      exact run_loadCells_of (by simp) (fun j v hj => by simp at hj)
    · simp at hc
  · rename_i l
    injection h with h; subst h
    simp only [conc, concS] at hc
    injection hc with hc; subst hc
    refine ⟨_, bytes_conc _, fun w' _ => ?_⟩
    simp only [Builtin.firstCells, Sem.run_pure]
    congr 1
    apply Array.ext'
    simp [str, ByteArray.data_extract, List.map_take]
  · simp at h

theorem bi_copy (hE : TyOk P E) (hs : Sat P φ s w) {tys : List Nat} {args : List Operand} {ty : Nat} {cs : Array Bool} (hev : ∀ x ∈ args, EvOk P φ tm a x)
    (h : builtinOp0 E tm s .copy tys args = some (v, s')) : Done P φ s w s' v ((builtin .copy tys.toArray ty cs (args.map a.eval).toArray).run P w) := by
  unfold builtinOp0 at h
  split at h <;> simp only [reduceCtorEq, false_and, and_false] at *
  all_goals try contradiction
  rename_i t _ x y _ _
  have hx := hev x (by simp)
  have hy := hev y (by simp)
  split at h
  · rename_i e _ _ ad len _ _ u ht hxe hye
    obtain ⟨d, hd, hdk, _⟩ := (hE _ _ ht).und
    simp only [KindOk] at hdk; subst hdk
    have hxc := evV_one hx hxe
    have hyc := hy _ hye
    split at h
    · rename_i te wl hte hwl
      obtain ⟨i, z, h1, h2, h3, h4, _⟩ := (hE _ _ hte).info
      split at h
      · rename_i cells hcells
        obtain ⟨vs, g1, g2⟩ := src_ok hs hyc hwl (Nat.min_le_left _ _) hcells
        have hlen := lenS_run (w := w) hyc hwl
        cases ad with
        | none =>
          simp at h; obtain ⟨rfl, rfl⟩ := h
          simp [concS] at hxc
          refine done_same (x := goInt (Nat.min wl len)) hs ?_ (by simp [conc, concS, goInt])
          simp only [builtin]
          refine run_v _ ?_
          have hf : (Builtin.firstCells i.size (Nat.min wl len) (a.eval y)).run P w = .ok vs.toArray w := by rw [h2]; exact g2 w rfl
          simp [Builtin.copy_, run_und hd, ← hxc, run_sizeOf h1, hlen, hf]
        | some ad =>
          simp only at h
          split at h
          · rename_i s2 hst
            simp at h; obtain ⟨rfl, rfl⟩ := h
            simp only [concS] at hxc
            split at hxc
            · rename_i L hL
              injection hxc with hxc
              have hA : concA φ ad = some ⟨L.blk, L.base + ad.2, none⟩ := by simp [concA, hL]
              obtain ⟨w', r1, r2⟩ := st_cells hs hst hA g1
              refine ⟨φ, goInt (Nat.min wl len), w', .inl ?_, r2, by simp [conc, concS, goInt]⟩
              simp only [builtin]
              refine run_v _ ?_
              have hf : (Builtin.firstCells i.size (Nat.min wl len) (a.eval y)).run P w = .ok vs.toArray w := by rw [h2]; exact g2 w rfl
              simp [Builtin.copy_, run_und hd, ← hxc, run_sizeOf h1, hlen, hf, r1]
            · simp at hxc
          · simp at h
      · simp at h
    · simp at h
  · simp at h

theorem bi_clear (hE : TyOk P E) (hs : Sat P φ s w) {tys : List Nat} {args : List Operand} {ty : Nat} {cs : Array Bool} (hev : ∀ x ∈ args, EvOk P φ tm a x)
    (h : builtinOp0 E tm s .clear tys args = some (v, s')) : Done P φ s w s' v ((builtin .clear tys.toArray ty cs (args.map a.eval).toArray).run P w) := by
  unfold builtinOp0 at h
  split at h <;> simp only [reduceCtorEq, false_and, and_false] at *
  all_goals try contradiction
  rename_i t _ x _ _
  have hx := hev x (by simp)
  have hu : conc P φ undefV = some undef := by simp [conc, concVs, undefV, undef]
  split at h
  · rename_i ht hxe
    obtain ⟨d, hd, hdk, _⟩ := (hE _ _ ht).und
    simp only [KindOk] at hdk; subst hdk
    simp at h; obtain ⟨rfl, rfl⟩ := h
    have hc := evV_one hx hxe
    simp [concS] at hc
    refine done_same (x := undef) hs ?_ hu
    simp only [builtin]
    refine run_v _ ?_
    simp [Builtin.clear_, run_und hd, ← hc, undef]
  · rename_i r ht hxe
    obtain ⟨d, hd, hdk, _⟩ := (hE _ _ ht).und
    simp only [KindOk] at hdk; subst hdk
    split at h
    · rename_i es c hg
      simp at h; obtain ⟨rfl, rfl⟩ := h
      obtain ⟨L, xs, hL, hxv, hheap, ha, hnd, hlt⟩ := map_of hs hx hxe hg
      refine ⟨φ, undef, { w with heap := w.heap.setIfInBounds L.blk (.map #[] c) }, .inl ?_, set_map hs hg hL .nil (by simp) (by simp), hu⟩
      simp only [builtin]
      refine run_v _ ?_
      simp [Builtin.clear_, run_und hd, hxv, run_getMap hheap, run_setMap _ hheap, undef]
    · simp at h
  · rename_i ht hxe
    obtain ⟨d, hd, hdk, _⟩ := (hE _ _ ht).und
    simp only [KindOk] at hdk; subst hdk
    simp at h; obtain ⟨rfl, rfl⟩ := h
    have hc := evV_one hx hxe
    simp [concS] at hc
    refine done_same (x := undef) hs ?_ hu
    simp only [builtin]
    refine run_v _ ?_
    simp [Builtin.clear_, run_und hd, ← hc, undef]
  · rename_i ht hxe
    obtain ⟨d, hd, hdk, _⟩ := (hE _ _ ht).und
    simp only [KindOk] at hdk; subst hdk
    simp at h; obtain ⟨rfl, rfl⟩ := h
    have hc := evV_one hx hxe
    simp only [concS] at hc
    split at hc
    · injection hc with hc
      refine done_same (x := undef) hs ?_ hu
      simp only [builtin]
      refine run_v _ ?_
      simp [Builtin.clear_, run_und hd, ← hc, undef]
    · simp at hc
  · rename_i e _ _ ad n _ _ hn0 ht hxe
    obtain ⟨d, hd, hdk, _⟩ := (hE _ _ ht).und
    simp only [KindOk] at hdk; subst hdk
    have hc := evV_one hx hxe
    simp only [concS] at hc
    split at hc
    · rename_i L hL
      injection hc with hc
      split at h
      · rename_i te hte
        obtain ⟨i, z, h1, h2, h3, h4, h5, h6⟩ := zero_row hE hte (φ := φ) n
        split at h
        · rename_i s2 hst
          simp at h; obtain ⟨rfl, rfl⟩ := h
          have hA : concA φ ad = some ⟨L.blk, L.base + ad.2, none⟩ := by simp [concA, hL]
          obtain ⟨w', r1, r2⟩ := st_cells hs hst hA h6
          refine ⟨φ, undef, w', .inl ?_, r2, hu⟩
          simp only [builtin]
          refine run_v _ ?_
          have hpos : ¬ n = 0 := by
            intro e; subst e
            exact hn0 rfl
          match n, hpos with
          | k + 1, _ =>
            have hzc : Builtin.zeroCells z.cells (k + 1) = (Array.range ((k + 1) * te.size)).map fun j => z.cells[j % z.cells.size]! := by
              simp [Builtin.zeroCells, h5]
            rw [← hzc] at r1
            simp [Builtin.clear_, run_und hd, ← hc, run_zeroValue h1 h4, r1, undef]
        · simp at h
      · simp at h
    · simp at hc
  · simp at h
end
end Go.Mx

/- 'append': the model's run. -/
set_option linter.unusedSimpArgs false
namespace Go.Mx
open Go

theorem growBy_le (new : Nat) : ∀ (r c : Nat), Builtin.growBy new r c + 768 ≤ (c + 768) * 2 ^ r := by
  intro r
  induction r with
  | zero => intro c; simp [Builtin.growBy]
  | succ r ih =>
    intro c
    simp only [Builtin.growBy]
    split
    · exact Nat.le_mul_of_pos_right _ (Nat.two_pow_pos _)
    · have h1 := ih (c + (c + 768) / 4)
      have h2 : (c + (c + 768) / 4) + 768 ≤ (c + 768) * 2 := by omega
      have h3 := Nat.mul_le_mul_right (2 ^ r) h2
      rw [Nat.pow_succ, Nat.mul_comm (2 ^ r) 2, ← Nat.mul_assoc]
      exact Nat.le_trans h1 h3

theorem next_le {need c : Nat} (hn : need ≤ 1048576) (hc : c < need) : Builtin.nextslicecap need c ≤ 134217728 := by
  unfold Builtin.nextslicecap
  split
  · omega
  · split
    · omega
    · have := growBy_le need 4 c
      omega

section
variable {P : Program} {w : World}

/-- where what is appended comes from -/
def SrcOk (P : Program) (w : World) (i : TypeInfo) (z : Value) (d' : TypeDesc) (x : Value) (n : Nat) (new : Array Value) : Prop :=
  ((∃ k, d' = .int k) ∧ (∃ kk, x = .int kk (n : Int)) ∧ n ≤ 1048576 ∧ new = Builtin.zeroCells z.cells n) ∨
  ((∀ k, d' ≠ .int k) ∧ (∀ w : World, (Builtin.lenOf x).run P w = .ok n w) ∧ ∀ w', w'.heap = w.heap → (Builtin.firstCells i.size n x).run P w' = .ok new w')

theorem run_append_fits {t t' e ty : Nat} {d' : TypeDesc} {i : TypeInfo} {z : Value} (hd : P.underlying t = some (.slice e)) (hi : P.info? e = some i) (hb : i.bytes ≤ 1048576)
    (hz : i.zero = some z) (hzs : z.cells.size = i.size) (hd' : P.underlying t' = some d') {x : Value} {n : Nat} {new : Array Value} (hsrc : SrcOk P w i z d' x n new)
    {base : Option Addr} {len C : Nat} (hC : len + n ≤ C) :
    (Builtin.append_ #[t, t'] ty #[.slice base len C, x]).run P w = (do
      if let some a := base then storeCells (a.add (len * i.size)) new.toList
      pure (.slice base (len + n) C) : Sem Value).run P w := by
  rcases hsrc with ⟨⟨k, rfl⟩, ⟨kk, rfl⟩, hn, hnew⟩ | ⟨hk, hlen, hf⟩
  · have hw : IntKind.i64.wrap (n : Int) = n := by simp [IntKind.wrap, IntKind.bits, IntKind.signed]; omega
    have hm : (n : Int) * (i.bytes : Int) ≤ 1048576 * 1048576 := by
      have := Nat.mul_le_mul hn hb
      have h3 : ((n * i.bytes : Nat) : Int) ≤ ((1048576 * 1048576 : Nat) : Int) := Int.ofNat_le.2 this
      rw [Int.natCast_mul] at h3
      exact h3
    have hneg : ¬ ((281474976710656 : Int) < (n : Int) * (i.bytes : Int)) := by omega
    have hpos : ¬ ((n : Int) < 0) := by omega
    have hz0 : n * i.size = 0 → new = #[] := fun h => by
      rw [hnew]; simp [Builtin.zeroCells, hzs, h]
    by_cases h0 : n * i.size = 0
    · cases base <;> simp [Builtin.append_, run_und hd, run_und hd', run_sizeOf hi, asInt, asIntOf, hw, run_typeInfo hi, hneg, hpos, hC, hz0 h0, h0]
    · cases base <;> simp [Builtin.append_, run_und hd, run_und hd', run_sizeOf hi, asInt, asIntOf, hw, run_typeInfo hi, hneg, hpos, hC, h0, run_zeroValue hi hz, ← hnew]
  · have hnot : (match d' with | .int _ => true | _ => false) = false := by
      cases d' <;> simp at hk ⊢
    cases base <;> simp [hnot, Builtin.append_, run_und hd, run_und hd', run_sizeOf hi, hlen, hC, hf w rfl]

theorem run_append_grows {t t' e ty : Nat} {d' : TypeDesc} {i : TypeInfo} {z : Value} (hd : P.underlying t = some (.slice e)) (hi : P.info? e = some i) (hb : i.bytes ≤ 1048576)
    (hz : i.zero = some z) (hzs : z.cells.size = i.size) (hd' : P.underlying t' = some d') {x : Value} {n : Nat} {new : Array Value} (hsrc : SrcOk P w i z d' x n new)
    {base : Option Addr} {len C : Nat} (hC : ¬ len + n ≤ C) (hlim : len + n ≤ 1048576) {old : Array Value}
    (hold : ∀ w', w'.heap = w.heap → (Builtin.firstCells i.size len (.slice base len C)).run P w' = .ok old w') :
    ∃ (N : Nat) (w1 : World), len + n ≤ N ∧ w1.heap = w.heap ∧ w1.os = w.os ∧ w1.tape = w.tape ∧ w1.output = w.output ∧
      (Builtin.append_ #[t, t'] ty #[.slice base len C, x]).run P w =
        .ok (.slice (some ⟨w.heap.size, 0, none⟩) (len + n) N) { w1 with heap := w.heap.push (.cells (old ++ new ++ Builtin.zeroCells z.cells (N - (len + n))) e) } := by
  refine ⟨(Question.appendCap (len + n) C e).cut (w.tape w.drawn (.appendCap (len + n) C e)), w.drew, by simp [Question.cut], rfl, rfl, rfl, rfl, ?_⟩
  have hmax : ¬ ((9223372036854775807 : Int) < (len : Int) + (n : Int)) := by omega
  have hnext : ¬ (Builtin.nextslicecap (len + n) C * i.bytes > 2 ^ 48) := by
    have h1 := next_le hlim (c := C) (by omega)
    have := Nat.mul_le_mul h1 hb
    omega
  have hfq : (Question.appendCap (len + n) C e).forced = false := rfl
  rcases hsrc with ⟨⟨k, rfl⟩, ⟨kk, rfl⟩, hn, hnew⟩ | ⟨hk, hlen, hf⟩
  · have hw : IntKind.i64.wrap (n : Int) = n := by simp [IntKind.wrap, IntKind.bits, IntKind.signed]; omega
    have hm : (n : Int) * (i.bytes : Int) ≤ 1048576 * 1048576 := by
      have := Nat.mul_le_mul hn hb
      have h3 : ((n * i.bytes : Nat) : Int) ≤ ((1048576 * 1048576 : Nat) : Int) := Int.ofNat_le.2 this
      rw [Int.natCast_mul] at h3
      exact h3
    have hneg : ¬ ((281474976710656 : Int) < (n : Int) * (i.bytes : Int)) := by omega
    have hpos : ¬ ((n : Int) < 0) := by omega
    have hz0 : n * i.size = 0 → new = #[] := fun h => by
      rw [hnew]; simp [Builtin.zeroCells, hzs, h]
    have ho := hold w.drew rfl
    by_cases h0 : n * i.size = 0
    · simp [Builtin.append_, run_und hd, run_und hd', run_sizeOf hi, asInt, asIntOf, hw, run_typeInfo hi, hneg, hpos, hC, h0, hz0 h0, hmax, hnext, hfq, ho, run_zeroValue hi hz, newRow]
      rfl
    · simp [Builtin.append_, run_und hd, run_und hd', run_sizeOf hi, asInt, asIntOf, hw, run_typeInfo hi, hneg, hpos, hC, h0, hmax, hnext, hfq, ho, run_zeroValue hi hz, newRow, ← hnew]
      rfl
  · have ho := hold w.drew rfl
    have hn := hf w.drew rfl
    have hnot : (match d' with | .int _ => true | _ => false) = false := by
      cases d' <;> simp at hk ⊢
    simp [hnot, Builtin.append_, run_und hd, run_und hd', run_sizeOf hi, hlen, hC, hmax, hnext, hfq, ho, hn, run_typeInfo hi, run_zeroValue hi hz, newRow]
    rfl
end
end Go.Mx

/- 'append'. -/
set_option linter.unusedSimpArgs false
namespace Go.Mx
open Go

section
variable {P : Program} {E : Env} {φ : Phi} {s s' : St} {w : World} {tm : Tm} {a : Act} {v : AV} {cf : CF} {o : Oper}

/-- a thing is let go -/
theorem Post.drop (hs : Sat P φ s w) {i : Nat} {L : Lo} (hL : φ i = some L) : Post P φ s w φ { s with hp := s.hp.del i } w where
  sat := {
    obj := fun j q M h1 h2 => by
      simp only [PT.get_del] at h1
      split at h1
      · simp at h1
      · exact hs.obj j q M h1 h2
    inj := fun j k q r M N h1 h2 => by
      simp only [PT.get_del] at h1 h2
      split at h1
      · simp at h1
      · split at h2
        · simp at h2
        · exact hs.inj j k q r M N h1 h2
    bnd := hs.bnd
    dom := fun j q h1 => by
      simp only [PT.get_del] at h1
      split at h1
      · simp at h1
      · exact hs.dom j q h1 }
  sub := Phi.le_refl φ
  nx := Nat.le_refl _
  os := rfl
  tape := rfl
  output := rfl
  size := Nat.le_refl _
  fr := fun _ _ _ => rfl
  live := fun j q M h1 h2 h3 => by
    simp only [PT.get_del] at h1
    split at h1
    · simp at h1
    · exact .inr ⟨j, q, M, h1, h2, h3, rfl⟩
  new := fun _ _ h => .inl h
  un := fun j q h1 h2 => by
    simp only [PT.get_del]
    split
    · rename_i e; subst e; rw [hL] at h1; simp at h1
    · exact h2
  newdom := fun j q h1 => by
    simp only [PT.get_del] at h1
    split at h1
    · simp at h1
    · exact .inl (by simp [h1])

/-- a new row with room behind it -/
theorem new_open (hs : Sat P φ s w) {n sp : Nat} {z : Zr} {t : PT Sc} {e : Nat} {cs : List Sc} {vs rest : List Value} {cells : Array Value} (hl : concL φ cs = some vs) (hn : n = cs.length)
    (hc : ∀ k c, k < n → cs[k]? = some c → cellV z t k = c) (hcells : cells.toList = vs ++ rest) (hsz : cells.size = n + sp * P.cellsOf e) {w1 : World} (hos : w1.os = w.os)
    (htape : w1.tape = w.tape) (hout : w1.output = w.output) :
    Post P φ s w (φ.upd s.next ⟨w.heap.size, 0, sp⟩) (alloc s (.arr n z t e true)).2 { w1 with heap := w.heap.push (.cells cells e) } := by
  have hnone : φ s.next = none := by
    cases hq : φ s.next with
    | none => rfl
    | some M => have := hs.bnd _ _ hq; omega
  refine Post.more hs rfl (o := .arr n z t e true) (fun j => by simp only [alloc]; rw [PT.get_set]) hos htape hout (by simp) ?_ (Nat.le_refl _) ?_
  · intro b hb; simp only []; rw [Array.getElem?_push, if_neg (by omega)]
  · have hlen := concL_length hl
    refine ⟨cells, (0, 0), by simp, .inl rfl, by simp [hsz], fun h => by simp at h, fun k hk => ?_⟩
    have hk' : k < cs.length := by omega
    obtain ⟨v, hv, hcv⟩ := concL_get hl k cs[k] (by simp [hk'])
    refine ⟨v, ?_, ?_⟩
    · rw [← Array.getElem?_toList, hcells]
      simp only [Nat.zero_add]
      rw [List.getElem?_append_left (by omega)]; exact hv
    · rw [hc k cs[k] hk (by simp [hk'])]
      exact concS_mono (Phi.le_upd _ hnone) hcv

theorem setCells_leaf_get (z : Zr) (cs : List Sc) : ∀ k c, k < cs.length → cs[k]? = some c → cellV z (setCells .leaf 0 cs) k = c := fun k c hk hc => by
  refine cellV_setCells z cs .leaf 0 k ⟨Nat.zero_le _, by omega⟩ c (by simpa using hc)

theorem append_done (hE : TyOk P E) (hs : Sat P φ s w) {t t' e ty : Nat} {d' : TypeDesc} {te : TI} (hd : P.underlying t = some (.slice e)) (hte : E.ty.get e = some te) (hd' : P.underlying t' = some d')
    {x : Value} {n : Nat} {new : List Sc} {news : List Value} (hnew : concL φ new = some news) (hnl : new.length = n * te.size) (hsrc : ∀ i z, P.info? e = some i → i.zero = some z → SrcOk P w i z d' x n news.toArray)
    {ad : Option (Nat × Nat)} {len cap : Nat} {op : Bool} {bv : Value} (hb : concS φ (.sl ad len cap op) = some bv)
    (h : appendOp te e s ad len cap op new n = some (v, s')) :
    ∃ ψ y w', (Builtin.append_ #[t, t'] ty #[bv, x]).run P w = .ok y w' ∧ Post P φ s w ψ s' w' ∧ conc P ψ v = some y := by
  obtain ⟨i, z, h1, h2, h3, h4, h5, h6, _⟩ := (hE _ _ hte).info
  have hzl := concL_length h5
  have hzs : z.cells.size = i.size := by simp at hzl; omega
  have hsr := hsrc i z h1 h4
  have hnews := concL_length hnew
  have hcof : P.cellsOf e = te.size := by rw [cellsOf_eq h1, h2]
  unfold appendOp at h
  simp only [cond_eq_ite, Nat.ble_eq] at h
  split at h
  · rename_i hfit
    cases ad with
    | none =>
      simp only [concS] at hb; injection hb with hb; subst hb
      simp only [Nat.beq_eq] at h
      split at h
      · rename_i hn0
        simp at h; obtain ⟨rfl, rfl⟩ := h
        refine ⟨φ, .slice none (len + n) cap, w, ?_, Post.refl hs, by simp [conc, concS]⟩
        rw [run_append_fits hd h1 h3 h4 hzs hd' hsr hfit]; simp
      · simp at h
    | some A =>
      simp only at h
      split at h
      · rename_i s2 hst
        simp at h; obtain ⟨rfl, rfl⟩ := h
        simp only [concS] at hb
        split at hb
        · rename_i L hL
          injection hb with hb; subst hb
          have hA : concA φ (A.1, A.2 + len * te.size) = some ⟨L.blk, L.base + (A.2 + len * te.size), none⟩ := by simp [concA, hL]
          obtain ⟨w', r1, r2⟩ := st_cells hs hst hA hnew
          refine ⟨φ, .slice (some ⟨L.blk, L.base + A.2, none⟩) (len + n) (cap + if op then L.spare else 0), w', ?_, r2, by simp [conc, concS, hL]⟩
          rw [run_append_fits hd h1 h3 h4 hzs hd' hsr (by split <;> omega)]
          have : (⟨L.blk, L.base + A.2, none⟩ : Addr).add (len * i.size) = ⟨L.blk, L.base + (A.2 + len * te.size), none⟩ := by rw [Addr.add_none, h2]; congr 1; omega
          simp only [this, Sem.run_bind, r1, Result.andThen_ok, Sem.run_pure]
        · simp at hb
      · simp at h
  · rename_i hfit
    split at h
    · rename_i hlim
      unfold lim at hlim
      cases ad with
      | none =>
        simp only [Nat.beq_eq] at h
        split at h
        · rename_i hl0
          subst hl0
          simp at h; obtain ⟨rfl, rfl⟩ := h
          simp only [concS] at hb; injection hb with hb; subst hb
          obtain ⟨N, w1, e1, e2, e3, e4, e5, e6⟩ := run_append_grows (ty := ty) hd h1 h3 h4 hzs hd' hsr (base := none) (len := 0) (C := cap) hfit hlim (old := #[]) (fun w' _ => by simp [Builtin.firstCells])
          refine ⟨φ.upd s.next ⟨w.heap.size, 0, N - n⟩, _, _, e6, ?_, ?_⟩
          · refine new_open hs hnew hnl.symm (by rw [← hnl]; exact setCells_leaf_get _ new) (rest := (Builtin.zeroCells z.cells (N - (0 + n))).toList) (by simp) ?_ e3 e4 e5
            simp [Builtin.zeroCells, hzs, hnews, hnl, hcof, h2]
          · simp [conc, concS, upd_self]; omega
        · simp at h
      | some A =>
        simp only [concS] at hb
        split at hb
        · rename_i L hL
          injection hb with hb; subst hb
          simp only at h
          split at h
          · rename_i k zz tt e' md hg
            simp only [Nat.ble_eq, Nat.beq_eq, Bool.and_eq_true] at h
            split at h
            · rename_i hle
              have hA : concA φ A = some ⟨L.blk, L.base + A.2, none⟩ := by simp [concA, hL]
              have hld : ldCells s A (len * te.size) = some (cellsV zz tt A.2 (len * te.size)) := by
                simp [ldCells, hg, cond_eq_ite, hle]
              obtain ⟨olds, o1, o2, o3⟩ := ld_cells hs hld hA
              have hold : ∀ C w', w'.heap = w.heap → (Builtin.firstCells i.size len (.slice (some ⟨L.blk, L.base + A.2, none⟩) len C)).run P w' = .ok olds.toArray w' := fun C w' hw => by
                simp only [Builtin.firstCells]
                refine run_loadCells_of (by rw [o2, h2]) fun j v hj => ?_
                have := o3 j v hj
                simpa [World.cell?, hw] using this
              split at h
              · rename_i hop
                subst hop
                split at h
                · rename_i hcond
                  obtain ⟨⟨⟨⟨rfl, rfl⟩, ho0⟩, hk⟩, rfl⟩ := hcond
                  simp at h; obtain ⟨rfl, rfl⟩ := h
                  simp only [if_true] at *
                  have hnone : φ s.next = none := by
                    cases hq : φ s.next with
                    | none => rfl
                    | some M => have := hs.bnd _ _ hq; omega
                  have hlt := hs.dom _ _ hg
                  have hob := hs.obj _ _ _ hg hL
                  by_cases hfit2 : len + n ≤ len + L.spare
                  · obtain ⟨cells, fr, b1, b2, b3, b4, b5⟩ := hob
                    have hmul : n * te.size ≤ L.spare * te.size := Nat.mul_le_mul_right _ (by omega)
                    rw [hcof] at b3
                    obtain ⟨cs', r1, r2, r3⟩ := run_storeCells (P := P) news 0 w L.blk (L.base + len * te.size) cells e' fr b1 b2 (by omega) (concL_cell hnew)
                    have hblk : L.blk < w.heap.size := objRel_lt (φ := φ) (P := P) (o := .arr k zz tt e' true) ⟨cells, fr, b1, b2, by rw [hcof]; exact b3, b4, b5⟩
                    refine ⟨φ.upd s.next ⟨L.blk, L.base, L.spare - n⟩, .slice (some ⟨L.blk, L.base + A.2, none⟩) (len + n) (len + L.spare), { w with heap := w.heap.setIfInBounds L.blk (.cells cs' e' fr) }, ?_, Post.moved hs hg hL rfl (L' := ⟨L.blk, L.base, L.spare - n⟩) rfl (s' := (alloc { s with hp := s.hp.del A.1 } (.arr ((len + n) * te.size) zz (setCells tt (len * te.size) new) e' true)).2) (o' := .arr ((len + n) * te.size) zz (setCells tt (len * te.size) new) e' true) rfl ?_ rfl rfl rfl (by simp) ?_ ?_, ?_⟩
                    · rw [run_append_fits hd h1 h3 h4 hzs hd' hsr hfit2]
                      have : (⟨L.blk, L.base + A.2, none⟩ : Addr).add (len * i.size) = ⟨L.blk, L.base + len * te.size, none⟩ := by rw [Addr.add_none, h2]; congr 1; omega
                      simp only [this, Sem.run_bind, r1, Result.andThen_ok, Sem.run_pure]
                    · intro j
                      simp only [alloc, PT.get_set, PT.get_del]
                    · intro b hb; simp only []; rw [Array.getElem?_setIfInBounds_ne (fun e => hb e.symm)]
                    · refine ⟨cs', fr, by simp [hblk], by rw [r2]; exact b2, ?_, fun h => by simp at h, fun j hj => ?_⟩
                      · have e1 : (len + n) * te.size = len * te.size + n * te.size := Nat.add_mul _ _ _
                        have e2 : (L.spare - n) * te.size = L.spare * te.size - n * te.size := Nat.sub_mul _ _ _
                        simp only [hcof, r2, b3, e1, e2]
                        omega
                      · rw [Nat.add_mul] at hj
                        simp only [r3]
                        by_cases hin : len * te.size ≤ j
                        · rw [if_pos (by omega)]
                          have hlt2 : j - len * te.size < new.length := by omega
                          obtain ⟨y, hy, hc⟩ := concL_get hnew (j - len * te.size) new[j - len * te.size] (by simp [hlt2])
                          refine ⟨y, ?_, ?_⟩
                          · rw [← hy]; congr 1; omega
                          · rw [cellV_setCells zz new tt (len * te.size) j ⟨hin, by omega⟩ new[j - len * te.size] (by simp [hlt2])]
                            exact concS_mono (Phi.le_upd _ hnone) hc
                        · rw [if_neg (by omega), cellV_setCells_other zz new tt (len * te.size) j (by omega)]
                          obtain ⟨y, hy, hc⟩ := b5 j (by omega)
                          exact ⟨y, hy, concS_mono (Phi.le_upd _ hnone) hc⟩
                    · simp [conc, concS, upd_self, ho0]; omega
                  · obtain ⟨N, w1, e1, e2, e3, e4, e5, e6⟩ := run_append_grows (ty := ty) hd h1 h3 h4 hzs hd' hsr (base := some ⟨L.blk, L.base + A.2, none⟩) (len := len) (C := len + L.spare) hfit2 hlim (hold _)
                    refine ⟨φ.upd s.next ⟨w.heap.size, 0, N - (len + n)⟩, _, _, e6, ?_, ?_⟩
                    · have hdrop := Post.drop hs (i := A.1) hL
                      refine Post.trans hs hdrop ?_
                      refine new_open (s := { s with hp := s.hp.del A.1 }) hdrop.sat (concL_append o1 hnew) (by simp [cellsV_length, hnl, Nat.add_mul]) ?_ (rest := (Builtin.zeroCells z.cells (N - (len + n))).toList) (by simp) ?_ e3 e4 e5
                      · intro j c hj hc
                        by_cases hin : len * te.size ≤ j
                        · rw [List.getElem?_append_right (by simp [cellsV_length]; exact hin), cellsV_length] at hc
                          rw [Nat.add_mul] at hj
                          exact cellV_setCells zz new tt (len * te.size) j ⟨hin, by omega⟩ c hc
                        · rw [List.getElem?_append_left (by simp [cellsV_length]; omega), cellsV_get _ _ _ _ _ (by omega)] at hc
                          injection hc with hc
                          rw [cellV_setCells_other zz new tt (len * te.size) j (by omega), ← hc, ho0, Nat.zero_add]
                      · simp [Builtin.zeroCells, hzs, hnews, hnl, hcof, h2, o2, Nat.add_mul]
                    · simp [conc, concS, upd_self]; omega
                · simp at h
              · rename_i hop
                simp at hop; subst hop
                simp at h; obtain ⟨rfl, rfl⟩ := h
                simp only [Bool.false_eq_true, if_false, Nat.add_zero] at *
                obtain ⟨N, w1, e1, e2, e3, e4, e5, e6⟩ := run_append_grows (ty := ty) hd h1 h3 h4 hzs hd' hsr (base := some ⟨L.blk, L.base + A.2, none⟩) (len := len) (C := cap) hfit hlim (hold _)
                refine ⟨φ.upd s.next ⟨w.heap.size, 0, N - (len + n)⟩, _, _, e6, ?_, ?_⟩
                · refine new_open hs (concL_append o1 hnew) (by simp [cellsV_length, hnl, Nat.add_mul]) ?_ (rest := (Builtin.zeroCells z.cells (N - (len + n))).toList) (by simp) ?_ e3 e4 e5
                  · rw [show (len + n) * te.size = (cellsV zz tt A.2 (len * te.size) ++ new).length by simp [cellsV_length, hnl, Nat.add_mul]]
                    exact setCells_leaf_get _ _
                  · simp [Builtin.zeroCells, hzs, hnews, hnl, hcof, h2, o2, Nat.add_mul]
                · simp [conc, concS, upd_self]; omega
            · simp at h
          · rename_i k f hg
            simp only [Nat.ble_eq, Bool.and_eq_true, Bool.not_eq_true'] at h
            split at h
            · rename_i hle
              obtain ⟨hle, rfl⟩ := hle
              simp at h; obtain ⟨rfl, rfl⟩ := h
              have hA : concA φ A = some ⟨L.blk, L.base + A.2, none⟩ := by simp [concA, hL]
              have hld : ldCells s A (len * te.size) = some (cellsR f A.2 (len * te.size)) := by
                simp [ldCells, hg, cond_eq_ite, hle]
              obtain ⟨olds, o1, o2, o3⟩ := ld_cells hs hld hA
              have hold : ∀ C w', w'.heap = w.heap → (Builtin.firstCells i.size len (.slice (some ⟨L.blk, L.base + A.2, none⟩) len C)).run P w' = .ok olds.toArray w' := fun C w' hw => by
                simp only [Builtin.firstCells]
                refine run_loadCells_of (by rw [o2, h2]) fun j v hj => ?_
                have := o3 j v hj
                simpa [World.cell?, hw] using this
              simp only [Bool.false_eq_true, if_false, Nat.add_zero] at *
              obtain ⟨N, w1, e1, e2, e3, e4, e5, e6⟩ := run_append_grows (ty := ty) hd h1 h3 h4 hzs hd' hsr (base := some ⟨L.blk, L.base + A.2, none⟩) (len := len) (C := cap) hfit hlim (hold _)
              refine ⟨φ.upd s.next ⟨w.heap.size, 0, N - (len + n)⟩, _, _, e6, ?_, ?_⟩
              · refine new_open hs (concL_append o1 hnew) (by simp [cellsR_length, hnl, Nat.add_mul]) ?_ (rest := (Builtin.zeroCells z.cells (N - (len + n))).toList) (by simp) ?_ e3 e4 e5
                · rw [show (len + n) * te.size = (cellsR f A.2 (len * te.size) ++ new).length by simp [cellsR_length, hnl, Nat.add_mul]]
                  exact setCells_leaf_get _ _
                · simp [Builtin.zeroCells, hzs, hnews, hnl, hcof, h2, o2, Nat.add_mul]
              · simp [conc, concS, upd_self]; omega
            · simp at h
          · simp at h
        · simp at hb
    · simp at h
end
end Go.Mx

/- 'append', as a built-in function. -/
set_option linter.unusedSimpArgs false
namespace Go.Mx
open Go

section
variable {P : Program} {E : Env} {φ : Phi} {s s' : St} {w : World} {tm : Tm} {a : Act} {v : AV} {cf : CF} {o : Oper}

theorem bi_append (hE : TyOk P E) (hs : Sat P φ s w) {tys : List Nat} {args : List Operand} {ty : Nat} {cs : Array Bool} (hev : ∀ x ∈ args, EvOk P φ tm a x)
    (h : builtinOp0 E tm s .append tys args = some (v, s')) : Done P φ s w s' v ((builtin .append tys.toArray ty cs (args.map a.eval).toArray).run P w) := by
  unfold builtinOp0 at h
  split at h <;> simp only [reduceCtorEq, false_and, and_false] at *
  all_goals try contradiction
  rename_i t t' x y _
  have hx := hev x (by simp)
  have hy := hev y (by simp)
  have fin : (∃ ψ q w', (Builtin.append_ #[t, t'] ty #[a.eval x, a.eval y]).run P w = .ok q w' ∧ Post P φ s w ψ s' w' ∧ conc P ψ v = some q) →
      Done P φ s w s' v ((builtin .append [t, t'].toArray ty cs (List.map a.eval [x, y]).toArray).run P w) := fun ⟨ψ, q, w', r1, r2, r3⟩ =>
    ⟨ψ, q, w', .inl (by simp only [builtin]; exact run_v _ r1), r2, r3⟩
  refine fin ?_
  split at h
  · rename_i e _ _ ti' ad len cap op u ht ht' hxe hye
    obtain ⟨d, hd, hdk, _⟩ := (hE _ _ ht).und
    simp only [KindOk] at hdk; subst hdk
    obtain ⟨d', hd', hdk', _⟩ := (hE _ _ ht').und
    have hxc := evV_one hx hxe
    have hyc := hy _ hye
    split at h
    · rename_i te hte
      obtain ⟨i0, z0, k1, k2, k3, k4, k5, k6, _⟩ := (hE _ _ hte).info
      have other : (∀ k, d' ≠ .int k) → (match lenS u with
          | some n => match srcCells s te.size n u with
            | some new => bif Nat.beq new.length (n * te.size) then appendOp te e s ad len cap op new n else none
            | none => none
          | none => none) = some (v, s') →
          (∃ ψ q w', (Builtin.append_ #[t, t'] ty #[a.eval x, a.eval y]).run P w = .ok q w' ∧ Post P φ s w ψ s' w' ∧ conc P ψ v = some q) := fun hnot h => by
        split at h
        · rename_i n hn
          split at h
          · rename_i new hnew
            simp only [cond_eq_ite, Nat.beq_eq] at h
            split at h
            · rename_i hl
              obtain ⟨vs, g1, g2⟩ := src_ok hs hyc hn (Nat.le_refl _) hnew
              refine append_done hE hs hd hte hd' g1 hl (fun i z hi hz => .inr ⟨hnot, fun w => lenS_run hyc hn, fun w' hw => ?_⟩) hxc h
              have : i.size = te.size := by rw [hi] at k1; injection k1 with k1; rw [k1, k2]
              rw [this]
              exact g2 w' hw
            · simp at h
          · simp at h
        · simp at h
      split at h
      · rename_i kk q1 n hkk
        rw [hkk] at hdk'; simp only [KindOk] at hdk'; subst hdk'
        simp only [cond_eq_ite, Nat.ble_eq] at h
        split at h
        · rename_i hn
          obtain ⟨i, z, h1, h2, h3, h4, h5, h6⟩ := zero_row hE hte (φ := φ) n
          have hyv : a.eval y = .int q1 (n : Int) := by simpa [conc, concS] using hyc.symm
          refine append_done hE hs hd hte hd' h6 (by rw [repCells_length, ← k6]) (fun i' z' hi hz => .inl ⟨⟨_, rfl⟩, ⟨q1, hyv⟩, hn, ?_⟩) hxc h
          rw [hi] at h1; injection h1 with h1; subst h1
          rw [hz] at h4; injection h4 with h4; subst h4
          simp [Builtin.zeroCells, h5]
          apply Array.ext'; simp
        · simp at h
      · simp at h
      · simp at h
      · rename_i h2 h3 _
        refine other (fun k e => ?_) h
        subst e
        cases hkk : ti'.kind <;> rw [hkk] at hdk' <;> simp [KindOk] at hdk'
        · exact h2 _ hkk
        · exact h3 hkk
    · simp at h
  · simp at h
end
end Go.Mx
