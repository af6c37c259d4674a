/- The built-in functions, but for 'append'. -/
import Derived.Test.YtmookoajpcnigaaGreatMxO8c
set_option linter.unusedSimpArgs false
namespace Go.Mx
open Go

theorem str_size (l : List Nat) : (str l).size = l.length := by simp [str, ByteArray.size]

section
variable {P : Program} {E : Env} {φ : Phi} {s s' : St} {w : World} {tm : Tm} {a : Act} {v : AV} {cf : CF} {o : Oper}

theorem run_builtin {c : Call} {b : Builtin} (ho : o.op = .call c) (hb : c.callee = .builtin b) :
    (execOp a.eval o).run P w = (builtin b c.argTypes o.type (c.args.map fun | .const _ => true | _ => false) (c.args.map a.eval)).run P w := by
  simp [execOp, ho, resolve, hb, invoke]
  rfl

theorem evV_one {x : Operand} {c : Sc} (hx : EvOk P φ tm a x) (h : ev tm x = some (.one c)) : concS φ c = some (a.eval x) := hx _ h

theorem bi_len (hE : TyOk P E) (hs : Sat P φ s w) {tys : List Nat} {args : List Operand} {ty : Nat} {cs : Array Bool} (hev : ∀ x ∈ args, EvOk P φ tm a x)
    (h : builtinOp0 E tm s .len tys args = some (v, s')) : Done P φ s w s' v ((builtin .len tys.toArray ty cs (args.map a.eval).toArray).run P w) := by
  unfold builtinOp0 at h
  split at h <;> simp only [reduceCtorEq, false_and, and_false] at *
  all_goals try contradiction
  rename_i t tr x xr _
  have hx := hev x (by simp)
  have fin : ∀ n : Nat, (Builtin.len_ (t :: tr).toArray ty (List.map a.eval (x :: xr)).toArray).run P w = .ok (goInt n) w → v = .one (.i .i64 n) → s' = s →
      Done P φ s w s' v ((builtin .len (t :: tr).toArray ty cs (List.map a.eval (x :: xr)).toArray).run P w) := fun n hn hv hs' => by
    subst hv; subst hs'
    exact done_same hs (by simpa [builtin] using run_v _ hn) (by simp [conc, concS, goInt])
  split at h
  · rename_i ht
    obtain ⟨d, hd, hk, _⟩ := (hE _ _ ht).und
    simp only [KindOk] at hk; subst hk
    simp at h
    exact fin _ (by simp [Builtin.len_, run_und hd]) h.1.symm h.2.symm
  · rename_i ti hnarr ht
    obtain ⟨d, hd, hk, _⟩ := (hE _ _ ht).und
    split at h
    · rename_i u hu
      split at h
      · rename_i n hn
        simp at h
        refine fin n ?_ h.1.symm h.2.symm
        have hc := hx _ hu
        unfold lenV at hn
        split at hn
        · rename_i ad n' cp op hkk; rw [hkk] at hk; simp only [KindOk] at hk; subst hk
          injection hn with hn; subst hn
          simp only [conc] at hc
          cases ad with
          | none => simp [concS] at hc; simp [Builtin.len_, run_und hd, ← hc]
          | some ad =>
            simp only [concS] at hc
            split at hc
            · injection hc with hc; simp [Builtin.len_, run_und hd, ← hc]
            · simp at hc
        · rename_i hkk; rw [hkk] at hk; simp only [KindOk] at hk; subst hk
          injection hn with hn; subst hn
          simp only [conc, concS] at hc
          split at hc
          · injection hc with hc; simp [Builtin.len_, run_und hd, ← hc]
          · simp at hc
        · rename_i hkk; rw [hkk] at hk; simp only [KindOk] at hk; subst hk
          injection hn with hn; subst hn
          simp only [conc, concS] at hc
          injection hc with hc; simp [Builtin.len_, run_und hd, ← hc, str_size]
        · rename_i hkk; rw [hkk] at hk; simp only [KindOk] at hk; subst hk
          injection hn with hn; subst hn
          simp only [conc, concS] at hc
          injection hc with hc; simp [Builtin.len_, run_und hd, ← hc]
        · rename_i r hkk; rw [hkk] at hk; simp only [KindOk] at hk; subst hk
          split at hn
          · rename_i es c hg
            injection hn with hn; subst hn
            obtain ⟨L, xs, h1, h2, h3, h4, _⟩ := map_of hs hx hu hg
            simp [Builtin.len_, run_und hd, h2, run_getMap h3, h4.length]
          · simp at hn
        · simp at hn
      · simp at h
    · simp at h
  · simp at h

theorem bi_cap (hE : TyOk P E) (hs : Sat P φ s w) {tys : List Nat} {args : List Operand} {ty : Nat} {cs : Array Bool} (hev : ∀ x ∈ args, EvOk P φ tm a x)
    (h : builtinOp0 E tm s .cap tys args = some (v, s')) : Done P φ s w s' v ((builtin .cap tys.toArray ty cs (args.map a.eval).toArray).run P w) := by
  unfold builtinOp0 at h
  split at h <;> simp only [reduceCtorEq, false_and, and_false] at *
  all_goals try contradiction
  rename_i t _ x _ _
  have hx := hev x (by simp)
  split at h
  · rename_i ad n c ht hu
    obtain ⟨d, hd, hk, _⟩ := (hE _ _ ht).und
    simp only [KindOk] at hk; subst hk
    simp at h; obtain ⟨rfl, rfl⟩ := h
    have hc := evV_one hx hu
    refine done_same (x := goInt c) hs ?_ (by simp [conc, concS, goInt])
    simp only [builtin]
    refine run_v _ ?_
    cases ad with
    | none => simp [concS] at hc; simp [Builtin.cap_, run_und hd, ← hc]
    | some ad =>
      simp only [concS] at hc
      split at hc
      · injection hc with hc; simp [Builtin.cap_, run_und hd, ← hc]
      · simp at hc
  · simp at h

theorem fold_mm (mn : Bool) {k : IntKind} : ∀ (xs : List Operand) (n m : Int), (∀ x ∈ xs, EvOk P φ tm a x) → foldMM mn tm k n xs = some m →
    ((xs.map a.eval).foldlM (if mn then Builtin.min2 else Builtin.max2) (.int k n) : Sem Value).run P w = .ok (.int k m) w := by
  intro xs
  induction xs with
  | nil => intro n m _ h; simp [foldMM] at h; subst h; simp
  | cons x r ih =>
    intro n m hev h
    simp only [foldMM] at h
    split at h
    · rename_i k' y hy
      have hv := evI_of (hev x (by simp)) hy
      have g := ih _ m (fun x hx => hev x (by simp [hx])) h
      cases mn with
      | true =>
        simp only [List.map_cons, List.foldlM_cons, Sem.run_bind, hv, if_true, Builtin.min2, Sem.run_pure, Result.andThen_ok] at g ⊢
        simpa [minI, cond_eq_ite] using g
      | false =>
        simp only [List.map_cons, List.foldlM_cons, Sem.run_bind, hv, Bool.false_eq_true, if_false, Builtin.max2, Sem.run_pure, Result.andThen_ok] at g ⊢
        simpa [maxI, cond_eq_ite] using g
    · simp at h

theorem bi_min (hs : Sat P φ s w) {tys : List Nat} {args : List Operand} {ty : Nat} {cs : Array Bool} (hev : ∀ x ∈ args, EvOk P φ tm a x)
    (h : builtinOp0 E tm s .min tys args = some (v, s')) : Done P φ s w s' v ((builtin .min tys.toArray ty cs (args.map a.eval).toArray).run P w) := by
  unfold builtinOp0 at h
  split at h <;> simp only [reduceCtorEq, false_and, and_false] at *
  all_goals try contradiction
  rename_i x r _
  split at h
  · rename_i k n hn
    split at h
    · rename_i m hm
      simp at h; obtain ⟨rfl, rfl⟩ := h
      refine done_same (x := .int k m) hs ?_ (by simp [conc, concS])
      simp only [builtin]
      refine run_v _ ?_
      have := fold_mm (w := w) true r n m (fun x hx => hev x (by simp [hx])) hm
      simpa [Builtin.min_, evI_of (hev x (by simp)) hn] using this
    · simp at h
  · simp at h

theorem bi_max (hs : Sat P φ s w) {tys : List Nat} {args : List Operand} {ty : Nat} {cs : Array Bool} (hev : ∀ x ∈ args, EvOk P φ tm a x)
    (h : builtinOp0 E tm s .max tys args = some (v, s')) : Done P φ s w s' v ((builtin .max tys.toArray ty cs (args.map a.eval).toArray).run P w) := by
  unfold builtinOp0 at h
  split at h <;> simp only [reduceCtorEq, false_and, and_false] at *
  all_goals try contradiction
  rename_i x r _
  split at h
  · rename_i k n hn
    split at h
    · rename_i m hm
      simp at h; obtain ⟨rfl, rfl⟩ := h
      refine done_same (x := .int k m) hs ?_ (by simp [conc, concS])
      simp only [builtin]
      refine run_v _ ?_
      have := fold_mm (w := w) false r n m (fun x hx => hev x (by simp [hx])) hm
      simpa [Builtin.max_, evI_of (hev x (by simp)) hn] using this
    · simp at h
  · simp at h

theorem bi_delete (hE : TyOk P E) (hs : Sat P φ s w) {tys : List Nat} {args : List Operand} {ty : Nat} {cs : Array Bool} (hev : ∀ x ∈ args, EvOk P φ tm a x)
    (h : builtinOp0 E tm s .delete tys args = some (v, s')) : Done P φ s w s' v ((builtin .delete tys.toArray ty cs (args.map a.eval).toArray).run P w) := by
  unfold builtinOp0 at h
  split at h <;> simp only [reduceCtorEq, false_and, and_false] at *
  all_goals try contradiction
  rename_i t _ x y _ _
  have hx := hev x (by simp)
  have hy := hev y (by simp)
  split at h
  · rename_i kt e _ _ k ht hxe hke
    obtain ⟨d, hd, hdk, _⟩ := (hE _ _ ht).und
    simp only [KindOk] at hdk; subst hdk
    have hkv := evV_of hE hy hke
    simp only [cond_eq_ite] at h
    split at h
    · rename_i hko
      simp at h; obtain ⟨rfl, rfl⟩ := h
      have hc := evV_one hx hxe
      simp [concS] at hc
      refine done_same (x := undef) hs ?_ (by simp [conc, concVs, undefV, undef])
      simp only [builtin]
      refine run_v _ ?_
      simp [Builtin.delete_, run_und hd, ← hc, checkKey_ok hE hko hkv, undef]
    · simp at h
  · rename_i kt e _ _ r k ht hxe hke
    obtain ⟨d, hd, hdk, _⟩ := (hE _ _ ht).und
    simp only [KindOk] at hdk; subst hdk
    have hkv := evV_of hE hy hke
    split at h
    · rename_i es c hg
      simp only [cond_eq_ite] at h
      have hko : keyOk E kt k = true := by
        cases hq : keyOk E kt k with
        | true => rfl
        | false => simp [hq] at h
      rw [if_pos hko] at h
      obtain ⟨L, xs, hL, hxv, hheap, ha, hnd, hlt⟩ := map_of hs hx hxe hg
      split at h
      · rename_i m hm
        simp at h; obtain ⟨rfl, rfl⟩ := h
        obtain ⟨res, hf, hnone, hsome⟩ := findKey_ok hE hko hkv ha hm w
        cases m with
        | none =>
          obtain rfl := hnone rfl
          refine ⟨φ, undef, { w with heap := w.heap.setIfInBounds L.blk (.map xs c) }, .inl ?_, set_map hs hg hL ?_ ?_ ?_, by simp [conc, concVs, undefV, undef]⟩
          · simp only [builtin]
            refine run_v _ ?_
            simp [Builtin.delete_, run_und hd, hxv, run_getMap hheap, checkKey_ok hE hko hkv, hf, run_setMap _ hheap, undef]
          · rw [delK_none hm]; exact ha
          · rw [delK_none hm]; exact hnd
          · rw [delK_none hm]; exact hlt
        | some m =>
          obtain ⟨pre, post, xp, z, xq, rfl, hxs, hl, h1, h2, h3, h4, h5, rfl⟩ := hsome _ rfl
          refine ⟨φ, undef, { w with heap := w.heap.setIfInBounds L.blk (.map (xs.eraseIdxIfInBounds pre.length) c) }, .inl ?_, set_map hs hg hL ?_ ?_ ?_, by simp [conc, concVs, undefV, undef]⟩
          · simp only [builtin]
            refine run_v _ ?_
            simp [Builtin.delete_, run_und hd, hxv, run_getMap hheap, checkKey_ok hE hko hkv, hf, run_setMap _ hheap, undef]
          · rw [delK_form h5 h4, Array.toList_eraseIdxIfInBounds, hxs, ← hl, erase_at]
            exact h1.append h3
          · rw [delK_form h5 h4]
            simp only [List.map_append, List.map_cons] at hnd ⊢
            exact hnd.sublist (List.Sublist.append (List.Sublist.refl _) (List.sublist_cons_self _ _))
          · rw [delK_form h5 h4]
            intro q hq
            simp at hq
            rcases hq with hq | hq
            · exact hlt q (by simp [hq])
            · exact hlt q (by simp [hq])
      · simp at h
    · simp at h
  · simp at h
end
end Go.Mx
