/- Operations: binary operators, conversions, literals. -/
import Derived.Test.YtmookoajpcnigaaGreatMxO5
set_option linter.unusedSimpArgs false
namespace Go.Mx
open Go

theorem str_inj {x y : List Nat} (hx : x.all (Nat.ble · 255) = true) (hy : y.all (Nat.ble · 255) = true) : (str x == str y) = (x == y) := by
  rw [beq_toListBytes, ByteArray.toList_eq, ByteArray.toList_eq]
  have hb : ∀ (l : List Nat), l.all (Nat.ble · 255) = true → (l.map UInt8.ofNat).map (·.toNat) = l := by
    intro l h
    rw [List.map_map]
    induction l with
    | nil => rfl
    | cons a r ih =>
      simp [List.all_cons] at h
      simp only [List.map_cons, Function.comp, UInt8.toNat_ofNat']
      rw [Nat.mod_eq_of_lt (by omega)]
      congr 1
      exact ih (by simpa using h.2)
  have h1 : (str x).data.toList = x.map UInt8.ofNat := by simp [str]
  have h2 : (str y).data.toList = y.map UInt8.ofNat := by simp [str]
  rw [h1, h2]
  rw [Bool.eq_iff_iff]
  simp only [beq_iff_eq]
  constructor
  · intro h
    have := congrArg (List.map (·.toNat)) h
    rwa [hb x hx, hb y hy] at this
  · intro h; rw [h]

section
variable {P : Program} {E : Env} {φ : Phi} {s s' : St} {w : World} {tm : Tm} {a : Act} {v : AV} {cf : CF} {o : Oper}

theorem run_eqGuard {op : BinOp} {t : Nat} {x y : Operand} {u v : Value} (h1 : ¬ (u = .nilIface ∧ v = .nilIface)) (h2 : ¬ ((∃ a, u = .agg a) ∧ (∃ b, v = .agg b))) :
    (eqGuard op t x y u v).run P w = .ok () w := by
  unfold eqGuard
  by_cases hop : (op matches .eql | .neq) = true
  · cases u <;> cases v <;> first | (exact absurd ⟨rfl, rfl⟩ h1) | (exact absurd ⟨⟨_, rfl⟩, ⟨_, rfl⟩⟩ h2) | simp [hop]
  · simp [hop]
    intro h; exact absurd h hop

theorem intOp_run {op : BinOp} {k : IntKind} {x y : Int} {c : Sc} (h : intOp op k x y = some c) : ∃ u, concS φ c = some u ∧ (match op with
      | .add | .sub | .mul => Op.intArith op k x y
      | .quo | .rem => Op.intDiv op k x y
      | .and | .or | .xor | .andNot => Op.intBits op k x y
      | _ => Op.intCmp op x y : Sem Value).run P w = .ok u w := by
  cases op <;> simp only [intOp, cond_eq_ite, decide_eq_true_eq] at h <;> (try (simp at h; done)) <;> (try split at h) <;> (try (simp at h; done)) <;> injection h with h <;> subst h <;>
    simp only [concS] <;> refine ⟨_, rfl, ?_⟩ <;> simp_all [Op.intArith, Op.intDiv, Op.intBits, Op.intCmp]

theorem isAg_conc (hE : TyOk P E) {u : AV} {x : Value} (h : conc P φ u = some x) (hi : isAg E u = true) : ∃ cs, x = .agg cs := by
  cases u with
  | agg l =>
    simp only [conc] at h
    split at h
    · injection h with h; exact ⟨_, h.symm⟩
    · simp at h
  | zag t =>
    simp only [isAg] at hi
    cases ht : E.ty.get t with
    | none => simp [ht] at hi
    | some ti =>
      simp [ht] at hi
      obtain ⟨i, z, h1, _, _, h4, _, _, h7, _⟩ := (hE _ _ ht).info
      simp only [conc, zeroP, h1, Option.bind_some, h4] at h
      injection h with h; subst h
      exact h7 hi
  | _ => simp [isAg] at hi

theorem equal_at (t : TypeId) (x y : Value) : Op.equal t x y = Op.equalIn (9999 + 1) t x y := rfl

theorem eq_one {k : TK} {d : TypeDesc} {t : Nat} {p q : Sc} {r : Bool} {u v : Value} (hd : P.underlying t = some d) (hk : KindOk P k d) (hu : concS φ p = some u) (hv : concS φ q = some v)
    (h : eqOne k p q = some r) (op : BinOp) (x y : Operand) :
    (eqGuard op t x y u v).run P w = .ok () w ∧ (binOp .eql t u v).run P w = .ok (.bool r) w ∧ (binOp .neq t u v).run P w = .ok (.bool (!r)) w := by
  have base : (eqGuard op t x y u v).run P w = .ok () w → (Op.equal t u v).run P w = .ok r w → binOp .eql t u v = (do pure (.bool (← Op.equal t u v))) →
      binOp .neq t u v = (do pure (.bool (!(← Op.equal t u v)))) →
      (eqGuard op t x y u v).run P w = .ok () w ∧ (binOp .eql t u v).run P w = .ok (.bool r) w ∧ (binOp .neq t u v).run P w = .ok (.bool (!r)) w := fun h1 h2 h3 h4 => ⟨h1, by rw [h3]; simp [h2], by rw [h4]; simp [h2]⟩
  unfold eqOne at h
  split at h
  · simp [concS] at hu hv h; subst hu; subst hv; subst h; subst hk
    exact base (run_eqGuard (by simp) (by simp)) (by rw [equal_at]; exact run_equalIn_bool' w _ t _ _ hd) rfl rfl
  · obtain ⟨e, rfl⟩ := hk
    rename_i b
    simp [concS] at hu; subst hu
    injection h with h; subst h
    cases b with
    | none => simp [concS] at hv; subst hv; exact base (run_eqGuard (by simp) (by simp)) (by rw [equal_at]; generalize 9999 = n9; simp [Op.equalIn, run_und hd]) rfl rfl
    | some b =>
      simp only [concS] at hv
      split at hv
      · injection hv with hv; subst hv; exact base (run_eqGuard (by simp) (by simp)) (by rw [equal_at]; generalize 9999 = n9; simp [Op.equalIn, run_und hd]) rfl rfl
      · simp at hv
  · obtain ⟨e, rfl⟩ := hk
    simp [concS] at hv; subst hv
    injection h with h; subst h
    simp only [concS] at hu
    split at hu
    · injection hu with hu; subst hu; exact base (run_eqGuard (by simp) (by simp)) (by rw [equal_at]; generalize 9999 = n9; simp [Op.equalIn, run_und hd]) rfl rfl
    · simp at hu
  · obtain rfl := hk
    rename_i b _ _ _
    simp [concS] at hu; subst hu
    injection h with h; subst h
    cases b with
    | none => simp [concS] at hv; subst hv; exact base (run_eqGuard (by simp) (by simp)) (by rw [equal_at]; generalize 9999 = n9; simp [Op.equalIn, run_und hd]) rfl rfl
    | some b =>
      simp only [concS] at hv
      split at hv
      · injection hv with hv; subst hv; exact base (run_eqGuard (by simp) (by simp)) (by rw [equal_at]; generalize 9999 = n9; simp [Op.equalIn, run_und hd]) rfl rfl
      · simp at hv
  · obtain rfl := hk
    simp [concS] at hv; subst hv
    injection h with h; subst h
    simp only [concS] at hu
    split at hu
    · injection hu with hu; subst hu; exact base (run_eqGuard (by simp) (by simp)) (by rw [equal_at]; generalize 9999 = n9; simp [Op.equalIn, run_und hd]) rfl rfl
    · simp at hu
  · obtain rfl := hk
    simp [concS] at hv; subst hv
    injection h with h; subst h
    simp only [concS] at hu
    split at hu
    · injection hu with hu; subst hu; exact base (run_eqGuard (by simp) (by simp)) (by rw [equal_at]; generalize 9999 = n9; simp [Op.equalIn, run_und hd]) rfl rfl
    · simp at hu
  · obtain rfl := hk
    simp [concS] at hu; subst hu
    injection h with h; subst h
    simp only [concS] at hv
    split at hv
    · injection hv with hv; subst hv; exact base (run_eqGuard (by simp) (by simp)) (by rw [equal_at]; generalize 9999 = n9; simp [Op.equalIn, run_und hd]) rfl rfl
    · simp at hv
  · obtain rfl := hk
    rename_i b
    simp [concS] at hu; subst hu
    injection h with h; subst h
    cases b with
    | none => simp [concS] at hv; subst hv; exact base (run_eqGuard (by simp) (by simp)) (by rw [equal_at]; generalize 9999 = n9; simp [Op.equalIn, run_und hd]) rfl rfl
    | some b =>
      simp only [concS] at hv
      split at hv
      · injection hv with hv; subst hv; exact base (run_eqGuard (by simp) (by simp)) (by rw [equal_at]; generalize 9999 = n9; simp [Op.equalIn, run_und hd]) rfl rfl
      · simp at hv
  · obtain rfl := hk
    simp [concS] at hv; subst hv
    injection h with h; subst h
    simp only [concS] at hu
    split at hu
    · injection hu with hu; subst hu; exact base (run_eqGuard (by simp) (by simp)) (by rw [equal_at]; generalize 9999 = n9; simp [Op.equalIn, run_und hd]) rfl rfl
    · simp at hu
  · obtain ⟨_, _, _, rfl⟩ := hk
    simp [concS] at hu hv; subst hu; subst hv
    injection h with h; subst h
    exact base (run_eqGuard (by simp) (by simp)) (by rw [equal_at]; generalize 9999 = n9; simp [Op.equalIn, run_und hd]) rfl rfl
  · obtain ⟨_, _, _, rfl⟩ := hk
    simp [concS] at hu; subst hu
    injection h with h; subst h
    simp only [concS] at hv
    split at hv
    · injection hv with hv; subst hv; exact base (run_eqGuard (by simp) (by simp)) (by rw [equal_at]; generalize 9999 = n9; simp [Op.equalIn, run_und hd]) rfl rfl
    · simp at hv
  · obtain ⟨_, _, _, rfl⟩ := hk
    simp [concS] at hv; subst hv
    injection h with h; subst h
    simp only [concS] at hu
    split at hu
    · injection hu with hu; subst hu; exact base (run_eqGuard (by simp) (by simp)) (by rw [equal_at]; generalize 9999 = n9; simp [Op.equalIn, run_und hd]) rfl rfl
    · simp at hu
  · simp at h

theorem op_binOp0 (hE : TyOk P E) (hs : Sat P φ s w) {op : BinOp} {t yt : Nat} {x y : Operand} (ho : o.op = .binOp op t x y yt) (hev : OpsOk P φ tm a o)
    {u u' : AV} (hxe : ev tm x = some u) (hye : ev tm y = some u') (h' : binOp0 E op t u u' = some v) : Done P φ s w s v ((execOp a.eval o).run P w) := by
  have hx := hev x (by simp [ho, Op.operands])
  have hy := hev y (by simp [ho, Op.operands])
  have hrun : (execOp a.eval o).run P w = (do pure (Next.value (← (do eqGuard op t x y (a.eval x) (a.eval y); binOp op t (a.eval x) (a.eval y)))) : Sem Next).run P w := by
    simp only [execOp, ho]
  have hcx := hx _ hxe
  have hcy := hy _ hye
  have fin : ∀ (z : Value), conc P φ v = some z → (eqGuard op t x y (a.eval x) (a.eval y)).run P w = .ok () w → (binOp op t (a.eval x) (a.eval y)).run P w = .ok z w →
      Done P φ s w s v ((execOp a.eval o).run P w) := by
    intro z hz hg hb
    refine done_same hs ?_ hz
    rw [hrun]
    refine run_v _ ?_
    simp [hg, hb]
  unfold binOp0 at h'
  split at h'
  · -- two integers
    rename_i k n k' n'
    simp only [conc, concS, Option.some.injEq] at hcx hcy
    have hg : (eqGuard op t x y (a.eval x) (a.eval y)).run P w = .ok () w := by rw [← hcx, ← hcy]; exact run_eqGuard (by simp) (by simp)
    cases op with
    | shl =>
      cases n' with
      | ofNat m =>
        simp only [Option.some.injEq] at h'; subst h'
        refine fin _ rfl hg ?_
        rw [← hcx, ← hcy]
        simp only [binOp, Op.shift]
        rw [if_neg (by simp)]
        simp only [Int.ofNat_eq_natCast, Int.toNat_natCast, Sem.run_pure]
      | negSucc m => simp at h'
    | shr =>
      cases n' with
      | ofNat m =>
        simp only [Option.some.injEq] at h'; subst h'
        refine fin _ rfl hg ?_
        rw [← hcx, ← hcy]
        simp only [binOp, Op.shift]
        rw [if_neg (by simp)]
        simp only [Int.ofNat_eq_natCast, Int.toNat_natCast, Sem.run_pure]
      | negSucc m => simp at h'
    | _ =>
      simp only [cond_eq_ite, decide_eq_true_eq] at h'
      split at h'
      · rename_i hk; subst hk
        split at h'
        · rename_i c hc
          injection h' with h'; subst h'
          obtain ⟨z, hz, hr⟩ := intOp_run (P := P) (φ := φ) (w := w) hc
          refine fin z hz hg ?_
          rw [← hcx, ← hcy]
          simp only [binOp]
          simpa using hr
        · simp at h'
      · simp at h'
  · -- two strings
    rename_i p q
    simp only [conc, concS, Option.some.injEq] at hcx hcy
    have hg : (eqGuard op t x y (a.eval x) (a.eval y)).run P w = .ok () w := by rw [← hcx, ← hcy]; exact run_eqGuard (by simp) (by simp)
    simp only [cond_eq_ite, Bool.and_eq_true] at h'
    split at h'
    · rename_i hlt
      have hq := str_inj hlt.1 hlt.2
      cases op with
      | eql =>
        simp only [Option.some.injEq] at h'; subst h'
        refine fin _ rfl hg ?_
        rw [← hcx, ← hcy]
        simp only [binOp, Op.stringOp, Sem.run_pure, ← beq_toListBytes, hq]
      | neq =>
        simp only [Option.some.injEq] at h'; subst h'
        refine fin _ rfl hg ?_
        rw [← hcx, ← hcy]
        simp only [binOp, Op.stringOp, Sem.run_pure, ← beq_toListBytes, hq]
      | _ => simp at h'
    · simp at h'
  · -- two cells
    rename_i p q hn1 hn2
    cases ht : E.ty.get t with
    | none => simp [ht] at h'
    | some ti =>
      simp only [ht] at h'
      obtain ⟨d, hd, hk, _⟩ := (hE _ _ ht).und
      cases hr : eqOne ti.kind p q with
      | none => simp [hr] at h'
      | some r =>
        simp only [hr] at h'
        obtain ⟨hg, h1, h2⟩ := eq_one (P := P) (w := w) hd hk hcx hcy hr op x y
        cases op with
        | eql => simp only [Option.some.injEq] at h'; subst h'; exact fin _ rfl hg h1
        | neq => simp only [Option.some.injEq] at h'; subst h'; exact fin _ rfl hg h2
        | _ => simp at h'
  · -- two aggregates
    rename_i hn1 hn2 hn3
    cases ht : E.ty.get t with
    | none => simp [ht] at h'
    | some ti =>
      simp only [ht, cond_eq_ite, Bool.and_eq_true] at h'
      split at h'
      · rename_i hap
        obtain ⟨⟨hag, hpl⟩, hi1, hi2⟩ := hap
        obtain ⟨ks, hks, hconf, hgt⟩ := (hE _ _ ht).plain hpl
        obtain ⟨d, hd, hk, hda⟩ := (hE _ _ ht).und
        split at h'
        · rename_i ca cb hca hcb
          split at h'
          · rename_i hcc
            split at h'
            · rename_i r hr
              have h1 := cellsAs_conc hE hcx hca
              have h2 := cellsAs_conc hE hcy hcb
              obtain ⟨d', hd', ha, _⟩ := eq_plain 10 t ks hks 9990 φ w _ _ _ _ r h1 h2 (confL_confK hconf hcc.1) (confL_confK hconf hcc.2) hr
              rw [hd] at hd'; injection hd' with hd'; subst hd'
              have heq := ha (hda.trans hag)
              obtain ⟨cx, hcx'⟩ := isAg_conc hE hcx hi1
              obtain ⟨cy, hcy'⟩ := isAg_conc hE hcy hi2
              have e1 : (a.eval x).cells.toList.toArray = cx := by rw [hcx']; simp [Value.cells]
              have e2 : (a.eval y).cells.toList.toArray = cy := by rw [hcy']; simp [Value.cells]
              rw [e1, e2, ← hcx', ← hcy'] at heq
              have hg : (eqGuard op t x y (a.eval x) (a.eval y)).run P w = .ok () w := by rw [hcx', hcy']; exact run_eqGuard_agg w op t x y cx cy hgt
              cases op with
              | eql =>
                simp only [Option.some.injEq] at h'; subst h'
                refine fin _ rfl hg ?_
                rw [hcx', hcy', run_eql_struct w t cx cy, ← hcx', ← hcy']
                simp [heq]
              | neq =>
                simp only [Option.some.injEq] at h'; subst h'
                refine fin _ rfl hg ?_
                rw [hcx', hcy', run_neq_struct w t cx cy, ← hcx', ← hcy']
                simp [heq]
              | _ => simp at h'
            · simp at h'
          · simp at h'
        · simp at h'
      · simp at h'
end
end Go.Mx
