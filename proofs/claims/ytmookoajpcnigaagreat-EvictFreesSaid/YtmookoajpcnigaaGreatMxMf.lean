/- Parts of the abstract interpreter, in the order in which they build. -/
import Derived.Test.YtmookoajpcnigaaGreatMxMe
import Derived.Scope
/- Bodies and calls. -/
set_option linter.unusedSimpArgs false
set_option linter.unusedVariables false
namespace Go.Mx
open Go

def codeOk (N : Nat) (fr : PT Dr) : Code → Bool
  | .region id ops draw => ops.toList.all (fun o => match o.dst with | some d => Nat.ble (d + 1) N | none => true) &&
      (bif draw then (match fr.get id with | some d => drOk ops d | none => true) else true)
  | .seq a b => codeOk N fr a && codeOk N fr b
  | .cond _ a b => codeOk N fr a && codeOk N fr b
  | .block _ b => codeOk N fr b
  | .loop b => codeOk N fr b
  | .scope b => codeOk N fr b
  | _ => true

def exitOf : Ex → Exit
  | .norm => .normal
  | .brk id => .exit id
  | .ret => .ret

def LoopIn (P : Program) (c : Code) (Q : Exit → Act → World → Prop) (a : Act) (w : World) : Prop :=
  ∀ (b : Frame) (k : List Item) (cs : List Frame), ∃ e a' w', Q e a' w' ∧ Arrives P (lone (b.at a (.code c :: .inLoop c :: k)) cs w) b k cs e a' w'

theorem LoopIn.wp {P : Program} {c : Code} {Q : Exit → Act → World → Prop} {a : Act} {w : World} (h : LoopIn P c Q a w) : (Code.loop c).wp P Q a w := fun b k cs => by
  obtain ⟨e, a', w', hq, harr⟩ := h b k cs
  exact ⟨e, a', w', hq, .of_steps (.one step_loop) harr⟩

theorem LoopIn.round {P : Program} {c : Code} {Q : Exit → Act → World → Prop} {a : Act} {w : World} (h : c.wp P (Exit.then (LoopIn P c Q) Q) a w) : LoopIn P c Q a w := fun b k cs => by
  obtain ⟨e, a₁, w₁, hq, harr⟩ := h b (.inLoop c :: k) cs
  cases e with
  | normal =>
    obtain ⟨e₂, a₂, w₂, hq₂, harr₂⟩ := hq b k cs
    exact ⟨e₂, a₂, w₂, hq₂, .of_steps (Steps.trans harr (.one step_inLoop)) harr₂⟩
  | exit id => exact ⟨_, a₁, w₁, hq, .pass (x := .inLoop c) rfl (fun _ _ => .inl (by simp)) harr⟩
  | goto l => exact ⟨_, a₁, w₁, hq, .pass (x := .inLoop c) rfl (fun _ _ => .inl (by simp)) harr⟩
  | ret => exact ⟨_, a₁, w₁, hq, .pass (x := .inLoop c) rfl (fun _ _ => .inl (by simp)) harr⟩
  | panic ch => exact ⟨_, a₁, w₁, hq, .pass (x := .inLoop c) rfl (fun _ _ => .inl (by simp)) harr⟩
  | outgrown => exact ⟨_, a₁, w₁, hq, .pass (x := .inLoop c) rfl (fun _ _ => .inl (by simp)) harr⟩

section
variable {P : Program} {E : Env} {cf : CF} {N : Nat} {fr : PT Dr}

/-- what a piece of code does -/
def Does (P : Program) (N : Nat) (c : Code) (tm : Tm) (s : St) (ex : Ex) (tmF : Tm) (sF : St) : Prop :=
  ∀ (φ : Phi) (a : Act) (w : World) (Q : Exit → Act → World → Prop), Sat P φ s w → TmOk P φ N tm a →
    (∀ ψ a' w', Post P φ s w ψ sF w' → TmOk P ψ N tmF a' → a'.defers = a.defers → Q (exitOf ex) a' w') → c.wp P Q a w

theorem exec_sound (hm : P.follows .mixedOrders = true) (hE : TyOk P E) (hcf : CfOk P cf) (fuel : Nat) : ∀ (c : Code) (tm : Tm) (s : St) (ex : Ex) (tmF : Tm) (sF : St), codeOk N fr c = true →
    exec E cf fr fuel c tm s = some (ex, tmF, sF) → Does P N c tm s ex tmF sF := by
  intro c
  induction c with
  | skip =>
    intro tm s ex tmF sF _ h φ a w Q hs ht hq
    simp [exec] at h; obtain ⟨rfl, rfl, rfl⟩ := h
    exact wp_skip (hq φ a w (Post.refl hs) ht rfl)
  | label l =>
    intro tm s ex tmF sF _ h φ a w Q hs ht hq
    simp [exec] at h; obtain ⟨rfl, rfl, rfl⟩ := h
    exact wp_label (hq φ a w (Post.refl hs) ht rfl)
  | exit id =>
    intro tm s ex tmF sF _ h φ a w Q hs ht hq
    simp [exec] at h; obtain ⟨rfl, rfl, rfl⟩ := h
    exact wp_exit (hq φ a w (Post.refl hs) ht rfl)
  | ret =>
    intro tm s ex tmF sF _ h φ a w Q hs ht hq
    simp [exec] at h; obtain ⟨rfl, rfl, rfl⟩ := h
    exact wp_ret (hq φ a w (Post.refl hs) ht rfl)
  | region id ops draw =>
    intro tm s ex tmF sF hok h φ a w Q hs ht hq
    simp only [codeOk, Bool.and_eq_true, List.all_eq_true] at hok
    have hN : ∀ q ∈ ops.toList, DstOk N q := fun q hq d hd => by
      have := hok.1 q hq
      simp only [hd, Nat.ble_eq] at this
      exact this
    simp only [exec] at h
    cases draw with
    | false =>
      simp only [cond_false] at h
      split at h
      · rename_i tm' s' hr
        simp at h; obtain ⟨rfl, rfl, rfl⟩ := h
        refine wp_region ?_
        have := runOps_sound (Q := Q) hE hcf hN ops.toList 0 tm s a φ w (by simp) hs ht hr hq
        rw [List.range_eq_range']
        simpa using this
      · simp at h
    | true =>
      simp only [cond_true] at h hok
      split at h
      · rename_i tm' s' hr
        simp at h; obtain ⟨rfl, rfl, rfl⟩ := h
        split at hr
        · rename_i d hd
          simp only [hd] at hok
          exact draw_sound hm hE hcf hN hok.2 hs ht hr hq
        · simp at hr
      · simp at h
  | seq x y ihx ihy =>
    intro tm s ex tmF sF hok h φ a w Q hs ht hq
    simp only [codeOk, Bool.and_eq_true] at hok
    simp only [exec] at h
    split at h
    · rename_i tm1 s1 hx
      refine wp_seq (ihx tm s _ tm1 s1 hok.1 hx φ a w _ hs ht fun ψ a1 w1 hp1 ht1 hd1 => ?_)
      show y.wp P Q a1 w1
      refine ihy tm1 s1 ex tmF sF hok.2 h ψ a1 w1 Q hp1.sat ht1 fun χ a2 w2 hp2 ht2 hd2 => ?_
      exact hq χ a2 w2 (Post.trans hs hp1 hp2) ht2 (hd2.trans hd1)
    · rename_i hne
      refine wp_seq (ihx tm s ex tmF sF hok.1 h φ a w _ hs ht fun ψ a1 w1 hp1 ht1 hd1 => ?_)
      have := hq ψ a1 w1 hp1 ht1 hd1
      cases ex with
      | norm => exact absurd h (hne tmF sF)
      | brk id => exact this
      | ret => exact this
  | cond k x y ihx ihy =>
    intro tm s ex tmF sF hok h φ a w Q hs ht hq
    simp only [codeOk, Bool.and_eq_true] at hok
    simp only [exec] at h
    split at h
    · rename_i hb
      exact wp_cond_true (evB_of (ht.ev k) hb) (ihx tm s ex tmF sF hok.1 h φ a w Q hs ht hq)
    · rename_i hb
      exact wp_cond_false (evB_of (ht.ev k) hb) (ihy tm s ex tmF sF hok.2 h φ a w Q hs ht hq)
    · simp at h
  | block id b ih =>
    intro tm s ex tmF sF hok h φ a w Q hs ht hq
    simp only [codeOk] at hok
    simp only [exec] at h
    split at h
    · rename_i j tm1 s1 hb
      refine wp_block (ih tm s _ tm1 s1 hok hb φ a w _ hs ht fun ψ a1 w1 hp1 ht1 hd1 => ?_)
      simp only [cond_eq_ite, Nat.beq_eq] at h
      show Exit.inBlock id Q (.exit j) a1 w1
      simp only [Exit.inBlock]
      split at h
      · rename_i e; subst e
        simp at h; obtain ⟨rfl, rfl, rfl⟩ := h
        rw [if_pos rfl]; exact hq ψ a1 w1 hp1 ht1 hd1
      · rename_i e
        simp at h; obtain ⟨rfl, rfl, rfl⟩ := h
        rw [if_neg e]; exact hq ψ a1 w1 hp1 ht1 hd1
    · rename_i hne
      refine wp_block (ih tm s ex tmF sF hok h φ a w _ hs ht fun ψ a1 w1 hp1 ht1 hd1 => ?_)
      have := hq ψ a1 w1 hp1 ht1 hd1
      cases ex with
      | norm => exact this
      | brk j => exact absurd h (hne j tmF sF)
      | ret => exact this
  | loop b ih =>
    intro tm s ex tmF sF hok h φ a w Q hs ht hq
    simp only [codeOk] at hok
    simp only [exec] at h
    have key : ∀ (n : Nat) (tm : Tm) (s : St), iter (exec E cf fr fuel b) n tm s = some (ex, tmF, sF) → ∀ (φ : Phi) (a : Act) (w : World), Sat P φ s w → TmOk P φ N tm a →
        (∀ ψ a' w', Post P φ s w ψ sF w' → TmOk P ψ N tmF a' → a'.defers = a.defers → Q (exitOf ex) a' w') → LoopIn P b Q a w := by
      intro n
      induction n with
      | zero => intro tm s h; simp [iter] at h
      | succ n ihn =>
        intro tm s h φ a w hs ht hq
        simp only [iter] at h
        split at h
        · rename_i tm1 s1 hb
          refine LoopIn.round (ih tm s _ tm1 s1 hok hb φ a w _ hs ht fun ψ a1 w1 hp1 ht1 hd1 => ?_)
          show LoopIn P b Q a1 w1
          refine ihn tm1 s1 h ψ a1 w1 hp1.sat ht1 fun χ a2 w2 hp2 ht2 hd2 => ?_
          exact hq χ a2 w2 (Post.trans hs hp1 hp2) ht2 (hd2.trans hd1)
        · rename_i hne
          refine LoopIn.round (ih tm s ex tmF sF hok h φ a w _ hs ht fun ψ a1 w1 hp1 ht1 hd1 => ?_)
          have := hq ψ a1 w1 hp1 ht1 hd1
          cases ex with
          | norm => exact absurd h (hne tmF sF)
          | brk id => exact this
          | ret => exact this
    exact (key fuel tm s h φ a w hs ht hq).wp
  | scope b ih =>
    intro tm s ex tmF sF hok h φ a w Q hs ht hq
    simp only [codeOk] at hok
    simp only [exec] at h
    refine wp_scope_straight (ih tm s ex tmF sF hok h φ a w _ hs ht fun ψ a1 w1 hp1 ht1 hd1 => ?_)
    have := hq ψ a1 w1 hp1 ht1 hd1
    cases ex with
    | norm => exact this
    | brk id => exact this
    | ret => exact this
  | _ => intro tm s ex tmF sF _ h; simp [exec] at h

theorem tmOf_get : ∀ (l : List AV) (k : Nat) (t : Tm) (j : Nat), (tmOf k l t).get j = if k ≤ j ∧ j < k + l.length then l[j - k]? else t.get j := by
  intro l
  induction l with
  | nil => intro k t j; simp only [tmOf, List.length_nil]; rw [if_neg (by omega)]
  | cons v r ih =>
    intro k t j
    simp only [tmOf, ih, PT.get_set, List.length_cons]
    by_cases h1 : k + 1 ≤ j ∧ j < k + 1 + r.length
    · rw [if_pos h1, if_pos (by omega), show j - k = (j - (k + 1)) + 1 from by omega]; simp
    · rw [if_neg h1]
      by_cases h2 : j = k
      · subst h2; rw [if_pos rfl, if_pos (by omega)]; simp
      · rw [if_neg h2, if_neg (by omega)]

theorem concs_length {φ : Phi} : ∀ {l : List AV} {xs : List Value}, concs P φ l = some xs → xs.length = l.length := by
  intro l
  induction l with
  | nil => intro xs h; simp [concs] at h; subst h; rfl
  | cons a r ih =>
    intro xs h
    simp only [concs] at h
    cases ha : conc P φ a with
    | none => simp [ha] at h
    | some y =>
      cases hr : concs P φ r with
      | none => simp [ha, hr] at h
      | some z => simp [ha, hr] at h; subst h; simp [ih hr]

theorem concs_get {φ : Phi} : ∀ {l : List AV} {xs : List Value}, concs P φ l = some xs → ∀ (j : Nat) (v : AV), l[j]? = some v → ∃ x, xs[j]? = some x ∧ conc P φ v = some x := by
  intro l
  induction l with
  | nil => intro xs h j v hj; simp at hj
  | cons a r ih =>
    intro xs h j v hj
    simp only [concs] at h
    cases ha : conc P φ a with
    | none => simp [ha] at h
    | some y =>
      cases hr : concs P φ r with
      | none => simp [ha, hr] at h
      | some z =>
        simp [ha, hr] at h; subst h
        cases j with
        | zero => simp at hj; subst hj; exact ⟨y, by simp, ha⟩
        | succ j => simp at hj; obtain ⟨x, h1, h2⟩ := ih hr j v hj; exact ⟨x, by simpa using h1, h2⟩

theorem tmOk_start {φ : Phi} {args : List AV} {xs : List Value} (h : concs P φ args = some xs) (n : Nat) (ds : List Deferred) :
    TmOk P φ (xs.toArray ++ Array.replicate (n - xs.toArray.size) undef).size (tmOf 0 args .leaf) { tmps := xs.toArray ++ Array.replicate (n - xs.toArray.size) undef, defers := ds } := by
  refine ⟨rfl, fun t => ?_⟩
  have hlen := concs_length h
  rw [tmOf_get]
  by_cases ht : t < args.length
  · rw [if_pos ⟨Nat.zero_le _, by omega⟩]
    simp only [Nat.sub_zero]
    obtain ⟨x, h1, h2⟩ := concs_get h t args[t] (by simp [ht])
    rw [List.getElem?_eq_getElem ht]
    simp only [Option.getD_some, h2]
    simp only [Array.getD_eq_getD_getElem?]
    rw [Array.getElem?_append_left (by simp; omega)]
    simp [h1]
  · rw [if_neg (by omega)]
    simp only [PT.get, Option.getD_none, conc_undefV]
    simp only [Array.getD_eq_getD_getElem?]
    rw [Array.getElem?_append_right (by simp; omega)]
    rcases Nat.lt_or_ge (t - xs.toArray.size) (n - xs.toArray.size) with h | h
    · rw [Array.getElem?_replicate, if_pos h]; rfl
    · rw [Array.getElem?_replicate, if_neg (by omega)]; rfl

theorem results_ok (hE : TyOk P E) {φ : Phi} {s : St} {w : World} {tm : Tm} {a : Act} (hs : Sat P φ s w) (ht : TmOk P φ N tm a) : ∀ (l : List ResultVar) (vs : List Vv), resOf E tm s l = some vs →
    ∃ xs, concVs φ vs = some xs ∧ (l.mapM (fun (r : ResultVar) => match r with
      | .tmp t => (pure (a.tmps.getD t undef) : Sem Value)
      | .cell q t => do loadVar t (← asAddr (a.tmps.getD q undef)))).run P w = .ok xs w := by
  intro l
  induction l with
  | nil => intro vs h; simp [resOf] at h; subst h; exact ⟨[], rfl, by simp⟩
  | cons r l ih =>
    intro vs h
    cases r with
    | tmp t =>
      simp only [resOf] at h
      split at h
      · rename_i v l' hv hl
        split at h
        · rename_i u hu
          injection h with h; subst h
          obtain ⟨xs, h1, h2⟩ := ih _ hl
          have hc := ofV_conc hE (ht.ev (.tmp t) v hv) hu
          refine ⟨a.eval (.tmp t) :: xs, by simp [concVs, hc, h1], ?_⟩
          rw [List.mapM_cons]
          simp only [Sem.run_bind, Sem.run_pure, Result.andThen_ok, h2]
          rfl
        · simp at h
      · simp at h
    | cell q t =>
      simp only [resOf] at h
      split at h
      · rename_i p ti l' hp hti hl
        split at h
        · rename_i cs hcs
          simp only [cond_eq_ite, Bool.or_eq_true, Nat.beq_eq] at h
          split at h
          · rename_i hone
            injection h with h; subst h
            obtain ⟨xs, h1, h2⟩ := ih _ hl
            obtain ⟨A, hA, hpv⟩ := evP_of (ht.ev (.tmp q)) hp
            have hmk : ∃ v, mkV ti.agg cs = some v ∧ ofV E v = some (ti.agg, cs) := by
              cases hag : ti.agg with
              | true => exact ⟨.agg cs, by simp [mkV], by simp [ofV]⟩
              | false =>
                simp [hag] at hone
                match cs, hone with
                | [c], _ => exact ⟨.one c, by simp [mkV], by simp [ofV]⟩
            obtain ⟨v, hv1, hv2⟩ := hmk
            obtain ⟨x, hr, hc⟩ := run_loadVar_of hE hs hti hA hcs hv1
            refine ⟨x :: xs, by simp [concVs, ofV_conc hE hc hv2, h1], ?_⟩
            have hpv' : a.tmps.getD q undef = .pointer (some A) := hpv
            rw [List.mapM_cons]
            have hA' : (asAddr (a.tmps.getD q undef)).run P w = .ok A w := by rw [hpv']; rfl
            simp only [Sem.run_bind, hA', Sem.run_pure, Result.andThen_ok, hr, h2]
          · simp at h
        · simp at h
      · simp at h

theorem results_run (hE : TyOk P E) {φ : Phi} {s s' : St} {w : World} {tm : Tm} {a : Act} {fn : Func} (hs : Sat P φ s w) (ht : TmOk P φ N tm a) {v : AV}
    (h : (match resOf E tm s fn.results.toList with
            | some [v] => ov (toV v) s
            | some l => some (.tup l, s)
            | none => none) = some (v, s')) : s' = s ∧ ∃ x, (results fn a.tmps).run P w = .ok x w ∧ conc P φ v = some x := by
  cases hr : resOf E tm s fn.results.toList with
  | none => simp [hr] at h
  | some vs =>
    obtain ⟨xs, h1, h2⟩ := results_ok hE hs ht _ _ hr
    have hmap : (fn.results.mapM (fun (r : ResultVar) => match r with
      | .tmp t => (pure (a.tmps.getD t undef) : Sem Value)
      | .cell q t => do loadVar t (← asAddr (a.tmps.getD q undef)))).run P w = .ok xs.toArray w := by
      rw [Array.mapM_eq_mapM_toList]
      rw [Sem.run_map, h2]; rfl
    have hrun : (results fn a.tmps).run P w = .ok (if h : xs.toArray.size = 1 then xs.toArray[0] else .tuple xs.toArray) w := by
      unfold results
      simp only [Sem.run_bind]
      refine (congrArg (fun r => Result.andThen r _) hmap).trans ?_
      rfl
    simp only [hr] at h
    match vs, h1, h with
    | [u], h1, h =>
      simp only [concVs] at h1
      cases hu : concV φ u with
      | none => simp [hu] at h1
      | some y =>
        simp [hu] at h1; subst h1
        obtain ⟨hv, rfl⟩ := ov_some h
        exact ⟨rfl, y, by rw [hrun]; simp, toV_conc hu hv⟩
    | [], h1, h =>
      simp at h; obtain ⟨rfl, rfl⟩ := h
      simp [concVs] at h1; subst h1
      exact ⟨rfl, .tuple #[], by rw [hrun]; simp, by simp [conc, concVs]⟩
    | u1 :: u2 :: r, h1, h =>
      simp at h; obtain ⟨rfl, rfl⟩ := h
      have hlen : xs.length = r.length + 2 := by
        have : ∀ (l : List Vv) (xs : List Value), concVs φ l = some xs → xs.length = l.length := by
          intro l
          induction l with
          | nil => intro xs h; simp [concVs] at h; subst h; rfl
          | cons a r ih =>
            intro xs h
            simp only [concVs] at h
            cases ha : concV φ a with
            | none => simp [ha] at h
            | some y =>
              cases hr : concVs φ r with
              | none => simp [ha, hr] at h
              | some z => simp [ha, hr] at h; subst h; simp [ih _ hr]
        have := this _ _ h1; simpa using this
      refine ⟨rfl, .tuple xs.toArray, ?_, by simp [conc, h1]⟩
      rw [hrun, dif_neg (by simp; omega)]

theorem codeOk_mono {n m : Nat} (h : n ≤ m) : ∀ c : Code, codeOk n fr c = true → codeOk m fr c = true := by
  intro c
  induction c with
  | region id ops draw =>
    intro hc
    simp only [codeOk, Bool.and_eq_true, List.all_eq_true] at hc ⊢
    refine ⟨fun q hq => ?_, hc.2⟩
    have := hc.1 q hq
    cases hd : q.dst with
    | none => rfl
    | some d =>
      simp only [hd, Nat.ble_eq] at this ⊢
      exact Nat.le_trans this h
  | seq a b iha ihb => intro hc; simp only [codeOk, Bool.and_eq_true] at hc ⊢; exact ⟨iha hc.1, ihb hc.2⟩
  | cond k a b iha ihb => intro hc; simp only [codeOk, Bool.and_eq_true] at hc ⊢; exact ⟨iha hc.1, ihb hc.2⟩
  | block id b ih => intro hc; exact ih hc
  | loop b ih => intro hc; exact ih hc
  | scope b ih => intro hc; exact ih hc
  | _ => intro _; rfl

/-- the table of a program -/
structure EnvOk (P : Program) (E : Env) : Prop where
  follows : P.follows .mixedOrders = true
  ty : TyOk P E
  fns : ∀ f fn, E.fns.get f = some fn → P.funcs[f]? = some fn ∧ (fn.name == "runtime.NumGoroutine") = false ∧ ∀ c, fn.body = some c → codeOk fn.ntmps (freeOf E f) c = true
  intr : ∀ f F, E.intr.get f = some F → CfOk P (fun g args s => if g = f then F args s else none)

theorem call_sound (hE : EnvOk P E) (fuel : Nat) : ∀ d, CfOk P (call E fuel d) := by
  intro d
  induction d with
  | zero => intro f args s v s' h; simp [call] at h
  | succ d ih =>
    intro f args s v s' h
    simp only [call] at h
    cases hi : E.intr.get f with
    | some F =>
      simp only [hi] at h
      exact hE.intr f F hi f args s v s' (by simpa using h)
    | none =>
      simp only [hi] at h
      cases hf : E.fns.get f with
      | none => simp [hf] at h
      | some fn =>
        simp only [hf] at h
        obtain ⟨h1, h2, h3⟩ := hE.fns f fn hf
        cases hb : fn.body with
        | none => simp [hb] at h
        | some c =>
          simp only [hb] at h
          refine ⟨⟨fn, h1, h2, by simp [hb]⟩, fun φ w xs hs hxs => ?_⟩
          have hcode := h3 c hb
          cases hx : exec E (call E fuel d) (freeOf E f) fuel c (tmOf 0 args .leaf) s with
          | none => simp [hx] at h
          | some r =>
            obtain ⟨ex, tm', s1⟩ := r
            simp only [hx] at h
            have hN : codeOk (xs.toArray ++ Array.replicate (fn.ntmps - xs.toArray.size) undef).size (freeOf E f) c = true :=
              codeOk_mono (by simp; omega) c hcode
            have hd := exec_sound hE.follows hE.ty ih fuel c _ s ex tm' s1 hN hx φ { tmps := xs.toArray ++ Array.replicate (fn.ntmps - xs.toArray.size) undef, defers := [] } w
            have fin : ∀ (ψ : Phi) (a' : Act) (w' : World), Post P φ s w ψ s1 w' → TmOk P ψ (xs.toArray ++ Array.replicate (fn.ntmps - xs.toArray.size) undef).size tm' a' → a'.defers = [] →
                (match resOf E tm' s1 fn.results.toList with
                  | some [v] => ov (toV v) s1
                  | some l => some (.tup l, s1)
                  | none => none) = some (v, s') →
                a'.defers = [] ∧ ∃ y, (results fn a'.tmps).run P w' = .ok y w' ∧ ∃ x χ, Ending.returned y = .returned x ∧ Post P φ s w χ s' w' ∧ conc P χ v = some x := fun ψ a' w' hp ht hde hr => by
              obtain ⟨rfl, x, r1, r2⟩ := results_run hE.ty hp.sat ht hr
              exact ⟨hde, x, r1, x, ψ, rfl, hp, r2⟩
            refine calls_of_wp h1 hb ?_
            refine hd _ hs (tmOk_start hxs fn.ntmps []) fun ψ a' w' hp ht hde => ?_
            cases ex with
            | brk id => simp at h
            | norm => exact fin ψ a' w' hp ht hde h
            | ret => exact fin ψ a' w' hp ht hde h
end
end Go.Mx

/- The tables' checks. -/
set_option linter.unusedSimpArgs false
set_option linter.unusedVariables false
namespace Go.Mx
open Go

def PT.all {α : Type} (p : Nat → α → Bool) : PT α → Nat → Nat → Bool
  | .leaf, _, _ => true
  | .node l v r, a, b => (match v with | some x => p b x | none => true) && PT.all p l (2 * a) (a + b) && PT.all p r (2 * a) (2 * a + b)

theorem PT.all_get {α : Type} {p : Nat → α → Bool} : ∀ {t : PT α} {a b : Nat}, PT.all p t a b = true → ∀ {k : Nat} {x : α}, t.get k = some x → p (a * k + b) x = true := by
  intro t
  induction t with
  | leaf => intro a b _ k x h; simp [PT.get] at h
  | node l v r ihl ihr =>
    intro a b h k x hg
    simp only [PT.all, Bool.and_eq_true] at h
    obtain ⟨⟨h1, h2⟩, h3⟩ := h
    rw [PT.get_node] at hg
    split at hg
    · rename_i e; subst e; subst hg; simpa using h1
    · split at hg
      · rename_i e1 e2
        have := ihl h2 hg
        have e : 2 * a * (k / 2) + (a + b) = a * k + b := by
          have : a * k = a * (2 * (k / 2) + 1) := by congr 1; omega
          rw [this, Nat.mul_add, Nat.mul_one, ← Nat.mul_assoc, Nat.mul_comm a 2]; omega
        rw [e] at this; exact this
      · rename_i e1 e2
        have := ihr h3 hg
        have e : 2 * a * (k / 2 - 1) + (2 * a + b) = a * k + b := by
          have : a * k = a * (2 * (k / 2 - 1) + 2) := by congr 1; omega
          rw [this, Nat.mul_add, ← Nat.mul_assoc, Nat.mul_comm a 2]; omega
        rw [e] at this; exact this

/-- a zero cell, as the abstract interpreter has it -/
def zOne : Value → Sc → Bool
  | .bool x, .b y => x == y
  | .int j x, .i k y => decide (j = k) && x == y
  | .string s, .s l => s.data.toList.isEmpty && l.isEmpty
  | .pointer none, .p none => true
  | .slice none n m, .sl none n' m' op => Nat.beq n n' && Nat.beq m m'
  | .map none, .m none => true
  | .chan none, .ch none => true
  | .nilFunc, .nilfn => true
  | .nilIface, .nilifc => true
  | _, _ => false

theorem zOne_spec {v : Value} {c : Sc} (h : zOne v c = true) : concS Phi.nil c = some v := by
  unfold zOne at h
  split at h <;> simp at h <;> simp [concS]
  · exact h.symm
  · exact ⟨h.1.symm, h.2.symm⟩
  · rename_i s l
    obtain ⟨h1, h2⟩ := h
    subst h2
    unfold str
    apply ByteArray.ext
    simp [h1]
  · exact ⟨h.1.symm, h.2.symm⟩

def zOk : List Value → List (Nat × Sc) → Bool
  | [], [] => true
  | v :: vs, (1, c) :: r => zOne v c && zOk vs r
  | v :: vs, (n + 2, c) :: r => zOne v c && zOk vs ((n + 1, c) :: r)
  | _, _ => false

theorem zOk_spec : ∀ {vs : List Value} {rs : List (Nat × Sc)}, zOk vs rs = true → concL Phi.nil (rs.flatMap fun p => List.replicate p.1 p.2) = some vs := by
  intro vs
  induction vs with
  | nil =>
    intro rs h
    cases rs with
    | nil => rfl
    | cons a r => simp [zOk] at h
  | cons v vs ih =>
    intro rs h
    match rs, h with
    | (1, c) :: r, h =>
      simp only [zOk, Bool.and_eq_true] at h
      have := ih h.2
      simp only [List.flatMap_cons, List.replicate_one, List.singleton_append]
      exact concL_cons.2 ⟨v, vs, zOne_spec h.1, this, rfl⟩
    | (n + 2, c) :: r, h =>
      simp only [zOk, Bool.and_eq_true] at h
      have := ih h.2
      simp only [List.flatMap_cons, List.replicate_succ, List.cons_append] at this ⊢
      exact concL_cons.2 ⟨v, vs, zOne_spec h.1, this, rfl⟩

def kindChk (P : Program) : TK → TypeDesc → Bool
  | .int k, .int j => decide (k = j)
  | .bool, .bool => true
  | .str, .string => true
  | .ptr, .pointer _ => true
  | .slice e, .slice f => Nat.beq e f
  | .arr n e, .array m f => Nat.beq n m && Nat.beq e f
  | .map k e, .map l f => Nat.beq k l && Nat.beq e f
  | .struct fs, .struct fields => Nat.beq fs.length fields.size && fldChk fs fields.toList
  | .chan, .chan _ e => (match P.info? e with | some ei => Nat.ble ei.bytes 1048576 | none => false)
  | .fn, .func _ _ _ => true
  | .other, _ => true
  | _, _ => false
where
  fldChk : List (Nat × Nat × Bool) → List Field → Bool
    | [], [] => true
    | f :: fs, g :: gs => (match P.info? g.type, P.underlying g.type with
        | some fi, some gd => Nat.beq g.offset f.1 && Nat.beq fi.size f.2.1 && (aggD gd == f.2.2)
        | _, _ => false) && fldChk fs gs
    | _, _ => false

theorem fldChk_spec {P : Program} : ∀ {fs : List (Nat × Nat × Bool)} {gs : List Field}, kindChk.fldChk P fs gs = true → ∀ (j : Nat) (f : Nat × Nat × Bool), fs[j]? = some f →
    ∃ g fi gd, gs[j]? = some g ∧ g.offset = f.1 ∧ P.info? g.type = some fi ∧ fi.size = f.2.1 ∧ P.underlying g.type = some gd ∧ aggD gd = f.2.2 := by
  intro fs
  induction fs with
  | nil => intro gs _ j f h; simp at h
  | cons a r ih =>
    intro gs h j f hj
    cases gs with
    | nil => simp [kindChk.fldChk] at h
    | cons g gs =>
      simp only [kindChk.fldChk, Bool.and_eq_true] at h
      cases j with
      | zero =>
        simp at hj; subst hj
        have h := h.1
        split at h
        · rename_i fi gd h1 h2
          simp only [Bool.and_eq_true, Nat.beq_eq, beq_iff_eq] at h
          exact ⟨g, fi, gd, rfl, h.1.1, h1, h.1.2, h2, h.2⟩
        · simp at h
      | succ j => exact ih h.2 j f (by simpa using hj)

theorem kindChk_spec {P : Program} {k : TK} {d : TypeDesc} (h : kindChk P k d = true) : KindOk P k d := by
  unfold kindChk at h
  split at h <;> simp only [KindOk]
  · simp at h; rw [h]
  · exact ⟨_, rfl⟩
  · rw [Nat.eq_of_beq_eq_true h]
  · simp only [Bool.and_eq_true, Nat.beq_eq] at h; rw [h.1, h.2]
  · simp only [Bool.and_eq_true, Nat.beq_eq] at h; rw [h.1, h.2]
  · simp only [Bool.and_eq_true, Nat.beq_eq] at h
    refine ⟨_, rfl, h.1, fun j f hj => ?_⟩
    obtain ⟨g, fi, gd, h1, h2⟩ := fldChk_spec h.2 j f hj
    exact ⟨g, fi, gd, by rw [← Array.getElem?_toList]; exact h1, h2⟩
  · split at h
    · rename_i ei he
      exact ⟨_, _, ei, rfl, he, by simpa using h⟩
    · simp at h
  · exact ⟨_, _, _, rfl⟩
  · simp at h

def sumRuns : List (Nat × Sc) → Nat
  | [] => 0
  | p :: r => p.1 + sumRuns r

theorem sumRuns_eq : ∀ l : List (Nat × Sc), sumRuns l = (l.flatMap fun p => List.replicate p.1 p.2).length := by
  intro l
  induction l with
  | nil => rfl
  | cons a r ih => simp [sumRuns, ih]

def isAggV : Value → Bool
  | .agg _ => true
  | _ => false

def tiChk (P : Program) (t : Nat) (ti : TI) : Bool :=
  match P.info? t, P.underlying t with
  | some i, some d => (match i.zero with
      | some z => Nat.beq i.size ti.size && Nat.ble i.bytes 1048576 && zOk z.cells.toList ti.zero && (isAggV z == ti.agg) && Nat.beq ti.size (sumRuns ti.zero)
      | none => false) && kindChk P ti.kind d && (aggD d == ti.agg) && (!ti.plain || (match plainChk P 10 t with | some ks => confK ks (zeroCells ti) && !P.eqGuardType P.depth t | none => false))
  | _, _ => false

theorem tiChk_spec {P : Program} {t : Nat} {ti : TI} (h : tiChk P t ti = true) : TiOk P t ti := by
  unfold tiChk at h
  split at h
  · rename_i i d hi hd
    simp only [Bool.and_eq_true] at h
    obtain ⟨⟨⟨h1, h2⟩, h3⟩, h4⟩ := h
    cases hz : i.zero with
    | none => simp [hz] at h1
    | some z =>
      simp only [hz, Bool.and_eq_true, Nat.beq_eq, Nat.ble_eq, beq_iff_eq] at h1
      obtain ⟨⟨⟨⟨g1, g2⟩, g3⟩, g4⟩, g5⟩ := h1
      refine ⟨⟨i, z, hi, g1, g2, hz, zOk_spec g3, by rw [g5, sumRuns_eq]; rfl, fun ha => ?_, fun ha => ?_⟩, ⟨d, hd, kindChk_spec h2, by simpa using h3⟩, fun hp => ?_⟩
      · rw [ha] at g4
        cases z <;> simp [isAggV] at g4
        exact ⟨_, rfl⟩
      · rw [ha] at g4
        cases z <;> simp [isAggV] at g4 <;> rfl
      · simp only [hp, Bool.not_true, Bool.false_or] at h4
        split at h4
        · rename_i ks hks
          simp only [Bool.and_eq_true, Bool.not_eq_true'] at h4
          exact ⟨ks, hks, h4.1, h4.2⟩
        · simp at h4
  · simp at h

theorem tyOk_of {P : Program} {E : Env} (h : PT.all (tiChk P) E.ty 1 0 = true) : TyOk P E := fun t ti ht => by
  have := PT.all_get h ht
  simp at this
  exact tiChk_spec this
end Go.Mx
