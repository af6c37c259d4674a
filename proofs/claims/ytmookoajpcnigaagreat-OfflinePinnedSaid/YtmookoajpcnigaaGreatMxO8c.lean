/- Operations on maps. -/
import Derived.Test.YtmookoajpcnigaaGreatMxO8b
set_option linter.unusedSimpArgs false
namespace Go.Mx
open Go

theorem modify_at {α : Type} {f : α → α} {x : α} {xq : List α} : ∀ (xp : List α), (xp ++ x :: xq).modify xp.length f = xp ++ f x :: xq := by
  intro xp
  induction xp with
  | nil => simp
  | cons a r ih => simp [ih]

theorem erase_at {α : Type} {x : α} {xq : List α} : ∀ (xp : List α), (xp ++ x :: xq).eraseIdx xp.length = xp ++ xq := by
  intro xp
  induction xp with
  | nil => simp
  | cons a r ih => simp [ih]

section
variable {P : Program} {E : Env} {φ : Phi} {s s' : St} {w : World} {tm : Tm} {a : Act} {v : AV} {cf : CF} {o : Oper}

theorem run_getMap {r : Nat} {es : Array MapEntry} {clock : Nat} (hb : w.heap[r]? = some (.map es clock)) : (getObj r).run P w = .ok (.map es clock) w := by
  simp [getObj, Sem.run, hb]

theorem run_setMap {r : Nat} {es : Array MapEntry} {clock : Nat} (o : Obj) (hb : w.heap[r]? = some (.map es clock)) : (setObj r o).run P w = .ok () { w with heap := w.heap.setIfInBounds r o } := by
  simp [setObj, Sem.run, hb]

theorem set_map (hs : Sat P φ s w) {r : Nat} {es es' : List Me} {c c' : Nat} {L : Lo} {xs' : Array MapEntry} (hg : s.hp.get r = some (.map es c)) (hL : φ r = some L)
    (h2 : All2 (entryRel φ) es' xs'.toList) (h3 : (es'.map (·.2.2)).Nodup) (h4 : ∀ e ∈ es', e.2.2 < c') :
    Post P φ s w φ { s with hp := s.hp.set r (.map es' c') } { w with heap := w.heap.setIfInBounds L.blk (.map xs' c') } := by
  have hob := hs.obj _ _ _ hg hL
  have hb := objRel_lt hob
  refine Post.upd hs hg hL rfl (o' := .map es' c') (s' := { s with hp := s.hp.set r (.map es' c') }) rfl (fun j => by rw [PT.get_set]) rfl rfl rfl (by simp) ?_ ?_
  · intro b hb; simp only []; rw [Array.getElem?_setIfInBounds_ne (fun e => hb e.symm)]
  · exact ⟨xs', by simp [hb], h2, h3, h4⟩

theorem map_of (hs : Sat P φ s w) {x : Operand} {r : Nat} (hx : EvOk P φ tm a x) (hev : ev tm x = some (.one (.m (some r)))) {es : List Me} {c : Nat} (hg : s.hp.get r = some (.map es c)) :
    ∃ L xs, φ r = some L ∧ a.eval x = .map (some L.blk) ∧ w.heap[L.blk]? = some (.map xs c) ∧ All2 (entryRel φ) es xs.toList ∧ (es.map (·.2.2)).Nodup ∧ ∀ e ∈ es, e.2.2 < c := by
  have h := hx _ hev
  simp only [conc, concS] at h
  cases hL : φ r with
  | none => simp [hL] at h
  | some L =>
    simp [hL] at h
    obtain ⟨xs, h1, h2, h3, h4⟩ := hs.obj _ _ _ hg hL
    exact ⟨L, xs, rfl, h.symm, h1, h2, h3, h4⟩

theorem concV_bool (b : Bool) : concV φ (false, [.b b]) = some (.bool b) := by simp [concV, concL, concS]
theorem concV_i64 (n : Int) : concV φ (false, [.i .i64 n]) = some (.int .i64 n) := by simp [concV, concL, concS]

theorem conc_tup2 {u v : Vv} {x y : Value} (h1 : concV φ u = some x) (h2 : concV φ v = some y) : conc P φ (.tup [u, v]) = some (.tuple #[x, y]) := by
  simp [conc, concVs, h1, h2]

theorem op_lookup (hE : TyOk P E) (hs : Sat P φ s w) {t : Nat} {x i : Operand} {ok : Bool} (ho : o.op = .lookup t x i ok) (hev : OpsOk P φ tm a o)
    (h : doOp E cf tm s o = some (v, s')) : Done P φ s w s' v ((execOp a.eval o).run P w) := by
  have hx := hev x (by simp [ho, Op.operands])
  have hi := hev i (by simp [ho, Op.operands])
  simp only [doOp, ho] at h
  split at h
  · rename_i kt e _ _ r k ht hxe hke
    obtain ⟨d, hd, hdk, _⟩ := (hE _ _ ht).und
    simp only [KindOk] at hdk; subst hdk
    have hkv := evV_of hE hi hke
    split at h
    · rename_i es hes
      unfold mapOf at hes
      simp only [cond_eq_ite] at h
      have hko : keyOk E kt k = true := by
        cases hq : keyOk E kt k with
        | true => rfl
        | false => simp [hq] at h
      rw [if_pos hko] at h
      -- the entries
      have hent : ∃ xs : Array MapEntry, All2 (entryRel φ) es xs.toList ∧ ∀ (g : Array MapEntry → Sem Value), (do
          let es ← match a.eval x with
            | .map none => pure #[]
            | .map (some r) => do
              let .map es _ ← getObj r | stuck "Lookup: map expected"
              pure es
            | _ => stuck "Lookup: map expected"
          g es : Sem Value).run P w = (g xs).run P w := by
        cases r with
        | none =>
          simp at hes; subst hes
          have := hx _ hxe
          simp [conc, concS] at this
          exact ⟨#[], .nil, fun g => by simp [← this]⟩
        | some r =>
          simp only at hes
          split at hes
          · rename_i es' c hg
            injection hes with hes; subst hes
            obtain ⟨L, xs, h1, h2, h3, h4, _⟩ := map_of hs hx hxe hg
            exact ⟨xs, h4, fun g => by simp [h2, run_getMap h3]⟩
          · simp at hes
      obtain ⟨xs, ha, hrun⟩ := hent
      have start : ∀ (res : Option (Nat × Value)) (y : Value), (Instr.findKey kt (a.eval i) xs.toList).run P w = .ok res w →
          (do let (v, ok2) ← match res with
                | some (_, v) => pure (v, true)
                | none => pure (← zeroValue e, false)
              pure (if ok then .tuple #[v, .bool ok2] else v) : Sem Value).run P w = .ok y w →
          (execOp a.eval o).run P w = .ok (.value y) w := by
        intro res y hf hy
        simp only [execOp, ho]
        refine run_v _ ?_
        unfold Instr.lookup
        simp only [Sem.run_bind, run_und hd, Result.andThen_ok]
        have := hrun (fun es => do
          Instr.checkKey es.isEmpty 10000 kt (a.eval i)
          let (v, ok2) ← match ← Instr.findKey kt (a.eval i) es.toList with
            | some (_, v) => pure (v, true)
            | none => pure (← zeroValue e, false)
          pure (if ok then .tuple #[v, .bool ok2] else v))
        simp only [Sem.run_bind] at this
        refine this.trans ?_
        rw [checkKey_ok hE hko hkv]
        simp only [Result.andThen_ok, hf]
        simpa only [Sem.run_bind] using hy
      split at h
      · rename_i m hm
        obtain ⟨res, hf, _, hsome⟩ := findKey_ok hE hko hkv ha hm w
        obtain ⟨pre, post, xp, y, xq, rfl, hxs, hl, h1, h2, h3, h4, h5, rfl⟩ := hsome _ rfl
        cases ok with
        | true =>
          simp at h; obtain ⟨rfl, rfl⟩ := h
          exact done_same hs (start _ (.tuple #[y.val, .bool true]) hf (by simp)) (conc_tup2 h2.2.1 (concV_bool true))
        | false =>
          simp only [Bool.false_eq_true, if_false] at h
          obtain ⟨hv, rfl⟩ := ov_some h
          exact done_same hs (start _ y.val hf (by simp)) (toV_conc h2.2.1 hv)
      · rename_i hm
        obtain ⟨res, hf, hnone, _⟩ := findKey_ok hE hko hkv ha hm w
        obtain rfl := hnone rfl
        split at h
        · rename_i te hte
          obtain ⟨ei, z, hz1, hz2, hz3⟩ := zero_concV (φ := φ) hE hte
          cases ok with
          | true =>
            simp at h; obtain ⟨rfl, rfl⟩ := h
            exact done_same hs (start _ (.tuple #[z, .bool false]) hf (by simp [run_zeroValue hz1 hz2])) (conc_tup2 hz3 (concV_bool false))
          | false =>
            simp only [Bool.false_eq_true, if_false] at h
            obtain ⟨hv, rfl⟩ := ov_some h
            exact done_same hs (start _ z hf (by simp [run_zeroValue hz1 hz2])) (toV_conc hz3 hv)
        · simp at h
      · simp at h
    · simp at h
  · simp at h

theorem op_mapUpdate (hE : TyOk P E) (hs : Sat P φ s w) {t : Nat} {x i y : Operand} (ho : o.op = .mapUpdate t x i y) (hev : OpsOk P φ tm a o)
    (h : doOp E cf tm s o = some (v, s')) : Done P φ s w s' v ((execOp a.eval o).run P w) := by
  have hx := hev x (by simp [ho, Op.operands])
  have hi := hev i (by simp [ho, Op.operands])
  have hy := hev y (by simp [ho, Op.operands])
  simp only [doOp, ho] at h
  split at h
  · rename_i kt e _ _ r k u ht hxe hke hue
    obtain ⟨d, hd, hdk, _⟩ := (hE _ _ ht).und
    simp only [KindOk] at hdk; subst hdk
    have hkv := evV_of hE hi hke
    have huv := evV_of hE hy hue
    split at h
    · rename_i es c hg
      simp only [cond_eq_ite] at h
      have hko : keyOk E kt k = true := by
        cases hq : keyOk E kt k with
        | true => rfl
        | false => simp [hq] at h
      rw [if_pos hko] at h
      obtain ⟨L, xs, hL, hxv, hheap, ha, hnd, hlt⟩ := map_of hs hx hxe hg
      have start : ∀ (w' : World), (do
            match ← Instr.findKey kt (a.eval i) xs.toList with
            | some (j, _) => do
              let key ← Instr.keyThatStays (((xs[j]?).map (·.key)).getD (a.eval i)) (a.eval i)
              setObj L.blk (.map (xs.modify j fun e => { e with key, val := a.eval y }) c)
            | none => setObj L.blk (.map (xs.push { key := a.eval i, val := a.eval y, born := c }) (c + 1)) : Sem Unit).run P w = .ok () w' →
          (execOp a.eval o).run P w = .ok .skip w' := by
        intro w' hy
        simp only [execOp, ho]
        unfold Instr.mapUpdate
        simp only [Sem.run_bind, run_und hd, Result.andThen_ok, hxv, run_getMap hheap, checkKey_ok hE hko hkv]
        simp only [Sem.run_bind] at hy
        exact congrArg (fun r => Result.andThen r fun _ w' => Result.ok Next.skip w') hy
      split at h
      · rename_i m hm
        simp at h; obtain ⟨rfl, rfl⟩ := h
        obtain ⟨res, hf, _, hsome⟩ := findKey_ok hE hko hkv ha hm w
        obtain ⟨pre, post, xp, z, xq, rfl, hxs, hl, h1, h2, h3, h4, h5, rfl⟩ := hsome _ rfl
        have hkz : z.key = a.eval i := by
          have : concV φ k = some z.key := by rw [eqK_true h5]; exact h2.1
          rw [this] at hkv; injection hkv
        have hidx : xs[pre.length]? = some z := by
          rw [← Array.getElem?_toList, hxs, ← hl]; simp
        rw [putK_form h5 h4]
        refine ⟨φ, undef, _, .inr ⟨start { w with heap := w.heap.setIfInBounds L.blk (.map (xs.modify pre.length fun e => { e with key := a.eval i, val := a.eval y }) c) } ?_, rfl⟩, set_map hs hg hL ?_ ?_ ?_, by simp [conc, concVs, undefV, undef]⟩
        · simp [hf, hidx, hkz, stays_ok hE hko hkv, run_setMap _ hheap]
        · rw [Array.toList_modify, hxs, ← hl, modify_at]
          exact h1.append (.cons ⟨hkv, huv, h2.2.2⟩ h3)
        · simpa using hnd
        · intro e he
          simp at he
          rcases he with he | rfl | he
          · exact hlt e (by simp [he])
          · exact hlt m (by simp)
          · exact hlt e (by simp [he])
      · rename_i hm
        simp at h; obtain ⟨rfl, rfl⟩ := h
        obtain ⟨res, hf, hnone, _⟩ := findKey_ok hE hko hkv ha hm w
        obtain rfl := hnone rfl
        refine ⟨φ, undef, _, .inr ⟨start { w with heap := w.heap.setIfInBounds L.blk (.map (xs.push { key := a.eval i, val := a.eval y, born := c }) (c + 1)) } ?_, rfl⟩, set_map hs hg hL ?_ ?_ ?_, by simp [conc, concVs, undefV, undef]⟩
        · simp [hf, run_setMap _ hheap]
        · rw [Array.toList_push]
          exact ha.append (.cons ⟨hkv, huv, rfl⟩ .nil)
        · rw [List.map_append, List.nodup_append]
          refine ⟨hnd, by simp, ?_⟩
          intro b hb b' hb' e
          obtain ⟨q, hq, rfl⟩ := List.mem_map.1 hb
          have := hlt q hq; simp at hb'; omega
        · intro e he
          simp at he
          rcases he with he | rfl
          · have := hlt e he; omega
          · simp
      · simp at h
    · simp at h
  · simp at h

theorem op_mapEntry (hE : TyOk P E) (hs : Sat P φ s w) {t : Nat} {x i : Operand} (ho : o.op = .mapEntry t x i) (hev : OpsOk P φ tm a o)
    (h : doOp E cf tm s o = some (v, s')) : Done P φ s w s' v ((execOp a.eval o).run P w) := by
  have hx := hev x (by simp [ho, Op.operands])
  have hi := hev i (by simp [ho, Op.operands])
  simp only [doOp, ho] at h
  split at h
  · rename_i kt e _ _ r k ht hxe hke
    obtain ⟨d, hd, hdk, _⟩ := (hE _ _ ht).und
    simp only [KindOk] at hdk; subst hdk
    have hkv := evV_of hE hi hke
    split at h
    · rename_i es c te hg hte
      obtain ⟨ei, zv, hz1, hz2, hz3⟩ := zero_concV (φ := φ) hE hte
      simp only [cond_eq_ite] at h
      have hko : keyOk E kt k = true := by
        cases hq : keyOk E kt k with
        | true => rfl
        | false => simp [hq] at h
      rw [if_pos hko] at h
      obtain ⟨L, xs, hL, hxv, hheap, ha, hnd, hlt⟩ := map_of hs hx hxe hg
      have start : ∀ (w' : World) (q : Value), (do
            match ← Instr.findKey kt (a.eval i) xs.toList with
            | some (j, v) =>
              let key ← Instr.keyThatStays (((xs[j]?).map (·.key)).getD (a.eval i)) (a.eval i)
              setObj L.blk (.map (xs.modify j fun e => { e with key }) c)
              pure (.tuple #[v, goInt (((xs[j]?).map (·.born)).getD 0)])
            | none =>
              let zero ← zeroValue e
              setObj L.blk (.map (xs.push { key := a.eval i, val := zero, born := c }) (c + 1))
              pure (.tuple #[zero, goInt c]) : Sem Value).run P w = .ok q w' →
          (execOp a.eval o).run P w = .ok (.value q) w' := by
        intro w' q hy
        simp only [execOp, ho]
        refine run_v _ ?_
        unfold Instr.mapEntry
        simp only [Sem.run_bind, run_und hd, Result.andThen_ok, hxv, run_getMap hheap, checkKey_ok hE hko hkv]
        simp only [Sem.run_bind] at hy
        exact hy
      split at h
      · rename_i m hm
        simp at h; obtain ⟨rfl, rfl⟩ := h
        obtain ⟨res, hf, _, hsome⟩ := findKey_ok hE hko hkv ha hm w
        obtain ⟨pre, post, xp, z, xq, rfl, hxs, hl, h1, h2, h3, h4, h5, rfl⟩ := hsome _ rfl
        have hkz : z.key = a.eval i := by
          have : concV φ k = some z.key := by rw [eqK_true h5]; exact h2.1
          rw [this] at hkv; injection hkv
        have hidx : xs[pre.length]? = some z := by
          rw [← Array.getElem?_toList, hxs, ← hl]; simp
        rw [putK_form h5 h4]
        refine ⟨φ, .tuple #[z.val, goInt z.born], _, .inl (start { w with heap := w.heap.setIfInBounds L.blk (.map (xs.modify pre.length fun e => { e with key := a.eval i }) c) } _ ?_), set_map hs hg hL ?_ ?_ ?_, ?_⟩
        · simp [hf, hidx, hkz, stays_ok hE hko hkv, run_setMap _ hheap]
        · rw [Array.toList_modify, hxs, ← hl, modify_at]
          exact h1.append (.cons ⟨hkv, h2.2.1, h2.2.2⟩ h3)
        · simpa using hnd
        · intro e he
          simp at he
          rcases he with he | rfl | he
          · exact hlt e (by simp [he])
          · exact hlt m (by simp)
          · exact hlt e (by simp [he])
        · refine conc_tup2 h2.2.1 ?_
          rw [concV_i64, h2.2.2]; rfl
      · rename_i hm
        simp at h; obtain ⟨rfl, rfl⟩ := h
        obtain ⟨res, hf, hnone, _⟩ := findKey_ok hE hko hkv ha hm w
        obtain rfl := hnone rfl
        refine ⟨φ, .tuple #[zv, goInt c], _, .inl (start { w with heap := w.heap.setIfInBounds L.blk (.map (xs.push { key := a.eval i, val := zv, born := c }) (c + 1)) } _ ?_), set_map hs hg hL ?_ ?_ ?_, ?_⟩
        · simp [hf, run_setMap _ hheap, run_zeroValue hz1 hz2]
        · rw [Array.toList_push]
          exact ha.append (.cons ⟨hkv, hz3, rfl⟩ .nil)
        · rw [List.map_append, List.nodup_append]
          refine ⟨hnd, by simp, ?_⟩
          intro b hb b' hb' e
          obtain ⟨q, hq, rfl⟩ := List.mem_map.1 hb
          have := hlt q hq; simp at hb'; omega
        · intro e he
          simp at he
          rcases he with he | rfl
          · have := hlt e he; omega
          · simp
        · exact conc_tup2 hz3 (by rw [concV_i64]; rfl)
      · simp at h
    · simp at h
  · simp at h

theorem putB_form {b : Nat} {v : Vv} : ∀ {es es' : List Me}, putB b v es = some es' → ∃ pre e post, es = pre ++ e :: post ∧ e.2.2 = b ∧ (∀ p ∈ pre, p.2.2 ≠ b) ∧ es' = pre ++ (e.1, v, b) :: post := by
  intro es
  induction es with
  | nil => intro es' h; simp [putB] at h
  | cons a r ih =>
    intro es' h
    simp only [putB, cond_eq_ite, Nat.beq_eq] at h
    split at h
    · rename_i h1; injection h with h; subst h; exact ⟨[], a, r, rfl, h1, by simp, rfl⟩
    · rename_i h1
      split at h
      · rename_i q hq
        injection h with h; subst h
        obtain ⟨pre, e, post, rfl, h2, h3, rfl⟩ := ih hq
        refine ⟨a :: pre, e, post, rfl, h2, ?_, rfl⟩
        intro p hp
        rcases List.mem_cons.1 hp with rfl | hp
        · exact h1
        · exact h3 p hp
      · simp at h

theorem All2.split {α β : Type} {R : α → β → Prop} : ∀ {l1 : List α} {x : α} {l2 : List α} {m : List β}, All2 R (l1 ++ x :: l2) m →
    ∃ m1 y m2, m = m1 ++ y :: m2 ∧ All2 R l1 m1 ∧ R x y ∧ All2 R l2 m2 := by
  intro l1
  induction l1 with
  | nil => intro x l2 m h; cases h with | cons h1 h2 => exact ⟨[], _, _, rfl, .nil, h1, h2⟩
  | cons a r ih =>
    intro x l2 m h
    cases h with
    | cons h1 h2 =>
      obtain ⟨m1, y, m2, rfl, g1, g2, g3⟩ := ih h2
      exact ⟨_ :: m1, y, m2, rfl, .cons h1 g1, g2, g3⟩

theorem All2.mem {α β : Type} {R : α → β → Prop} {l : List α} {m : List β} (h : All2 R l m) : ∀ y ∈ m, ∃ x ∈ l, R x y := by
  induction h with
  | nil => intro y hy; simp at hy
  | cons a _ ih =>
    intro y hy
    rcases List.mem_cons.1 hy with rfl | hy
    · exact ⟨_, by simp, a⟩
    · obtain ⟨x, hx, hr⟩ := ih y hy; exact ⟨x, by simp [hx], hr⟩

theorem findIdx_at {α : Type} {p : α → Bool} {x : α} {xq : List α} (h : p x = true) : ∀ (xp : List α), (∀ y ∈ xp, p y = false) → (xp ++ x :: xq).findIdx? p = some xp.length := by
  intro xp
  induction xp with
  | nil => intro _; simp [List.findIdx?_cons, h]
  | cons a r ih => intro hp; simp [List.findIdx?_cons, hp a (by simp), ih (fun y hy => hp y (by simp [hy]))]

theorem op_entryStore (hE : TyOk P E) (hs : Sat P φ s w) {t : Nat} {x i y : Operand} (ho : o.op = .entryStore t x i y) (hev : OpsOk P φ tm a o)
    (h : doOp E cf tm s o = some (v, s')) : Done P φ s w s' v ((execOp a.eval o).run P w) := by
  have hx := hev x (by simp [ho, Op.operands])
  have hi := hev i (by simp [ho, Op.operands])
  have hy := hev y (by simp [ho, Op.operands])
  simp only [doOp, ho] at h
  split at h
  · rename_i r kk b u hxe hie hue
    have hiv := evI_of hi hie
    have huv := evV_of hE hy hue
    split at h
    · rename_i es c hg
      obtain ⟨L, xs, hL, hxv, hheap, ha, hnd, hlt⟩ := map_of hs hx hxe hg
      split at h
      · rename_i es' hp
        simp at h; obtain ⟨rfl, rfl⟩ := h
        obtain ⟨pre, e, post, rfl, h2, h3, rfl⟩ := putB_form hp
        obtain ⟨m1, z, m2, hxs, g1, g2, g3⟩ := ha.split
        have hfi : xs.findIdx? (fun e => (e.born : Int) == Int.ofNat b) = some m1.length := by
          have hx2 : xs = (m1 ++ z :: m2).toArray := by rw [← hxs]
          rw [hx2, List.findIdx?_toArray]
          refine findIdx_at (by simp [g2.2.2, h2]) _ ?_
          intro q hq
          obtain ⟨q', hq', r⟩ := g1.mem q hq
          have := h3 q' hq'
          simp [r.2.2]; omega
        refine ⟨φ, undef, _, .inr ⟨?_, rfl⟩, set_map hs hg hL (xs' := xs.modify m1.length fun e => { e with val := a.eval y }) ?_ ?_ ?_, by simp [conc, concVs, undefV, undef]⟩
        · simp only [execOp, ho, Instr.entryStore, hxv, hiv, Sem.run_bind, run_getMap hheap, Result.andThen_ok, asInt, asIntOf, Sem.run_pure]
          rw [hfi]
          simp [run_setMap _ hheap]
        · rw [Array.toList_modify, hxs, modify_at]
          exact g1.append (.cons ⟨g2.1, huv, by simp [g2.2.2, h2]⟩ g3)
        · subst h2; simpa using hnd
        · intro q hq
          simp at hq
          rcases hq with hq | rfl | hq
          · exact hlt q (by simp [hq])
          · subst h2; exact hlt e (by simp)
          · exact hlt q (by simp [hq])
      · simp at h
    · simp at h
  · simp at h
end
end Go.Mx
