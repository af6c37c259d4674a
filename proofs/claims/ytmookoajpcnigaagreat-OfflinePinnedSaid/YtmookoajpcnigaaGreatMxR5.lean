/- Regions whose order is drawn: the run in the order that is followed here. -/
import Derived.Test.YtmookoajpcnigaaGreatMxR4
set_option linter.unusedSimpArgs false
namespace Go.Mx
open Go

def Dom (s : St) : Prop := ∀ i ob, s.hp.get i = some ob → i < s.next

/-- more things, none of the old ones changed -/
def Ext (s σ : St) : Prop := s.next ≤ σ.next ∧ Sub s σ ∧ ∀ i ob, σ.hp.get i = some ob → s.hp.get i = some ob ∨ s.next ≤ i

theorem Ext.refl (s : St) : Ext s s := ⟨Nat.le_refl _, fun _ _ h => h, fun _ _ h => .inl h⟩
theorem Ext.trans {a b c : St} (h : Ext a b) (k : Ext b c) : Ext a c :=
  ⟨Nat.le_trans h.1 k.1, fun i ob e => k.2.1 i ob (h.2.1 i ob e), fun i ob e => by
    rcases k.2.2 i ob e with g | g
    · exact h.2.2 i ob g
    · exact .inr (Nat.le_trans h.1 g)⟩

theorem ext_alloc {s : St} (hd : Dom s) (ob : AO) : Ext s (alloc s ob).2 ∧ Dom (alloc s ob).2 := by
  refine ⟨⟨by simp [alloc], fun i q h => ?_, fun i q h => ?_⟩, fun i q h => ?_⟩
  · have := hd i q h
    simp only [alloc, PT.get_set]
    rw [if_neg (by omega)]; exact h
  · simp only [alloc, PT.get_set] at h
    split at h
    · right; omega
    · exact .inl h
  · simp only [alloc, PT.get_set] at h ⊢
    split at h
    · omega
    · have := hd i q h; omega

section
variable {E : Env} {cf : CF} {ops : Array Oper}

theorem step_ext {tm : Tm} {s s' : St} {o : Oper} {v : AV} (he : isE o.op = false) (h : doOp E cf tm s o = some (v, s')) (hd : Dom s) : Ext s s' ∧ Dom s' := by
  cases hA : isA o.op with
  | true => obtain ⟨ob, rfl⟩ := doOp_made hA h; exact ext_alloc hd ob
  | false =>
    cases hR : isR o.op with
    | true => obtain ⟨rfl, _⟩ := doOp_read hR h; exact ⟨Ext.refl _, hd⟩
    | false => obtain ⟨rfl, _⟩ := doOp_pure he hA hR h; exact ⟨Ext.refl _, hd⟩

theorem wanted_congr {tm tm' : Tm} {o : Oper} (h : ∀ t ∈ Oper.looksAt ops o, tm.get t = tm'.get t) : wanted tm ops o = wanted tm' ops o := by
  unfold wanted
  cases hg : o.guard with
  | none => rfl
  | some g =>
    obtain ⟨j, w⟩ := g
    simp only
    cases hq : ops[j]? with
    | none => rfl
    | some q =>
      simp only
      cases hd : q.dst with
      | none => rfl
      | some d =>
        simp only
        rw [h d (by simp [Oper.looksAt, hg, hq, hd])]

theorem doOp_looks {tm tm' : Tm} {s : St} {o : Oper} (h : ∀ t ∈ Oper.looksAt ops o, tm.get t = tm'.get t) : doOp E cf tm s o = doOp E cf tm' s o := by
  refine doOp_congr fun x hx => ?_
  cases x with
  | tmp t =>
    rw [ev_tmp, ev_tmp, h t ?_]
    simp only [Oper.looksAt, List.mem_append, List.mem_filterMap]
    exact .inl ⟨.tmp t, by simpa using hx, rfl⟩
  | _ => rfl

/-- nothing is written twice -/
def Seq (ops : Array Oper) : List Nat → Prop
  | [] => True
  | i :: r => (∀ o, ops[i]? = some o → ∀ t, o.dst = some t → ∀ j ∈ r, ∀ q, ops[j]? = some q → q.dst ≠ some t) ∧ Seq ops r

abbrev cnt (ops : Array Oper) (l : List Nat) : Nat := (l.filter (effI ops)).length

structure Canon (E : Env) (cf : CF) (ops : Array Oper) (tmF tm0 : Tm) (order : List Nat) (S : List Nat → St) (T : List Nat → Tm) (l : List St) (sF : St) : Prop where
  op : ∀ pre i post, order = pre ++ i :: post → ∃ o, ops[i]? = some o ∧
    ((wanted (T pre) ops o = some true ∧ ∃ v, doOp E cf (T pre) (S pre) o = some (v, S (pre ++ [i])) ∧ (S pre).next ≤ (S (pre ++ [i])).next ∧ ∀ t, o.dst = some t → tmF.get t = some v) ∨
     (wanted (T pre) ops o = some false ∧ S (pre ++ [i]) = S pre ∧ ∀ t, o.dst = some t → tmF.get t = some undefV))
  lv : ∀ pre post, order = pre ++ post → ∃ σ, l[cnt ops pre]? = some σ ∧ (Dom (S pre) → Ext (S pre) σ ∧ Dom σ)
  ef : ∀ pre i post, order = pre ++ i :: post → effI ops i = true → l[cnt ops pre]? = some (S pre)
  fin : S order = sF ∧ l[cnt ops order]? = some sF
  tmpsF : ∀ pre post, order = pre ++ post → ∀ t, (∀ i ∈ post, ∀ o, ops[i]? = some o → o.dst ≠ some t) → tmF.get t = (T pre).get t
  tmps0 : ∀ pre post, order = pre ++ post → ∀ t, (∀ i ∈ pre, ∀ o, ops[i]? = some o → o.dst ≠ some t) → (T pre).get t = tm0.get t

theorem canon_of {tmF : Tm} {sF : St} : ∀ (order : List Nat) (tm : Tm) (s : St) (l : List St), Seq ops order → runOpsT E cf ops order tm s = some (tmF, sF, l) →
    ∃ (S : List Nat → St) (T : List Nat → Tm), S [] = s ∧ T [] = tm ∧ Canon E cf ops tmF tm order S T l sF := by
  intro order
  induction order with
  | nil =>
    intro tm s l _ h
    simp [runOpsT] at h; obtain ⟨rfl, rfl, rfl⟩ := h
    refine ⟨fun _ => s, fun _ => tm, rfl, rfl, { op := fun pre i post h => by simp at h, lv := fun pre post h => ?_, ef := fun pre i post h => by simp at h, fin := ⟨rfl, by simp [cnt]⟩, tmpsF := fun _ _ _ _ _ => rfl, tmps0 := fun _ _ _ _ _ => rfl }⟩
    simp at h; obtain ⟨rfl, rfl⟩ := h
    exact ⟨s, by simp [cnt], fun hd => ⟨Ext.refl _, hd⟩⟩
  | cons i r ih =>
    intro tm s l hseq h
    obtain ⟨hseq1, hseq2⟩ := hseq
    simp only [runOpsT] at h
    cases ho : ops[i]? with
    | none => simp [ho] at h
    | some o =>
      simp only [ho] at h
      have hs2 := hseq1 o ho
      -- both arms alike
      have main : ∀ (b : Bool) (v : AV) (s1 : St) (l' : List St), wanted tm ops o = some b → (b = true → doOp E cf tm s o = some (v, s1) ∧ s.next ≤ s1.next) → (b = false → v = undefV ∧ s1 = s) →
          runOpsT E cf ops r (put tm o.dst v) s1 = some (tmF, sF, l') → l = (bif isE o.op then s :: l' else l') →
          ∃ (S : List Nat → St) (T : List Nat → Tm), S [] = s ∧ T [] = tm ∧ Canon E cf ops tmF tm (i :: r) S T l sF := by
        intro b v s1 l' hw hb1 hb2 hr hl
        obtain ⟨S', T', hS0, hT0, hc⟩ := ih _ _ _ hseq2 hr
        have hdst : ∀ t, o.dst = some t → tmF.get t = some v := fun t ht => by
          rw [hc.tmpsF [] r rfl t (fun j hj q hq => hs2 t ht j hj q hq), hT0]
          simp [put, ht, PT.get_set]
        have heff : effI ops i = isE o.op := by simp [effI, ho]
        refine ⟨fun p => match p with | [] => s | _ :: p => S' p, fun p => match p with | [] => tm | _ :: p => T' p, rfl, rfl, { op := ?_, lv := ?_, ef := ?_, fin := ?_, tmpsF := ?_, tmps0 := ?_ }⟩
        · intro pre j post he
          cases pre with
          | nil =>
            simp at he; obtain ⟨rfl, rfl⟩ := he
            refine ⟨o, ho, ?_⟩
            cases b with
            | true =>
              left
              obtain ⟨hd1, hd2⟩ := hb1 rfl
              refine ⟨hw, v, ?_, ?_, hdst⟩
              · show doOp E cf tm s o = some (v, S' [])
                rw [hS0]; exact hd1
              · show s.next ≤ (S' []).next
                rw [hS0]; exact hd2
            | false =>
              right
              obtain ⟨rfl, rfl⟩ := hb2 rfl
              exact ⟨hw, hS0, hdst⟩
          | cons a pre =>
            simp at he; obtain ⟨rfl, rfl⟩ := he
            exact hc.op pre j post rfl
        · intro pre post he
          cases pre with
          | nil =>
            cases hE : isE o.op with
            | true =>
              refine ⟨s, ?_, fun hd => ⟨Ext.refl _, hd⟩⟩
              rw [hl, hE]; simp [cnt]
            | false =>
              obtain ⟨σ, h1, h2⟩ := hc.lv [] r rfl
              refine ⟨σ, ?_, fun hd => ?_⟩
              · rw [hl, hE]; simpa [cnt] using h1
              · have hstep : Ext s s1 ∧ Dom s1 := by
                  cases b with
                  | true => exact step_ext hE (hb1 rfl).1 hd
                  | false => obtain ⟨_, rfl⟩ := hb2 rfl; exact ⟨Ext.refl _, hd⟩
                rw [hS0] at h2
                obtain ⟨h3, h4⟩ := h2 hstep.2
                exact ⟨hstep.1.trans h3, h4⟩
          | cons a pre =>
            simp at he; obtain ⟨rfl, rfl⟩ := he
            obtain ⟨σ, h1, h2⟩ := hc.lv pre post rfl
            refine ⟨σ, ?_, h2⟩
            rw [hl]
            cases hE : isE o.op with
            | true => simp [cnt, List.filter_cons, heff, hE]; exact h1
            | false => simp [cnt, List.filter_cons, heff, hE]; exact h1
        · intro pre j post he hej
          cases pre with
          | nil =>
            simp at he; obtain ⟨rfl, rfl⟩ := he
            rw [heff] at hej
            rw [hl, hej]; simp [cnt]
          | cons a pre =>
            simp at he; obtain ⟨rfl, rfl⟩ := he
            have := hc.ef pre j post rfl hej
            rw [hl]
            cases hE : isE o.op with
            | true => simp [cnt, List.filter_cons, heff, hE]; exact this
            | false => simp [cnt, List.filter_cons, heff, hE]; exact this
        · obtain ⟨h1, h2⟩ := hc.fin
          refine ⟨h1, ?_⟩
          rw [hl]
          cases hE : isE o.op with
          | true => simp [cnt, List.filter_cons, heff, hE]; exact h2
          | false => simp [cnt, List.filter_cons, heff, hE]; exact h2
        · intro pre post he t ht
          cases pre with
          | nil =>
            simp at he; subst he
            have hne : o.dst ≠ some t := ht i (by simp) o ho
            show tmF.get t = tm.get t
            rw [hc.tmpsF [] r rfl t (fun j hj q hq => ht j (by simp [hj]) q hq), hT0]
            cases hd : o.dst with
            | none => simp [put]
            | some d =>
              simp only [put, PT.get_set]
              rw [if_neg]
              intro e; subst e; exact hne hd
          | cons a pre =>
            simp at he; obtain ⟨rfl, rfl⟩ := he
            exact hc.tmpsF pre post rfl t ht
        · intro pre post he t ht
          cases pre with
          | nil => rfl
          | cons a pre =>
            simp at he; obtain ⟨rfl, rfl⟩ := he
            have hne : o.dst ≠ some t := ht i (by simp) o ho
            show (T' pre).get t = tm.get t
            rw [hc.tmps0 pre post rfl t (fun j hj q hq => ht j (by simp [hj]) q hq)]
            cases hd : o.dst with
            | none => simp [put]
            | some d =>
              simp only [put, PT.get_set]
              rw [if_neg]
              intro e; subst e; exact hne hd
      cases hw : wanted tm ops o with
      | none => simp [hw] at h
      | some b =>
        cases b with
        | true =>
          simp only [hw] at h
          cases hd : doOp E cf tm s o with
          | none => simp [hd] at h
          | some p =>
            obtain ⟨v, s1⟩ := p
            simp only [hd, cond_eq_ite, Nat.ble_eq] at h
            split at h
            · rename_i hle
              split at h
              · rename_i tm' s'' l' hr
                simp at h; obtain ⟨rfl, rfl, rfl⟩ := h
                exact main true v s1 l' hw (fun _ => ⟨hd, hle⟩) (fun h => by simp at h) hr (by simp [cond_eq_ite])
              · simp at h
            · simp at h
        | false =>
          simp only [hw] at h
          split at h
          · rename_i tm' s'' l' hr
            simp at h; obtain ⟨rfl, rfl, rfl⟩ := h
            exact main false undefV s l' hw (fun h => by simp at h) (fun _ => ⟨rfl, rfl⟩) hr rfl
          · simp at h

/-- between two changes nothing old is changed -/
theorem Canon.seg {tmF tm0 : Tm} {order : List Nat} {S : List Nat → St} {T : List Nat → Tm} {l : List St} {sF : St} (hc : Canon E cf ops tmF tm0 order S T l sF) :
    ∀ (mid pre post : List Nat), order = pre ++ mid ++ post → cnt ops mid = 0 → Dom (S pre) → Ext (S pre) (S (pre ++ mid)) ∧ Dom (S (pre ++ mid)) := by
  intro mid
  induction mid with
  | nil => intro pre post _ _ hd; simpa using ⟨Ext.refl _, hd⟩
  | cons i r ih =>
    intro pre post he hcnt hd
    have hei : effI ops i = false := by
      cases h : effI ops i with
      | false => rfl
      | true => simp [cnt, List.filter_cons, h] at hcnt
    obtain ⟨o, ho, hop⟩ := hc.op pre i (r ++ post) (by simp [he])
    have hE : isE o.op = false := by simpa [effI, ho] using hei
    have hstep : Ext (S pre) (S (pre ++ [i])) ∧ Dom (S (pre ++ [i])) := by
      rcases hop with ⟨_, v, h1, _⟩ | ⟨_, h1, _⟩
      · exact step_ext hE h1 hd
      · rw [h1]; exact ⟨Ext.refl _, hd⟩
    have := ih (pre ++ [i]) post (by simp [he]) (by simpa [cnt, List.filter_cons, hei] using hcnt) hstep.2
    rw [List.append_assoc] at this
    exact ⟨hstep.1.trans this.1, this.2⟩

theorem Canon.next {tmF tm0 : Tm} {order : List Nat} {S : List Nat → St} {T : List Nat → Tm} {l : List St} {sF : St} (hc : Canon E cf ops tmF tm0 order S T l sF) :
    ∀ (mid pre post : List Nat), order = pre ++ mid ++ post → (S pre).next ≤ (S (pre ++ mid)).next := by
  intro mid
  induction mid with
  | nil => intro pre post _; simp
  | cons i r ih =>
    intro pre post he
    obtain ⟨o, ho, hop⟩ := hc.op pre i (r ++ post) (by simp [he])
    have hstep : (S pre).next ≤ (S (pre ++ [i])).next := by
      rcases hop with ⟨_, v, _, h1, _⟩ | ⟨_, h1, _⟩
      · exact h1
      · rw [h1]; exact Nat.le_refl _
    have := ih (pre ++ [i]) post (by simp [he])
    rw [List.append_assoc] at this
    exact Nat.le_trans hstep this
end
end Go.Mx
