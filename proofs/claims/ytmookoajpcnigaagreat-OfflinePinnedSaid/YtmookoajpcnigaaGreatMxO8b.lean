/- Keys that are found. -/
import Derived.Test.YtmookoajpcnigaaGreatMxO8
set_option linter.unusedSimpArgs false
namespace Go.Mx
open Go

theorem eqL_conf : ∀ {l m : List Sc} {r : Bool}, eqL l m = some r → confL l m = true := by
  intro l
  induction l with
  | nil => intro m r h; cases m with | nil => rfl | cons => simp [eqL] at h
  | cons a q ih =>
    intro m r h
    cases m with
    | nil => simp [eqL] at h
    | cons b p =>
      simp only [eqL] at h
      cases h1 : eqSc a b with
      | none => simp [h1] at h
      | some x =>
        cases h2 : eqL q p with
        | none => simp [h1, h2] at h
        | some y =>
          simp only [confL, ih h2, Bool.and_true]
          unfold eqSc at h1
          split at h1
          · rfl
          · simp only [cond_eq_ite, decide_eq_true_eq] at h1
            split at h1
            · rename_i e; subst e; simp [sameKd]
            · simp at h1
          · simp at h1

theorem All2.length {α β : Type} {R : α → β → Prop} {l : List α} {m : List β} (h : All2 R l m) : l.length = m.length := by
  induction h with
  | nil => rfl
  | cons _ _ ih => simp [ih]

theorem All2.append {α β : Type} {R : α → β → Prop} {l : List α} {m : List β} (h : All2 R l m) {l' : List α} {m' : List β} (h' : All2 R l' m') : All2 R (l ++ l') (m ++ m') := by
  induction h with
  | nil => exact h'
  | cons a _ ih => exact .cons a ih

theorem findK_form {k : Vv} : ∀ {es : List Me} {e : Me}, findK k es = some (some e) → ∃ pre post, es = pre ++ e :: post ∧ (∀ p ∈ pre, eqK k p.1 = some false) ∧ eqK k e.1 = some true := by
  intro es
  induction es with
  | nil => intro e h; simp [findK] at h
  | cons a r ih =>
    intro e h
    simp only [findK] at h
    split at h
    · rename_i h1; injection h with h; injection h with h; subst h; exact ⟨[], r, rfl, by simp, h1⟩
    · rename_i h1
      obtain ⟨pre, post, rfl, h2, h3⟩ := ih h
      exact ⟨a :: pre, post, rfl, by intro p hp; rcases List.mem_cons.1 hp with rfl | hp; exact h1; exact h2 p hp, h3⟩
    · simp at h

theorem putK_form {k v : Vv} {e : Me} {post : List Me} (h : eqK k e.1 = some true) : ∀ {pre : List Me}, (∀ p ∈ pre, eqK k p.1 = some false) →
    putK k v (pre ++ e :: post) = pre ++ (k, v, e.2.2) :: post := by
  intro pre
  induction pre with
  | nil => intro _; simp [putK, h]
  | cons a r ih => intro hp; simp [putK, hp a (by simp), ih (fun p h => hp p (by simp [h]))]

theorem delK_form {k : Vv} {e : Me} {post : List Me} (h : eqK k e.1 = some true) : ∀ {pre : List Me}, (∀ p ∈ pre, eqK k p.1 = some false) →
    delK k (pre ++ e :: post) = pre ++ post := by
  intro pre
  induction pre with
  | nil => intro _; simp [delK, h]
  | cons a r ih => intro hp; simp [delK, hp a (by simp), ih (fun p h => hp p (by simp [h]))]

theorem delK_none {k : Vv} : ∀ {es : List Me}, findK k es = some none → delK k es = es := by
  intro es
  induction es with
  | nil => intro _; rfl
  | cons a r ih =>
    intro h
    simp only [findK] at h
    split at h
    · simp at h
    · rename_i h1; simp [delK, h1, ih h]
    · simp at h

section
variable {P : Program} {E : Env} {φ : Phi}

theorem eq_key (hE : TyOk P E) {kt : Nat} {k q : Vv} {kv qv : Value} {r : Bool} (hk : keyOk E kt k = true) (hc : concV φ k = some kv) (hq : concV φ q = some qv) (h : eqK k q = some r) :
    ∃ d, P.underlying kt = some d ∧ (aggD d = false → Instr.sameNow d kv qv = some r) ∧
      (aggD d = true → Instr.sameNow d kv qv = none ∧ ∀ w, (Op.equal kt kv qv).run P w = .ok r w) := by
  obtain ⟨tk, ks, d, xs, ht, hpc, hck, hxs, hpl, hd, hg, hv⟩ := key_val hE hk hc
  unfold eqK at h
  simp only [cond_eq_ite] at h
  split at h
  · rename_i hag
    simp at hag
    have hcq : confK ks q.2 = true := confL_confK hck (eqL_conf h)
    unfold concV at hq
    cases hl : concL φ q.2 with
    | none => simp [hl] at hq
    | some ys =>
      have key := fun w => eq_plain 10 kt ks hpc (9999 + 1 - 10) φ w k.2 q.2 xs ys r hxs hl hck hcq h
      refine ⟨d, hd, fun hda => ?_, fun hda => ?_⟩
      · rcases hv with ⟨g, _⟩ | ⟨_, rfl⟩
        · rw [hda] at g; simp at g
        · have hlen := confK_length hck
          have hlen2 := confK_length hcq
          have e1 := concL_length hxs
          simp at e1
          match hk2 : k.2, hq2 : q.2 with
          | [c], [c'] =>
            rw [hk2] at hxs h hck; rw [hq2] at hl h hcq
            obtain ⟨u, z, g1, g2, g3⟩ := concL_cons.1 hxs
            injection g3 with g3 _; subst g3
            obtain ⟨u', z', g1', g2', g3'⟩ := concL_cons.1 hl
            simp [concL] at g2'; subst g2'; subst g3'
            have hkag : k.1 = false := by
              unfold concV at hc
              rw [hk2, hxs] at hc
              cases hb : k.1 with
              | false => rfl
              | true =>
                simp [hb] at hc
                have := hpl kv (by simp)
                rcases this with ⟨_, g⟩ | ⟨_, _, g⟩ <;> rw [g] at hc <;> simp at hc
            rw [hq2, hl, ← hag, hkag] at hq
            simp at hq; subst hq
            simp only [eqL] at h
            have hr : eqSc c c' = some r := by
              cases h1 : eqSc c c' with
              | none => simp [h1] at h
              | some y => simp [h1] at h; rw [h]
            simp only [plainChk, hd] at hpc
            unfold eqSc at hr
            split at hr
            · rename_i a b
              simp [concS] at g1 g1'; subst g1; subst g1'
              cases d <;> simp at hpc <;> simp [aggD] at hda <;> first | (simpa [Instr.sameNow] using hr) | (exfalso; subst hpc; simp [confK, Kd.ok] at hck)
            · rename_i j a j' b
              simp [concS] at g1 g1'; subst g1; subst g1'
              simp only [cond_eq_ite, decide_eq_true_eq] at hr
              split at hr
              · rename_i ejk
                subst ejk
                cases d <;> simp at hpc <;> simp [aggD] at hda <;> first | (simpa [Instr.sameNow] using hr) | (exfalso; subst hpc; simp [confK, Kd.ok] at hck)
              · simp at hr
            · simp at hr
          | [], _ => rw [hk2] at e1; simp at e1
          | _ :: _ :: _, _ => rw [hk2] at e1; simp at e1
          | [c], [] => rw [hk2] at hlen; rw [hq2] at hlen2; simp at hlen hlen2; omega
          | [c], _ :: _ :: _ => rw [hk2] at hlen; rw [hq2] at hlen2; simp at hlen hlen2; omega
      · rcases hv with ⟨_, rfl⟩ | ⟨g, _⟩
        · have hkag : q.1 = true := by
            cases hb : q.1 with
            | true => rfl
            | false =>
              unfold concV at hc
              rw [hxs, hag, hb] at hc
              simp at hc
              split at hc
              · injection hc with hc
                have := hpl _ (List.mem_singleton.2 rfl)
                rcases this with ⟨_, g⟩ | ⟨_, _, g⟩ <;> rw [g] at hc <;> simp at hc
              · simp at hc
          rw [hl, hkag] at hq
          simp at hq; subst hq
          refine ⟨by cases d <;> simp [Instr.sameNow], fun w => ?_⟩
          obtain ⟨d', hd', k1, _⟩ := key w
          rw [hd] at hd'; injection hd' with hd'; subst hd'
          exact k1 hda
        · rw [hda] at g; simp at g
  · simp at h

theorem find_ok (hE : TyOk P E) {kt : Nat} {k : Vv} {kv : Value} {d : TypeDesc} (hk : keyOk E kt k = true) (hc : concV φ k = some kv) (hd : P.underlying kt = some d) :
    ∀ (es : List Me) (xs : List MapEntry) (r : Option Me) (i : Nat), All2 (entryRel φ) es xs → findK k es = some r →
    ∃ res, (aggD d = false → Instr.findNow d kv xs i = some res) ∧ (aggD d = true → (Instr.findNow d kv xs i = none ∨ (Instr.findNow d kv xs i = some res)) ∧ ∀ w, (Instr.findAsking kt kv xs i).run P w = .ok res w) ∧
      (r = none → res = none) ∧ ∀ e, r = some e → ∃ pre post xp x xq, es = pre ++ e :: post ∧ xs = xp ++ x :: xq ∧ xp.length = pre.length ∧ All2 (entryRel φ) pre xp ∧ entryRel φ e x ∧
        All2 (entryRel φ) post xq ∧ (∀ p ∈ pre, eqK k p.1 = some false) ∧ eqK k e.1 = some true ∧ res = some (i + pre.length, x.val) := by
  intro es
  induction es with
  | nil =>
    intro xs r i ha h
    cases ha
    simp [findK] at h; subst h
    exact ⟨none, fun _ => rfl, fun _ => ⟨.inr rfl, fun w => rfl⟩, fun _ => rfl, fun e h => by simp at h⟩
  | cons a q ih =>
    intro xs r i ha h
    cases ha with
    | cons h1 h2 =>
    rename_i x xq
    simp only [findK] at h
    cases hb : eqK k a.1 with
    | none => simp [hb] at h
    | some b =>
      obtain ⟨d', hd', c1, c2⟩ := eq_key hE hk hc h1.1 hb
      rw [hd] at hd'; injection hd' with hd'; subst hd'
      cases b with
      | true =>
        simp only [hb] at h
        injection h with h; subst h
        refine ⟨some (i, x.val), fun hda => by simp [Instr.findNow, c1 hda], fun hda => ⟨.inl (by simp [Instr.findNow, (c2 hda).1]), fun w => by simp [Instr.findAsking, (c2 hda).2 w]⟩, fun h => by simp at h, ?_⟩
        intro e he
        injection he with he; subst he
        exact ⟨[], q, [], x, xq, rfl, rfl, rfl, .nil, h1, h2, by simp, hb, by simp⟩
      | false =>
        simp only [hb] at h
        obtain ⟨res, g1, g2, g3, g4⟩ := ih xq r (i + 1) h2 h
        refine ⟨res, fun hda => by simp [Instr.findNow, c1 hda, g1 hda], fun hda => ⟨.inl (by simp [Instr.findNow, (c2 hda).1]), fun w => by simp [Instr.findAsking, (c2 hda).2 w, (g2 hda).2 w]⟩, g3, ?_⟩
        intro e he
        obtain ⟨pre, post, xp, y, yq, rfl, rfl, e1, e2, e3, e4, e5, e6, e7⟩ := g4 e he
        refine ⟨a :: pre, post, x :: xp, y, yq, rfl, rfl, by simp [e1], .cons h1 e2, e3, e4, ?_, e6, by simp [e7]; omega⟩
        intro p hp
        rcases List.mem_cons.1 hp with rfl | hp
        · exact hb
        · exact e5 p hp

/-- a key among a map's entries -/
theorem findKey_ok (hE : TyOk P E) {kt : Nat} {k : Vv} {kv : Value} (hk : keyOk E kt k = true) (hc : concV φ k = some kv) {es : List Me} {xs : List MapEntry} {r : Option Me}
    (ha : All2 (entryRel φ) es xs) (h : findK k es = some r) (w : World) :
    ∃ res, (Instr.findKey kt kv xs).run P w = .ok res w ∧
      (r = none → res = none) ∧ ∀ e, r = some e → ∃ pre post xp x xq, es = pre ++ e :: post ∧ xs = xp ++ x :: xq ∧ xp.length = pre.length ∧ All2 (entryRel φ) pre xp ∧ entryRel φ e x ∧
        All2 (entryRel φ) post xq ∧ (∀ p ∈ pre, eqK k p.1 = some false) ∧ eqK k e.1 = some true ∧ res = some (pre.length, x.val) := by
  obtain ⟨tk, ks, d, _, ht, hpc, hck, hxs, hpl, hd, hg, hv⟩ := key_val hE hk hc
  obtain ⟨res, g1, g2, g3, g4⟩ := find_ok hE hk hc hd es xs r 0 ha h
  refine ⟨res, ?_, g3, by simpa using g4⟩
  simp only [Instr.findKey, Sem.run_bind, run_und hd, Result.andThen_ok]
  cases hda : aggD d with
  | false => simp [g1 hda]
  | true =>
    rcases (g2 hda).1 with h1 | h1
    · simp [h1, (g2 hda).2 w]
    · simp [h1]

theorem checkKey_ok (hE : TyOk P E) {kt : Nat} {k : Vv} {kv : Value} (hk : keyOk E kt k = true) (hc : concV φ k = some kv) (empty : Bool) (w : World) :
    (Instr.checkKey empty 10000 kt kv).run P w = .ok () w := by
  obtain ⟨tk, ks, d, xs, ht, hpc, hck, hxs, hpl, hd, hg, hv⟩ := key_val hE hk hc
  exact checkKey_plain empty 10 kt ks hpc 9990 d φ w k.2 xs kv hd hck hxs hv

theorem stays_ok (hE : TyOk P E) {kt : Nat} {k : Vv} {kv : Value} (hk : keyOk E kt k = true) (hc : concV φ k = some kv) (w : World) :
    (Instr.keyThatStays kv kv).run P w = .ok kv w := by
  obtain ⟨tk, ks, d, xs, ht, hpc, hck, hxs, hpl, hd, hg, hv⟩ := key_val hE hk hc
  have : Instr.sameBits 10000 kv kv = true := by
    rcases hv with ⟨_, rfl⟩ | ⟨_, rfl⟩
    · exact sameBits_agg 9999 (by simpa using hpl)
    · exact sameBits_plain 10000 (hpl _ (by simp))
  simp [Instr.keyThatStays, this]

end
end Go.Mx
