/- Regions whose order is drawn: any order. -/
import Derived.Test.YtmookoajpcnigaaGreatMxR6
set_option linter.unusedSimpArgs false
set_option linter.unusedVariables false
namespace Go.Mx
open Go

structure DInv (P : Program) (ops : Array Oper) (d : Dr) (tmF tm0 : Tm) (S : List Nat → St) (T : List Nat → Tm) (l : List St) (N : Nat) (φ0 : Phi) (s0 : St) (w0 : World) (a0 : Act)
    (listed : Array Bool) (a : Act) (w : World) (φ : Phi) (c : Nat) (σ : St) : Prop where
  size : listed.size = ops.size
  closed : ∀ (i : Nat) (o : Oper), ops[i]? = some o → listed.getD i false = true → ∀ e ∈ o.after, Region.binds .any e = true → listed.getD e.on false = true
  es : ∀ (k e : Nat), (d.order.filter (effI ops))[k]? = some e → (listed.getD e false = true ↔ k < c)
  cle : c ≤ (d.order.filter (effI ops)).length
  lc : l[c]? = some σ
  post : Post P φ0 s0 w0 φ σ w
  tsz : a.tmps.size = N
  defs : a.defers = a0.defers
  tms : ∀ t, (∀ (i : Nat) (o : Oper), ops[i]? = some o → o.dst = some t → listed.getD i false = true) → conc P φ ((tmF.get t).getD undefV) = some (a.tmps.getD t undef)
  tms0 : ∀ t, (∀ (i : Nat) (o : Oper), ops[i]? = some o → o.dst = some t → listed.getD i false = false) → conc P φ ((tm0.get t).getD undefV) = some (a.tmps.getD t undef)
  new : ∀ pre i post o, d.order = pre ++ i :: post → ops[i]? = some o → listed.getD i false = false → isA o.op = true → wanted (T pre) ops o = some true → cnt ops pre ≤ c →
    φ (S pre).next = none ∧ ∃ ob, S (pre ++ [i]) = (alloc (S pre) ob).2 ∧ σ.hp.get (S pre).next = some ob
  dom : ∀ pre post, d.order = pre ++ post → cnt ops pre ≤ c → Dom (S pre)

section
variable {P : Program} {E : Env} {cf : CF} {ops : Array Oper} {d : Dr} {tmF tm0 : Tm} {S : List Nat → St} {T : List Nat → Tm} {l : List St} {sF : St} {N : Nat} {φ0 φ φ' : Phi} {s0 σ : St} {w0 w w' : World} {a0 a : Act}
  {listed : Array Bool} {c : Nat}

theorem getD_set_self {listed : Array Bool} {i : Nat} (h : i < listed.size) : (listed.setIfInBounds i true).getD i false = true := by
  simp [h]

theorem put_getD {a : Act} {dst : Option Nat} {x : Value} {t : Nat} (h : dst ≠ some t) : (a.put dst x).tmps.getD t undef = a.tmps.getD t undef := by
  cases dst with
  | none => rfl
  | some d =>
    simp only [Act.put, Array.getD_eq_getD_getElem?]
    rw [Array.getElem?_setIfInBounds_ne]
    intro e; subst e; exact h rfl

theorem put_getD_self {a : Act} {x : Value} {t : Nat} (h : t < a.tmps.size) : (a.put (some t) x).tmps.getD t undef = x := by
  simp [Act.put, Array.getD_eq_getD_getElem?, h]

theorem put_tsz {a : Act} {dst : Option Nat} {x : Value} : (a.put dst x).tmps.size = a.tmps.size := by
  cases dst <;> simp [Act.put]

theorem cnt_append (pre post : List Nat) : cnt ops (pre ++ post) = cnt ops pre + cnt ops post := by simp [cnt]

theorem cnt_one (i : Nat) : cnt ops [i] = if effI ops i then 1 else 0 := by
  unfold cnt
  by_cases h : effI ops i = true
  · simp [List.filter_cons, h]
  · simp [List.filter_cons, h]

/-- what comes behind a listed operation's ancestors -/
theorem DInv.up (F : DrFacts ops d) (I : DInv P ops d tmF tm0 S T l N φ0 s0 w0 a0 listed a w φ c σ) : ∀ (i : Nat) (o : Oper), ops[i]? = some o → listed.getD i false = true → ∀ j, (d.anc.getD i 0).testBit j = true →
    listed.getD j false = true := by
  intro i
  induction i using Nat.strongRecOn with
  | ind i ih =>
    intro o ho hl j hj
    obtain ⟨e, he, hb, h⟩ := F.anc i o ho j hj
    have h1 := I.closed i o ho hl e he hb
    rcases h with h | h
    · rw [← h]; exact h1
    · have hlt := F.edge i o ho e he hb
      have hin : ∃ q, ops[e.on]? = some q := by
        have : e.on < ops.size := by
          rcases Nat.lt_or_ge e.on listed.size with h2 | h2
          · rw [← I.size]; exact h2
          · simp [Array.getElem?_eq_none h2] at h1
        exact ⟨_, Array.getElem?_eq_getElem this⟩
      obtain ⟨q, hq⟩ := hin
      exact ih e.on hlt q hq h1 j h

theorem ready_up (F : DrFacts ops d) (I : DInv P ops d tmF tm0 S T l N φ0 s0 w0 a0 listed a w φ c σ) {i : Nat} {o : Oper} (ho : ops[i]? = some o)
    (hr : ∀ e ∈ o.after, Region.binds .any e = true → listed.getD e.on false = true) : ∀ j, (d.anc.getD i 0).testBit j = true → listed.getD j false = true := by
  intro j hj
  obtain ⟨e, he, hb, h⟩ := F.anc i o ho j hj
  have h1 := hr e he hb
  rcases h with h | h
  · rw [← h]; exact h1
  · have hin : ∃ q, ops[e.on]? = some q := by
      have : e.on < ops.size := by
        rcases Nat.lt_or_ge e.on listed.size with h2 | h2
        · rw [← I.size]; exact h2
        · simp [Array.getElem?_eq_none h2] at h1
      exact ⟨_, Array.getElem?_eq_getElem this⟩
    obtain ⟨q, hq⟩ := hin
    exact I.up F e.on q hq h1 j h

/-- an operation that changes nothing old is done -/
theorem DInv.quiet (F : DrFacts ops d) (I : DInv P ops d tmF tm0 S T l N φ0 s0 w0 a0 listed a w φ c σ) {i : Nat} {o : Oper} (ho : ops[i]? = some o) (hN : DstOk N o)
    (hun : listed.getD i false = false) (hr : ∀ e ∈ o.after, Region.binds .any e = true → listed.getD e.on false = true) (heff : effI ops i = false) {x : Value}
    (hle : φ.le φ') (hp : Post P φ0 s0 w0 φ' σ w') (hx : ∀ t, o.dst = some t → conc P φ' ((tmF.get t).getD undefV) = some x)
    (hkeep : ∀ pre' i' post' ob', d.order = pre' ++ i' :: post' → i' ≠ i → S (pre' ++ [i']) = (alloc (S pre') ob').2 → σ.hp.get (S pre').next ≠ none → φ (S pre').next = none → φ' (S pre').next = none) :
    DInv P ops d tmF tm0 S T l N φ0 s0 w0 a0 (listed.setIfInBounds i true) (a.put o.dst x) w' φ' c σ where
  size := by simp [I.size]
  closed := fun i' o' ho' hl e he hb => by
    by_cases h : i = i'
    · subst h; rw [ho] at ho'; injection ho' with ho'; subst ho'
      exact getD_set_true (hr e he hb)
    · rw [getD_set_ne false h] at hl
      exact getD_set_true (I.closed i' o' ho' hl e he hb)
  es := fun k e he => by
    have : effI ops e = true := by
      have := List.mem_of_getElem? he
      exact (List.mem_filter.1 this).2
    have hne : i ≠ e := fun h => by subst h; rw [heff] at this; simp at this
    rw [getD_set_ne false hne]; exact I.es k e he
  cle := I.cle
  lc := I.lc
  post := hp
  tsz := by rw [put_tsz]; exact I.tsz
  defs := by rw [Act.put_defers']; exact I.defs
  tms := fun t ht => by
    by_cases h : o.dst = some t
    · rw [h, put_getD_self (by rw [I.tsz]; exact hN t h)]; exact hx t h
    · rw [put_getD h]
      refine conc_mono hle P (I.tms t fun i' o' ho' hd => ?_)
      have := ht i' o' ho' hd
      have hne : i ≠ i' := fun e => by subst e; rw [ho] at ho'; injection ho' with ho'; subst ho'; exact h hd
      rw [getD_set_ne false hne] at this; exact this
  tms0 := fun t ht => by
    have hne : o.dst ≠ some t := fun h => by
      have := ht i o ho h
      rw [getD_set_self (by rw [I.size]; exact (Array.getElem?_eq_some_iff.1 ho).1)] at this
      simp at this
    rw [put_getD hne]
    refine conc_mono hle P (I.tms0 t fun i' o' ho' hd => ?_)
    have h := ht i' o' ho' hd
    cases hl : listed.getD i' false with
    | false => rfl
    | true => rw [getD_set_true hl] at h; simp at h
  new := fun pre' i' post' o' he ho' hl hA hw hc => by
    have hne : i ≠ i' := fun e => by
      subst e
      rw [getD_set_self] at hl
      · simp at hl
      · rw [I.size]; exact (Array.getElem?_eq_some_iff.1 ho).1
    rw [getD_set_ne false hne] at hl
    obtain ⟨h1, ob, h2, h3⟩ := I.new pre' i' post' o' he ho' hl hA hw hc
    exact ⟨hkeep pre' i' post' ob he (fun e => hne e.symm) h2 (by rw [h3]; simp) h1, ob, h2, h3⟩
  dom := I.dom

/-- where a level begins -/
theorem level_start (F : DrFacts ops d) {pre post pre' post' : List Nat} {i : Nat} (he : d.order = pre ++ i :: post) (heff : effI ops i = true)
    (he' : d.order = pre' ++ post') (hc : cnt ops pre' = cnt ops pre + 1) : ∃ mid, pre' = pre ++ [i] ++ mid ∧ cnt ops mid = 0 ∧ d.order = (pre ++ [i]) ++ mid ++ post' := by
  have h := he.symm.trans he'
  rcases List.append_eq_append_iff.1 h with ⟨as, h1, h2⟩ | ⟨bs, h1, h2⟩
  · cases as with
    | nil => simp at h1; subst h1; omega
    | cons b as =>
      simp at h2; obtain ⟨rfl, h2⟩ := h2
      refine ⟨as, by simp [h1], ?_, by rw [he']; simp [h1]⟩
      rw [h1, show pre ++ i :: as = pre ++ [i] ++ as by simp, cnt_append, cnt_append, cnt_one, heff] at hc
      simp at hc; simp [cnt]; omega
  · rw [h1, cnt_append] at hc; omega

/-- an operation that may change what is there is done -/
theorem DInv.loud (hs0 : Sat P φ0 s0 w0) (F : DrFacts ops d) (hc : Canon E cf ops tmF tm0 d.order S T l sF) (I : DInv P ops d tmF tm0 S T l N φ0 s0 w0 a0 listed a w φ c σ) {i : Nat} {o : Oper} {pre post : List Nat}
    (he : d.order = pre ++ i :: post) (hk : cnt ops pre = c) (ho : ops[i]? = some o) (hN : DstOk N o)
    (hun : listed.getD i false = false) (hr : ∀ e ∈ o.after, Region.binds .any e = true → listed.getD e.on false = true) (heff : effI ops i = true) {x : Value}
    (hp : Post P φ σ w φ' (S (pre ++ [i])) w') (hx : ∀ t, o.dst = some t → conc P φ' ((tmF.get t).getD undefV) = some x) :
    ∃ σ', DInv P ops d tmF tm0 S T l N φ0 s0 w0 a0 (listed.setIfInBounds i true) (a.put o.dst x) w' φ' (c + 1) σ' := by
  have hcnt : cnt ops (pre ++ [i]) = c + 1 := by rw [cnt_append, cnt_one, heff, hk]; rfl
  have he1 : d.order = (pre ++ [i]) ++ post := by simp [he]
  obtain ⟨σ', hl, hext⟩ := hc.lv (pre ++ [i]) post he1
  rw [hcnt] at hl
  obtain ⟨hx1, hx2⟩ := hext hp.sat.dom
  have hesi : (d.order.filter (effI ops))[c]? = some i := by
    rw [he, List.filter_append, List.getElem?_append_right (by simp [← hk, cnt])]
    simp [← hk, cnt, List.filter_cons, heff]
  have hilt : i < listed.size := by rw [I.size]; exact (Array.getElem?_eq_some_iff.1 ho).1
  have hpost := Post.ext (Post.trans hs0 I.post hp) hx1 hx2
  have hdom : ∀ pre' post', d.order = pre' ++ post' → cnt ops pre' ≤ c + 1 → Dom (S pre') := fun pre' post' he' hle' => by
    rcases Nat.lt_or_ge (cnt ops pre') (c + 1) with h | h
    · exact I.dom pre' post' he' (by omega)
    · obtain ⟨mid, rfl, h1, h2⟩ := level_start F he heff he' (by omega)
      exact (hc.seg mid (pre ++ [i]) post' h2 h1 hp.sat.dom).2
  refine ⟨σ', { size := by simp [I.size], closed := ?_, es := ?_, cle := ?_, lc := hl, post := hpost, tsz := by rw [put_tsz]; exact I.tsz, defs := by rw [Act.put_defers']; exact I.defs, tms := ?_, tms0 := ?_, new := ?_, dom := hdom }⟩
  · intro i' o' ho' hl' e hee hb
    by_cases h : i = i'
    · subst h; rw [ho] at ho'; injection ho' with ho'; subst ho'
      exact getD_set_true (hr e hee hb)
    · rw [getD_set_ne false h] at hl'
      exact getD_set_true (I.closed i' o' ho' hl' e hee hb)
  · intro k e hee
    by_cases h : i = e
    · subst h
      have hnd : (d.order.filter (effI ops)).Nodup := F.nodup.filter _
      have hkc : k = c := by
        have h1 := (List.getElem?_eq_some_iff.1 hee)
        have h2 := (List.getElem?_eq_some_iff.1 hesi)
        obtain ⟨h1l, h1e⟩ := h1
        obtain ⟨h2l, h2e⟩ := h2
        exact (List.getElem_inj hnd).1 (h1e.trans h2e.symm)
      rw [getD_set_self hilt]; simp; omega
    · rw [getD_set_ne false h]
      have hne : k ≠ c := fun e1 => by subst e1; rw [hesi] at hee; injection hee with hee; exact h hee
      rw [I.es k e hee]; omega
  · have := (List.getElem?_eq_some_iff.1 hesi).1; omega
  · intro t ht
    by_cases h : o.dst = some t
    · rw [h, put_getD_self (by rw [I.tsz]; exact hN t h)]; exact hx t h
    · rw [put_getD h]
      refine conc_mono hp.sub P (I.tms t fun i' o' ho' hd => ?_)
      have := ht i' o' ho' hd
      have hne : i ≠ i' := fun e => by subst e; rw [ho] at ho'; injection ho' with ho'; subst ho'; exact h hd
      rw [getD_set_ne false hne] at this; exact this
  · intro t ht
    have hne : o.dst ≠ some t := fun h => by
      have := ht i o ho h
      rw [getD_set_self hilt] at this
      simp at this
    rw [put_getD hne]
    refine conc_mono hp.sub P (I.tms0 t fun i' o' ho' hd => ?_)
    have h := ht i' o' ho' hd
    cases hl : listed.getD i' false with
    | false => rfl
    | true => rw [getD_set_true hl] at h; simp at h
  · intro pre' i' post' o' he' ho' hl' hA hw hle'
    have hne : i ≠ i' := fun e => by
      subst e
      rw [getD_set_self hilt] at hl'; simp at hl'
    rw [getD_set_ne false hne] at hl'
    rcases Nat.lt_or_ge (cnt ops pre') (c + 1) with h | h
    · obtain ⟨h1, ob, h2, h3⟩ := I.new pre' i' post' o' he' ho' hl' hA hw (by omega)
      refine ⟨?_, ob, h2, hx1.2.1 _ _ (hp.un _ _ h1 h3)⟩
      cases hq : φ' (S pre').next with
      | none => rfl
      | some M =>
        rcases hp.new _ M hq with g | ⟨_, g⟩
        · rw [h1] at g; simp at g
        · have := I.post.sat.dom _ _ h3; omega
    · obtain ⟨mid, rfl, h1, h2⟩ := level_start F he heff he' (by omega)
      obtain ⟨o2, ho2, hop⟩ := hc.op _ i' post' he'
      rw [ho'] at ho2; injection ho2 with ho2; subst ho2
      obtain ⟨g1, g2⟩ := hc.seg mid (pre ++ [i]) (i' :: post') h2 h1 hp.sat.dom
      have hbelow := g1.1
      rcases hop with ⟨_, v, hdo, _⟩ | ⟨hwf, _⟩
      · obtain ⟨ob, hob⟩ := doOp_made hA hdo
        refine ⟨?_, ob, hob, ?_⟩
        · cases hq : φ' (S (pre ++ [i] ++ mid)).next with
          | none => rfl
          | some M => have := hp.sat.bnd _ M hq; omega
        · have hE : isE o'.op = false := by
            cases hoo : o'.op <;> simp [isA, hoo] at hA <;> simp [isE]
          obtain ⟨k1, k2⟩ := step_ext hE hdo g2
          have heff' : effI ops i' = false := by simp [effI, ho', hE]
          obtain ⟨σ2, hl2, hext2⟩ := hc.lv (pre ++ [i] ++ mid ++ [i']) post' (by rw [he']; simp)
          have : cnt ops (pre ++ [i] ++ mid ++ [i']) = c + 1 := by
            rw [cnt_append, cnt_one, heff']; simp at hle' h ⊢; omega
          rw [this, hl] at hl2; injection hl2 with hl2; subst hl2
          refine (hext2 k2).1.2.1 _ _ ?_
          rw [hob]; simp [alloc, PT.get_set]
      · rw [hw] at hwf; simp at hwf
end
end Go.Mx
