/- Regions whose order is drawn: any order, to the end. -/
import Derived.Test.YtmookoajpcnigaaGreatMxR7
set_option linter.unusedSimpArgs false
set_option linter.unusedVariables false
namespace Go.Mx
open Go

section
variable {P : Program} {E : Env} {cf : CF} {ops : Array Oper} {d : Dr} {tmF tm0 : Tm} {S : List Nat → St} {T : List Nat → Tm} {l : List St} {sF : St} {N : Nat} {φ0 φ φ' : Phi} {s0 σ : St} {w0 w w' : World} {a0 a : Act}
  {listed : Array Bool} {c : Nat}

/-- two operations' numbers for new things differ -/
theorem ids_apart (F : DrFacts ops d) (hc : Canon E cf ops tmF tm0 d.order S T l sF) {pre post pre' post' : List Nat} {i i' : Nat} {ob ob' : AO} (he : d.order = pre ++ i :: post) (he' : d.order = pre' ++ i' :: post')
    (hne : i' ≠ i) (h : S (pre ++ [i]) = (alloc (S pre) ob).2) (h' : (S pre').next < (S (pre' ++ [i'])).next) : (S pre').next ≠ (S pre).next := by
  have hh := he.symm.trans he'
  rcases List.append_eq_append_iff.1 hh with ⟨as, h1, h2⟩ | ⟨bs, h1, h2⟩
  · cases as with
    | nil => simp at h2; exact absurd h2.1.symm hne
    | cons b as =>
      simp at h2; obtain ⟨rfl, h2⟩ := h2
      have := hc.next as (pre ++ [i]) (i' :: post') (by rw [he']; simp [h1])
      rw [show pre ++ [i] ++ as = pre' by simp [h1], h] at this
      simp [alloc] at this; omega
  · cases bs with
    | nil => simp at h2; exact absurd h2.1 hne
    | cons b bs =>
      simp at h2; obtain ⟨rfl, h2⟩ := h2
      have := hc.next bs (pre' ++ [i']) (i :: post) (by rw [he]; simp [h1])
      rw [show pre' ++ [i'] ++ bs = pre by simp [h1]] at this
      omega

theorem DInv.hi (F : DrFacts ops d) (I : DInv P ops d tmF tm0 S T l N φ0 s0 w0 a0 listed a w φ c σ) {i hi : Nat} {o : Oper} (ho : ops[i]? = some o) (hun : listed.getD i false = false)
    (h : hiOk d.anc (d.order.filter (effI ops)) i hi = true) : c ≤ hi := by
  unfold hiOk at h
  cases he : (d.order.filter (effI ops))[hi]? with
  | none =>
    have := List.getElem?_eq_none_iff.1 he
    have := I.cle
    omega
  | some e =>
    simp only [he] at h
    rcases Nat.lt_or_ge hi c with hlt | hge
    · have hl := (I.es hi e he).2 hlt
      have hm : e ∈ d.order := (List.mem_filter.1 (List.mem_of_getElem? he)).1
      obtain ⟨q, hq⟩ := F.inn e hm
      have := I.up F e q hq hl i h
      rw [hun] at this; simp at this
    · exact hge

theorem draw_step (hE : TyOk P E) (hcf : CfOk P cf) (hs0 : Sat P φ0 s0 w0) (F : DrFacts ops d) (hN : ∀ q ∈ ops.toList, DstOk N q) (hc : Canon E cf ops tmF tm0 d.order S T l sF)
    (hfree : freeOk E cf ops tmF l d.free = true) (hS0 : S [] = s0) {Q : Exit → Act → World → Prop} (I : DInv P ops d tmF tm0 S T l N φ0 s0 w0 a0 listed a w φ c σ) {i : Nat} {o : Oper} (ho : ops[i]? = some o)
    (hun : listed.getD i false = false) (hr : ∀ e ∈ o.after, Region.binds .any e = true → listed.getD e.on false = true) {K : Act → World → Prop}
    (hK : ∀ a' w' φ' c' σ', DInv P ops d tmF tm0 S T l N φ0 s0 w0 a0 (listed.setIfInBounds i true) a' w' φ' c' σ' → K a' w') : wpOp P ops Q i K a w := by
  have hlt : i < ops.size := (Array.getElem?_eq_some_iff.1 ho).1
  obtain ⟨pre, post, he⟩ := List.append_of_mem (F.all i hlt)
  have hNo : DstOk N o := hN o (by simpa using Array.mem_of_getElem? ho)
  have hup := ready_up F I ho hr
  -- what the operation looks at is there
  have hnd := F.nodup
  rw [he] at hnd
  obtain ⟨_, hnd2, hnd3⟩ := List.nodup_append.1 hnd
  have fromF : ∀ t, (∀ (j : Nat) (q : Oper), ops[j]? = some q → q.dst = some t → (d.anc.getD i 0).testBit j = true) → tmF.get t = (T pre).get t := fun t hall =>
    hc.tmpsF pre (i :: post) he t fun j hj q hq hqt => hnd3 j (F.before pre i post he j (hall j q hq hqt)) j hj rfl
  have hlook : ∀ t ∈ Oper.looksAt ops o, conc P φ (((T pre).get t).getD undefV) = some (a.tmps.getD t undef) := fun t ht => by
    by_cases hall : ∀ (j : Nat) (q : Oper), ops[j]? = some q → q.dst = some t → (d.anc.getD i 0).testBit j = true
    · rw [← fromF t hall]
      exact I.tms t fun j q hq hqt => hup j (hall j q hq hqt)
    · simp only [Classical.not_forall] at hall
      obtain ⟨j, q, hq, hqt, hno⟩ := hall
      have hback : (d.anc.getD j 0).testBit i = true := by
        rcases F.reads i o ho t ht j q hq hqt with h | h
        · exact absurd h hno
        · exact h
      have huniq : ∀ (j' : Nat) (q' : Oper), ops[j']? = some q' → q'.dst = some t → j' = j := fun j' q' hq' hqt' => F.dst j' j q' q t hq' hq hqt' hqt
      have hjun : listed.getD j false = false := by
        cases hl : listed.getD j false with
        | false => rfl
        | true => have := I.up F j q hq hl i hback; rw [hun] at this; simp at this
      rw [hc.tmps0 pre (i :: post) he t fun j' hj' q' hq' hqt' => ?_]
      · exact I.tms0 t fun j' q' hq' hqt' => by rw [huniq j' q' hq' hqt']; exact hjun
      · have hjj := huniq j' q' hq' hqt'
        subst hjj
        obtain ⟨p1, p2, hp⟩ := List.append_of_mem hj'
        have hb := F.before p1 j' (p2 ++ i :: post) (by rw [he, hp]; simp) i hback
        exact hnd3 i (by rw [hp]; simp [hb]) i (by simp) rfl
  have hev : OpsOk P φ (T pre) a o := fun x hx => by
    cases x with
    | tmp t =>
      intro v hv
      rw [ev_tmp] at hv; injection hv with hv; subst hv
      refine hlook t ?_
      simp only [Oper.looksAt, List.mem_append, List.mem_filterMap]
      exact .inl ⟨.tmp t, by simpa using hx, rfl⟩
    | const k => exact evOk_const k
    | func f => exact evOk_func f
    | global g => exact evOk_global g
  have hwant : ∀ b, wanted (T pre) ops o = some b → Region.wanted o (yielded ops a.tmps) = b := fun b hb =>
    wanted_of I.tsz hN (fun j wn q t hg hq hqt => hlook t (by simp [Oper.looksAt, hg, hq, hqt])) hb
  -- the level
  have hk : cnt ops pre ≤ c := by
    cases hcn : cnt ops pre with
    | zero => omega
    | succ k =>
      have hin : ∃ e, (d.order.filter (effI ops))[k]? = some e := by
        have : k < (d.order.filter (effI ops)).length := by
          rw [he, List.filter_append, List.length_append]
          have : (pre.filter (effI ops)).length = k + 1 := hcn
          omega
        exact ⟨_, List.getElem?_eq_getElem this⟩
      obtain ⟨e, hek⟩ := hin
      have := F.lvl pre i post he k (by have : (pre.filter (effI ops)).length = k + 1 := hcn; omega) e hek
      have := (I.es k e hek).1 (hup e this)
      omega
  have hke : effI ops i = true → cnt ops pre = c := fun heff => by
    have hesi : (d.order.filter (effI ops))[cnt ops pre]? = some i := by
      rw [he, List.filter_append, List.getElem?_append_right (by simp [cnt])]
      simp [cnt, List.filter_cons, heff]
    rcases Nat.lt_or_ge (cnt ops pre) c with h | h
    · have := (I.es _ i hesi).2 h
      rw [hun] at this; simp at this
    · omega
  obtain ⟨o2, ho2, hop⟩ := hc.op pre i post he
  rw [ho] at ho2; injection ho2 with ho2; subst ho2
  simp only [wpOp, ho]
  -- keeping what is still to come
  have keepP : ∀ {ψ : Phi} {τ : St} {w1 : World}, Post P φ σ w ψ τ w1 → ∀ pre' i' post' ob', d.order = pre' ++ i' :: post' → i' ≠ i → S (pre' ++ [i']) = (alloc (S pre') ob').2 → σ.hp.get (S pre').next ≠ none → φ (S pre').next = none → ψ (S pre').next = none := by
    intro ψ τ w1 hp pre' i' post' _ _ _ _ h1 h2
    cases hq : ψ (S pre').next with
    | none => rfl
    | some M =>
      rcases hp.new _ M hq with g | ⟨_, g⟩
      · rw [h2] at g; simp at g
      · cases hg : σ.hp.get (S pre').next with
        | none => exact absurd hg h1
        | some ob => have := I.post.sat.dom _ _ hg; omega
  rcases hop with ⟨hw, v, hdo, hnx, hdv⟩ | ⟨hw, hSS, hdv⟩
  · rw [hwant true hw]
    simp only [if_true]
    left
    have hxv : ∀ {ψ : Phi} {x : Value}, conc P ψ v = some x → ∀ t, o.dst = some t → conc P ψ ((tmF.get t).getD undefV) = some x := fun hcx t ht => by
      rw [hdv t ht]; exact hcx
    cases heff : effI ops i with
    | true =>
      have hkc := hke heff
      have hσ : σ = S pre := by
        have := hc.ef pre i post he heff
        rw [hkc, I.lc] at this; injection this
      subst hσ
      refine doOp_sound hE hcf I.post.sat hev hdo _ _ fun ψ x w1 hp hcx => ?_
      obtain ⟨σ', I'⟩ := I.loud hs0 F hc he hkc ho hNo hun hr heff hp (hxv hcx)
      exact hK _ _ _ _ _ I'
    | false =>
      have hEo : isE o.op = false := by simpa [effI, ho] using heff
      -- done again at what is there now
      have again : doOp E cf (T pre) σ o = some (v, σ) → o.wp P a w K Q := fun hd2 => by
        refine doOp_sound hE hcf I.post.sat hev hd2 _ _ fun ψ x w1 hp hcx => ?_
        exact hK _ _ _ _ _ (I.quiet F ho hNo hun hr heff hp.sub (Post.trans hs0 I.post hp) (hxv hcx) (keepP hp))
      cases hA : isA o.op with
      | true =>
        obtain ⟨hn, ob, hob, hob2⟩ := I.new pre i post o he ho hun hA hw hk
        obtain ⟨x, ob', b, hrun, hs', hobj, hcx⟩ := made_of (w := w) hE hA hn hev hdo
        have : ob' = ob := by
          rw [hob] at hs'
          have h1 : ((alloc (S pre) ob).2.hp.get (S pre).next) = some ob := by simp [alloc, PT.get_set]
          rw [hs'] at h1
          simp [alloc, PT.get_set] at h1; exact h1
        subst this
        unfold Oper.wp
        rw [hrun]
        have h0 : s0.next ≤ (S pre).next := by
          have := hc.next pre [] (i :: post) (by simpa using he)
          rw [hS0] at this; simpa using this
        have hp := Post.add I.post hn hob2 h0 hobj
        refine hK _ _ _ _ _ (I.quiet F ho hNo hun hr heff (Phi.le_upd _ hn) hp (hxv hcx) ?_)
        intro pre' i' post' ob2 he' hne hal h1 h2
        have hne2 : (S pre').next ≠ (S pre).next := ids_apart F hc (ob := ob') (ob' := ob2) he he' hne hob (by rw [hal]; simp [alloc])
        simp only [Phi.upd, if_neg hne2]; exact h2
      | false =>
        cases hR : isR o.op with
        | true =>
          obtain ⟨hsame, hsub⟩ := doOp_read hR hdo
          obtain ⟨σk, hlk, hext⟩ := hc.lv pre (i :: post) he
          have hdm := I.dom pre (i :: post) he hk
          have direct : cnt ops pre = c → doOp E cf (T pre) σ o = some (v, σ) := fun e => by
            rw [e, I.lc] at hlk; injection hlk with hlk; subst hlk
            exact hsub σ (hext hdm).1.2.1
          rcases F.rd pre i post o he ho hR with h | ⟨hst, lo, hi, hm, h1, h2⟩
          · exact again (direct (Nat.le_antisymm hk (I.hi F ho hun h)))
          · have hhi := I.hi F ho hun h2
            have h1' : lo ≤ cnt ops pre := h1
            have hsame : ∀ t ∈ Oper.looksAt ops o, tmF.get t = (T pre).get t := fun t ht => fromF t fun j q hq hqt => hst t ht j q hq hqt
            have hwF : wanted tmF ops o = some true := by rw [wanted_congr hsame]; exact hw
            obtain ⟨dd, v', hd1, hd2, hd3⟩ := freeOk_spec hfree i lo hi o hm ho hwF (by omega)
            obtain ⟨sc, s', hl1, hl2⟩ := hd3 c (by omega) hhi
            rw [I.lc] at hl1; injection hl1 with hl1; subst hl1
            obtain ⟨rfl, _⟩ := doOp_read hR hl2
            rw [hdv dd hd1] at hd2; injection hd2 with hd2; subst hd2
            rw [doOp_looks hsame] at hl2
            exact again hl2
        | false =>
          obtain ⟨_, hall⟩ := doOp_pure hEo hA hR hdo
          exact again (hall σ)
  · rw [hwant false hw]
    simp only [Bool.false_eq_true, if_false]
    have hxv : ∀ t, o.dst = some t → conc P φ ((tmF.get t).getD undefV) = some undef := fun t ht => by
      rw [hdv t ht]; exact conc_undefV
    cases heff : effI ops i with
    | true =>
      have hkc := hke heff
      have hσ : σ = S pre := by
        have := hc.ef pre i post he heff
        rw [hkc, I.lc] at this; injection this
      subst hσ
      obtain ⟨σ', I'⟩ := I.loud hs0 F hc he hkc ho hNo hun hr heff (by rw [hSS]; exact Post.refl I.post.sat) hxv
      exact hK _ _ _ _ _ I'
    | false => exact hK _ _ _ _ _ (I.quiet F ho hNo hun hr heff (Phi.le_refl φ) I.post hxv (fun _ _ _ _ _ _ _ _ h => h))

theorem filter_less {p q : Nat → Bool} {i : Nat} (h : ∀ x, q x = true → p x = true) (h1 : p i = true) (h2 : q i = false) : ∀ {l : List Nat}, i ∈ l → (l.filter q).length < (l.filter p).length := by
  have le : ∀ (l : List Nat), (l.filter q).length ≤ (l.filter p).length := fun l => by
    induction l with
    | nil => simp
    | cons a r ih =>
      simp only [List.filter_cons]
      cases hq : q a with
      | true => simp [h a hq]; exact ih
      | false => simp only [Bool.false_eq_true, if_false]; split <;> (try simp only [List.length_cons]) <;> omega
  intro l
  induction l with
  | nil => intro h; simp at h
  | cons a r ih =>
    intro hm
    simp only [List.filter_cons]
    rcases List.mem_cons.1 hm with rfl | hm
    · simp [h1, h2]; have := le r; omega
    · have := ih hm
      cases hq : q a with
      | true => simp [h a hq]; exact this
      | false => simp only [Bool.false_eq_true, if_false]; split <;> (try simp only [List.length_cons]) <;> omega

theorem any_order (hE : TyOk P E) (hcf : CfOk P cf) (hs0 : Sat P φ0 s0 w0) (F : DrFacts ops d) (hN : ∀ q ∈ ops.toList, DstOk N q) (hc : Canon E cf ops tmF tm0 d.order S T l sF)
    (hfree : freeOk E cf ops tmF l d.free = true) (hS0 : S [] = s0) {Q : Exit → Act → World → Prop}
    (hq : ∀ ψ a' w', Post P φ0 s0 w0 ψ sF w' → TmOk P ψ N tmF a' → a'.defers = a0.defers → Q .normal a' w') :
    ∀ (fuel : Nat) (listed : Array Bool) (a : Act) (w : World) (φ : Phi) (c : Nat) (σ : St), DInv P ops d tmF tm0 S T l N φ0 s0 w0 a0 listed a w φ c σ →
      ((List.range ops.size).filter fun i => !listed.getD i false).length ≤ fuel → wpAny P .any ops Q fuel listed a w := by
  have done : ∀ (listed : Array Bool) (a : Act) (w : World) (φ : Phi) (c : Nat) (σ : St), DInv P ops d tmF tm0 S T l N φ0 s0 w0 a0 listed a w φ c σ → (∀ i, i < ops.size → listed.getD i false = true) → Q .normal a w := by
    intro listed a w φ c σ I hall
    have hlen : c = (d.order.filter (effI ops)).length := by
      refine Nat.le_antisymm I.cle ?_
      cases hn : (d.order.filter (effI ops)).length with
      | zero => omega
      | succ k =>
        have hin : ∃ e, (d.order.filter (effI ops))[k]? = some e := ⟨_, List.getElem?_eq_getElem (by omega)⟩
        obtain ⟨e, he⟩ := hin
        obtain ⟨q, hq⟩ := F.inn e (List.mem_filter.1 (List.mem_of_getElem? he)).1
        have := (I.es k e he).1 (hall e (Array.getElem?_eq_some_iff.1 hq).1)
        omega
    have hσ : σ = sF := by
      have h1 := hc.fin.2
      have h2 := I.lc
      rw [hlen] at h2
      exact Option.some.inj (h2.symm.trans h1)
    subst hσ
    exact hq φ a w I.post ⟨I.tsz, fun t => I.tms t fun i o ho _ => hall i (Array.getElem?_eq_some_iff.1 ho).1⟩ I.defs
  have stuck : ∀ (listed : Array Bool) (a : Act) (w : World) (φ : Phi) (c : Nat) (σ : St), DInv P ops d tmF tm0 S T l N φ0 s0 w0 a0 listed a w φ c σ → Region.ready .any ops listed = [] →
      ∀ i, i < ops.size → listed.getD i false = true := by
    intro listed a w φ c σ I hr i
    induction i using Nat.strongRecOn with
    | ind i ih =>
      intro hi
      cases hl : listed.getD i false with
      | true => rfl
      | false =>
        have hmem : i ∈ Region.ready .any ops listed := by
          refine mem_ready.2 ⟨?_, ops[i], Array.getElem?_eq_getElem hi, fun e he hb => ?_⟩
          · have : i < listed.size := by rw [I.size]; exact hi
            simp [this] at hl ⊢; exact hl
          · have hlt := F.edge i ops[i] (Array.getElem?_eq_getElem hi) e he hb
            exact ih e.on hlt (by omega)
        rw [hr] at hmem; simp at hmem
  intro fuel
  induction fuel with
  | zero =>
    intro listed a w φ c σ I hf
    have hall : ∀ i, i < ops.size → listed.getD i false = true := fun i hi => by
      have h0 : ((List.range ops.size).filter fun i => !listed.getD i false) = [] := List.eq_nil_of_length_eq_zero (by omega)
      cases hl : listed.getD i false with
      | true => rfl
      | false =>
        have : i ∈ (List.range ops.size).filter fun i => !listed.getD i false := List.mem_filter.2 ⟨List.mem_range.2 hi, by rw [hl]; rfl⟩
        rw [h0] at this; simp at this
    refine ⟨?_, done listed a w φ c σ I hall⟩
    cases hr : Region.ready .any ops listed with
    | nil => rfl
    | cons i r =>
      have hm : i ∈ Region.ready .any ops listed := by rw [hr]; simp
      obtain ⟨h1, o, ho, _⟩ := mem_ready.1 hm
      have hi := (Array.getElem?_eq_some_iff.1 ho).1
      have h2 := hall i hi
      have : i < listed.size := by rw [I.size]; exact hi
      simp [this] at h1 h2
      rw [h1] at h2; simp at h2
  | succ fuel ih =>
    intro listed a w φ c σ I hf
    refine ⟨fun hr => done listed a w φ c σ I (stuck listed a w φ c σ I hr), fun i hm => ?_⟩
    obtain ⟨h1, o, ho, hdeps⟩ := mem_ready.1 hm
    have hi := (Array.getElem?_eq_some_iff.1 ho).1
    have hsz : i < listed.size := by rw [I.size]; exact hi
    have hun : listed.getD i false = false := by simp [hsz] at h1 ⊢; exact h1
    refine draw_step hE hcf hs0 F hN hc hfree hS0 I ho hun hdeps fun a' w' φ' c' σ' I' => ih _ _ _ _ _ _ I' ?_
    have := filter_less (p := fun j => !listed.getD j false) (q := fun j => !(listed.setIfInBounds i true).getD j false) (i := i) (l := List.range ops.size) ?_ (by simp [hun]) (by rw [getD_set_self hsz]; rfl) (List.mem_range.2 hi)
    · omega
    · intro j hj
      cases hl : listed.getD j false with
      | false => rfl
      | true => rw [getD_set_true hl] at hj; simp at hj

/-- a region whose order is drawn -/
theorem draw_sound (hm : P.follows .mixedOrders = true) (hE : TyOk P E) (hcf : CfOk P cf) (hN : ∀ q ∈ ops.toList, DstOk N q) (hdr : drOk ops d = true) {id : Nat} {tm : Tm} (hs : Sat P φ s0 w) (ht : TmOk P φ N tm a)
    (h : runDraw E cf ops d tm s0 = some (tmF, sF)) {Q : Exit → Act → World → Prop}
    (hq : ∀ ψ a' w', Post P φ s0 w ψ sF w' → TmOk P ψ N tmF a' → a'.defers = a.defers → Q .normal a' w') : (Code.region id ops true).wp P Q a w := by
  have F := drOk_facts hdr
  unfold runDraw at h
  split at h
  · rename_i tm' s' l hr
    simp only [cond_eq_ite] at h
    split at h
    · rename_i hfree
      simp at h; obtain ⟨rfl, rfl⟩ := h
      obtain ⟨S, T, hS0, hT0, hc⟩ := canon_of d.order tm s0 l F.seq hr
      refine wp_region_any hm ?_
      have hs' : Sat P φ s0 { w with drawn := w.drawn + 1 } := hs.heap rfl
      obtain ⟨σ, hl, hext⟩ := hc.lv [] d.order rfl
      rw [hS0] at hext
      obtain ⟨hx1, hx2⟩ := hext hs.dom
      have hdom : ∀ pre post, d.order = pre ++ post → cnt ops pre ≤ 0 → Dom (S pre) := fun pre post he hk => by
        have := hc.seg pre [] post (by simpa using he) (by omega) (by rw [hS0]; exact hs.dom)
        simpa using this.2
      refine any_order (φ0 := φ) (w0 := { w with drawn := w.drawn + 1 }) (a0 := a) hE hcf hs' F hN hc hfree hS0 (fun ψ a' w' hp => hq ψ a' w' { hp with }) ops.size _ a _ φ 0 σ ?_ ?_
      · refine { size := by simp, closed := fun i o ho hl => ?_, es := fun k e he => ?_, cle := Nat.zero_le _, lc := by simpa [cnt] using hl, post := Post.ext (Post.refl hs') hx1 hx2, tsz := ht.1, defs := rfl, tms := fun t hall => ?_, tms0 := fun t _ => ht.2 t, new := fun pre i post o he ho hun hA hw hk => ?_, dom := hdom }
        · have hi := (Array.getElem?_eq_some_iff.1 ho).1
          simp [hi] at hl
        · have hm : e ∈ d.order := (List.mem_filter.1 (List.mem_of_getElem? he)).1
          obtain ⟨q, hq⟩ := F.inn e hm
          have hi := (Array.getElem?_eq_some_iff.1 hq).1
          simp [hi]
        · rw [hc.tmpsF [] d.order rfl t fun i hi o ho hd => ?_, hT0]
          · exact ht.2 t
          · have := hall i o ho hd
            have hi := (Array.getElem?_eq_some_iff.1 ho).1
            simp [hi] at this
        · obtain ⟨g1, g2⟩ := hc.seg pre [] (i :: post) (by simpa using he) (by omega) (by rw [hS0]; exact hs.dom)
          simp only [List.nil_append, hS0] at g1 g2
          obtain ⟨o2, ho2, hop⟩ := hc.op pre i post he
          rw [ho] at ho2; injection ho2 with ho2; subst ho2
          rcases hop with ⟨_, v, hdo, _⟩ | ⟨hwf, _⟩
          · obtain ⟨ob, hob⟩ := doOp_made hA hdo
            refine ⟨?_, ob, hob, ?_⟩
            · cases hq : φ (S pre).next with
              | none => rfl
              | some M => have := hs.bnd _ M hq; have := g1.1; omega
            · have hEo : isE o.op = false := by
                cases hoo : o.op <;> simp [isA, hoo] at hA <;> simp [isE]
              obtain ⟨k1, k2⟩ := step_ext hEo hdo g2
              have heff' : effI ops i = false := by simp [effI, ho, hEo]
              obtain ⟨σ2, hl2, hext2⟩ := hc.lv (pre ++ [i]) post (by rw [he]; simp)
              have : cnt ops (pre ++ [i]) = 0 := by
                rw [cnt_append, cnt_one, heff']; simp only [Bool.false_eq_true, if_false]; omega
              rw [this] at hl2
              have hl0 : l[0]? = some σ := by simpa [cnt] using hl
              rw [hl0] at hl2; injection hl2 with hl2; subst hl2
              refine (hext2 k2).1.2.1 _ _ ?_
              rw [hob]; simp [alloc, PT.get_set]
          · rw [hw] at hwf; simp at hwf
      · refine Nat.le_trans (List.length_filter_le _ _) ?_
        simp
    · simp at h
  · simp at h
end
end Go.Mx
