/- Regions whose order is drawn: what is checked of each, once. -/
import Derived.Test.YtmookoajpcnigaaGreatMxR3
set_option linter.unusedSimpArgs false
namespace Go.Mx
open Go

/-- the bit of a number -/
def bit1 (i : Nat) : Nat := Nat.shiftLeft 1 i

def hasBit (m i : Nat) : Bool := Nat.testBit m i

/-- what an operation waits for, near and far -/
def upMask (anc : List Nat) : List Edge → Nat
  | [] => 0
  | e :: r => bif Region.binds .any e then Nat.lor (Nat.lor (bit1 e.on) (anc.getD e.on 0)) (upMask anc r) else upMask anc r

def effI (ops : Array Oper) (i : Nat) : Bool := match ops[i]? with | some o => isE o.op | none => false

def hiOk (anc : List Nat) (es : List Nat) (i hi : Nat) : Bool := match es[hi]? with
  | none => true
  | some e => hasBit (anc.getD e 0) i

def allBits (m : Nat) : List Nat → Nat → Bool
  | [], _ => true
  | _, 0 => true
  | e :: r, k + 1 => hasBit m e && allBits m r k

def dstsOf (ops : Array Oper) : List (Option Nat) := ops.toList.map (·.dst)

/-- who writes what is looked at comes ahead ('strict'), or behind -/
def readsOk (anc : List Nat) (strict : Bool) (i t : Nat) : List (Option Nat) → Nat → Bool
  | [], _ => true
  | some d :: r, j => (!Nat.beq d t || hasBit (anc.getD i 0) j || (!strict && hasBit (anc.getD j 0) i)) && readsOk anc strict i t r (j + 1)
  | none :: r, j => readsOk anc strict i t r (j + 1)

def chkI (ops : Array Oper) (d : Dr) (es : List Nat) (i k : Nat) : Bool :=
  match ops[i]? with
  | none => false
  | some o => allBits (d.anc.getD i 0) es k && (!isR o.op || hiOk d.anc es i k || ((Oper.looksAt ops o).all (fun t => readsOk d.anc true i t (dstsOf ops) 0) && d.free.any fun f => Nat.beq f.1 i && Nat.ble f.2.1 k && hiOk d.anc es i f.2.2))

def walk (ops : Array Oper) (d : Dr) (es : List Nat) : List Nat → Nat → Nat → Bool
  | [], _, seen => Nat.beq (seen + 1) (bit1 ops.size)
  | i :: r, k, seen => chkI ops d es i k && !hasBit seen i && Nat.beq (Nat.lor (d.anc.getD i 0) seen) seen && walk ops d es r (bif effI ops i then k + 1 else k) (Nat.lor seen (bit1 i))

def distinct : List (Option Nat) → Bool
  | [] => true
  | some d :: r => r.all (fun x => match x with | some e => !Nat.beq d e | none => true) && distinct r
  | none :: r => distinct r

def opsOk (ops : Array Oper) (anc : List Nat) (dsts : List (Option Nat)) : List Oper → Nat → Bool
  | [], _ => true
  | o :: r, i => (o.after.toList.all fun e => !Region.binds .any e || Nat.ble (e.on + 1) i) && Nat.beq (anc.getD i 0) (upMask anc o.after.toList) &&
      ((Oper.looksAt ops o).all fun t => readsOk anc false i t dsts 0) && (match o.op with | .select _ _ => false | _ => true) && opsOk ops anc dsts r (i + 1)

/-- a region whose order is drawn: the order that is followed here is one of those that may be, and the others differ from it in what does not matter -/
def drOk (ops : Array Oper) (d : Dr) : Bool :=
  distinct (dstsOf ops) && opsOk ops d.anc (dstsOf ops) ops.toList 0 && walk ops d (d.order.filter (effI ops)) d.order 0 0

/-- the same, as facts -/
structure DrFacts (ops : Array Oper) (d : Dr) : Prop where
  edge : ∀ (i : Nat) (o : Oper), ops[i]? = some o → ∀ e ∈ o.after, Region.binds .any e = true → e.on < i
  anc : ∀ (i : Nat) (o : Oper), ops[i]? = some o → ∀ j, (d.anc.getD i 0).testBit j = true → ∃ e ∈ o.after, Region.binds .any e = true ∧ (e.on = j ∨ (d.anc.getD e.on 0).testBit j = true)
  reads : ∀ (i : Nat) (o : Oper), ops[i]? = some o → ∀ t ∈ Oper.looksAt ops o, ∀ (j : Nat) (q : Oper), ops[j]? = some q → q.dst = some t → (d.anc.getD i 0).testBit j = true ∨ (d.anc.getD j 0).testBit i = true
  dst : ∀ (i j : Nat) (o q : Oper) (t : Nat), ops[i]? = some o → ops[j]? = some q → o.dst = some t → q.dst = some t → i = j
  nodup : d.order.Nodup
  all : ∀ i, i < ops.size → i ∈ d.order
  inn : ∀ i ∈ d.order, ∃ o, ops[i]? = some o
  lvl : ∀ pre i post, d.order = pre ++ i :: post → ∀ k, k < (pre.filter (effI ops)).length → ∀ e, (d.order.filter (effI ops))[k]? = some e → (d.anc.getD i 0).testBit e = true
  before : ∀ pre i post, d.order = pre ++ i :: post → ∀ j, (d.anc.getD i 0).testBit j = true → j ∈ pre
  rd : ∀ pre i post o, d.order = pre ++ i :: post → ops[i]? = some o → isR o.op = true → hiOk d.anc (d.order.filter (effI ops)) i (pre.filter (effI ops)).length = true ∨
    (∀ t ∈ Oper.looksAt ops o, ∀ (j : Nat) (q : Oper), ops[j]? = some q → q.dst = some t → (d.anc.getD i 0).testBit j = true) ∧ ∃ lo hi, (i, lo, hi) ∈ d.free ∧ lo ≤ (pre.filter (effI ops)).length ∧ hiOk d.anc (d.order.filter (effI ops)) i hi = true

theorem bit1_test (i j : Nat) : (bit1 i).testBit j = decide (i = j) := by
  unfold bit1
  change (1 <<< i).testBit j = _
  rw [Nat.one_shiftLeft, Nat.testBit_two_pow]

theorem upMask_test (anc : List Nat) (j : Nat) : ∀ l : List Edge, (upMask anc l).testBit j = true → ∃ e ∈ l, Region.binds .any e = true ∧ (e.on = j ∨ (anc.getD e.on 0).testBit j = true) := by
  intro l
  induction l with
  | nil => intro h; simp [upMask] at h
  | cons e r ih =>
    intro h
    simp only [upMask, cond_eq_ite] at h
    split at h
    · rename_i hb
      have : ((bit1 e.on ||| anc.getD e.on 0) ||| upMask anc r).testBit j = true := h
      rw [Nat.testBit_or, Nat.testBit_or, bit1_test] at this
      simp only [Bool.or_eq_true, decide_eq_true_eq] at this
      rcases this with (h1 | h1) | h1
      · exact ⟨e, by simp, hb, .inl h1⟩
      · exact ⟨e, by simp, hb, .inr h1⟩
      · obtain ⟨q, hq, h2⟩ := ih h1
        exact ⟨q, by simp [hq], h2⟩
    · obtain ⟨q, hq, h2⟩ := ih h
      exact ⟨q, by simp [hq], h2⟩

theorem readsOk_spec {anc : List Nat} {strict : Bool} {i t : Nat} : ∀ {l : List (Option Nat)} {k : Nat}, readsOk anc strict i t l k = true → ∀ (j : Nat), l[j]? = some (some t) →
    (anc.getD i 0).testBit (k + j) = true ∨ (strict = false ∧ (anc.getD (k + j) 0).testBit i = true) := by
  intro l
  induction l with
  | nil => intro k _ j h; simp at h
  | cons a r ih =>
    intro k h j hj
    cases a with
    | none =>
      simp only [readsOk] at h
      cases j with
      | zero => simp at hj
      | succ j => have := ih h j (by simpa using hj); rw [show k + (j + 1) = k + 1 + j from by omega]; exact this
    | some d =>
      simp only [readsOk, Bool.and_eq_true, Bool.or_eq_true, Bool.not_eq_true'] at h
      cases j with
      | zero =>
        simp at hj; subst hj
        rcases h.1 with (h1 | h1) | h1
        · simp at h1
        · exact .inl h1
        · exact .inr h1
      | succ j => have := ih h.2 j (by simpa using hj); rw [show k + (j + 1) = k + 1 + j from by omega]; exact this

theorem distinct_spec : ∀ {l : List (Option Nat)}, distinct l = true → ∀ (i j t : Nat), l[i]? = some (some t) → l[j]? = some (some t) → i = j := by
  intro l
  induction l with
  | nil => intro _ i j t h; simp at h
  | cons a r ih =>
    intro h i j t hi hj
    have hr : distinct r = true := by
      cases a with
      | none => simpa [distinct] using h
      | some d => simp only [distinct, Bool.and_eq_true] at h; exact h.2
    have hne : ∀ k, a = some t → r[k]? = some (some t) → False := fun k ha hk => by
      subst ha
      simp only [distinct, Bool.and_eq_true, List.all_eq_true] at h
      have := h.1 _ (List.mem_of_getElem? hk)
      simp at this
    cases i with
    | zero =>
      cases j with
      | zero => rfl
      | succ j => exact (hne j (by simpa using hi) (by simpa using hj)).elim
    | succ i =>
      cases j with
      | zero => exact (hne i (by simpa using hj) (by simpa using hi)).elim
      | succ j => rw [ih hr i j t (by simpa using hi) (by simpa using hj)]

theorem allBits_spec {m : Nat} : ∀ {es : List Nat} {k : Nat}, allBits m es k = true → ∀ j, j < k → ∀ e, es[j]? = some e → m.testBit e = true := by
  intro es
  induction es with
  | nil => intro k _ j _ e he; simp at he
  | cons a r ih =>
    intro k h j hj e he
    cases k with
    | zero => omega
    | succ k =>
      simp only [allBits, Bool.and_eq_true] at h
      cases j with
      | zero => simp at he; subst he; exact h.1
      | succ j => exact ih h.2 j (by omega) e (by simpa using he)

theorem opsOk_spec {ops : Array Oper} {anc : List Nat} {dsts : List (Option Nat)} : ∀ {l : List Oper} {k : Nat}, opsOk ops anc dsts l k = true → ∀ (i : Nat) (o : Oper), l[i]? = some o →
    (∀ e ∈ o.after, Region.binds .any e = true → e.on < k + i) ∧ anc.getD (k + i) 0 = upMask anc o.after.toList ∧ (∀ t ∈ Oper.looksAt ops o, readsOk anc false (k + i) t dsts 0 = true) := by
  intro l
  induction l with
  | nil => intro k _ i o h; simp at h
  | cons a r ih =>
    intro k h i o ho
    simp only [opsOk, Bool.and_eq_true, List.all_eq_true, Bool.or_eq_true, Bool.not_eq_true', Nat.ble_eq, Nat.beq_eq] at h
    obtain ⟨⟨⟨⟨h1, h2⟩, h3⟩, _⟩, h5⟩ := h
    cases i with
    | zero =>
      simp at ho; subst ho
      refine ⟨fun e he hb => ?_, h2, h3⟩
      rcases h1 e (by simpa using he) with h | h
      · rw [hb] at h; simp at h
      · omega
    | succ i =>
      have := ih h5 i o (by simpa using ho)
      rw [show k + 1 + i = k + (i + 1) from by omega] at this
      exact this

theorem walk_spec {ops : Array Oper} {d : Dr} {es : List Nat} : ∀ {l : List Nat} {k seen : Nat}, walk ops d es l k seen = true →
    l.Nodup ∧ (∀ i ∈ l, seen.testBit i = false) ∧ (∀ j, j < ops.size → seen.testBit j = true ∨ j ∈ l) ∧
    ∀ pre i post, l = pre ++ i :: post → chkI ops d es i (k + (pre.filter (effI ops)).length) = true ∧ ∀ j, (d.anc.getD i 0).testBit j = true → seen.testBit j = true ∨ j ∈ pre := by
  intro l
  induction l with
  | nil =>
    intro k seen h
    simp only [walk, Nat.beq_eq] at h
    refine ⟨.nil, by simp, fun j hj => .inl ?_, fun pre i post h => by simp at h⟩
    have : seen = 2 ^ ops.size - 1 := by
      have h2 : bit1 ops.size = 2 ^ ops.size := by unfold bit1; exact Nat.one_shiftLeft _
      omega
    rw [this, Nat.testBit_two_pow_sub_one]; simpa using hj
  | cons a r ih =>
    intro k seen h
    simp only [walk, Bool.and_eq_true, Bool.not_eq_true', Nat.beq_eq] at h
    obtain ⟨⟨⟨h1, h2⟩, h3⟩, h4⟩ := h
    obtain ⟨g1, g2, g3, g4⟩ := ih h4
    have hor : ∀ j, (Nat.lor seen (bit1 a)).testBit j = (seen.testBit j || decide (a = j)) := fun j => by
      have : (seen ||| bit1 a).testBit j = (seen.testBit j || decide (a = j)) := by rw [Nat.testBit_or, bit1_test]
      exact this
    refine ⟨List.nodup_cons.2 ⟨fun hm => ?_, g1⟩, ?_, ?_, ?_⟩
    · have := g2 a hm; rw [hor] at this; simp at this
    · intro i hi
      rcases List.mem_cons.1 hi with rfl | hi
      · exact h2
      · have := g2 i hi; rw [hor] at this; simp at this; exact this.1
    · intro j hj
      rcases g3 j hj with h | h
      · rw [hor] at h; simp at h
        rcases h with h | h
        · exact .inl h
        · exact .inr (by simp [h])
      · exact .inr (by simp [h])
    · intro pre i post hl
      cases pre with
      | nil =>
        simp at hl; obtain ⟨rfl, rfl⟩ := hl
        refine ⟨by simpa using h1, fun j hj => .inl ?_⟩
        rw [← h3]
        have : ((d.anc.getD a 0) ||| seen).testBit j = true := by rw [Nat.testBit_or, hj]; rfl
        exact this
      | cons b pre =>
        simp at hl; obtain ⟨rfl, rfl⟩ := hl
        obtain ⟨e1, e2⟩ := g4 pre i post rfl
        refine ⟨?_, fun j hj => ?_⟩
        · simp only [List.filter_cons]
          cases hb : effI ops a with
          | true =>
            simp only [hb, cond_true] at e1
            simp only [if_true, List.length_cons]
            rw [show k + ((pre.filter (effI ops)).length + 1) = k + 1 + (pre.filter (effI ops)).length from by omega]
            exact e1
          | false =>
            simp only [hb, cond_false] at e1
            simpa using e1
        · rcases e2 j hj with h | h
          · rw [hor] at h; simp at h
            rcases h with h | h
            · exact .inl h
            · exact .inr (by simp [h])
          · exact .inr (by simp [h])

theorem drOk_facts {ops : Array Oper} {d : Dr} (h : drOk ops d = true) : DrFacts ops d := by
  simp only [drOk, Bool.and_eq_true] at h
  obtain ⟨⟨h1, h2⟩, h3⟩ := h
  have hops := opsOk_spec h2
  obtain ⟨w1, w2, w3, w4⟩ := walk_spec h3
  have hget : ∀ (i : Nat) (o : Oper), ops[i]? = some o → ops.toList[i]? = some o := fun i o h => by rw [Array.getElem?_toList]; exact h
  have hd : ∀ (i : Nat) (o : Oper) (t : Nat), ops[i]? = some o → o.dst = some t → (dstsOf ops)[i]? = some (some t) := fun i o t h ht => by
    simp [dstsOf, h, ht]
  have hchk : ∀ pre i post, d.order = pre ++ i :: post → chkI ops d (d.order.filter (effI ops)) i (pre.filter (effI ops)).length = true := fun pre i post he => by
    simpa using (w4 pre i post he).1
  refine { edge := fun i o ho e he hb => ?_, anc := fun i o ho j hj => ?_, reads := fun i o ho t ht j q hq hqd => ?_, dst := fun i j o q t ho hq h1' h2' => ?_, nodup := w1, all := fun i hi => ?_, inn := fun i hi => ?_, lvl := fun pre i post he k hk e hke => ?_, before := fun pre i post he j hj => ?_, rd := fun pre i post o he ho hr => ?_ }
  · simpa using (hops i o (hget i o ho)).1 e he hb
  · have := (hops i o (hget i o ho)).2.1
    simp only [Nat.zero_add] at this
    rw [this] at hj
    obtain ⟨e, he, h⟩ := upMask_test _ _ _ hj
    exact ⟨e, by simpa using he, h⟩
  · have := (hops i o (hget i o ho)).2.2 t ht
    simpa using readsOk_spec this j (hd j q t hq hqd)
  · exact distinct_spec h1 i j t (hd i o t ho h1') (hd j q t hq h2')
  · rcases w3 i hi with h | h
    · simp at h
    · exact h
  · obtain ⟨pre, post, he⟩ := List.append_of_mem hi
    have := hchk pre i post he
    unfold chkI at this
    cases ho : ops[i]? with
    | none => simp [ho] at this
    | some o => exact ⟨o, rfl⟩
  · have := hchk pre i post he
    unfold chkI at this
    cases ho : ops[i]? with
    | none => simp [ho] at this
    | some o => simp only [ho, Bool.and_eq_true] at this; exact allBits_spec this.1 k hk e hke
  · rcases (w4 pre i post he).2 j hj with h | h
    · simp at h
    · exact h
  · have := hchk pre i post he
    simp only [chkI, ho, Bool.and_eq_true, Bool.or_eq_true, hr, Bool.not_true, Bool.false_eq_true, false_or] at this
    rcases this.2 with h | h
    · exact .inl h
    · right
      obtain ⟨hst, h⟩ := h
      rw [List.all_eq_true] at hst
      refine ⟨fun t ht j q hq hqt => by simpa using readsOk_spec (hst t ht) j (hd j q t hq hqt), ?_⟩
      rw [List.any_eq_true] at h
      obtain ⟨⟨j, lo, hi⟩, hm, hc⟩ := h
      simp only [Bool.and_eq_true, Nat.beq_eq, Nat.ble_eq] at hc
      obtain ⟨⟨rfl, h2⟩, h3⟩ := hc
      exact ⟨lo, hi, hm, h2, h3⟩
end Go.Mx
