/- How a step on the abstract state and one on the world go together: stores, new things, things that move. -/
import Derived.Test.YtmookoajpcnigaaGreatMxB
import Derived.Laws.Cells
namespace Go.Mx
open Go

def Phi.upd (φ : Phi) (i : Nat) (L : Lo) : Phi := fun j => if j = i then some L else φ j

theorem Phi.le_upd {φ : Phi} {i : Nat} (L : Lo) (h : φ i = none) : φ.le (φ.upd i L) := by
  intro j M hj
  unfold Phi.upd
  by_cases e : j = i
  · subst e; rw [h] at hj; simp at hj
  · rw [if_neg e]; exact hj

theorem All2.imp {α β : Type} {R S : α → β → Prop} (h : ∀ a b, R a b → S a b) {l : List α} {m : List β} (k : All2 R l m) : All2 S l m := by
  induction k with
  | nil => exact .nil
  | cons a _ ih => exact .cons (h _ _ a) ih

theorem entryRel_mono {φ ψ : Phi} (h : φ.le ψ) {e : Me} {x : MapEntry} (k : entryRel φ e x) : entryRel ψ e x :=
  ⟨concV_mono h k.1, concV_mono h k.2.1, k.2.2⟩

theorem objRel_mono {P : Program} {φ ψ : Phi} (h : φ.le ψ) {o : AO} {L : Lo} {w w' : World} (hb : w'.heap[L.blk]? = w.heap[L.blk]?) (k : objRel P φ o L w) :
    objRel P ψ o L w' := by
  cases o with
  | arr n z t e op =>
    obtain ⟨cs, fr, h1, h2, h3, h4, h5⟩ := k
    exact ⟨cs, fr, hb.trans h1, h2, h3, h4, fun k hk => let ⟨v, hv, hc⟩ := h5 k hk; ⟨v, hv, concS_mono h hc⟩⟩
  | ro n c =>
    obtain ⟨cs, e, fr, h1, h5⟩ := k
    exact ⟨cs, e, fr, hb.trans h1, fun k hk => let ⟨v, hv, hc⟩ := h5 k hk; ⟨v, hv, concS_mono h hc⟩⟩
  | sy c =>
    obtain ⟨N, cs, e, fr, h0, h1, h5⟩ := k
    exact ⟨N, cs, e, fr, h _ _ h0, hb.trans h1, fun k hk => let ⟨v, hv, hc⟩ := h5 k hk; ⟨v, hv, concS_mono h hc⟩⟩
  | map es clk =>
    obtain ⟨xs, h1, h2, h3, h4⟩ := k
    exact ⟨xs, hb.trans h1, h2.imp fun _ _ => entryRel_mono h, h3, h4⟩
  | chan cap buf =>
    obtain ⟨xs, a, b, h1, h2⟩ := k
    exact ⟨xs, a, b, hb.trans h1, h2.imp fun _ _ => concV_mono h⟩

theorem objRel_lt {P : Program} {φ : Phi} {o : AO} {L : Lo} {w : World} (k : objRel P φ o L w) : L.blk < w.heap.size := by
  have aux : ∀ x, w.heap[L.blk]? = some x → L.blk < w.heap.size := fun x hx => by
    rcases Nat.lt_or_ge L.blk w.heap.size with h | h
    · exact h
    · simp [Array.getElem?_eq_none h] at hx
  cases o with
  | arr => obtain ⟨cs, fr, h1, _⟩ := k; exact aux _ h1
  | ro => obtain ⟨cs, e, fr, h1, _⟩ := k; exact aux _ h1
  | sy => obtain ⟨N, cs, e, fr, _, h1, _⟩ := k; exact aux _ h1
  | map => obtain ⟨xs, h1, _⟩ := k; exact aux _ h1
  | chan => obtain ⟨xs, a, b, h1, _⟩ := k; exact aux _ h1

section
variable {P : Program} {φ : Phi} {s : St} {w : World}

/-- one thing is another one -/
theorem Post.upd (hs : Sat P φ s w) {i : Nat} {o o' : AO} {L : Lo} (hi : s.hp.get i = some o) (hL : φ i = some L) (hro : o.isRo = false)
    {s' : St} (hn : s'.next = s.next) (hg : ∀ j, s'.hp.get j = if j = i then some o' else s.hp.get j) {w' : World} (hos : w'.os = w.os) (htape : w'.tape = w.tape)
    (hout : w'.output = w.output) (hsz : w'.heap.size = w.heap.size) (hother : ∀ b, b ≠ L.blk → w'.heap[b]? = w.heap[b]?) (hobj : objRel P φ o' L w') :
    Post P φ s w φ s' w' where
  sat := {
    obj := fun j q M hj hM => by
      rw [hg] at hj
      by_cases e : j = i
      · subst e; simp at hj; subst hj; rw [hL] at hM; injection hM with hM; subst hM; exact hobj
      · rw [if_neg e] at hj
        have hob := hs.obj j q M hj hM
        refine objRel_mono (Phi.le_refl φ) (hother _ ?_) hob
        intro hbl
        have := (hs.inj j i q o M L hj hi hM hL hbl e).2
        rw [hro] at this; simp at this
    inj := fun j k q r M N hj hk hM hN hbl hne => by
      rw [hg] at hj hk
      by_cases e : j = i
      · subst e
        rw [if_neg (fun h => hne h.symm)] at hk
        have := (hs.inj j k o r M N hi hk hM hN hbl hne).1
        rw [hro] at this; simp at this
      · rw [if_neg e] at hj
        by_cases e2 : k = i
        · subst e2
          have := (hs.inj j k q o M N hj hi hM hN hbl hne).2
          rw [hro] at this; simp at this
        · rw [if_neg e2] at hk
          exact hs.inj j k q r M N hj hk hM hN hbl hne
    bnd := fun j M hM => by rw [hn]; exact hs.bnd j M hM
    dom := fun j q hj => by
      rw [hn]; rw [hg] at hj
      by_cases e : j = i
      · subst e; exact hs.dom j o hi
      · rw [if_neg e] at hj; exact hs.dom j q hj }
  sub := Phi.le_refl φ
  nx := by omega
  os := hos
  tape := htape
  output := hout
  size := by omega
  fr := fun b _ hno => hother b fun e => by
    have := hno i o L hi hL e.symm
    rw [hro] at this; simp at this
  live := fun j q M hj hM hq => by
    right
    rw [hg] at hj
    by_cases e : j = i
    · subst e; rw [hL] at hM; injection hM with hM; subst hM; exact ⟨_, o, L, hi, hL, hro, rfl⟩
    · rw [if_neg e] at hj; exact ⟨j, q, M, hj, hM, hq, rfl⟩
  new := fun _ _ h => .inl h
  un := fun j q hj hq => by
    rw [hg, if_neg]; exact hq
    intro e; subst e; rw [hL] at hj; simp at hj
  newdom := fun j q hj => by
    left
    rw [hg] at hj
    by_cases e : j = i
    · subst e; simp [hi]
    · rw [if_neg e] at hj; simp [hj]

/-- one thing more -/
theorem Post.more (hs : Sat P φ s w) {o : AO} {L : Lo} {s' : St} (hn : s'.next = s.next + 1) (hg : ∀ j, s'.hp.get j = if j = s.next then some o else s.hp.get j)
    {w' : World} (hos : w'.os = w.os) (htape : w'.tape = w.tape) (hout : w'.output = w.output) (hsz : w.heap.size ≤ w'.heap.size)
    (hother : ∀ b, b < w.heap.size → w'.heap[b]? = w.heap[b]?) (hL : w.heap.size ≤ L.blk) (hobj : objRel P (φ.upd s.next L) o L w') :
    Post P φ s w (φ.upd s.next L) s' w' := by
  have hnone : φ s.next = none := by
    cases hq : φ s.next with
    | none => rfl
    | some M => have := hs.bnd _ _ hq; omega
  have hle := Phi.le_upd L hnone
  have hold : ∀ j M, j ≠ s.next → (φ.upd s.next L) j = some M → φ j = some M := fun j M e h => by
    simpa [Phi.upd, e] using h
  have hnew : ∀ M, (φ.upd s.next L) s.next = some M → M = L := fun M h => by simp [Phi.upd] at h; exact h.symm
  refine { sat := ?_, sub := hle, nx := by omega, os := hos, tape := htape, output := hout, size := hsz, fr := ?_, live := ?_, new := ?_, un := ?_, newdom := ?_ }
  · refine { obj := ?_, inj := ?_, bnd := ?_, dom := ?_ }
    · intro j q M hj hM
      rw [hg] at hj
      by_cases e : j = s.next
      · subst e; simp at hj; subst hj; have := hnew M hM; subst this; exact hobj
      · rw [if_neg e] at hj
        have hob := hs.obj j q M hj (hold j M e hM)
        exact objRel_mono hle (hother _ (objRel_lt hob)) hob
    · intro j k q r M N hj hk hM hN hbl hne
      rw [hg] at hj hk
      by_cases e : j = s.next
      · subst e
        rw [if_neg (fun h => hne h.symm)] at hk
        have hob := hs.obj k r N hk (hold k N (fun h => hne h.symm) hN)
        have := objRel_lt hob
        have := hnew M hM; subst this
        omega
      · rw [if_neg e] at hj
        by_cases e2 : k = s.next
        · subst e2
          have hob := hs.obj j q M hj (hold j M e hM)
          have := objRel_lt hob
          have := hnew N hN; subst this
          omega
        · rw [if_neg e2] at hk
          exact hs.inj j k q r M N hj hk (hold j M e hM) (hold k N e2 hN) hbl hne
    · intro j M hM
      by_cases e : j = s.next
      · omega
      · have := hs.bnd j M (hold j M e hM); omega
    · intro j q hj
      rw [hg] at hj
      by_cases e : j = s.next
      · omega
      · rw [if_neg e] at hj; have := hs.dom j q hj; omega
  · intro b hb _; exact hother b hb
  · intro j q M hj hM hq
    rw [hg] at hj
    by_cases e : j = s.next
    · subst e; have := hnew M hM; subst this; exact .inl hL
    · rw [if_neg e] at hj; exact .inr ⟨j, q, M, hj, hold j M e hM, hq, rfl⟩
  · intro j M hM
    by_cases e : j = s.next
    · subst e; exact .inr ⟨hnone, Nat.le_refl _⟩
    · exact .inl (hold j M e hM)
  · intro j q _ hq
    rw [hg, if_neg]; exact hq
    intro e; subst e; have := hs.dom _ _ hq; omega
  · intro j q hj
    rw [hg] at hj
    by_cases e : j = s.next
    · exact .inr (by omega)
    · rw [if_neg e] at hj; exact .inl (by simp [hj])

/-- a thing is another one, under another number -/
theorem Post.moved (hs : Sat P φ s w) {i : Nat} {o o' : AO} {L L' : Lo} (hi : s.hp.get i = some o) (hL : φ i = some L) (hro : o.isRo = false)
    (hbl' : L'.blk = L.blk) {s' : St} (hn : s'.next = s.next + 1) (hg : ∀ j, s'.hp.get j = if j = s.next then some o' else if j = i then none else s.hp.get j)
    {w' : World} (hos : w'.os = w.os) (htape : w'.tape = w.tape) (hout : w'.output = w.output) (hsz : w'.heap.size = w.heap.size)
    (hother : ∀ b, b ≠ L.blk → w'.heap[b]? = w.heap[b]?) (hobj : objRel P (φ.upd s.next L') o' L' w') :
    Post P φ s w (φ.upd s.next L') s' w' := by
  have hnone : φ s.next = none := by
    cases hq : φ s.next with
    | none => rfl
    | some M => have := hs.bnd _ _ hq; omega
  have hle := Phi.le_upd L' hnone
  have hold : ∀ j M, j ≠ s.next → (φ.upd s.next L') j = some M → φ j = some M := fun j M e h => by
    simpa [Phi.upd, e] using h
  have hnew : ∀ M, (φ.upd s.next L') s.next = some M → M = L' := fun M h => by simp [Phi.upd] at h; exact h.symm
  have hget : ∀ j q, s'.hp.get j = some q → j ≠ s.next → j ≠ i ∧ s.hp.get j = some q := fun j q h e => by
    rw [hg, if_neg e] at h
    by_cases e2 : j = i
    · simp [e2] at h
    · rw [if_neg e2] at h; exact ⟨e2, h⟩
  refine { sat := ?_, sub := hle, nx := by omega, os := hos, tape := htape, output := hout, size := by omega, fr := ?_, live := ?_, new := ?_, un := ?_, newdom := ?_ }
  · refine { obj := ?_, inj := ?_, bnd := ?_, dom := ?_ }
    · intro j q M hj hM
      by_cases e : j = s.next
      · subst e; rw [hg] at hj; simp at hj; subst hj; have := hnew M hM; subst this; exact hobj
      · obtain ⟨e2, hj'⟩ := hget j q hj e
        have hM' := hold j M e hM
        have hob := hs.obj j q M hj' hM'
        refine objRel_mono hle (hother _ ?_) hob
        intro hbl
        have := (hs.inj j i q o M L hj' hi hM' hL hbl e2).2
        rw [hro] at this; simp at this
    · intro j k q r M N hj hk hM hN hbl hne
      by_cases e : j = s.next
      · subst e
        have ek : k ≠ s.next := fun h => hne h.symm
        obtain ⟨e2, hk'⟩ := hget k r hk ek
        have := hnew M hM; subst this
        have := (hs.inj k i r o N L hk' hi (hold k N ek hN) hL (by rw [← hbl, hbl']) e2).2
        rw [hro] at this; simp at this
      · obtain ⟨e1, hj'⟩ := hget j q hj e
        by_cases e2 : k = s.next
        · subst e2
          have := hnew N hN; subst this
          have := (hs.inj j i q o M L hj' hi (hold j M e hM) hL (by rw [hbl, hbl']) e1).2
          rw [hro] at this; simp at this
        · obtain ⟨e3, hk'⟩ := hget k r hk e2
          exact hs.inj j k q r M N hj' hk' (hold j M e hM) (hold k N e2 hN) hbl hne
    · intro j M hM
      by_cases e : j = s.next
      · omega
      · have := hs.bnd j M (hold j M e hM); omega
    · intro j q hj
      by_cases e : j = s.next
      · omega
      · have := hs.dom j q (hget j q hj e).2; omega
  · intro b _ hno
    exact hother b fun e => by
      have := hno i o L hi hL e.symm
      rw [hro] at this; simp at this
  · intro j q M hj hM hq
    right
    by_cases e : j = s.next
    · subst e; have := hnew M hM; subst this; exact ⟨i, o, L, hi, hL, hro, hbl'.symm⟩
    · exact ⟨j, q, M, (hget j q hj e).2, hold j M e hM, hq, rfl⟩
  · intro j M hM
    by_cases e : j = s.next
    · subst e; exact .inr ⟨hnone, Nat.le_refl _⟩
    · exact .inl (hold j M e hM)
  · intro j q hj hq
    rw [hg, if_neg, if_neg]; exact hq
    · intro e; subst e; rw [hL] at hj; simp at hj
    · intro e; subst e; have := hs.dom _ _ hq; omega
  · intro j q hj
    by_cases e : j = s.next
    · exact .inr (by omega)
    · exact .inl (by simp [(hget j q hj e).2])
end
end Go.Mx
