/- From the abstract interpreter to the kit's calls: what laws need. -/
import Derived.Test.YtmookoajpcnigaaGreatMxS4
import Derived.Test.YtmookoajpcnigaaGreatMxG6
import Derived.RowKit3
import Derived.OpenShut
import Derived.ProofKit
set_option linter.unusedSimpArgs false
set_option linter.unusedVariables false
namespace Go.Mx
open Go

/-- a call from a state: what it answers, and the state behind it -/
def Triple (P : Program) (f : Nat) (args : List AV) (s : St) (v : AV) (s' : St) : Prop :=
  (∃ fn, P.funcs[f]? = some fn ∧ (fn.name == "runtime.NumGoroutine") = false ∧ fn.body.isNone = false) ∧
    ∀ (φ : Phi) (w : World) (xs : List Value), Sat P φ s w → concs P φ args = some xs →
      Calls P f xs.toArray w fun e w' => ∃ x ψ, e = .returned x ∧ Post P φ s w ψ s' w' ∧ conc P ψ v = some x

theorem CfOk.triple {P : Program} {cf : CF} (h : CfOk P cf) {f : Nat} {args : List AV} {s : St} {v : AV} {s' : St} (e : cf f args s = some (v, s')) : Triple P f args s v s' := h f args s v s' e

/-- is a call's answer 'true'? -/
def isT (r : Option (AV × St)) : Bool :=
  match r with
  | some (.one (.b true), _) => true
  | _ => false
theorem isT_some {r : Option (AV × St)} (h : isT r = true) : ∃ s', r = some (.one (.b true), s') := by
  unfold isT at h
  split at h
  · exact ⟨_, rfl⟩
  · cases h

def St.emp : St := ⟨0, .leaf⟩
theorem Sat.emp (P : Program) (w : World) : Sat P (fun _ => none) St.emp w :=
  ⟨fun i o L h => (by simp [St.emp, PT.get] at h), fun i j o o' L L' h => (by simp [St.emp, PT.get] at h), fun i L h => (by cases h), fun i o h => (by simp [St.emp, PT.get] at h)⟩

/-- a function without arguments that answers 'true' from nothing: it answers so wherever it is called, and leaves all as it was -/
def ansI : Intr := fun args s => match args with | [] => some (.one (.b true), s) | _ => none
theorem ans_ok {P : Program} {f : Nat} {s' : St} (h : Triple P f [] St.emp (.one (.b true)) s') : CfOk P (fun g args s => if g = f then ansI args s else none) := fun g args s v s2 hg => by
  simp only at hg
  split at hg
  · rename_i e
    subst e
    unfold ansI at hg
    split at hg
    · injection hg with hg; injection hg with h1 h2; subst h1; subst h2
      refine ⟨h.1, fun φ w xs hs hx => ?_⟩
      simp [concs] at hx; subst hx
      refine Calls.mono (h.2 _ w [] (Sat.emp P w) rfl) fun e w' he => ?_
      obtain ⟨x, ψ, rfl, hp, hc⟩ := he
      have hfr : ∀ b, b < w.heap.size → w'.heap[b]? = w.heap[b]? := fun b hb => hp.fr b hb fun i o L hi => by simp [St.emp, PT.get] at hi
      refine ⟨x, φ, rfl, ⟨⟨fun i o L hi hL => ?_, hs.inj, hs.bnd, hs.dom⟩, Phi.le_refl φ, Nat.le_refl _, hp.os, hp.tape, hp.output, hp.size, fun b hb _ => hfr b hb, fun i o L h1 h2 h3 => .inr ⟨i, o, L, h1, h2, h3, rfl⟩, fun _ _ h => .inl h, fun _ _ _ h => h, fun _ _ h => .inl (by simp [h])⟩, hc⟩
      have hob := hs.obj i o L hi hL
      exact objRel_mono (Phi.le_refl φ) (hfr _ (objRel_lt hob)) hob
    · cases hg
  · cases hg

/-- what was there stays, where only things were there that are read alone -/
structure Stays (W w' : World) : Prop where
  kept : W.keptBut w' (fun _ => False)
  fz : ∀ a : Addr, a.block < W.heap.size → w'.frozen? a = W.frozen? a
  size : W.heap.size ≤ w'.heap.size

theorem stays_of_post {P : Program} {φ ψ : Phi} {s s' : St} {w w' : World} (h : Post P φ s w ψ s' w') (hro : ∀ i o, s.hp.get i = some o → o.isRo = true) : Stays w w' := by
  have hfr : ∀ b, b < w.heap.size → w'.heap[b]? = w.heap[b]? := fun b hb => h.fr b hb fun i o L hi _ _ => hro i o hi
  refine ⟨⟨h.os, h.output, fun i hi => ?_⟩, fun a ha => ?_, h.size⟩
  · rw [hfr i hi]
    cases hq : w.heap[i]? with
    | none => trivial
    | some o => cases o <;> simp
  · unfold World.frozen?; rw [hfr _ ha]
end Go.Mx

namespace Go.ChangeShapes
open Go.WideShapes Go.Mx
variable {H : Type} {enc : TypeId × Value → H} {P : Program}

theorem post_of_stays {f : Func} {s : ChangeSpec} {apart fresh handsOn again : Bool} {W W' : World} {args : Array Value} {v : Value} {ds gs : List (DataW H)} {before pa pv : List MemPlace}
    (hW : DataW.Whole enc P f.params.toList s.vars apart W args.toList ds gs before)
    (hres : ∀ (b : Nat) (sp : Nat → Bool) (hd : Bool), DataW.TrodAll enc P W' b sp hd f.resultTypes.toList (v.resultList f.resultTypes.size) (s.fn H (ds ++ gs)).results [])
    (hargs : ∀ sp : Nat → Bool, (∀ p ∈ before, sp p.block = true) → DataW.TrodAll enc P W' 0 sp true f.params.toList args.toList (s.fn H (ds ++ gs)).args pa)
    (hvars : ∀ sp : Nat → Bool, (∀ p ∈ before, sp p.block = true) → DataW.TrodVars enc P W' sp s.vars (s.fn H (ds ++ gs)).vars pv)
    (hps : before = pa ++ pv) (hk : W.keptBut W' (fun _ => False)) (hfz : ∀ a : Addr, a.block < W.heap.size → W'.frozen? a = W.frozen? a)
    (hok : ∀ (j : Nat) (t : TypeId) (r : Value), f.resultTypes[j]? = some t → (v.resultList f.resultTypes.size)[j]? = some r → Value.okWide P W' .any 0 t r) :
    s.post enc P f apart fresh handsOn again W args v W' := by
  have hold : ∀ p ∈ before, (fun b => decide (b < W.heap.size)) p.block = true := fun p hp => by simpa using hW.lt p hp
  refine ⟨ds, gs, before, [], pa, pv, hW, hres _ _ _, hargs _ hold, hvars _ hold, World.keptBut_mono (fun p hp => hp.elim) hk, fun _ => ?_⟩
  have hlt := hW.lt
  obtain ⟨_, _, _, _, _, hz, hn⟩ := hW
  refine ⟨hok, _, _, ([] ++ pa) ++ pv, ⟨[] ++ pa, pv, trodAll_append (hargs _ (fun _ _ => rfl)) (hres _ _ _), hvars _ (fun _ _ => rfl), rfl, ?_, ?_⟩, ?_⟩
  · intro b off hp
    have hm : MemPlace.cell b off ∈ before := by rw [hps]; simpa using hp
    rw [hfz _ (hlt _ hm)]
    exact hz b off hm
  · intro ha
    have := hn ha
    rw [hps] at this
    simpa using this
  · intro p hp _
    rw [hps]
    simpa using hp
end Go.ChangeShapes

namespace Go.Mx
open Go
/-- a run that answers 'true': the call does, and what was there stays -/
theorem run_true {P : Program} {E : Env} (hE : EnvOk P E) {fuel d f : Nat} {args : List AV} {s : St} (h : isT (callF E fuel d f args s) = true) (hro : ∀ i o, s.hp.get i = some o → o.isRo = true)
    {φ : Phi} {w : World} {xs : List Value} (hs : Sat P φ s w) (hx : concs P φ args = some xs) : Calls P f xs.toArray w fun e w' => e = .returned (.bool true) ∧ Stays w w' := by
  obtain ⟨s', hr⟩ := isT_some h
  rw [callF_eq] at hr
  refine Calls.mono (((call_sound hE fuel d).triple hr).2 φ w xs hs hx) fun e w' he => ?_
  obtain ⟨x, ψ, rfl, hp, hc⟩ := he
  simp only [conc, concS, Option.some.injEq] at hc
  subst hc
  exact ⟨rfl, stays_of_post hp hro⟩

/-- one number more that is known to φ alone -/
def Phi.put (φ : Phi) (g : Nat) (L : Lo) : Phi := fun i => if i = g then some L else φ i
def ofI (n : Int) : Lo := ⟨n.toNat, (-n).toNat, 0⟩
theorem gval_ofI (n : Int) : gval (ofI n) = n := by unfold gval ofI; simp only; omega
theorem Phi.put_self (φ : Phi) (g : Nat) (L : Lo) : φ.put g L g = some L := by unfold Phi.put; rw [if_pos rfl]
theorem Phi.put_other (φ : Phi) {g i : Nat} (L : Lo) (h : i ≠ g) : φ.put g L i = φ i := by unfold Phi.put; rw [if_neg h]
def phi0 : Phi := fun _ => none

/-- numbers alone: nothing is there yet -/
theorem Sat.ghost {P : Program} {φ : Phi} {w : World} (s : St) (h0 : s.hp = .leaf) (h : ∀ i L, φ i = some L → i < s.next) : Sat P φ s w :=
  ⟨fun i o L hi => (by rw [h0] at hi; simp [PT.get] at hi), fun i j o o' L L' hi => (by rw [h0] at hi; simp [PT.get] at hi), h, fun i o hi => (by rw [h0] at hi; simp [PT.get] at hi)⟩
end Go.Mx
