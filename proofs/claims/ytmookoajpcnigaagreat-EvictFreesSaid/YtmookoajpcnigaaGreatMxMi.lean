/- Parts of the abstract interpreter, in the order in which they build. -/
import Derived.Test.YtmookoajpcnigaaGreatMxMg
import Derived.Test.YtmookoajpcnigaaGreatMxMh
import Derived.RowKit3
import Derived.OpenShut
import Derived.ProofKit
import Derived.ChangeSlices
/- From the abstract interpreter to the kit's calls: what laws need. -/
set_option linter.unusedSimpArgs false
set_option linter.unusedVariables false
namespace Go.Mx
open Go

/-- a call from a state: what it answers, and the state behind it -/
def Triple (P : Program) (f : Nat) (args : List AV) (s : St) (v : AV) (s' : St) : Prop :=
  (∃ fn, P.funcs[f]? = some fn ∧ (fn.name == "runtime.NumGoroutine") = false ∧ fn.body.isNone = false) ∧
    ∀ (φ : Phi) (w : World) (xs : List Value), Sat P φ s w → concs P φ args = some xs →
      Calls P f xs.toArray w fun e w' => ∃ x ψ, e = .returned x ∧ Post P φ s w ψ s' w' ∧ conc P ψ v = some x

theorem CfOk.triple {P : Program} {cf : CF} (h : CfOk P cf) {f : Nat} {args : List AV} {s : St} {v : AV} {s' : St} (e : cf f args s = some (v, s')) : Triple P f args s v s' := h f args s v s' e

/-- is a call's answer 'true'? -/
def isT (r : Option (AV × St)) : Bool :=
  match r with
  | some (.one (.b true), _) => true
  | _ => false
theorem isT_some {r : Option (AV × St)} (h : isT r = true) : ∃ s', r = some (.one (.b true), s') := by
  unfold isT at h
  split at h
  · exact ⟨_, rfl⟩
  · cases h

def St.emp : St := ⟨0, .leaf⟩
theorem Sat.emp (P : Program) (w : World) : Sat P (fun _ => none) St.emp w :=
  ⟨fun i o L h => (by simp [St.emp, PT.get] at h), fun i j o o' L L' h => (by simp [St.emp, PT.get] at h), fun i L h => (by cases h), fun i o h => (by simp [St.emp, PT.get] at h)⟩

/-- a function without arguments that answers 'true' from nothing: it answers so wherever it is called, and leaves all as it was -/
def ansI : Intr := fun args s => match args with | [] => some (.one (.b true), s) | _ => none
theorem ans_ok {P : Program} {f : Nat} {s' : St} (h : Triple P f [] St.emp (.one (.b true)) s') : CfOk P (fun g args s => if g = f then ansI args s else none) := fun g args s v s2 hg => by
  simp only at hg
  split at hg
  · rename_i e
    subst e
    unfold ansI at hg
    split at hg
    · injection hg with hg; injection hg with h1 h2; subst h1; subst h2
      refine ⟨h.1, fun φ w xs hs hx => ?_⟩
      simp [concs] at hx; subst hx
      refine Calls.mono (h.2 _ w [] (Sat.emp P w) rfl) fun e w' he => ?_
      obtain ⟨x, ψ, rfl, hp, hc⟩ := he
      have hfr : ∀ b, b < w.heap.size → w'.heap[b]? = w.heap[b]? := fun b hb => hp.fr b hb fun i o L hi => by simp [St.emp, PT.get] at hi
      refine ⟨x, φ, rfl, ⟨⟨fun i o L hi hL => ?_, hs.inj, hs.bnd, hs.dom⟩, Phi.le_refl φ, Nat.le_refl _, hp.os, hp.tape, hp.output, hp.size, fun b hb _ => hfr b hb, fun i o L h1 h2 h3 => .inr ⟨i, o, L, h1, h2, h3, rfl⟩, fun _ _ h => .inl h, fun _ _ _ h => h, fun _ _ h => .inl (by simp [h])⟩, hc⟩
      have hob := hs.obj i o L hi hL
      exact objRel_mono (Phi.le_refl φ) (hfr _ (objRel_lt hob)) hob
    · cases hg
  · cases hg

/-- what was there stays, where only things were there that are read alone -/
structure Stays (W w' : World) : Prop where
  kept : W.keptBut w' (fun _ => False)
  fz : ∀ a : Addr, a.block < W.heap.size → w'.frozen? a = W.frozen? a
  size : W.heap.size ≤ w'.heap.size

theorem stays_of_post {P : Program} {φ ψ : Phi} {s s' : St} {w w' : World} (h : Post P φ s w ψ s' w') (hro : ∀ i o, s.hp.get i = some o → o.isRo = true) : Stays w w' := by
  have hfr : ∀ b, b < w.heap.size → w'.heap[b]? = w.heap[b]? := fun b hb => h.fr b hb fun i o L hi _ _ => hro i o hi
  refine ⟨⟨h.os, h.output, fun i hi => ?_⟩, fun a ha => ?_, h.size⟩
  · rw [hfr i hi]
    cases hq : w.heap[i]? with
    | none => trivial
    | some o => cases o <;> simp
  · unfold World.frozen?; rw [hfr _ ha]
end Go.Mx

namespace Go.ChangeShapes
open Go.WideShapes Go.Mx
variable {H : Type} {enc : TypeId × Value → H} {P : Program}

theorem post_of_stays {f : Func} {s : ChangeSpec} {apart fresh handsOn again : Bool} {W W' : World} {args : Array Value} {v : Value} {ds gs : List (DataW H)} {before pa pv : List MemPlace}
    (hW : DataW.Whole enc P f.params.toList s.vars apart W args.toList ds gs before)
    (hres : ∀ (b : Nat) (sp : Nat → Bool) (hd : Bool), DataW.TrodAll enc P W' b sp hd f.resultTypes.toList (v.resultList f.resultTypes.size) (s.fn H (ds ++ gs)).results [])
    (hargs : ∀ sp : Nat → Bool, (∀ p ∈ before, sp p.block = true) → DataW.TrodAll enc P W' 0 sp true f.params.toList args.toList (s.fn H (ds ++ gs)).args pa)
    (hvars : ∀ sp : Nat → Bool, (∀ p ∈ before, sp p.block = true) → DataW.TrodVars enc P W' sp s.vars (s.fn H (ds ++ gs)).vars pv)
    (hps : before = pa ++ pv) (hk : W.keptBut W' (fun _ => False)) (hfz : ∀ a : Addr, a.block < W.heap.size → W'.frozen? a = W.frozen? a)
    (hok : ∀ (j : Nat) (t : TypeId) (r : Value), f.resultTypes[j]? = some t → (v.resultList f.resultTypes.size)[j]? = some r → Value.okWide P W' .any 0 t r) :
    s.post enc P f apart fresh handsOn again W args v W' := by
  have hold : ∀ p ∈ before, (fun b => decide (b < W.heap.size)) p.block = true := fun p hp => by simpa using hW.lt p hp
  refine ⟨ds, gs, before, [], pa, pv, hW, hres _ _ _, hargs _ hold, hvars _ hold, World.keptBut_mono (fun p hp => hp.elim) hk, fun _ => ?_⟩
  have hlt := hW.lt
  obtain ⟨_, _, _, _, _, hz, hn⟩ := hW
  refine ⟨hok, _, _, ([] ++ pa) ++ pv, ⟨[] ++ pa, pv, trodAll_append (hargs _ (fun _ _ => rfl)) (hres _ _ _), hvars _ (fun _ _ => rfl), rfl, ?_, ?_⟩, ?_⟩
  · intro b off hp
    have hm : MemPlace.cell b off ∈ before := by rw [hps]; simpa using hp
    rw [hfz _ (hlt _ hm)]
    exact hz b off hm
  · intro ha
    have := hn ha
    rw [hps] at this
    simpa using this
  · intro p hp _
    rw [hps]
    simpa using hp
end Go.ChangeShapes

namespace Go.Mx
open Go
/-- a run that answers 'true': the call does, and what was there stays -/
theorem run_true {P : Program} {E : Env} (hE : EnvOk P E) {fuel d f : Nat} {args : List AV} {s : St} (h : isT (callF E fuel d f args s) = true) (hro : ∀ i o, s.hp.get i = some o → o.isRo = true)
    {φ : Phi} {w : World} {xs : List Value} (hs : Sat P φ s w) (hx : concs P φ args = some xs) : Calls P f xs.toArray w fun e w' => e = .returned (.bool true) ∧ Stays w w' := by
  obtain ⟨s', hr⟩ := isT_some h
  rw [callF_eq] at hr
  refine Calls.mono (((call_sound hE fuel d).triple hr).2 φ w xs hs hx) fun e w' he => ?_
  obtain ⟨x, ψ, rfl, hp, hc⟩ := he
  simp only [conc, concS, Option.some.injEq] at hc
  subst hc
  exact ⟨rfl, stays_of_post hp hro⟩

/-- one number more that is known to φ alone -/
def Phi.put (φ : Phi) (g : Nat) (L : Lo) : Phi := fun i => if i = g then some L else φ i
def ofI (n : Int) : Lo := ⟨n.toNat, (-n).toNat, 0⟩
theorem gval_ofI (n : Int) : gval (ofI n) = n := by unfold gval ofI; simp only; omega
theorem Phi.put_self (φ : Phi) (g : Nat) (L : Lo) : φ.put g L g = some L := by unfold Phi.put; rw [if_pos rfl]
theorem Phi.put_other (φ : Phi) {g i : Nat} (L : Lo) (h : i ≠ g) : φ.put g L i = φ i := by unfold Phi.put; rw [if_neg h]
def phi0 : Phi := fun _ => none

/-- numbers alone: nothing is there yet -/
theorem Sat.ghost {P : Program} {φ : Phi} {w : World} (s : St) (h0 : s.hp = .leaf) (h : ∀ i L, φ i = some L → i < s.next) : Sat P φ s w :=
  ⟨fun i o L hi => (by rw [h0] at hi; simp [PT.get] at hi), fun i j o o' L L' hi => (by rw [h0] at hi; simp [PT.get] at hi), h, fun i o hi => (by rw [h0] at hi; simp [PT.get] at hi)⟩
end Go.Mx

/- Bytes as arguments: read off memory, and as they were behind the call. -/
set_option linter.unusedSimpArgs false
set_option linter.unusedVariables false
namespace Go.Mx
open Go Go.Proofs Go.ChangeShapes Go.WideShapes

/-- a slice of bytes in memory -/
structure Bytes (W : World) (v : Value) (blk off len cap : Nat) (zs : List Int) : Prop where
  val : v = .slice (some ⟨blk, off, none⟩) len cap
  le : len ≤ cap
  room : cap ≤ 9223372036854775807
  max : cap ≤ maxLen
  lt : blk < W.heap.size
  there : ∃ cs e fr, W.heap[blk]? = some (.cells cs e fr)
  length : zs.length = cap
  cell : ∀ i, i < cap → W.cell? ⟨blk, off + i, none⟩ = some (.int .u8 (zs.getD i 0))
  wf : ∀ n ∈ zs, (Lit.int .u8 n).wf = true

section
variable {H : Type} {enc : TypeId × Value → H} {P : Program} {W W' : World} {v : Value} {d : DataW H} {p : List MemPlace} {t e : TypeId}

theorem shape_cells {w : World} {b : Nat} {r : TypeId × Nat} (h : w.shape? b = some r) : ∃ cs e fr, w.heap[b]? = some (.cells cs e fr) := by
  unfold World.shape? at h
  split at h
  · rename_i cs e fr hh; exact ⟨cs, e, fr, hh⟩
  · cases h

theorem bytes_open (ht : P.underlying t = some (.slice e)) (he : P.underlying e = some (.int .u8)) (hc : P.cellsOf e = 1)
    (hval : Value.okWide P W .any 0 t v) (h : DataW.Trod enc P W 0 (fun _ => true) true t v d p) :
    (v = .slice none 0 0 ∧ d = .nil ∧ p = []) ∨ ∃ blk off len cap zs, Bytes W v blk off len cap zs ∧ d = .slice (lits .u8 (zs.take len)) (lits .u8 (zs.drop len)) ∧ p = MemPlace.row ⟨blk, off, none⟩ zs.length := by
  obtain ⟨a1, len, cap, rfl⟩ := okWide_slice ht hval
  obtain ⟨fuel, hf⟩ := h
  rcases open_ints ht he hc hf with ⟨hcs, hx⟩ | ⟨a, len', cap', zs, hcs, _, hl, hm, hz, hx, hcell, hwz⟩
  · simp [Value.cells] at hcs
    obtain ⟨rfl, rfl, rfl⟩ := hcs
    simp only [Prod.mk.injEq] at hx
    exact .inl ⟨rfl, hx.1, hx.2⟩
  · simp [Value.cells] at hcs
    obtain ⟨rfl, rfl, rfl⟩ := hcs
    simp only [Prod.mk.injEq] at hx
    simp only [if_true] at hz
    have hok : Cell.ok P W .any 0 t (.slice (some a) len cap) := by
      simp only [Value.okWide, ht, Cell.okWide] at hval
      exact hval
    simp only [Cell.ok, ht, World.has] at hok
    obtain ⟨_, hmx, _, hspot, row, cells, hsh, _⟩ := hok
    obtain ⟨cs, e', fr, hblk⟩ := shape_cells hsh
    obtain ⟨blk, off, spot⟩ := a
    simp only at hspot; subst hspot
    right
    refine ⟨blk, off, len, cap, zs, ⟨rfl, hl, ?_, hm, ?_, ⟨cs, e', fr, hblk⟩, hz, fun i hi => ?_, hwz⟩, hx.1, hx.2⟩
    · simp [IntKind.max, IntKind.signed, IntKind.bits] at hmx; omega
    · rcases Nat.lt_or_ge blk W.heap.size with h | h
      · exact h
      · simp [Array.getElem?_eq_none h] at hblk
    · have := hcell i (by omega)
      rw [add_plain] at this
      exact this

theorem bytes_shut (ht : P.underlying t = some (.slice e)) (he : P.underlying e = some (.int .u8)) (hc : P.cellsOf e = 1) {blk off len cap : Nat} {zs : List Int} (hb : Bytes W v blk off len cap zs) (hs : Stays W W')
    {sp : Nat → Bool} (hsp : ∀ q ∈ MemPlace.row ⟨blk, off, none⟩ zs.length, sp q.block = true) :
    DataW.Trod enc P W' 0 sp true t v (.slice (lits .u8 (zs.take len)) (lits .u8 (zs.drop len))) (MemPlace.row ⟨blk, off, none⟩ zs.length) := by
  rw [hb.val]
  refine ⟨2, shut_ints' 0 ht he hc (Nat.zero_le _) hb.le hb.max ?_ (fun i hi => ?_) hb.wf⟩
  · by_cases h0 : cap = 0
    · have : len = 0 := by have := hb.le; omega
      rw [hb.length]; split <;> omega
    · have : sp blk = true := hsp (.cell blk (off + 0)) (by
        unfold MemPlace.row
        simp only [List.mem_map, List.mem_range]
        exact ⟨0, by rw [hb.length]; omega, rfl⟩)
      rw [if_pos this, hb.length]
  · have hi' : i < cap := by rw [hb.length] at hi; exact hi
    have h1 := hb.cell i hi'
    have h2 := hs.kept.2.2 blk hb.lt
    obtain ⟨cs, e', fr, hh⟩ := hb.there
    rw [hh] at h2
    unfold World.cell? at h1 ⊢
    rw [hh] at h1
    cases hq : W'.heap[blk]? with
    | none => rw [hq] at h2; cases h2
    | some o =>
      rw [hq] at h2
      cases o with
      | cells c' t' fr' => simp only at h2 ⊢; rw [← h1]; simp only; rw [(h2.2.2.2 (off + i) (fun hf => hf))]
      | _ => cases h2
end

/-- what φ knows of one slice of bytes -/
def phiB (φ : Phi) (blk off len cap : Nat) (zs : List Int) : Phi := fun i =>
  if i = 0 then some ⟨len, 0, 0⟩ else if i = 1 then some ⟨cap, 0, 0⟩ else if 16 ≤ i ∧ i < 80 then some ⟨(zs.getD (i - 16) 0).toNat, 0, 0⟩ else if i = 200 then some ⟨blk, off, 0⟩ else φ i
def sB : St := ⟨210, PT.set .leaf 200 (.sy fun k => .y k 0)⟩
def s210 : St := ⟨210, .leaf⟩
/-- numbers alone, at 3..15 -/
def Few (φ : Phi) : Prop := ∀ i L, φ i = some L → 3 ≤ i ∧ i < 16

section
variable {P : Program} {φ : Phi} {w : World} {v : Value} {blk off len cap : Nat} {zs : List Int}
theorem phiB_bnd (hf : Few φ) : ∀ i L, phiB φ blk off len cap zs i = some L → i < 210 := fun i L h => by
  unfold phiB at h
  split at h
  · omega
  · split at h
    · omega
    · split at h
      · omega
      · split at h
        · omega
        · have := hf i L h; omega
theorem phiB_few (hf : Few φ) {g : Nat} (h : 3 ≤ g ∧ g < 16) : phiB φ blk off len cap zs g = φ g := by
  unfold phiB
  rw [if_neg (by omega), if_neg (by omega), if_neg (by omega), if_neg (by omega)]
theorem sat_ghost (hf : Few φ) : Sat P (phiB φ blk off len cap zs) s210 w := Sat.ghost s210 rfl (phiB_bnd hf)
theorem sat_nums (hf : Few φ) : Sat P φ s210 w := Sat.ghost s210 rfl fun i L h => by have := hf i L h; show i < 210; omega
theorem sat_bytes (hf : Few φ) (hb : Bytes w v blk off len cap zs) (h64 : len ≤ 64) : Sat P (phiB φ blk off len cap zs) sB w := by
  have hg : ∀ i o, sB.hp.get i = some o → i = 200 ∧ o = .sy fun k => .y k 0 := fun i o h => by
    unfold sB at h; simp only at h; rw [PT.get_set] at h
    split at h
    · rename_i e; injection h with h; exact ⟨e, h.symm⟩
    · simp [PT.get] at h
  refine ⟨fun i o L hi hL => ?_, fun i j o o' L L' hi hj hL hL' hbl hne => ?_, phiB_bnd hf, fun i o hi => ?_⟩
  · obtain ⟨rfl, rfl⟩ := hg i o hi
    have : L = ⟨blk, off, 0⟩ := by
      unfold phiB at hL
      simp at hL; exact hL.symm
    subst this
    obtain ⟨cs, e, fr, hh⟩ := hb.there
    refine ⟨⟨len, 0, 0⟩, cs, e, fr, by unfold phiB; simp, hh, fun k hk => ?_⟩
    have hk' : k < len := by unfold nlen gval at hk; simp at hk; exact hk
    have h1 := hb.cell k (by have := hb.le; omega)
    unfold World.cell? at h1
    rw [hh] at h1
    simp at h1
    refine ⟨_, h1, ?_⟩
    have hmem : zs.getD k 0 ∈ zs := by
      have hlt : k < zs.length := by rw [hb.length]; have := hb.le; omega
      rw [List.getD_eq_getElem?_getD, List.getElem?_eq_getElem hlt]
      exact List.getElem_mem hlt
    have hw := hb.wf _ hmem
    simp [Lit.wf, IntKind.min, IntKind.max, IntKind.signed, IntKind.bits] at hw
    have hN : phiB φ blk off len cap zs 0 = some ⟨len, 0, 0⟩ := by unfold phiB; simp
    have hK : phiB φ blk off len cap zs (16 + k) = some ⟨(zs.getD k 0).toNat, 0, 0⟩ := by
      unfold phiB
      rw [if_neg (by omega), if_neg (by omega), if_pos (by omega), show 16 + k - 16 = k from by omega]
    simp only [concS, hN, hK]
    rw [if_pos (by unfold nlen gval; simp; omega)]
    congr 2
    simp only [List.getD_eq_getElem?_getD] at hw ⊢
    omega
  · obtain ⟨rfl, rfl⟩ := hg i o hi
    obtain ⟨rfl, rfl⟩ := hg j o' hj
    exact ⟨rfl, rfl⟩
  · obtain ⟨rfl, _⟩ := hg i o hi
    show 200 < 210; omega
theorem conc_sn (hb : Bytes w v blk off len cap zs) {lo hi : Nat} (h1 : lo ≤ len) (h2 : len ≤ hi) : conc P (phiB φ blk off len cap zs) (.one (.sn (200, 0) lo hi 2)) = some v := by
  have hN : phiB φ blk off len cap zs 0 = some ⟨len, 0, 0⟩ := by unfold phiB; simp
  have hC : phiB φ blk off len cap zs 1 = some ⟨cap, 0, 0⟩ := by unfold phiB; simp
  have hL : phiB φ blk off len cap zs 200 = some ⟨blk, off, 0⟩ := by unfold phiB; simp
  have hn : nlen (⟨len, 0, 0⟩ : Lo) = len := by unfold nlen gval; simp
  simp only [conc, concS, hN, hL, roomOf, hC, Option.map_some, hn]
  rw [if_pos ⟨⟨h1, h2⟩, hb.le, by unfold gval; simp⟩, hb.val]
  simp
theorem conc_md {g : Nat} {n : Int} {k : IntKind} {r m : Nat} (hg : φ g = some (ofI n)) (h0 : 0 ≤ n) (hr : n % (m : Int) = r) : conc P φ (.one (.md g k r m)) = some (.int k n) := by
  simp only [conc, concS, hg, gval_ofI]
  rw [if_pos ⟨h0, hr⟩]
end
theorem few_put {φ : Phi} (h : Few φ) {g : Nat} (hg : 3 ≤ g ∧ g < 16) (L : Lo) : Few (φ.put g L) := fun i M hM => by
  by_cases e : i = g
  · subst e; exact hg
  · rw [Phi.put_other _ _ e] at hM; exact h i M hM
theorem few0 : Few phi0 := fun i L h => by cases h
theorem ro_s210 : ∀ i o, s210.hp.get i = some o → o.isRo = true := fun i o h => by simp [s210, PT.get] at h
theorem ro_sB : ∀ i o, sB.hp.get i = some o → o.isRo = true := fun i o h => by
  unfold sB at h; simp only at h; rw [PT.get_set] at h
  split at h
  · injection h with h; subst h; rfl
  · simp [PT.get] at h
end Go.Mx

/- 'Same' of two slices as long as the argument, with the same bytes. -/
set_option linter.unusedSimpArgs false
set_option linter.unusedVariables false
namespace Go.Mx
open Go Go.Proofs

def sSn (n : Nat) : St := ⟨210, PT.set (PT.set .leaf 200 (.ro n fun k => .y k 0)) 201 (.ro n fun k => .y k 0)⟩
set_option maxRecDepth 1000000 in
theorem same_run : (List.range 64).all (fun j => isT (callF E0 3000 10 34 [.one (.sn (200, 0) (j + 1) (j + 1) 2), .one (.sn (201, 0) (j + 1) (j + 1) 3)] (sSn (j + 1)))) = true := by decide +kernel

/-- the same byte, whatever the argument is -/
def eqC (j : Nat) (a b : Sc) : Bool :=
  match a, b with
  | .y k _, .y k' _ => Nat.beq k k' && Nat.beq (k % 64) j
  | .i .u8 (.ofNat x), .i .u8 (.ofNat y) => Nat.beq x y && Nat.ble (x + 1) 256
  | _, _ => false
def eqCL : Nat → List Sc → List Sc → Bool
  | _, [], [] => true
  | j, a :: r, b :: q => eqC j a b && eqCL (j + 1) r q
  | _, _, _ => false
def sameS (s : St) (a b : Nat × Nat) (l u : Nat) : Bool :=
  match symSrc s a u, symSrc s b u with
  | some x, some y => Nat.ble 1 l && Nat.ble u 64 && eqCL 0 x y
  | _, _ => false
noncomputable def sameI : Intr := fun args s => match args with
  | [.one (.sn a l u _), .one (.sn b _ _ _)] => bif sameS s a b l u then some (.one (.b true), s) else none
  | args => callF E0 3000 10 34 args s

theorem eqCL_get : ∀ {j : Nat} {x y : List Sc}, eqCL j x y = true → ∀ (k : Nat) (a b : Sc), x[k]? = some a → y[k]? = some b → eqC (j + k) a b = true := by
  intro j x
  induction x generalizing j with
  | nil => intro y h k a b ha; simp at ha
  | cons c r ih =>
    intro y h k a b ha hb
    cases y with
    | nil => simp at hb
    | cons d q =>
      simp only [eqCL, Bool.and_eq_true] at h
      cases k with
      | zero => simp at ha hb; subst ha; subst hb; exact h.1
      | succ k =>
        simp at ha hb
        rw [show j + (k + 1) = j + 1 + k from by omega]
        exact ih h.2 k a b ha hb

section
variable {P : Program} {φ : Phi} {s s' : St} {w : World}

theorem eqC_conc {N : Lo} (hN : φ 0 = some N) {j : Nat} (hj : j < nlen N) {a b : Sc} (h : eqC j a b = true) {v v' : Value} (ha : concS φ a = some v) (hb : concS φ b = some v') :
    v = v' ∧ ∃ x : Nat, x < 256 ∧ v = .int .u8 (x : Int) := by
  unfold eqC at h
  split at h
  · simp only [Bool.and_eq_true, Nat.beq_eq] at h
    obtain ⟨rfl, h2⟩ := h
    simp only [concS, hN] at ha hb
    rw [if_pos (by omega)] at ha hb
    rw [ha] at hb; injection hb with hb
    refine ⟨hb, ?_⟩
    split at ha
    · rename_i L hL
      injection ha with ha
      exact ⟨L.blk % 256, Nat.mod_lt _ (by omega), ha.symm⟩
    · cases ha
  · simp only [Bool.and_eq_true, Nat.beq_eq, Nat.ble_eq] at h
    obtain ⟨rfl, h2⟩ := h
    rename_i x
    simp only [concS, Option.some.injEq] at ha hb
    exact ⟨ha.symm.trans hb, x, by omega, ha.symm⟩
  · cases h

/-- a step that touched nothing that is known -/
theorem post_idle {φ' ψ : Phi} {s0 s1 : St} {w' : World} (hp : Post P φ' s0 w ψ s1 w') (hro : ∀ i o, s0.hp.get i = some o → o.isRo = true) (hs : Sat P φ s w) : Post P φ s w φ s w' := by
  have hfr : ∀ b, b < w.heap.size → w'.heap[b]? = w.heap[b]? := fun b hb => hp.fr b hb fun i o L hi _ _ => hro i o hi
  refine ⟨⟨fun i o L hi hL => ?_, hs.inj, hs.bnd, hs.dom⟩, Phi.le_refl φ, Nat.le_refl _, hp.os, hp.tape, hp.output, hp.size, fun b hb _ => hfr b hb, fun i o L h1 h2 h3 => .inr ⟨i, o, L, h1, h2, h3, rfl⟩, fun _ _ h => .inl h, fun _ _ _ h => h, fun _ _ h => .inl (by simp [h])⟩
  have hob := hs.obj i o L hi hL
  exact objRel_mono (Phi.le_refl φ) (hfr _ (objRel_lt hob)) hob
end

theorem same_ok : CfOk Tryz.prog (fun g args s => if g = 34 then sameI args s else none) := fun g args s v s2 hg => by
  simp only at hg
  split at hg
  · rename_i e; subst e
    unfold sameI at hg
    split at hg
    · rename_i a l u m b l' u' m'
      simp only [cond_eq_ite] at hg
      split at hg
      · rename_i hsame
        injection hg with hg; injection hg with h1 h2; subst h1; subst h2
        unfold sameS at hsame
        split at hsame
        · rename_i x y hx hy
          simp only [Bool.and_eq_true, Nat.ble_eq] at hsame
          obtain ⟨⟨h1l, hu⟩, heq⟩ := hsame
          have hj0 : isT (callF E0 3000 10 34 [.one (.sn (200, 0) (0 + 1) (0 + 1) 2), .one (.sn (201, 0) (0 + 1) (0 + 1) 3)] (sSn (0 + 1))) = true := List.all_eq_true.1 same_run 0 (by simp)
          obtain ⟨s00, hr00⟩ := isT_some hj0
          rw [callF_eq] at hr00
          refine ⟨((call_sound E0_ok 3000 10).triple hr00).1, fun φ w xs hs hxs => ?_⟩
          -- the two slices
          simp only [concs] at hxs
          cases hva : conc Tryz.prog φ (.one (.sn a l u m)) with
          | none => simp [hva] at hxs
          | some va =>
            cases hvb : conc Tryz.prog φ (.one (.sn b l' u' m')) with
            | none => simp [hva, hvb] at hxs
            | some vb =>
              simp [hva, hvb] at hxs; subst hxs
              obtain ⟨N, L, c1, hN, hL, hr1, hb1, hnc1, h01, hv1⟩ := sn_some hva
              obtain ⟨N', L', c2, hN', hL', hr2, hb2, hnc2, h02, hv2⟩ := sn_some hvb
              rw [hN] at hN'; injection hN' with hN'; subst hN'
              have hsA := Sat.act hs hN
              obtain ⟨vs1, i1, i2, i3⟩ := ld_cells hsA (symSrc_ld (N := N) hx hb1.2) (show concA φ a = some ⟨L.blk, L.base + a.2, none⟩ by simp [concA, hL])
              obtain ⟨vs2, j1, j2, j3⟩ := ld_cells hsA (symSrc_ld (N := N) hy hb1.2) (show concA φ b = some ⟨L'.blk, L'.base + b.2, none⟩ by simp [concA, hL'])
              have hlx := symSrc_len hx
              have hly := symSrc_len hy
              -- each byte
              have hbyte : ∀ j, j < nlen N → ∃ β : Nat, β < 256 ∧ vs1[j]? = some (.int .u8 (β : Int)) ∧ vs2[j]? = some (.int .u8 (β : Int)) := fun j hj => by
                have hj1 : j < x.length := by omega
                have hj2 : j < y.length := by omega
                obtain ⟨v1, p1, p2⟩ := concL_get i1 j x[j] (by rw [List.getElem?_take, if_pos hj]; exact List.getElem?_eq_getElem hj1)
                obtain ⟨v2, q1, q2⟩ := concL_get j1 j y[j] (by rw [List.getElem?_take, if_pos hj]; exact List.getElem?_eq_getElem hj2)
                have he := eqCL_get heq j x[j] y[j] (List.getElem?_eq_getElem hj1) (List.getElem?_eq_getElem hj2)
                rw [Nat.zero_add] at he
                obtain ⟨e1, β, e2, e3⟩ := eqC_conc hN hj he p2 q2
                exact ⟨β, e2, by rw [p1, e3], by rw [q1, ← e1, e3]⟩
              let B : Nat → Nat := fun j => match vs1[j]? with | some (.int .u8 (.ofNat β)) => β | _ => 0
              have hB : ∀ j, j < nlen N → B j < 256 ∧ vs1[j]? = some (.int .u8 (B j : Int)) ∧ vs2[j]? = some (.int .u8 (B j : Int)) := fun j hj => by
                obtain ⟨β, e1, e2, e3⟩ := hbyte j hj
                have : B j = β := by show (match vs1[j]? with | some (.int .u8 (.ofNat β)) => β | _ => 0) = β; rw [e2]
                rw [this]; exact ⟨e1, e2, e3⟩
              -- seen so
              let φ' : Phi := fun i => if i = 0 then some ⟨nlen N, 0, 0⟩ else if i = 1 then some ⟨c1, 0, 0⟩ else if i = 2 then some ⟨c2, 0, 0⟩ else if 16 ≤ i ∧ i < 80 then some ⟨B (i - 16), 0, 0⟩ else
                if i = 200 then some ⟨L.blk, L.base + a.2, 0⟩ else if i = 201 then some ⟨L'.blk, L'.base + b.2, 0⟩ else none
              have f0 : φ' 0 = some ⟨nlen N, 0, 0⟩ := rfl
              have f1 : φ' 1 = some ⟨c1, 0, 0⟩ := rfl
              have f2 : φ' 2 = some ⟨c2, 0, 0⟩ := rfl
              have f200 : φ' 200 = some ⟨L.blk, L.base + a.2, 0⟩ := rfl
              have f201 : φ' 201 = some ⟨L'.blk, L'.base + b.2, 0⟩ := rfl
              have fB : ∀ k, k < 64 → φ' (16 + k) = some ⟨B k, 0, 0⟩ := fun k hk => by
                show (if 16 + k = 0 then _ else _) = _
                rw [if_neg (by omega), if_neg (by omega), if_neg (by omega), if_pos (by omega), show 16 + k - 16 = k from by omega]
              have hnn : nlen (⟨nlen N, 0, 0⟩ : Lo) = nlen N := by show ((nlen N : Int) - 0).toNat = nlen N; omega
              have hcell : ∀ (blk off : Nat) (vs : List Value), (∀ (j : Nat) (v : Value), vs[j]? = some v → w.cell? ((⟨blk, off, none⟩ : Addr).add j) = some v) → (∀ j, j < nlen N → vs[j]? = some (.int .u8 (B j : Int))) →
                  objRel Tryz.prog φ' (.ro (nlen N) fun k => .y k 0) ⟨blk, off, 0⟩ w := fun blk off vs h1 h2 => by
                have hn1 : 0 < nlen N := by omega
                have hc0 := h1 0 _ (h2 0 hn1)
                rw [Go.WideShapes.add_plain] at hc0
                unfold World.cell? at hc0
                split at hc0
                · rename_i cs e fr hh
                  refine ⟨cs, e, fr, hh, fun k hk => ?_⟩
                  have hck := h1 k _ (h2 k hk)
                  rw [Go.WideShapes.add_plain] at hck
                  unfold World.cell? at hck
                  simp only [hh] at hck
                  refine ⟨_, by simpa using hck, ?_⟩
                  have hk64 : k < 64 := by omega
                  simp only [concS, f0, fB k hk64, hnn]
                  rw [if_pos (by omega), Nat.mod_eq_of_lt (hB k hk).1]
                · cases hc0
              have hg : ∀ i o, (sSn (nlen N)).hp.get i = some o → (i = 200 ∨ i = 201) ∧ o = .ro (nlen N) fun k => .y k 0 := fun i o h => by
                unfold sSn at h; simp only [PT.get_set] at h
                split at h
                · rename_i e; injection h with h; exact ⟨.inr e, h.symm⟩
                · split at h
                  · rename_i e; injection h with h; exact ⟨.inl e, h.symm⟩
                  · simp [PT.get] at h
              have hro : ∀ i o, (sSn (nlen N)).hp.get i = some o → o.isRo = true := fun i o h => by rw [(hg i o h).2]; rfl
              have hsat : Sat Tryz.prog φ' (sSn (nlen N)) w := by
                refine ⟨fun i o M hi hM => ?_, fun i j o o' M M' hi hj _ _ _ _ => ⟨hro i o hi, hro j o' hj⟩, fun i M hM => ?_, fun i o hi => ?_⟩
                · obtain ⟨hi', rfl⟩ := hg i o hi
                  rcases hi' with rfl | rfl
                  · rw [f200] at hM; injection hM with hM; subst hM
                    exact hcell _ _ vs1 i3 fun j hj => (hB j hj).2.1
                  · rw [f201] at hM; injection hM with hM; subst hM
                    exact hcell _ _ vs2 j3 fun j hj => (hB j hj).2.2
                · show i < 210
                  rcases Nat.lt_or_ge i 210 with h | h
                  · exact h
                  · have : φ' i = none := by
                      show (if i = 0 then _ else _) = none
                      rw [if_neg (by omega), if_neg (by omega), if_neg (by omega), if_neg (by omega), if_neg (by omega), if_neg (by omega)]
                    rw [this] at hM; cases hM
                · show i < 210
                  rcases (hg i o hi).1 with rfl | rfl <;> omega
              have hn1 : 1 ≤ nlen N := by omega
              have hrun : isT (callF E0 3000 10 34 [.one (.sn (200, 0) (nlen N - 1 + 1) (nlen N - 1 + 1) 2), .one (.sn (201, 0) (nlen N - 1 + 1) (nlen N - 1 + 1) 3)] (sSn (nlen N - 1 + 1))) = true :=
                List.all_eq_true.1 same_run (nlen N - 1) (by simp; omega)
              rw [show nlen N - 1 + 1 = nlen N from by omega] at hrun
              obtain ⟨s', hr⟩ := isT_some hrun
              rw [callF_eq] at hr
              have hxs : concs Tryz.prog φ' [.one (.sn (200, 0) (nlen N) (nlen N) 2), .one (.sn (201, 0) (nlen N) (nlen N) 3)] = some [va, vb] := by
                have e1 : conc Tryz.prog φ' (.one (.sn (200, 0) (nlen N) (nlen N) 2)) = some va := by
                  simp only [conc, concS, f0, f200, roomOf, f1, Option.map_some, hnn]
                  rw [if_pos ⟨⟨Nat.le_refl _, Nat.le_refl _⟩, hnc1, by unfold gval; simp⟩, hv1]; simp
                have e2 : conc Tryz.prog φ' (.one (.sn (201, 0) (nlen N) (nlen N) 3)) = some vb := by
                  simp only [conc, concS, f0, f201, roomOf, f2, Option.map_some, hnn]
                  rw [if_pos ⟨⟨Nat.le_refl _, Nat.le_refl _⟩, hnc2, by unfold gval; simp⟩, hv2]; simp
                simp only [concs, e1, e2]
              refine Calls.mono (((call_sound E0_ok 3000 10).triple hr).2 φ' w [va, vb] hsat hxs) fun e w' he => ?_
              obtain ⟨xv, ψ, rfl, hp, hc⟩ := he
              exact ⟨xv, φ, rfl, post_idle hp hro hs, hc⟩
        · cases hsame
      · cases hg
    · rw [callF_eq] at hg
      exact call_sound E0_ok 3000 10 34 _ s v s2 hg
  · cases hg
end Go.Mx

/- One argument that is a slice of bytes: opened, and shut again in the world behind the call. -/
set_option linter.unusedSimpArgs false
set_option linter.unusedVariables false
namespace Go.Mx
open Go Go.Proofs Go.ChangeShapes Go.WideShapes
variable {H : Type} {P : Program} {enc : TypeId × Value → H} {W W' : World}

theorem u8_bnd {n : Int} (h : (Lit.int .u8 n).wf = true) : 0 ≤ n ∧ n < 256 := by
  simp only [Lit.wf, Bool.and_eq_true, decide_eq_true_eq, IntKind.min, IntKind.max, IntKind.signed, IntKind.bits] at h
  simp at h; omega

/-- the argument's bytes: none, or as many as there are -/
def Arg (W : World) (v : Value) : Prop := v = .slice none 0 0 ∨ ∃ blk off len cap zs, Bytes W v blk off len cap zs

theorem bytes_arg {t e : TypeId} {v : Value} {d : DataW H} {p : List MemPlace} (ht : P.underlying t = some (.slice e)) (he : P.underlying e = some (.int .u8)) (hc : P.cellsOf e = 1)
    (hval : Value.okWide P W .any 0 t v) (h : DataW.Trod enc P W 0 (fun _ => true) true t v d p) :
    Arg W v ∧ ∀ W', Stays W W' → ∀ sp : Nat → Bool, (∀ q ∈ p, sp q.block = true) → DataW.Trod enc P W' 0 sp true t v d p := by
  rcases bytes_open ht he hc hval h with ⟨rfl, rfl, rfl⟩ | ⟨blk, off, len, cap, zs, hb, rfl, rfl⟩
  · exact ⟨.inl rfl, fun W' _ sp _ => ⟨1, by simp [DataW.trod, Value.cells, ht]⟩⟩
  · exact ⟨.inr ⟨blk, off, len, cap, zs, hb⟩, fun W' hs sp hsp => bytes_shut ht he hc hb hs hsp⟩
end Go.Mx
