/- 'Same' of two slices as long as the argument, with the same bytes. -/
import Derived.Test.YtmookoajpcnigaaGreatMxGB
set_option linter.unusedSimpArgs false
set_option linter.unusedVariables false
namespace Go.Mx
open Go Go.Proofs

def sSn (n : Nat) : St := ⟨210, PT.set (PT.set .leaf 200 (.ro n fun k => .y k 0)) 201 (.ro n fun k => .y k 0)⟩
set_option maxRecDepth 1000000 in
theorem same_run : (List.range 64).all (fun j => isT (callF E0 3000 10 34 [.one (.sn (200, 0) (j + 1) (j + 1) 2), .one (.sn (201, 0) (j + 1) (j + 1) 3)] (sSn (j + 1)))) = true := by decide +kernel

/-- the same byte, whatever the argument is -/
def eqC (j : Nat) (a b : Sc) : Bool :=
  match a, b with
  | .y k _, .y k' _ => Nat.beq k k' && Nat.beq (k % 64) j
  | .i .u8 (.ofNat x), .i .u8 (.ofNat y) => Nat.beq x y && Nat.ble (x + 1) 256
  | _, _ => false
def eqCL : Nat → List Sc → List Sc → Bool
  | _, [], [] => true
  | j, a :: r, b :: q => eqC j a b && eqCL (j + 1) r q
  | _, _, _ => false
def sameS (s : St) (a b : Nat × Nat) (l u : Nat) : Bool :=
  match symSrc s a u, symSrc s b u with
  | some x, some y => Nat.ble 1 l && Nat.ble u 64 && eqCL 0 x y
  | _, _ => false
noncomputable def sameI : Intr := fun args s => match args with
  | [.one (.sn a l u _), .one (.sn b _ _ _)] => bif sameS s a b l u then some (.one (.b true), s) else none
  | args => callF E0 3000 10 34 args s

theorem eqCL_get : ∀ {j : Nat} {x y : List Sc}, eqCL j x y = true → ∀ (k : Nat) (a b : Sc), x[k]? = some a → y[k]? = some b → eqC (j + k) a b = true := by
  intro j x
  induction x generalizing j with
  | nil => intro y h k a b ha; simp at ha
  | cons c r ih =>
    intro y h k a b ha hb
    cases y with
    | nil => simp at hb
    | cons d q =>
      simp only [eqCL, Bool.and_eq_true] at h
      cases k with
      | zero => simp at ha hb; subst ha; subst hb; exact h.1
      | succ k =>
        simp at ha hb
        rw [show j + (k + 1) = j + 1 + k from by omega]
        exact ih h.2 k a b ha hb

section
variable {P : Program} {φ : Phi} {s s' : St} {w : World}

theorem eqC_conc {N : Lo} (hN : φ 0 = some N) {j : Nat} (hj : j < nlen N) {a b : Sc} (h : eqC j a b = true) {v v' : Value} (ha : concS φ a = some v) (hb : concS φ b = some v') :
    v = v' ∧ ∃ x : Nat, x < 256 ∧ v = .int .u8 (x : Int) := by
  unfold eqC at h
  split at h
  · simp only [Bool.and_eq_true, Nat.beq_eq] at h
    obtain ⟨rfl, h2⟩ := h
    simp only [concS, hN] at ha hb
    rw [if_pos (by omega)] at ha hb
    rw [ha] at hb; injection hb with hb
    refine ⟨hb, ?_⟩
    split at ha
    · rename_i L hL
      injection ha with ha
      exact ⟨L.blk % 256, Nat.mod_lt _ (by omega), ha.symm⟩
    · cases ha
  · simp only [Bool.and_eq_true, Nat.beq_eq, Nat.ble_eq] at h
    obtain ⟨rfl, h2⟩ := h
    rename_i x
    simp only [concS, Option.some.injEq] at ha hb
    exact ⟨ha.symm.trans hb, x, by omega, ha.symm⟩
  · cases h

/-- a step that touched nothing that is known -/
theorem post_idle {φ' ψ : Phi} {s0 s1 : St} {w' : World} (hp : Post P φ' s0 w ψ s1 w') (hro : ∀ i o, s0.hp.get i = some o → o.isRo = true) (hs : Sat P φ s w) : Post P φ s w φ s w' := by
  have hfr : ∀ b, b < w.heap.size → w'.heap[b]? = w.heap[b]? := fun b hb => hp.fr b hb fun i o L hi _ _ => hro i o hi
  refine ⟨⟨fun i o L hi hL => ?_, hs.inj, hs.bnd, hs.dom⟩, Phi.le_refl φ, Nat.le_refl _, hp.os, hp.tape, hp.output, hp.size, fun b hb _ => hfr b hb, fun i o L h1 h2 h3 => .inr ⟨i, o, L, h1, h2, h3, rfl⟩, fun _ _ h => .inl h, fun _ _ _ h => h, fun _ _ h => .inl (by simp [h])⟩
  have hob := hs.obj i o L hi hL
  exact objRel_mono (Phi.le_refl φ) (hfr _ (objRel_lt hob)) hob
end

theorem same_ok : CfOk Tryz.prog (fun g args s => if g = 34 then sameI args s else none) := fun g args s v s2 hg => by
  simp only at hg
  split at hg
  · rename_i e; subst e
    unfold sameI at hg
    split at hg
    · rename_i a l u m b l' u' m'
      simp only [cond_eq_ite] at hg
      split at hg
      · rename_i hsame
        injection hg with hg; injection hg with h1 h2; subst h1; subst h2
        unfold sameS at hsame
        split at hsame
        · rename_i x y hx hy
          simp only [Bool.and_eq_true, Nat.ble_eq] at hsame
          obtain ⟨⟨h1l, hu⟩, heq⟩ := hsame
          have hj0 : isT (callF E0 3000 10 34 [.one (.sn (200, 0) (0 + 1) (0 + 1) 2), .one (.sn (201, 0) (0 + 1) (0 + 1) 3)] (sSn (0 + 1))) = true := List.all_eq_true.1 same_run 0 (by simp)
          obtain ⟨s00, hr00⟩ := isT_some hj0
          rw [callF_eq] at hr00
          refine ⟨((call_sound E0_ok 3000 10).triple hr00).1, fun φ w xs hs hxs => ?_⟩
          -- the two slices
          simp only [concs] at hxs
          cases hva : conc Tryz.prog φ (.one (.sn a l u m)) with
          | none => simp [hva] at hxs
          | some va =>
            cases hvb : conc Tryz.prog φ (.one (.sn b l' u' m')) with
            | none => simp [hva, hvb] at hxs
            | some vb =>
              simp [hva, hvb] at hxs; subst hxs
              obtain ⟨N, L, c1, hN, hL, hr1, hb1, hnc1, h01, hv1⟩ := sn_some hva
              obtain ⟨N', L', c2, hN', hL', hr2, hb2, hnc2, h02, hv2⟩ := sn_some hvb
              rw [hN] at hN'; injection hN' with hN'; subst hN'
              have hsA := Sat.act hs hN
              obtain ⟨vs1, i1, i2, i3⟩ := ld_cells hsA (symSrc_ld (N := N) hx hb1.2) (show concA φ a = some ⟨L.blk, L.base + a.2, none⟩ by simp [concA, hL])
              obtain ⟨vs2, j1, j2, j3⟩ := ld_cells hsA (symSrc_ld (N := N) hy hb1.2) (show concA φ b = some ⟨L'.blk, L'.base + b.2, none⟩ by simp [concA, hL'])
              have hlx := symSrc_len hx
              have hly := symSrc_len hy
              -- each byte
              have hbyte : ∀ j, j < nlen N → ∃ β : Nat, β < 256 ∧ vs1[j]? = some (.int .u8 (β : Int)) ∧ vs2[j]? = some (.int .u8 (β : Int)) := fun j hj => by
                have hj1 : j < x.length := by omega
                have hj2 : j < y.length := by omega
                obtain ⟨v1, p1, p2⟩ := concL_get i1 j x[j] (by rw [List.getElem?_take, if_pos hj]; exact List.getElem?_eq_getElem hj1)
                obtain ⟨v2, q1, q2⟩ := concL_get j1 j y[j] (by rw [List.getElem?_take, if_pos hj]; exact List.getElem?_eq_getElem hj2)
                have he := eqCL_get heq j x[j] y[j] (List.getElem?_eq_getElem hj1) (List.getElem?_eq_getElem hj2)
                rw [Nat.zero_add] at he
                obtain ⟨e1, β, e2, e3⟩ := eqC_conc hN hj he p2 q2
                exact ⟨β, e2, by rw [p1, e3], by rw [q1, ← e1, e3]⟩
              let B : Nat → Nat := fun j => match vs1[j]? with | some (.int .u8 (.ofNat β)) => β | _ => 0
              have hB : ∀ j, j < nlen N → B j < 256 ∧ vs1[j]? = some (.int .u8 (B j : Int)) ∧ vs2[j]? = some (.int .u8 (B j : Int)) := fun j hj => by
                obtain ⟨β, e1, e2, e3⟩ := hbyte j hj
                have : B j = β := by show (match vs1[j]? with | some (.int .u8 (.ofNat β)) => β | _ => 0) = β; rw [e2]
                rw [this]; exact ⟨e1, e2, e3⟩
              -- seen so
              let φ' : Phi := fun i => if i = 0 then some ⟨nlen N, 0, 0⟩ else if i = 1 then some ⟨c1, 0, 0⟩ else if i = 2 then some ⟨c2, 0, 0⟩ else if 16 ≤ i ∧ i < 80 then some ⟨B (i - 16), 0, 0⟩ else
                if i = 200 then some ⟨L.blk, L.base + a.2, 0⟩ else if i = 201 then some ⟨L'.blk, L'.base + b.2, 0⟩ else none
              have f0 : φ' 0 = some ⟨nlen N, 0, 0⟩ := rfl
              have f1 : φ' 1 = some ⟨c1, 0, 0⟩ := rfl
              have f2 : φ' 2 = some ⟨c2, 0, 0⟩ := rfl
              have f200 : φ' 200 = some ⟨L.blk, L.base + a.2, 0⟩ := rfl
              have f201 : φ' 201 = some ⟨L'.blk, L'.base + b.2, 0⟩ := rfl
              have fB : ∀ k, k < 64 → φ' (16 + k) = some ⟨B k, 0, 0⟩ := fun k hk => by
                show (if 16 + k = 0 then _ else _) = _
                rw [if_neg (by omega), if_neg (by omega), if_neg (by omega), if_pos (by omega), show 16 + k - 16 = k from by omega]
              have hnn : nlen (⟨nlen N, 0, 0⟩ : Lo) = nlen N := by show ((nlen N : Int) - 0).toNat = nlen N; omega
              have hcell : ∀ (blk off : Nat) (vs : List Value), (∀ (j : Nat) (v : Value), vs[j]? = some v → w.cell? ((⟨blk, off, none⟩ : Addr).add j) = some v) → (∀ j, j < nlen N → vs[j]? = some (.int .u8 (B j : Int))) →
                  objRel Tryz.prog φ' (.ro (nlen N) fun k => .y k 0) ⟨blk, off, 0⟩ w := fun blk off vs h1 h2 => by
                have hn1 : 0 < nlen N := by omega
                have hc0 := h1 0 _ (h2 0 hn1)
                rw [Go.WideShapes.add_plain] at hc0
                unfold World.cell? at hc0
                split at hc0
                · rename_i cs e fr hh
                  refine ⟨cs, e, fr, hh, fun k hk => ?_⟩
                  have hck := h1 k _ (h2 k hk)
                  rw [Go.WideShapes.add_plain] at hck
                  unfold World.cell? at hck
                  simp only [hh] at hck
                  refine ⟨_, by simpa using hck, ?_⟩
                  have hk64 : k < 64 := by omega
                  simp only [concS, f0, fB k hk64, hnn]
                  rw [if_pos (by omega), Nat.mod_eq_of_lt (hB k hk).1]
                · cases hc0
              have hg : ∀ i o, (sSn (nlen N)).hp.get i = some o → (i = 200 ∨ i = 201) ∧ o = .ro (nlen N) fun k => .y k 0 := fun i o h => by
                unfold sSn at h; simp only [PT.get_set] at h
                split at h
                · rename_i e; injection h with h; exact ⟨.inr e, h.symm⟩
                · split at h
                  · rename_i e; injection h with h; exact ⟨.inl e, h.symm⟩
                  · simp [PT.get] at h
              have hro : ∀ i o, (sSn (nlen N)).hp.get i = some o → o.isRo = true := fun i o h => by rw [(hg i o h).2]; rfl
              have hsat : Sat Tryz.prog φ' (sSn (nlen N)) w := by
                refine ⟨fun i o M hi hM => ?_, fun i j o o' M M' hi hj _ _ _ _ => ⟨hro i o hi, hro j o' hj⟩, fun i M hM => ?_, fun i o hi => ?_⟩
                · obtain ⟨hi', rfl⟩ := hg i o hi
                  rcases hi' with rfl | rfl
                  · rw [f200] at hM; injection hM with hM; subst hM
                    exact hcell _ _ vs1 i3 fun j hj => (hB j hj).2.1
                  · rw [f201] at hM; injection hM with hM; subst hM
                    exact hcell _ _ vs2 j3 fun j hj => (hB j hj).2.2
                · show i < 210
                  rcases Nat.lt_or_ge i 210 with h | h
                  · exact h
                  · have : φ' i = none := by
                      show (if i = 0 then _ else _) = none
                      rw [if_neg (by omega), if_neg (by omega), if_neg (by omega), if_neg (by omega), if_neg (by omega), if_neg (by omega)]
                    rw [this] at hM; cases hM
                · show i < 210
                  rcases (hg i o hi).1 with rfl | rfl <;> omega
              have hn1 : 1 ≤ nlen N := by omega
              have hrun : isT (callF E0 3000 10 34 [.one (.sn (200, 0) (nlen N - 1 + 1) (nlen N - 1 + 1) 2), .one (.sn (201, 0) (nlen N - 1 + 1) (nlen N - 1 + 1) 3)] (sSn (nlen N - 1 + 1))) = true :=
                List.all_eq_true.1 same_run (nlen N - 1) (by simp; omega)
              rw [show nlen N - 1 + 1 = nlen N from by omega] at hrun
              obtain ⟨s', hr⟩ := isT_some hrun
              rw [callF_eq] at hr
              have hxs : concs Tryz.prog φ' [.one (.sn (200, 0) (nlen N) (nlen N) 2), .one (.sn (201, 0) (nlen N) (nlen N) 3)] = some [va, vb] := by
                have e1 : conc Tryz.prog φ' (.one (.sn (200, 0) (nlen N) (nlen N) 2)) = some va := by
                  simp only [conc, concS, f0, f200, roomOf, f1, Option.map_some, hnn]
                  rw [if_pos ⟨⟨Nat.le_refl _, Nat.le_refl _⟩, hnc1, by unfold gval; simp⟩, hv1]; simp
                have e2 : conc Tryz.prog φ' (.one (.sn (201, 0) (nlen N) (nlen N) 3)) = some vb := by
                  simp only [conc, concS, f0, f201, roomOf, f2, Option.map_some, hnn]
                  rw [if_pos ⟨⟨Nat.le_refl _, Nat.le_refl _⟩, hnc2, by unfold gval; simp⟩, hv2]; simp
                simp only [concs, e1, e2]
              refine Calls.mono (((call_sound E0_ok 3000 10).triple hr).2 φ' w [va, vb] hsat hxs) fun e w' he => ?_
              obtain ⟨xv, ψ, rfl, hp, hc⟩ := he
              exact ⟨xv, φ, rfl, post_idle hp hro hs, hc⟩
        · cases hsame
      · cases hg
    · rw [callF_eq] at hg
      exact call_sound E0_ok 3000 10 34 _ s v s2 hg
  · cases hg
end Go.Mx
