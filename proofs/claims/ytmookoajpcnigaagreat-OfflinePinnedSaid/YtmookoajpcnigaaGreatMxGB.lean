/- Bytes as arguments: read off memory, and as they were behind the call. -/
import Derived.Test.YtmookoajpcnigaaGreatMxGL
import Derived.ChangeSlices
set_option linter.unusedSimpArgs false
set_option linter.unusedVariables false
namespace Go.Mx
open Go Go.Proofs Go.ChangeShapes Go.WideShapes

/-- a slice of bytes in memory -/
structure Bytes (W : World) (v : Value) (blk off len cap : Nat) (zs : List Int) : Prop where
  val : v = .slice (some ⟨blk, off, none⟩) len cap
  le : len ≤ cap
  room : cap ≤ 9223372036854775807
  max : cap ≤ maxLen
  lt : blk < W.heap.size
  there : ∃ cs e fr, W.heap[blk]? = some (.cells cs e fr)
  length : zs.length = cap
  cell : ∀ i, i < cap → W.cell? ⟨blk, off + i, none⟩ = some (.int .u8 (zs.getD i 0))
  wf : ∀ n ∈ zs, (Lit.int .u8 n).wf = true

section
variable {H : Type} {enc : TypeId × Value → H} {P : Program} {W W' : World} {v : Value} {d : DataW H} {p : List MemPlace} {t e : TypeId}

theorem shape_cells {w : World} {b : Nat} {r : TypeId × Nat} (h : w.shape? b = some r) : ∃ cs e fr, w.heap[b]? = some (.cells cs e fr) := by
  unfold World.shape? at h
  split at h
  · rename_i cs e fr hh; exact ⟨cs, e, fr, hh⟩
  · cases h

theorem bytes_open (ht : P.underlying t = some (.slice e)) (he : P.underlying e = some (.int .u8)) (hc : P.cellsOf e = 1)
    (hval : Value.okWide P W .any 0 t v) (h : DataW.Trod enc P W 0 (fun _ => true) true t v d p) :
    (v = .slice none 0 0 ∧ d = .nil ∧ p = []) ∨ ∃ blk off len cap zs, Bytes W v blk off len cap zs ∧ d = .slice (lits .u8 (zs.take len)) (lits .u8 (zs.drop len)) ∧ p = MemPlace.row ⟨blk, off, none⟩ zs.length := by
  obtain ⟨a1, len, cap, rfl⟩ := okWide_slice ht hval
  obtain ⟨fuel, hf⟩ := h
  rcases open_ints ht he hc hf with ⟨hcs, hx⟩ | ⟨a, len', cap', zs, hcs, _, hl, hm, hz, hx, hcell, hwz⟩
  · simp [Value.cells] at hcs
    obtain ⟨rfl, rfl, rfl⟩ := hcs
    simp only [Prod.mk.injEq] at hx
    exact .inl ⟨rfl, hx.1, hx.2⟩
  · simp [Value.cells] at hcs
    obtain ⟨rfl, rfl, rfl⟩ := hcs
    simp only [Prod.mk.injEq] at hx
    simp only [if_true] at hz
    have hok : Cell.ok P W .any 0 t (.slice (some a) len cap) := by
      simp only [Value.okWide, ht, Cell.okWide] at hval
      exact hval
    simp only [Cell.ok, ht, World.has] at hok
    obtain ⟨_, hmx, _, hspot, row, cells, hsh, _⟩ := hok
    obtain ⟨cs, e', fr, hblk⟩ := shape_cells hsh
    obtain ⟨blk, off, spot⟩ := a
    simp only at hspot; subst hspot
    right
    refine ⟨blk, off, len, cap, zs, ⟨rfl, hl, ?_, hm, ?_, ⟨cs, e', fr, hblk⟩, hz, fun i hi => ?_, hwz⟩, hx.1, hx.2⟩
    · simp [IntKind.max, IntKind.signed, IntKind.bits] at hmx; omega
    · rcases Nat.lt_or_ge blk W.heap.size with h | h
      · exact h
      · simp [Array.getElem?_eq_none h] at hblk
    · have := hcell i (by omega)
      rw [add_plain] at this
      exact this

theorem bytes_shut (ht : P.underlying t = some (.slice e)) (he : P.underlying e = some (.int .u8)) (hc : P.cellsOf e = 1) {blk off len cap : Nat} {zs : List Int} (hb : Bytes W v blk off len cap zs) (hs : Stays W W')
    {sp : Nat → Bool} (hsp : ∀ q ∈ MemPlace.row ⟨blk, off, none⟩ zs.length, sp q.block = true) :
    DataW.Trod enc P W' 0 sp true t v (.slice (lits .u8 (zs.take len)) (lits .u8 (zs.drop len))) (MemPlace.row ⟨blk, off, none⟩ zs.length) := by
  rw [hb.val]
  refine ⟨2, shut_ints' 0 ht he hc (Nat.zero_le _) hb.le hb.max ?_ (fun i hi => ?_) hb.wf⟩
  · by_cases h0 : cap = 0
    · have : len = 0 := by have := hb.le; omega
      rw [hb.length]; split <;> omega
    · have : sp blk = true := hsp (.cell blk (off + 0)) (by
        unfold MemPlace.row
        simp only [List.mem_map, List.mem_range]
        exact ⟨0, by rw [hb.length]; omega, rfl⟩)
      rw [if_pos this, hb.length]
  · have hi' : i < cap := by rw [hb.length] at hi; exact hi
    have h1 := hb.cell i hi'
    have h2 := hs.kept.2.2 blk hb.lt
    obtain ⟨cs, e', fr, hh⟩ := hb.there
    rw [hh] at h2
    unfold World.cell? at h1 ⊢
    rw [hh] at h1
    cases hq : W'.heap[blk]? with
    | none => rw [hq] at h2; cases h2
    | some o =>
      rw [hq] at h2
      cases o with
      | cells c' t' fr' => simp only at h2 ⊢; rw [← h1]; simp only; rw [(h2.2.2.2 (off + i) (fun hf => hf))]
      | _ => cases h2
end

/-- what φ knows of one slice of bytes -/
def phiB (φ : Phi) (blk off len cap : Nat) (zs : List Int) : Phi := fun i =>
  if i = 0 then some ⟨len, 0, 0⟩ else if i = 1 then some ⟨cap, 0, 0⟩ else if 16 ≤ i ∧ i < 80 then some ⟨(zs.getD (i - 16) 0).toNat, 0, 0⟩ else if i = 200 then some ⟨blk, off, 0⟩ else φ i
def sB : St := ⟨210, PT.set .leaf 200 (.sy fun k => .y k 0)⟩
def s210 : St := ⟨210, .leaf⟩
/-- numbers alone, at 3..15 -/
def Few (φ : Phi) : Prop := ∀ i L, φ i = some L → 3 ≤ i ∧ i < 16

section
variable {P : Program} {φ : Phi} {w : World} {v : Value} {blk off len cap : Nat} {zs : List Int}
theorem phiB_bnd (hf : Few φ) : ∀ i L, phiB φ blk off len cap zs i = some L → i < 210 := fun i L h => by
  unfold phiB at h
  split at h
  · omega
  · split at h
    · omega
    · split at h
      · omega
      · split at h
        · omega
        · have := hf i L h; omega
theorem phiB_few (hf : Few φ) {g : Nat} (h : 3 ≤ g ∧ g < 16) : phiB φ blk off len cap zs g = φ g := by
  unfold phiB
  rw [if_neg (by omega), if_neg (by omega), if_neg (by omega), if_neg (by omega)]
theorem sat_ghost (hf : Few φ) : Sat P (phiB φ blk off len cap zs) s210 w := Sat.ghost s210 rfl (phiB_bnd hf)
theorem sat_nums (hf : Few φ) : Sat P φ s210 w := Sat.ghost s210 rfl fun i L h => by have := hf i L h; show i < 210; omega
theorem sat_bytes (hf : Few φ) (hb : Bytes w v blk off len cap zs) (h64 : len ≤ 64) : Sat P (phiB φ blk off len cap zs) sB w := by
  have hg : ∀ i o, sB.hp.get i = some o → i = 200 ∧ o = .sy fun k => .y k 0 := fun i o h => by
    unfold sB at h; simp only at h; rw [PT.get_set] at h
    split at h
    · rename_i e; injection h with h; exact ⟨e, h.symm⟩
    · simp [PT.get] at h
  refine ⟨fun i o L hi hL => ?_, fun i j o o' L L' hi hj hL hL' hbl hne => ?_, phiB_bnd hf, fun i o hi => ?_⟩
  · obtain ⟨rfl, rfl⟩ := hg i o hi
    have : L = ⟨blk, off, 0⟩ := by
      unfold phiB at hL
      simp at hL; exact hL.symm
    subst this
    obtain ⟨cs, e, fr, hh⟩ := hb.there
    refine ⟨⟨len, 0, 0⟩, cs, e, fr, by unfold phiB; simp, hh, fun k hk => ?_⟩
    have hk' : k < len := by unfold nlen gval at hk; simp at hk; exact hk
    have h1 := hb.cell k (by have := hb.le; omega)
    unfold World.cell? at h1
    rw [hh] at h1
    simp at h1
    refine ⟨_, h1, ?_⟩
    have hmem : zs.getD k 0 ∈ zs := by
      have hlt : k < zs.length := by rw [hb.length]; have := hb.le; omega
      rw [List.getD_eq_getElem?_getD, List.getElem?_eq_getElem hlt]
      exact List.getElem_mem hlt
    have hw := hb.wf _ hmem
    simp [Lit.wf, IntKind.min, IntKind.max, IntKind.signed, IntKind.bits] at hw
    have hN : phiB φ blk off len cap zs 0 = some ⟨len, 0, 0⟩ := by unfold phiB; simp
    have hK : phiB φ blk off len cap zs (16 + k) = some ⟨(zs.getD k 0).toNat, 0, 0⟩ := by
      unfold phiB
      rw [if_neg (by omega), if_neg (by omega), if_pos (by omega), show 16 + k - 16 = k from by omega]
    simp only [concS, hN, hK]
    rw [if_pos (by unfold nlen gval; simp; omega)]
    congr 2
    simp only [List.getD_eq_getElem?_getD] at hw ⊢
    omega
  · obtain ⟨rfl, rfl⟩ := hg i o hi
    obtain ⟨rfl, rfl⟩ := hg j o' hj
    exact ⟨rfl, rfl⟩
  · obtain ⟨rfl, _⟩ := hg i o hi
    show 200 < 210; omega
theorem conc_sn (hb : Bytes w v blk off len cap zs) {lo hi : Nat} (h1 : lo ≤ len) (h2 : len ≤ hi) : conc P (phiB φ blk off len cap zs) (.one (.sn (200, 0) lo hi 2)) = some v := by
  have hN : phiB φ blk off len cap zs 0 = some ⟨len, 0, 0⟩ := by unfold phiB; simp
  have hC : phiB φ blk off len cap zs 1 = some ⟨cap, 0, 0⟩ := by unfold phiB; simp
  have hL : phiB φ blk off len cap zs 200 = some ⟨blk, off, 0⟩ := by unfold phiB; simp
  have hn : nlen (⟨len, 0, 0⟩ : Lo) = len := by unfold nlen gval; simp
  simp only [conc, concS, hN, hL, roomOf, hC, Option.map_some, hn]
  rw [if_pos ⟨⟨h1, h2⟩, hb.le, by unfold gval; simp⟩, hb.val]
  simp
theorem conc_md {g : Nat} {n : Int} {k : IntKind} {r m : Nat} (hg : φ g = some (ofI n)) (h0 : 0 ≤ n) (hr : n % (m : Int) = r) : conc P φ (.one (.md g k r m)) = some (.int k n) := by
  simp only [conc, concS, hg, gval_ofI]
  rw [if_pos ⟨h0, hr⟩]
end
theorem few_put {φ : Phi} (h : Few φ) {g : Nat} (hg : 3 ≤ g ∧ g < 16) (L : Lo) : Few (φ.put g L) := fun i M hM => by
  by_cases e : i = g
  · subst e; exact hg
  · rw [Phi.put_other _ _ e] at hM; exact h i M hM
theorem few0 : Few phi0 := fun i L h => by cases h
theorem ro_s210 : ∀ i o, s210.hp.get i = some o → o.isRo = true := fun i o h => by simp [s210, PT.get] at h
theorem ro_sB : ∀ i o, sB.hp.get i = some o → o.isRo = true := fun i o h => by
  unfold sB at h; simp only at h; rw [PT.get_set] at h
  split at h
  · injection h with h; subst h; rfl
  · simp [PT.get] at h
end Go.Mx
