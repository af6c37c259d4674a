/- Types: the table of the abstract interpreter against the program's own; zero values; new variables; whole variables read and written. -/
import Derived.Test.YtmookoajpcnigaaGreatMxD
namespace Go.Mx
open Go

def aggD : TypeDesc → Bool
  | .struct _ | .array _ _ => true
  | _ => false

def KindOk (P : Program) : TK → TypeDesc → Prop
  | .int k, d => d = .int k
  | .bool, d => d = .bool
  | .str, d => d = .string
  | .ptr, d => ∃ e, d = .pointer e
  | .slice e, d => d = .slice e
  | .arr n e, d => d = .array n e
  | .map k e, d => d = .map k e
  | .struct fs, d => ∃ fields, d = .struct fields ∧ fs.length = fields.size ∧
      ∀ (j : Nat) (f : Nat × Nat × Bool), fs[j]? = some f → ∃ g fi gd, fields[j]? = some g ∧ g.offset = f.1 ∧ P.info? g.type = some fi ∧ fi.size = f.2.1 ∧
        P.underlying g.type = some gd ∧ aggD gd = f.2.2
  | .chan, d => ∃ a e ei, d = .chan a e ∧ P.info? e = some ei ∧ ei.bytes ≤ 1048576
  | .fn, d => ∃ a b c, d = .func a b c
  | .other, _ => True

/-- the kinds of plain cells -/
inductive Kd where
  | b
  | i (k : IntKind)

/-- the fields of a plain struct, one behind the other -/
def plainFields (P : Program) (chk : TypeId → Option (List Kd)) : List Field → Nat → Option (List Kd)
  | [], _ => some []
  | f :: fs, off => match chk f.type, P.info? f.type with
    | some m, some fi => bif Nat.beq f.offset off && Nat.beq fi.size m.length && f.name != "_" then
        (match plainFields P chk fs (off + m.length) with | some r => some (m ++ r) | none => none) else none
    | _, _ => none

def repK (n : Nat) (l : List Kd) : List Kd :=
  match n with | 0 => [] | n + 1 => l ++ repK n l

/-- a plain type: integers and bools, arrays and structs of these; its cells' kinds -/
def plainChk (P : Program) : Nat → TypeId → Option (List Kd)
  | 0, _ => none
  | m + 1, t => match P.underlying t with
    | some (.int k) => some [.i k]
    | some .bool => some [.b]
    | some (.array n e) => match plainChk P m e, P.info? e with
      | some k, some ei => bif Nat.beq ei.size k.length then some (repK n k) else none
      | _, _ => none
    | some (.struct fields) => bif P.stoodInHeld t then none else plainFields P (plainChk P m) fields.toList 0
    | _ => none

def Kd.ok : Kd → Sc → Bool
  | .b, .b _ => true
  | .i j, .i k _ => decide (j = k)
  | _, _ => false

def confK : List Kd → List Sc → Bool
  | [], [] => true
  | a :: r, b :: q => a.ok b && confK r q
  | _, _ => false

def Phi.nil : Phi := fun _ => none
theorem Phi.nil_le (φ : Phi) : Phi.nil.le φ := fun _ _ h => by simp [Phi.nil] at h

structure TiOk (P : Program) (t : Nat) (ti : TI) : Prop where
  info : ∃ i z, P.info? t = some i ∧ i.size = ti.size ∧ i.bytes ≤ 1048576 ∧ i.zero = some z ∧ concL Phi.nil (zeroCells ti) = some z.cells.toList ∧
    ti.size = (zeroCells ti).length ∧ (ti.agg = true → ∃ cs, z = .agg cs) ∧ (ti.agg = false → z.cells = #[z])
  und : ∃ d, P.underlying t = some d ∧ KindOk P ti.kind d ∧ aggD d = ti.agg
  plain : ti.plain = true → ∃ ks, plainChk P 10 t = some ks ∧ confK ks (zeroCells ti) = true ∧ P.eqGuardType P.depth t = false

def TyOk (P : Program) (E : Env) : Prop := ∀ t ti, E.ty.get t = some ti → TiOk P t ti

section
variable {P : Program} {w : World}

theorem run_typeInfo {t : Nat} {i : TypeInfo} (h : P.info? t = some i) : (typeInfo t).run P w = .ok i w := by simp [typeInfo, h]
theorem run_und {t : Nat} {d : TypeDesc} (h : P.underlying t = some d) : (underlying t).run P w = .ok d w := by simp [underlying, h]
theorem run_sizeOf {t : Nat} {i : TypeInfo} (h : P.info? t = some i) : (sizeOf t).run P w = .ok i.size w := by simp [sizeOf, run_typeInfo h]
theorem run_zeroValue {t : Nat} {i : TypeInfo} {z : Value} (h : P.info? t = some i) (hz : i.zero = some z) : (zeroValue t).run P w = .ok z w := by
  simp [zeroValue, run_typeInfo h, hz]
theorem run_isAgg {t : Nat} {d : TypeDesc} (h : P.underlying t = some d) : (isAgg t).run P w = .ok (aggD d) w := by
  simp only [isAgg, Sem.run_bind, run_und h, Result.andThen_ok]
  cases d <;> rfl

theorem cellsOf_eq {t : Nat} {i : TypeInfo} (h : P.info? t = some i) : P.cellsOf t = i.size := by simp [Program.cellsOf, h]
end

/-- the zero cells, one by one -/
theorem zr_at : ∀ (runs : List (Nat × Sc)) (k : Nat), k < (runs.flatMap fun p => List.replicate p.1 p.2).length →
    (runs.flatMap fun p => List.replicate p.1 p.2)[k]? = some (Zr.at runs k) := by
  intro runs
  induction runs with
  | nil => intro k h; simp at h
  | cons r rs ih =>
    intro k h
    obtain ⟨n, c⟩ := r
    simp only [List.flatMap_cons, List.length_append, List.length_replicate] at h
    simp only [List.flatMap_cons, Zr.at, cond_eq_ite, Nat.ble_eq]
    by_cases hk : k + 1 ≤ n
    · rw [if_pos hk, List.getElem?_append_left (by simp; omega)]
      simp [List.getElem?_replicate]; omega
    · rw [if_neg hk, List.getElem?_append_right (by simp; omega)]
      simp only [List.length_replicate]
      exact ih (k - n) (by omega)

theorem cellV_leaf (ti : TI) (k : Nat) (hk : k < ti.size) (hl : ti.size = (zeroCells ti).length) : (zeroCells ti)[k]? = some (cellV (zeroOf ti) .leaf k) := by
  simp only [cellV, PT.get, zeroOf]
  rw [Nat.mod_eq_of_lt hk]
  exact zr_at ti.zero k (by unfold zeroCells at hl; omega)

section
variable {P : Program} {E : Env} {φ : Phi}

theorem conc_one {c : Sc} {x : Value} (h : concS φ c = some x) : conc P φ (.one c) = some x := h

theorem cellsAs_conc (hE : TyOk P E) {v : AV} {x : Value} {cs : List Sc} (h : conc P φ v = some x) (hc : cellsAs E v = some cs) : concL φ cs = some x.cells.toList := by
  cases v with
  | one c =>
    simp [cellsAs] at hc; subst hc
    have := (concS_cell (show concS φ c = some x from h)).2
    rw [this]
    exact concL_cons.2 ⟨x, [], h, rfl, rfl⟩
  | agg l =>
    simp [cellsAs] at hc; subst hc
    simp only [conc] at h
    cases hl : concL φ l with
    | none => simp [hl] at h
    | some y => simp [hl] at h; subst h; simp [Value.cells]
  | zag t =>
    simp only [cellsAs] at hc
    cases ht : E.ty.get t with
    | none => simp [ht] at hc
    | some ti =>
      simp [ht] at hc; subst hc
      obtain ⟨i, z, h1, _, _, h4, h5, _⟩ := (hE _ _ ht).info
      simp only [conc, zeroP, h1, Option.bind_some, h4] at h
      injection h with h; subst h
      exact concL_mono (Phi.nil_le φ) h5
  | tup l => simp [cellsAs] at hc

theorem ofV_conc (hE : TyOk P E) {v : AV} {x : Value} {u : Vv} (h : conc P φ v = some x) (hc : ofV E v = some u) : concV φ u = some x := by
  cases v with
  | one c =>
    simp [ofV] at hc; subst hc
    have : concL φ [c] = some [x] := concL_cons.2 ⟨x, [], h, rfl, rfl⟩
    simp [concV, this]
  | agg l =>
    simp [ofV] at hc; subst hc
    simp only [conc] at h
    cases hl : concL φ l with
    | none => simp [hl] at h
    | some y => simp [hl] at h; subst h; simp [concV, hl]
  | zag t =>
    simp only [ofV] at hc
    cases ht : E.ty.get t with
    | none => simp [ht] at hc
    | some ti =>
      simp only [ht, cond_eq_ite] at hc
      split at hc
      · rename_i ha
        injection hc with hc; subst hc
        obtain ⟨i, z, h1, _, _, h4, h5, _, h7, _⟩ := (hE _ _ ht).info
        simp only [conc, zeroP, h1, Option.bind_some, h4] at h
        injection h with h; subst h
        obtain ⟨cs, rfl⟩ := h7 ha
        have := concL_mono (Phi.nil_le φ) h5
        simp [concV, this, Value.cells]
      · simp at hc
  | tup l => simp [ofV] at hc

theorem mkV_conc {a : Bool} {l : List Sc} {v : AV} {xs : List Value} (hl : concL φ l = some xs) (h : mkV a l = some v) :
    ∃ x, conc P φ v = some x ∧ ((a = true ∧ x = .agg xs.toArray) ∨ (a = false ∧ xs = [x])) := by
  unfold mkV at h
  cases a with
  | true => simp at h; subst h; exact ⟨.agg xs.toArray, by simp [conc, hl], .inl ⟨rfl, rfl⟩⟩
  | false =>
    simp only [cond_false] at h
    match l, h with
    | [c], h =>
      simp at h; subst h
      obtain ⟨y, z, h1, h2, rfl⟩ := concL_cons.1 hl
      simp [concL] at h2; subst h2
      exact ⟨y, h1, .inr ⟨rfl, rfl⟩⟩

theorem toV_conc {u : Vv} {v : AV} {x : Value} (hu : concV φ u = some x) (h : toV u = some v) : conc P φ v = some x := by
  unfold concV at hu
  cases hl : concL φ u.2 with
  | none => simp [hl] at hu
  | some xs =>
    obtain ⟨y, hy, hc⟩ := mkV_conc (P := P) hl h
    rcases hc with ⟨ha, rfl⟩ | ⟨ha, rfl⟩
    · simp [hl, ha] at hu; rw [hy, hu]
    · simp [hl, ha] at hu; rw [hy, hu]

theorem concV_mk {a : Bool} {l : List Sc} {xs : List Value} (hl : concL φ l = some xs) (x : Value) (h : (a = true ∧ x = .agg xs.toArray) ∨ (a = false ∧ xs = [x])) :
    concV φ (a, l) = some x := by
  rcases h with ⟨rfl, rfl⟩ | ⟨rfl, rfl⟩ <;> simp [concV, hl]

/-- a type's zero value, as cells -/
theorem zero_concV (hE : TyOk P E) {t : Nat} {ti : TI} (ht : E.ty.get t = some ti) : ∃ i z, P.info? t = some i ∧ i.zero = some z ∧ concV φ (ti.agg, zeroCells ti) = some z := by
  obtain ⟨i, z, h1, _, _, h4, h5, _, h7, h8⟩ := (hE _ _ ht).info
  refine ⟨i, z, h1, h4, ?_⟩
  have hl := concL_mono (Phi.nil_le φ) h5
  cases ha : ti.agg with
  | true => obtain ⟨cs, rfl⟩ := h7 ha; simp [concV, hl, Value.cells]
  | false => have := h8 ha; rw [this] at hl; simp [concV, hl]
end

section
variable {P : Program} {E : Env} {φ : Phi} {s : St} {w : World}

/-- a new row of cells -/
theorem new_arr (hs : Sat P φ s w) {n : Nat} {z : Zr} {t : PT Sc} {e : Nat} {cs : List Sc} {vs : Array Value} (hl : concL φ cs = some vs.toList) (hn : n = cs.length)
    (hc : ∀ k c, k < n → cs[k]? = some c → cellV z t k = c) (op : Bool) :
    Post P φ s w (φ.upd s.next ⟨w.heap.size, 0, 0⟩) (alloc s (.arr n z t e op)).2 { w with heap := w.heap.push (.cells vs e) } := by
  have hnone : φ s.next = none := by
    cases hq : φ s.next with
    | none => rfl
    | some M => have := hs.bnd _ _ hq; omega
  refine Post.more hs rfl (o := .arr n z t e op) (fun j => by simp only [alloc]; rw [PT.get_set]) rfl rfl rfl (by simp) ?_ (Nat.le_refl _) ?_
  · intro b hb; simp only []; rw [Array.getElem?_push, if_neg (by omega)]
  · have hlen := concL_length hl
    refine ⟨vs, (0, 0), by simp, .inl rfl, by simp at hlen; simp; omega, fun _ => rfl, fun k hk => ?_⟩
    have hk' : k < cs.length := by omega
    obtain ⟨v, hv, hcv⟩ := concL_get hl k cs[k] (by simp [hk'])
    refine ⟨v, by simpa using hv, ?_⟩
    rw [hc k cs[k] hk (by simp [hk'])]
    exact concS_mono (Phi.le_upd _ hnone) hcv

theorem upd_self (φ : Phi) (i : Nat) (L : Lo) : (φ.upd i L) i = some L := by simp [Phi.upd]

theorem run_newVar (t : Nat) (v : Value) : (Go.newVar t v).run P w = .ok ⟨w.heap.size, 0, none⟩ { w with heap := w.heap.push (.cells v.cells t) } := by
  simp [Go.newVar, newRow]

/-- a new variable -/
theorem new_var (hE : TyOk P E) (hs : Sat P φ s w) {t : Nat} {v u : AV} {x : Value} {s' : St} (hx : conc P φ v = some x) (h : newVar E s t v = some (u, s')) :
    ∃ ψ, Post P φ s w ψ s' { w with heap := w.heap.push (.cells x.cells t) } ∧ conc P ψ u = some (.pointer (some ⟨w.heap.size, 0, none⟩)) := by
  refine ⟨φ.upd s.next ⟨w.heap.size, 0, 0⟩, ?_⟩
  have hptr : conc P (φ.upd s.next ⟨w.heap.size, 0, 0⟩) (.one (.p (some (s.next, 0)))) = some (.pointer (some ⟨w.heap.size, 0, none⟩)) := by
    simp [conc, concS, concA, upd_self]
  unfold newVar at h
  cases ht : E.ty.get t with
  | none => simp [ht] at h
  | some ti =>
    obtain ⟨i, z, h1, h2, h3, h4, h5, h6, h7, h8⟩ := (hE _ _ ht).info
    simp only [ht] at h
    have plain : ∀ cs, cellsAs E v = some cs → cs.length = ti.size →
        Post P φ s w (φ.upd s.next ⟨w.heap.size, 0, 0⟩) (alloc s (.arr ti.size (zeroOf ti) (setCells .leaf 0 cs) t false)).2 { w with heap := w.heap.push (.cells x.cells t) } := by
      intro cs hcs hlen
      refine new_arr hs (cellsAs_conc hE hx hcs) (by omega) (fun k c hk hc => ?_) false
      exact cellV_setCells _ _ _ _ _ (by omega) _ (by simpa using hc)
    cases v with
    | zag t' =>
      simp only [cond_eq_ite, Nat.beq_eq] at h
      split at h
      · rename_i e; subst e
        simp at h; obtain ⟨rfl, rfl⟩ := h
        refine ⟨new_arr hs (cs := zeroCells ti) ?_ h6 (fun k c hk hc => ?_) false, hptr⟩
        · simp only [conc, zeroP, h1, Option.bind_some, h4] at hx
          injection hx with hx; subst hx
          exact concL_mono (Phi.nil_le φ) h5
        · rw [cellV_leaf ti k hk h6] at hc; injection hc
      · simp at h
    | one c =>
      simp only [cellsAs, cond_eq_ite, Nat.beq_eq] at h
      split at h
      · rename_i e; simp at h; obtain ⟨rfl, rfl⟩ := h; exact ⟨plain _ rfl e, hptr⟩
      · simp at h
    | agg l =>
      simp only [cellsAs, cond_eq_ite, Nat.beq_eq] at h
      split at h
      · rename_i e; simp at h; obtain ⟨rfl, rfl⟩ := h; exact ⟨plain _ rfl e, hptr⟩
      · simp at h
    | tup l => simp [cellsAs] at h

/-- a whole variable is read -/
theorem run_loadVar_of (hE : TyOk P E) (hs : Sat P φ s w) {t : Nat} {ti : TI} (ht : E.ty.get t = some ti) {a : Nat × Nat} {A : Addr} (ha : concA φ a = some A)
    {cs : List Sc} (hl : ldCells s a ti.size = some cs) {v : AV} (hv : mkV ti.agg cs = some v) : ∃ x, (loadVar t A).run P w = .ok x w ∧ conc P φ v = some x := by
  obtain ⟨i, z, h1, h2, h3, h4, h5, h6, h7, h8⟩ := (hE _ _ ht).info
  obtain ⟨d, hd, _, hagg⟩ := (hE _ _ ht).und
  obtain ⟨vs, hc, hlen, hcell⟩ := ld_cells hs hl ha
  obtain ⟨x, hx, hcase⟩ := mkV_conc (P := P) hc hv
  refine ⟨x, ?_, hx⟩
  unfold loadVar
  simp only [Sem.run_bind, run_isAgg hd, Result.andThen_ok, hagg, Sem.run_ite]
  rcases hcase with ⟨h, rfl⟩ | ⟨h, rfl⟩
  · simp only [h, if_true, run_sizeOf h1, Result.andThen_ok, h2, run_loadCells_of hlen hcell, Sem.run_pure]
  · simp only [h, Bool.false_eq_true, if_false]
    have := hcell 0 x (by simp)
    rw [show A.add 0 = A from by simp [Addr.add]] at this
    rw [run_load, this]

/-- a whole variable is written -/
theorem run_storeVar_of (hE : TyOk P E) (hs : Sat P φ s w) {t : Nat} {ti : TI} (ht : E.ty.get t = some ti) {a : Nat × Nat} {A : Addr} (ha : concA φ a = some A)
    {vs : List Sc} {x : Value} (hx : concL φ vs = some x.cells.toList) (hlen : vs.length = ti.size) {s' : St} (h : stCells s a vs = some s') :
    ∃ w', (storeVar t A x).run P w = .ok () w' ∧ Post P φ s w φ s' w' := by
  obtain ⟨i, z, h1, h2, _⟩ := (hE _ _ ht).info
  obtain ⟨w', hw, hp⟩ := st_cells hs h ha hx
  refine ⟨w', ?_, hp⟩
  have hl := concL_length hx
  unfold storeVar
  simp only [Sem.run_bind, run_sizeOf h1, Result.andThen_ok]
  rw [if_neg (by simp at hl; simp; omega)]
  simpa using hw
end
end Go.Mx
