/- The relation between the abstract states and the model's worlds. -/
import Derived.Test.YtmookoajpcnigaaGreatMxA
import Derived.Calls
import Derived.Orders
import Derived.Laws.Sem
import Derived.Laws.World
namespace Go.Mx
open Go

section pt
variable {α : Type}

theorem PT.get_node (l : PT α) (v : Option α) (r : PT α) (k : Nat) :
    (PT.node l v r).get k = if k = 0 then v else if k % 2 = 1 then l.get (k / 2) else r.get (k / 2 - 1) := by
  simp only [PT.get, cond_eq_ite, Nat.beq_eq]

theorem PT.set_node (l : PT α) (x : Option α) (r : PT α) (k : Nat) (v : α) :
    (PT.node l x r).set k v = if k = 0 then .node l (some v) r else if k % 2 = 1 then .node (l.set (k / 2) v) x r else .node l x (r.set (k / 2 - 1) v) := by
  simp only [PT.set, cond_eq_ite, Nat.beq_eq]

theorem PT.del_node (l : PT α) (x : Option α) (r : PT α) (k : Nat) :
    (PT.node l x r).del k = if k = 0 then .node l none r else if k % 2 = 1 then .node (l.del (k / 2)) x r else .node l x (r.del (k / 2 - 1)) := by
  simp only [PT.del, cond_eq_ite, Nat.beq_eq]

theorem PT.get_sing (v : α) : ∀ (n k j : Nat), k < n → (PT.sing v n k).get j = if j = k then some v else none := by
  intro n
  induction n with
  | zero => intro k j h; omega
  | succ n ih =>
    intro k j h
    simp only [PT.sing, cond_eq_ite, Nat.beq_eq]
    by_cases hk : k = 0
    · subst hk
      simp only [if_true, PT.get_node, PT.get]
      by_cases hj : j = 0 <;> simp [hj]
    · rw [if_neg hk]
      by_cases ho : k % 2 = 1
      · rw [if_pos ho, PT.get_node]
        by_cases hj : j = 0
        · rw [if_pos hj, if_neg (by omega)]
        · rw [if_neg hj]
          by_cases hjo : j % 2 = 1
          · rw [if_pos hjo, ih _ _ (by omega)]
            by_cases e : j = k
            · subst e; simp
            · rw [if_neg e, if_neg (by omega)]
          · rw [if_neg hjo, if_neg (by intro e; subst e; exact hjo ho)]; rfl
      · rw [if_neg ho, PT.get_node]
        by_cases hj : j = 0
        · rw [if_pos hj, if_neg (by omega)]
        · rw [if_neg hj]
          by_cases hjo : j % 2 = 1
          · rw [if_pos hjo, if_neg (by intro e; subst e; exact ho hjo)]; rfl
          · rw [if_neg hjo, ih _ _ (by omega)]
            by_cases e : j = k
            · subst e; simp
            · rw [if_neg e, if_neg (by omega)]

theorem PT.get_set (t : PT α) : ∀ (k : Nat) (v : α) (j : Nat), (t.set k v).get j = if j = k then some v else t.get j := by
  induction t with
  | leaf => intro k v j; simp only [PT.set]; rw [PT.get_sing v (k + 1) k j (by omega)]; rfl
  | node l x r ihl ihr =>
    intro k v j
    rw [PT.set_node]
    by_cases hk : k = 0
    · rw [if_pos hk]; subst hk; rw [PT.get_node, PT.get_node]
      by_cases hj : j = 0 <;> simp [hj]
    · rw [if_neg hk]
      by_cases ho : k % 2 = 1
      · rw [if_pos ho, PT.get_node, PT.get_node]
        by_cases hj : j = 0
        · rw [if_pos hj, if_pos hj, if_neg (by omega)]
        · rw [if_neg hj, if_neg hj]
          by_cases hjo : j % 2 = 1
          · rw [if_pos hjo, if_pos hjo, ihl]
            by_cases e : j = k
            · subst e; simp
            · rw [if_neg e, if_neg (by omega)]
          · rw [if_neg hjo, if_neg hjo, if_neg (by intro e; subst e; exact hjo ho)]
      · rw [if_neg ho, PT.get_node, PT.get_node]
        by_cases hj : j = 0
        · rw [if_pos hj, if_pos hj, if_neg (by omega)]
        · rw [if_neg hj, if_neg hj]
          by_cases hjo : j % 2 = 1
          · rw [if_pos hjo, if_pos hjo, if_neg (by intro e; subst e; exact ho hjo)]
          · rw [if_neg hjo, if_neg hjo, ihr]
            by_cases e : j = k
            · subst e; simp
            · rw [if_neg e, if_neg (by omega)]

theorem PT.get_del (t : PT α) : ∀ (k j : Nat), (t.del k).get j = if j = k then none else t.get j := by
  induction t with
  | leaf => intro k j; simp [PT.del, PT.get]
  | node l x r ihl ihr =>
    intro k j
    rw [PT.del_node]
    by_cases hk : k = 0
    · rw [if_pos hk]; subst hk; rw [PT.get_node, PT.get_node]
      by_cases hj : j = 0 <;> simp [hj]
    · rw [if_neg hk]
      by_cases ho : k % 2 = 1
      · rw [if_pos ho, PT.get_node, PT.get_node]
        by_cases hj : j = 0
        · rw [if_pos hj, if_pos hj, if_neg (by omega)]
        · rw [if_neg hj, if_neg hj]
          by_cases hjo : j % 2 = 1
          · rw [if_pos hjo, if_pos hjo, ihl]
            by_cases e : j = k
            · subst e; simp
            · rw [if_neg e, if_neg (by omega)]
          · rw [if_neg hjo, if_neg hjo, if_neg (by intro e; subst e; exact hjo ho)]
      · rw [if_neg ho, PT.get_node, PT.get_node]
        by_cases hj : j = 0
        · rw [if_pos hj, if_pos hj, if_neg (by omega)]
        · rw [if_neg hj, if_neg hj]
          by_cases hjo : j % 2 = 1
          · rw [if_pos hjo, if_pos hjo, if_neg (by intro e; subst e; exact ho hjo)]
          · rw [if_neg hjo, if_neg hjo, ihr]
            by_cases e : j = k
            · subst e; simp
            · rw [if_neg e, if_neg (by omega)]
end pt

def PT.mp {α : Type} (f : α → α) : PT α → PT α
  | .leaf => .leaf
  | .node l v r => .node (l.mp f) (v.map f) (r.mp f)
theorem PT.mp_get {α : Type} (f : α → α) : ∀ (t : PT α) (k : Nat), (t.mp f).get k = (t.get k).map f := by
  intro t
  induction t with
  | leaf => intro k; rfl
  | node l v r ihl ihr =>
    intro k
    simp only [PT.mp, PT.get_node, ihl, ihr]
    split
    · rfl
    · split <;> rfl

/-- where a thing lies: its block, the place of its first cell, how many elements there is room for beyond -/
structure Lo where
  blk : Nat
  base : Nat
  spare : Nat

abbrev Phi := Nat → Option Lo

def Phi.le (φ ψ : Phi) : Prop := ∀ i L, φ i = some L → ψ i = some L

theorem Phi.le_refl (φ : Phi) : φ.le φ := fun _ _ h => h
theorem Phi.le_trans {φ ψ χ : Phi} (h : φ.le ψ) (k : ψ.le χ) : φ.le χ := fun i L e => k i L (h i L e)

def concA (φ : Phi) (a : Nat × Nat) : Option Addr :=
  match φ a.1 with
  | some L => some ⟨L.blk, L.base + a.2, none⟩
  | none => none

def concPs (φ : Phi) : List (Nat × Nat) → Option (List Value)
  | [] => some []
  | a :: r => match concA φ a, concPs φ r with
    | some x, some l => some (.pointer (some x) :: l)
    | _, _ => none

def str (l : List Nat) : ByteArray := ⟨(l.map UInt8.ofNat).toArray⟩

/-- a number that φ bears -/
def gval (L : Lo) : Int := (L.blk : Int) - (L.base : Int)
/-- how long the argument is -/
def nlen (L : Lo) : Nat := (gval L).toNat
/-- how much room there is -/
def roomOf (φ : Phi) (N L : Lo) (m : Nat) : Option Nat :=
  match m with
  | 0 => some (nlen N)
  | 1 => some (nlen N + L.spare)
  | 2 => (φ 1).map (·.blk)
  | 3 => (φ 2).map (·.blk)
  | k + 4 => some (if k % 2 = 0 then k / 2 else k / 2 + L.spare)

/-- what a cell holds in the model -/
def concS (φ : Phi) : Sc → Option Value
  | .b x => some (.bool x)
  | .i k n => some (.int k n)
  | .s l => some (.string (str l))
  | .p none => some (.pointer none)
  | .p (some a) => match concA φ a with | some x => some (.pointer (some x)) | none => none
  | .sl none n c _ => some (.slice none n c)
  | .sl (some a) n c op => match φ a.1 with
    | some L => some (.slice (some ⟨L.blk, L.base + a.2, none⟩) n (c + (if op then L.spare else 0)))
    | none => none
  | .se a d => match φ a.1 with
    | some L => some (.slice (some ⟨L.blk, L.base + (if L.spare = 0 then a.2 else a.2 + d), none⟩) 0 L.spare)
    | none => none
  | .m none => some (.map none)
  | .m (some r) => match φ r with | some L => some (.map (some L.blk)) | none => none
  | .ch none => some (.chan none)
  | .ch (some r) => match φ r with | some L => some (.chan (some L.blk)) | none => none
  | .fn f a b => match concPs φ a, concPs φ b with
    | some x, some y => some (.func (.func f) x.toArray y.toArray)
    | _, _ => none
  | .nilfn => some .nilFunc
  | .nilifc => some .nilIface
  | .y k old => match φ 0 with
    | some N => if k % 64 < nlen N then (match φ (16 + k) with | some L => some (.int .u8 ((L.blk % 256 : Nat) : Int)) | none => none) else some (.int .u8 (old : Int))
    | none => none
  | .ln g c lo hi => match φ g with
    | some L => if lo ≤ gval L ∧ gval L ≤ hi then some (.int .i64 (gval L + c)) else none
    | none => none
  | .md g k r m => match φ g with
    | some L => if 0 ≤ gval L ∧ gval L % (m : Int) = (r : Int) then some (.int k (gval L)) else none
    | none => none
  | .sn a lo hi m => match φ 0, φ a.1 with
    | some N, some L => match roomOf φ N L m with
      | some c => if (lo ≤ nlen N ∧ nlen N ≤ hi) ∧ nlen N ≤ c ∧ 0 ≤ gval N then some (.slice (some ⟨L.blk, L.base + a.2, none⟩) (nlen N) c) else none
      | none => none
    | _, _ => none
  | .sz a lo hi m => match φ 0, φ a.1 with
    | some N, some L => match roomOf φ N L m with
      | some c => if (lo ≤ nlen N ∧ nlen N ≤ hi) ∧ nlen N ≤ c ∧ 0 ≤ gval N then some (.slice (some ⟨L.blk, L.base + (if c = nlen N then a.2 else a.2 + nlen N), none⟩) 0 (c - nlen N)) else none
      | none => none
    | _, _ => none

def concL (φ : Phi) : List Sc → Option (List Value)
  | [] => some []
  | c :: r => match concS φ c, concL φ r with
    | some x, some l => some (x :: l)
    | _, _ => none

/-- a value of cells -/
def concV (φ : Phi) (v : Vv) : Option Value :=
  match concL φ v.2 with
  | some l => if v.1 then some (.agg l.toArray) else match l with | [x] => some x | _ => none
  | none => none

def concVs (φ : Phi) : List Vv → Option (List Value)
  | [] => some []
  | v :: r => match concV φ v, concVs φ r with
    | some x, some l => some (x :: l)
    | _, _ => none

/-- a type's zero value -/
def zeroP (P : Program) (t : Nat) : Option Value := (P.info? t).bind (·.zero)

def conc (P : Program) (φ : Phi) : AV → Option Value
  | .one c => concS φ c
  | .agg l => match concL φ l with | some l => some (.agg l.toArray) | none => none
  | .zag t => zeroP P t
  | .tup l => match concVs φ l with | some l => some (.tuple l.toArray) | none => none

def concs (P : Program) (φ : Phi) : List AV → Option (List Value)
  | [] => some []
  | v :: r => match conc P φ v, concs P φ r with
    | some x, some l => some (x :: l)
    | _, _ => none

section mono
variable {φ ψ : Phi} (h : φ.le ψ)
include h

theorem concA_mono {a : Nat × Nat} {x : Addr} (e : concA φ a = some x) : concA ψ a = some x := by
  unfold concA at *
  cases hq : φ a.1 with
  | none => simp [hq] at e
  | some L => rw [h _ _ hq]; simpa [hq] using e

theorem concPs_mono : ∀ {l : List (Nat × Nat)} {x : List Value}, concPs φ l = some x → concPs ψ l = some x := by
  intro l
  induction l with
  | nil => intro x e; simpa [concPs] using e
  | cons a r ih =>
    intro x e
    simp only [concPs] at e ⊢
    cases ha : concA φ a with
    | none => simp [ha] at e
    | some y =>
      cases hr : concPs φ r with
      | none => simp [ha, hr] at e
      | some z => rw [concA_mono h ha, ih hr]; simpa [ha, hr] using e

theorem roomOf_mono {N L : Lo} {m c : Nat} (e : roomOf φ N L m = some c) : roomOf ψ N L m = some c := by
  match m with
  | 0 => exact e
  | 1 => exact e
  | 2 =>
    simp only [roomOf] at e ⊢
    cases ha : φ 1 with
    | none => simp [ha] at e
    | some M => rw [h _ _ ha]; simpa [ha] using e
  | 3 =>
    simp only [roomOf] at e ⊢
    cases ha : φ 2 with
    | none => simp [ha] at e
    | some M => rw [h _ _ ha]; simpa [ha] using e
  | k + 4 => exact e

theorem concS_mono {c : Sc} {x : Value} (e : concS φ c = some x) : concS ψ c = some x := by
  cases c with
  | p a =>
    cases a with
    | none => exact e
    | some a =>
      simp only [concS] at e ⊢
      cases ha : concA φ a with
      | none => simp [ha] at e
      | some y => rw [concA_mono h ha]; simpa [ha] using e
  | sl a n c op =>
    cases a with
    | none => exact e
    | some a =>
      simp only [concS] at e ⊢
      cases ha : φ a.1 with
      | none => simp [ha] at e
      | some y => rw [h _ _ ha]; simpa [ha] using e
  | se a d =>
    simp only [concS] at e ⊢
    cases ha : φ a.1 with
    | none => simp [ha] at e
    | some y => rw [h _ _ ha]; simpa [ha] using e
  | m r =>
    cases r with
    | none => exact e
    | some r =>
      simp only [concS] at e ⊢
      cases ha : φ r with
      | none => simp [ha] at e
      | some y => rw [h _ _ ha]; simpa [ha] using e
  | ch r =>
    cases r with
    | none => exact e
    | some r =>
      simp only [concS] at e ⊢
      cases ha : φ r with
      | none => simp [ha] at e
      | some y => rw [h _ _ ha]; simpa [ha] using e
  | fn f a b =>
    simp only [concS] at e ⊢
    cases ha : concPs φ a with
    | none => simp [ha] at e
    | some y =>
      cases hb : concPs φ b with
      | none => simp [ha, hb] at e
      | some z => rw [concPs_mono h ha, concPs_mono h hb]; simpa [ha, hb] using e
  | y k old =>
    simp only [concS] at e ⊢
    cases ha : φ 0 with
    | none => simp [ha] at e
    | some N =>
      rw [h _ _ ha]
      simp only [ha] at e ⊢
      split at e
      · rename_i hk
        rw [if_pos hk]
        cases hb : φ (16 + k) with
        | none => simp [hb] at e
        | some L => rw [h _ _ hb]; simpa [hb] using e
      · rename_i hk
        rw [if_neg hk]; exact e
  | ln g c lo hi =>
    simp only [concS] at e ⊢
    cases ha : φ g with
    | none => simp [ha] at e
    | some L => rw [h _ _ ha]; simpa [ha] using e
  | md g k r m =>
    simp only [concS] at e ⊢
    cases ha : φ g with
    | none => simp [ha] at e
    | some L => rw [h _ _ ha]; simpa [ha] using e
  | sn a lo hi m =>
    simp only [concS] at e ⊢
    cases ha : φ 0 with
    | none => simp [ha] at e
    | some N =>
      cases hb : φ a.1 with
      | none => simp [ha, hb] at e
      | some L =>
        rw [h _ _ ha, h _ _ hb]
        simp only [ha, hb] at e ⊢
        cases hr : roomOf φ N L m with
        | none => simp [hr] at e
        | some c => rw [roomOf_mono h hr]; simpa [hr] using e
  | sz a lo hi m =>
    simp only [concS] at e ⊢
    cases ha : φ 0 with
    | none => simp [ha] at e
    | some N =>
      cases hb : φ a.1 with
      | none => simp [ha, hb] at e
      | some L =>
        rw [h _ _ ha, h _ _ hb]
        simp only [ha, hb] at e ⊢
        cases hr : roomOf φ N L m with
        | none => simp [hr] at e
        | some c => rw [roomOf_mono h hr]; simpa [hr] using e
  | _ => exact e

theorem concL_mono : ∀ {l : List Sc} {x : List Value}, concL φ l = some x → concL ψ l = some x := by
  intro l
  induction l with
  | nil => intro x e; simpa [concL] using e
  | cons a r ih =>
    intro x e
    simp only [concL] at e ⊢
    cases ha : concS φ a with
    | none => simp [ha] at e
    | some y =>
      cases hr : concL φ r with
      | none => simp [ha, hr] at e
      | some z => rw [concS_mono h ha, ih hr]; simpa [ha, hr] using e

theorem concV_mono {v : Vv} {x : Value} (e : concV φ v = some x) : concV ψ v = some x := by
  unfold concV at *
  cases hl : concL φ v.2 with
  | none => simp [hl] at e
  | some l => rw [concL_mono h hl]; simpa [hl] using e

theorem concVs_mono : ∀ {l : List Vv} {x : List Value}, concVs φ l = some x → concVs ψ l = some x := by
  intro l
  induction l with
  | nil => intro x e; simpa [concVs] using e
  | cons a r ih =>
    intro x e
    simp only [concVs] at e ⊢
    cases ha : concV φ a with
    | none => simp [ha] at e
    | some y =>
      cases hr : concVs φ r with
      | none => simp [ha, hr] at e
      | some z => rw [concV_mono h ha, ih hr]; simpa [ha, hr] using e

theorem conc_mono (P : Program) {v : AV} {x : Value} (e : conc P φ v = some x) : conc P ψ v = some x := by
  cases v with
  | one c => exact concS_mono h e
  | agg l =>
    simp only [conc] at e ⊢
    cases hl : concL φ l with
    | none => simp [hl] at e
    | some y => rw [concL_mono h hl]; simpa [hl] using e
  | zag t => exact e
  | tup l =>
    simp only [conc] at e ⊢
    cases hl : concVs φ l with
    | none => simp [hl] at e
    | some y => rw [concVs_mono h hl]; simpa [hl] using e

theorem concs_mono (P : Program) : ∀ {l : List AV} {x : List Value}, concs P φ l = some x → concs P ψ l = some x := by
  intro l
  induction l with
  | nil => intro x e; simpa [concs] using e
  | cons a r ih =>
    intro x e
    simp only [concs] at e ⊢
    cases ha : conc P φ a with
    | none => simp [ha] at e
    | some y =>
      cases hr : concs P φ r with
      | none => simp [ha, hr] at e
      | some z => rw [conc_mono h P ha, ih hr]; simpa [ha, hr] using e
end mono

theorem concL_length {φ : Phi} : ∀ {l : List Sc} {x : List Value}, concL φ l = some x → x.length = l.length := by
  intro l
  induction l with
  | nil => intro x e; simp [concL] at e; subst e; rfl
  | cons a r ih =>
    intro x e
    simp only [concL] at e
    cases ha : concS φ a with
    | none => simp [ha] at e
    | some y =>
      cases hr : concL φ r with
      | none => simp [ha, hr] at e
      | some z => simp [ha, hr] at e; subst e; simp [ih hr]

theorem concL_cons {φ : Phi} {a : Sc} {r : List Sc} {x : List Value} :
    concL φ (a :: r) = some x ↔ ∃ y z, concS φ a = some y ∧ concL φ r = some z ∧ x = y :: z := by
  simp only [concL]
  cases concS φ a with
  | none => simp
  | some y =>
    cases concL φ r with
    | none => simp
    | some z => simp [eq_comm]

theorem concL_append {φ : Phi} : ∀ {l m : List Sc} {x y : List Value}, concL φ l = some x → concL φ m = some y → concL φ (l ++ m) = some (x ++ y) := by
  intro l
  induction l with
  | nil => intro m x y e f; simp [concL] at e; subst e; simpa using f
  | cons a r ih =>
    intro m x y e f
    obtain ⟨u, v, h1, h2, rfl⟩ := concL_cons.1 e
    exact concL_cons.2 ⟨u, v ++ y, h1, ih h2 f, rfl⟩

theorem concL_get {φ : Phi} : ∀ {l : List Sc} {x : List Value}, concL φ l = some x → ∀ (k : Nat) (c : Sc), l[k]? = some c → ∃ v, x[k]? = some v ∧ concS φ c = some v := by
  intro l
  induction l with
  | nil => intro x e k c h; simp at h
  | cons a r ih =>
    intro x e k c h
    obtain ⟨u, v, h1, h2, rfl⟩ := concL_cons.1 e
    cases k with
    | zero => simp at h; subst h; exact ⟨u, by simp, h1⟩
    | succ k => simp at h; obtain ⟨w, hw, hc⟩ := ih h2 k c h; exact ⟨w, by simpa using hw, hc⟩

/-- from cell to cell -/
theorem concL_of {φ : Phi} : ∀ {l : List Sc} {x : List Value}, x.length = l.length → (∀ (k : Nat) (c : Sc), l[k]? = some c → ∃ v, x[k]? = some v ∧ concS φ c = some v) → concL φ l = some x := by
  intro l
  induction l with
  | nil => intro x e _; cases x with | nil => rfl | cons => simp at e
  | cons a r ih =>
    intro x e h
    cases x with
    | nil => simp at e
    | cons u x =>
      obtain ⟨v, hv, hc⟩ := h 0 a (by simp)
      simp at hv; subst hv
      exact concL_cons.2 ⟨_, _, hc, ih (by simpa using e) (fun k c hk => by simpa using h (k + 1) c (by simpa using hk)), rfl⟩

theorem concS_cell {φ : Phi} {c : Sc} {x : Value} (e : concS φ c = some x) : x.oneCell' = true ∧ x.cells = #[x] := by
  cases c with
  | p a => cases a <;> simp only [concS] at e <;> (try (split at e <;> simp at e)) <;> (try (injection e with e)) <;> subst e <;> exact ⟨rfl, rfl⟩
  | sl a n k op => cases a <;> simp only [concS] at e <;> (try (split at e <;> simp at e)) <;> (try (injection e with e)) <;> subst e <;> exact ⟨rfl, rfl⟩
  | m r => cases r <;> simp only [concS] at e <;> (try (split at e <;> simp at e)) <;> (try (injection e with e)) <;> subst e <;> exact ⟨rfl, rfl⟩
  | ch r => cases r <;> simp only [concS] at e <;> (try (split at e <;> simp at e)) <;> (try (injection e with e)) <;> subst e <;> exact ⟨rfl, rfl⟩
  | fn f a b =>
    simp only [concS] at e
    split at e <;> simp at e
    subst e; exact ⟨rfl, rfl⟩
  | se a d =>
    simp only [concS] at e
    split at e <;> simp at e
    subst e; exact ⟨rfl, rfl⟩
  | y k old =>
    simp only [concS] at e
    split at e
    · split at e
      · split at e <;> simp at e
        subst e; exact ⟨rfl, rfl⟩
      · simp at e; subst e; exact ⟨rfl, rfl⟩
    · simp at e
  | ln g c lo hi =>
    simp only [concS] at e
    split at e
    · split at e <;> simp at e
      subst e; exact ⟨rfl, rfl⟩
    · simp at e
  | md g k r m =>
    simp only [concS] at e
    split at e
    · split at e <;> simp at e
      subst e; exact ⟨rfl, rfl⟩
    · simp at e
  | sn a lo hi m =>
    simp only [concS] at e
    split at e
    · split at e
      · split at e <;> simp at e
        subst e; exact ⟨rfl, rfl⟩
      · simp at e
    · simp at e
  | sz a lo hi m =>
    simp only [concS] at e
    split at e
    · split at e
      · split at e <;> simp at e
        subst e; exact ⟨rfl, rfl⟩
      · simp at e
    · simp at e
  | _ => simp only [concS] at e; injection e with e; subst e; exact ⟨rfl, rfl⟩

/-- two lists, element by element -/
inductive All2 {α β : Type} (R : α → β → Prop) : List α → List β → Prop where
  | nil : All2 R [] []
  | cons {a : α} {b : β} {l : List α} {m : List β} (h : R a b) (t : All2 R l m) : All2 R (a :: l) (b :: m)

def AO.isRo : AO → Bool
  | .ro _ _ => true
  | .sy _ => true
  | _ => false

def entryRel (φ : Phi) (e : Me) (x : MapEntry) : Prop := concV φ e.1 = some x.key ∧ concV φ e.2.1 = some x.val ∧ x.born = e.2.2

/-- what an abstract thing is in the model's memory -/
def objRel (P : Program) (φ : Phi) (o : AO) (L : Lo) (w : World) : Prop :=
  match o with
  | .arr n z t e op => ∃ cs fr, w.heap[L.blk]? = some (.cells cs e fr) ∧ (fr = (0, 0) ∨ fr = (cs.size, cs.size + 1)) ∧
      cs.size = L.base + n + L.spare * P.cellsOf e ∧ (op = false → L.spare = 0) ∧
      ∀ k, k < n → ∃ v, cs[L.base + k]? = some v ∧ concS φ (cellV z t k) = some v
  | .ro n c => ∃ cs e fr, w.heap[L.blk]? = some (.cells cs e fr) ∧ ∀ k, k < n → ∃ v, cs[L.base + k]? = some v ∧ concS φ (c k) = some v
  | .map es clk => ∃ xs, w.heap[L.blk]? = some (.map xs clk) ∧ All2 (entryRel φ) es xs.toList ∧ (es.map (·.2.2)).Nodup ∧ ∀ e ∈ es, e.2.2 < clk
  | .sy c => ∃ N cs e fr, φ 0 = some N ∧ w.heap[L.blk]? = some (.cells cs e fr) ∧ ∀ k, k < nlen N → ∃ v, cs[L.base + k]? = some v ∧ concS φ (c k) = some v
  | .chan cap buf => ∃ xs sent rcvd, w.heap[L.blk]? = some (.chan cap xs false sent rcvd false) ∧ All2 (fun v x => concV φ v = some x) buf xs.toList

structure Sat (P : Program) (φ : Phi) (s : St) (w : World) : Prop where
  obj : ∀ i o L, s.hp.get i = some o → φ i = some L → objRel P φ o L w
  inj : ∀ i j o o' L L', s.hp.get i = some o → s.hp.get j = some o' → φ i = some L → φ j = some L' → L.blk = L'.blk → i ≠ j → o.isRo = true ∧ o'.isRo = true
  bnd : ∀ i L, φ i = some L → i < s.next
  dom : ∀ i o, s.hp.get i = some o → i < s.next

/-- how a step leaves what it does not touch -/
structure Post (P : Program) (φ : Phi) (s : St) (w : World) (ψ : Phi) (s' : St) (w' : World) : Prop where
  sat : Sat P ψ s' w'
  sub : φ.le ψ
  nx : s.next ≤ s'.next
  os : w'.os = w.os
  tape : w'.tape = w.tape
  output : w'.output = w.output
  size : w.heap.size ≤ w'.heap.size
  fr : ∀ b, b < w.heap.size → (∀ i o L, s.hp.get i = some o → φ i = some L → L.blk = b → o.isRo = true) → w'.heap[b]? = w.heap[b]?
  live : ∀ i o L, s'.hp.get i = some o → ψ i = some L → o.isRo = false → w.heap.size ≤ L.blk ∨ ∃ j o' L', s.hp.get j = some o' ∧ φ j = some L' ∧ o'.isRo = false ∧ L'.blk = L.blk
  new : ∀ i L, ψ i = some L → φ i = some L ∨ (φ i = none ∧ s.next ≤ i)
  un : ∀ i o, φ i = none → s.hp.get i = some o → s'.hp.get i = some o
  newdom : ∀ i o, s'.hp.get i = some o → s.hp.get i ≠ none ∨ s.next ≤ i

theorem Post.refl {P : Program} {φ : Phi} {s : St} {w : World} (h : Sat P φ s w) : Post P φ s w φ s w where
  sat := h
  sub := Phi.le_refl φ
  nx := Nat.le_refl _
  os := rfl
  tape := rfl
  output := rfl
  size := Nat.le_refl _
  fr := fun _ _ _ => rfl
  live := fun i o L h1 h2 h3 => .inr ⟨i, o, L, h1, h2, h3, rfl⟩
  new := fun _ _ h => .inl h
  un := fun _ _ _ h => h
  newdom := fun _ _ h => .inl (by simp [h])

theorem Post.trans {P : Program} {φ ψ χ : Phi} {s s' s'' : St} {w w' w'' : World} (hs : Sat P φ s w) (h : Post P φ s w ψ s' w') (k : Post P ψ s' w' χ s'' w'') :
    Post P φ s w χ s'' w'' where
  sat := k.sat
  sub := Phi.le_trans h.sub k.sub
  nx := Nat.le_trans h.nx k.nx
  os := k.os.trans h.os
  tape := k.tape.trans h.tape
  output := k.output.trans h.output
  size := Nat.le_trans h.size k.size
  fr := fun b hb hno => by
    rw [k.fr b (Nat.lt_of_lt_of_le hb h.size), h.fr b hb hno]
    intro i o L hi hL hbl
    cases ho : o.isRo with
    | true => rfl
    | false =>
      rcases h.live i o L hi hL ho with hge | ⟨j, o', L', hj, hL', ho', hbl'⟩
      · omega
      · have := hno j o' L' hj hL' (by rw [hbl', hbl])
        rw [this] at ho'; simp at ho'
  live := fun i o L hi hL ho => by
    rcases k.live i o L hi hL ho with hge | ⟨j, o', L', hj, hL', ho', hbl'⟩
    · exact .inl (Nat.le_trans h.size hge)
    · rcases h.live j o' L' hj hL' ho' with hge | ⟨j2, o2, L2, hj2, hL2, ho2, hbl2⟩
      · exact .inl (by omega)
      · exact .inr ⟨j2, o2, L2, hj2, hL2, ho2, by omega⟩
  new := fun i L hi => by
    rcases k.new i L hi with h1 | ⟨h1, h2⟩
    · exact h.new i L h1
    · right
      refine ⟨?_, Nat.le_trans h.nx h2⟩
      cases hq : φ i with
      | none => rfl
      | some L' => rw [h.sub i L' hq] at h1; simp at h1
  un := fun i o hi ho => by
    have h1 := h.un i o hi ho
    refine k.un i o ?_ h1
    cases hq : ψ i with
    | none => rfl
    | some L =>
      rcases h.new i L hq with h2 | ⟨_, h2⟩
      · rw [hi] at h2; simp at h2
      · have := hs.dom i o ho
        omega
  newdom := fun i o hi => by
    rcases k.newdom i o hi with h1 | h1
    · cases hq : s'.hp.get i with
      | none => simp [hq] at h1
      | some o' => exact h.newdom i o' hq
    · exact .inr (Nat.le_trans h.nx h1)
end Go.Mx
