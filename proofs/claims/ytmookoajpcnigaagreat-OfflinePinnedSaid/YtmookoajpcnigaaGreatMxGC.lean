/- One argument that is a slice of bytes: opened, and shut again in the world behind the call. -/
import Derived.Test.YtmookoajpcnigaaGreatMxGB
set_option linter.unusedSimpArgs false
set_option linter.unusedVariables false
namespace Go.Mx
open Go Go.Proofs Go.ChangeShapes Go.WideShapes
variable {H : Type} {P : Program} {enc : TypeId × Value → H} {W W' : World}

theorem u8_bnd {n : Int} (h : (Lit.int .u8 n).wf = true) : 0 ≤ n ∧ n < 256 := by
  simp only [Lit.wf, Bool.and_eq_true, decide_eq_true_eq, IntKind.min, IntKind.max, IntKind.signed, IntKind.bits] at h
  simp at h; omega

/-- the argument's bytes: none, or as many as there are -/
def Arg (W : World) (v : Value) : Prop := v = .slice none 0 0 ∨ ∃ blk off len cap zs, Bytes W v blk off len cap zs

theorem bytes_arg {t e : TypeId} {v : Value} {d : DataW H} {p : List MemPlace} (ht : P.underlying t = some (.slice e)) (he : P.underlying e = some (.int .u8)) (hc : P.cellsOf e = 1)
    (hval : Value.okWide P W .any 0 t v) (h : DataW.Trod enc P W 0 (fun _ => true) true t v d p) :
    Arg W v ∧ ∀ W', Stays W W' → ∀ sp : Nat → Bool, (∀ q ∈ p, sp q.block = true) → DataW.Trod enc P W' 0 sp true t v d p := by
  rcases bytes_open ht he hc hval h with ⟨rfl, rfl, rfl⟩ | ⟨blk, off, len, cap, zs, hb, rfl, rfl⟩
  · exact ⟨.inl rfl, fun W' _ sp _ => ⟨1, by simp [DataW.trod, Value.cells, ht]⟩⟩
  · exact ⟨.inr ⟨blk, off, len, cap, zs, hb⟩, fun W' hs sp hsp => bytes_shut ht he hc hb hs hsp⟩
end Go.Mx
