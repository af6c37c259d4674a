/- 'append': the model's run. -/
import Derived.Test.YtmookoajpcnigaaGreatMxO9b
set_option linter.unusedSimpArgs false
namespace Go.Mx
open Go

theorem growBy_le (new : Nat) : ∀ (r c : Nat), Builtin.growBy new r c + 768 ≤ (c + 768) * 2 ^ r := by
  intro r
  induction r with
  | zero => intro c; simp [Builtin.growBy]
  | succ r ih =>
    intro c
    simp only [Builtin.growBy]
    split
    · exact Nat.le_mul_of_pos_right _ (Nat.two_pow_pos _)
    · have h1 := ih (c + (c + 768) / 4)
      have h2 : (c + (c + 768) / 4) + 768 ≤ (c + 768) * 2 := by omega
      have h3 := Nat.mul_le_mul_right (2 ^ r) h2
      rw [Nat.pow_succ, Nat.mul_comm (2 ^ r) 2, ← Nat.mul_assoc]
      exact Nat.le_trans h1 h3

theorem next_le {need c : Nat} (hn : need ≤ 1048576) (hc : c < need) : Builtin.nextslicecap need c ≤ 134217728 := by
  unfold Builtin.nextslicecap
  split
  · omega
  · split
    · omega
    · have := growBy_le need 4 c
      omega

section
variable {P : Program} {w : World}

/-- where what is appended comes from -/
def SrcOk (P : Program) (w : World) (i : TypeInfo) (z : Value) (d' : TypeDesc) (x : Value) (n : Nat) (new : Array Value) : Prop :=
  ((∃ k, d' = .int k) ∧ (∃ kk, x = .int kk (n : Int)) ∧ n ≤ 1048576 ∧ new = Builtin.zeroCells z.cells n) ∨
  ((∀ k, d' ≠ .int k) ∧ (∀ w : World, (Builtin.lenOf x).run P w = .ok n w) ∧ ∀ w', w'.heap = w.heap → (Builtin.firstCells i.size n x).run P w' = .ok new w')

theorem run_append_fits {t t' e ty : Nat} {d' : TypeDesc} {i : TypeInfo} {z : Value} (hd : P.underlying t = some (.slice e)) (hi : P.info? e = some i) (hb : i.bytes ≤ 1048576)
    (hz : i.zero = some z) (hzs : z.cells.size = i.size) (hd' : P.underlying t' = some d') {x : Value} {n : Nat} {new : Array Value} (hsrc : SrcOk P w i z d' x n new)
    {base : Option Addr} {len C : Nat} (hC : len + n ≤ C) :
    (Builtin.append_ #[t, t'] ty #[.slice base len C, x]).run P w = (do
      if let some a := base then storeCells (a.add (len * i.size)) new.toList
      pure (.slice base (len + n) C) : Sem Value).run P w := by
  rcases hsrc with ⟨⟨k, rfl⟩, ⟨kk, rfl⟩, hn, hnew⟩ | ⟨hk, hlen, hf⟩
  · have hw : IntKind.i64.wrap (n : Int) = n := by simp [IntKind.wrap, IntKind.bits, IntKind.signed]; omega
    have hm : (n : Int) * (i.bytes : Int) ≤ 1048576 * 1048576 := by
      have := Nat.mul_le_mul hn hb
      have h3 : ((n * i.bytes : Nat) : Int) ≤ ((1048576 * 1048576 : Nat) : Int) := Int.ofNat_le.2 this
      rw [Int.natCast_mul] at h3
      exact h3
    have hneg : ¬ ((281474976710656 : Int) < (n : Int) * (i.bytes : Int)) := by omega
    have hpos : ¬ ((n : Int) < 0) := by omega
    have hz0 : n * i.size = 0 → new = #[] := fun h => by
      rw [hnew]; simp [Builtin.zeroCells, hzs, h]
    by_cases h0 : n * i.size = 0
    · cases base <;> simp [Builtin.append_, run_und hd, run_und hd', run_sizeOf hi, asInt, asIntOf, hw, run_typeInfo hi, hneg, hpos, hC, hz0 h0, h0]
    · cases base <;> simp [Builtin.append_, run_und hd, run_und hd', run_sizeOf hi, asInt, asIntOf, hw, run_typeInfo hi, hneg, hpos, hC, h0, run_zeroValue hi hz, ← hnew]
  · have hnot : (match d' with | .int _ => true | _ => false) = false := by
      cases d' <;> simp at hk ⊢
    cases base <;> simp [hnot, Builtin.append_, run_und hd, run_und hd', run_sizeOf hi, hlen, hC, hf w rfl]

theorem run_append_grows {t t' e ty : Nat} {d' : TypeDesc} {i : TypeInfo} {z : Value} (hd : P.underlying t = some (.slice e)) (hi : P.info? e = some i) (hb : i.bytes ≤ 1048576)
    (hz : i.zero = some z) (hzs : z.cells.size = i.size) (hd' : P.underlying t' = some d') {x : Value} {n : Nat} {new : Array Value} (hsrc : SrcOk P w i z d' x n new)
    {base : Option Addr} {len C : Nat} (hC : ¬ len + n ≤ C) (hlim : len + n ≤ 1048576) {old : Array Value}
    (hold : ∀ w', w'.heap = w.heap → (Builtin.firstCells i.size len (.slice base len C)).run P w' = .ok old w') :
    ∃ (N : Nat) (w1 : World), len + n ≤ N ∧ w1.heap = w.heap ∧ w1.os = w.os ∧ w1.tape = w.tape ∧ w1.output = w.output ∧
      (Builtin.append_ #[t, t'] ty #[.slice base len C, x]).run P w =
        .ok (.slice (some ⟨w.heap.size, 0, none⟩) (len + n) N) { w1 with heap := w.heap.push (.cells (old ++ new ++ Builtin.zeroCells z.cells (N - (len + n))) e) } := by
  refine ⟨(Question.appendCap (len + n) C e).cut (w.tape w.drawn (.appendCap (len + n) C e)), w.drew, by simp [Question.cut], rfl, rfl, rfl, rfl, ?_⟩
  have hmax : ¬ ((9223372036854775807 : Int) < (len : Int) + (n : Int)) := by omega
  have hnext : ¬ (Builtin.nextslicecap (len + n) C * i.bytes > 2 ^ 48) := by
    have h1 := next_le hlim (c := C) (by omega)
    have := Nat.mul_le_mul h1 hb
    omega
  have hfq : (Question.appendCap (len + n) C e).forced = false := rfl
  rcases hsrc with ⟨⟨k, rfl⟩, ⟨kk, rfl⟩, hn, hnew⟩ | ⟨hk, hlen, hf⟩
  · have hw : IntKind.i64.wrap (n : Int) = n := by simp [IntKind.wrap, IntKind.bits, IntKind.signed]; omega
    have hm : (n : Int) * (i.bytes : Int) ≤ 1048576 * 1048576 := by
      have := Nat.mul_le_mul hn hb
      have h3 : ((n * i.bytes : Nat) : Int) ≤ ((1048576 * 1048576 : Nat) : Int) := Int.ofNat_le.2 this
      rw [Int.natCast_mul] at h3
      exact h3
    have hneg : ¬ ((281474976710656 : Int) < (n : Int) * (i.bytes : Int)) := by omega
    have hpos : ¬ ((n : Int) < 0) := by omega
    have hz0 : n * i.size = 0 → new = #[] := fun h => by
      rw [hnew]; simp [Builtin.zeroCells, hzs, h]
    have ho := hold w.drew rfl
    by_cases h0 : n * i.size = 0
    · simp [Builtin.append_, run_und hd, run_und hd', run_sizeOf hi, asInt, asIntOf, hw, run_typeInfo hi, hneg, hpos, hC, h0, hz0 h0, hmax, hnext, hfq, ho, run_zeroValue hi hz, newRow]
      rfl
    · simp [Builtin.append_, run_und hd, run_und hd', run_sizeOf hi, asInt, asIntOf, hw, run_typeInfo hi, hneg, hpos, hC, h0, hmax, hnext, hfq, ho, run_zeroValue hi hz, newRow, ← hnew]
      rfl
  · have ho := hold w.drew rfl
    have hn := hf w.drew rfl
    have hnot : (match d' with | .int _ => true | _ => false) = false := by
      cases d' <;> simp at hk ⊢
    simp [hnot, Builtin.append_, run_und hd, run_und hd', run_sizeOf hi, hlen, hC, hmax, hnext, hfq, ho, hn, run_typeInfo hi, run_zeroValue hi hz, newRow]
    rfl
end
end Go.Mx
