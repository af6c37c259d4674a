/- The closed facts of the seat's rows: those that go by the program alone. -/
import Derived.Test.YtmookoajpcnigaaGreatRows
import Derived.JoinedOf
import Derived.KernelRfl
set_option linter.unusedVariables false
namespace Go.Proofs.YtmookoajpcnigaaGreat.Facts
open Go
def K0 (P : Program) (f : FuncId) (fn : Func) (s : ChangeSpec) (c : OpenClaim) : Bool := (c.wf (OpenSpec.ofChange s))
def K1 (P : Program) (f : FuncId) (fn : Func) (s : ChangeSpec) (c : OpenClaim) : Bool := (laidOutB P)
def K2 (P : Program) (f : FuncId) (fn : Func) (s : ChangeSpec) (c : OpenClaim) : Bool := (mapsRowed P)
def K3 (P : Program) (f : FuncId) (fn : Func) (s : ChangeSpec) (c : OpenClaim) : Bool := (fn.params.all (P.readableRec ·))
def K4 (P : Program) (f : FuncId) (fn : Func) (s : ChangeSpec) (c : OpenClaim) : Bool := (namedTie P c.named s.vars)
def K5 (P : Program) (f : FuncId) (fn : Func) (s : ChangeSpec) (c : OpenClaim) : Bool := ((c.stops == []))
def K6 (P : Program) (f : FuncId) (fn : Func) (s : ChangeSpec) (c : OpenClaim) : Bool := ((P.stops == []))
def K7 (P : Program) (f : FuncId) (fn : Func) (s : ChangeSpec) (c : OpenClaim) : Bool := ((c.knobs == []))
def K8 (P : Program) (f : FuncId) (fn : Func) (s : ChangeSpec) (c : OpenClaim) : Bool := ((P.stopKnobs == []))
def K9 (P : Program) (f : FuncId) (fn : Func) (s : ChangeSpec) (c : OpenClaim) : Bool := ((c.inPlace == P.inPlace f))
def K10 (P : Program) (f : FuncId) (fn : Func) (s : ChangeSpec) (c : OpenClaim) : Bool := ((c.unfollowed == P.unfollowed f))
def K11 (P : Program) (f : FuncId) (fn : Func) (s : ChangeSpec) (c : OpenClaim) : Bool := ((c.recurses == P.recurses f))
def K12 (P : Program) (f : FuncId) (fn : Func) (s : ChangeSpec) (c : OpenClaim) : Bool := ((c.named == P.varsNamed f))
def K13 (P : Program) (f : FuncId) (fn : Func) (s : ChangeSpec) (c : OpenClaim) : Bool := ((c.maps == (fn.params.toList ++ s.plain.varTypes P).any (P.mapsRec ·)))
def K14 (P : Program) (f : FuncId) (fn : Func) (s : ChangeSpec) (c : OpenClaim) : Bool := ((c.ifaces == (fn.params.toList ++ s.plain.varTypes P).any (P.ifacesRec ·)))
def K15 (P : Program) (f : FuncId) (fn : Func) (s : ChangeSpec) (c : OpenClaim) : Bool := ((c.mapsOut == P.mapsAmong fn.resultTypes.toList))
def K16 (P : Program) (f : FuncId) (fn : Func) (s : ChangeSpec) (c : OpenClaim) : Bool := ((c.loops == (fn.params.toList ++ s.plain.varTypes P).any (P.loopsFrom ·)))
def K17 (P : Program) (f : FuncId) (fn : Func) (s : ChangeSpec) (c : OpenClaim) : Bool := ((c.wideKeys == (fn.params.toList ++ s.plain.varTypes P ++ fn.resultTypes.toList).any (P.wideKeysFrom ·)))
def K18 (P : Program) (f : FuncId) (fn : Func) (s : ChangeSpec) (c : OpenClaim) : Bool := (s.vars.all (P.varReadable ·))
def K19 (P : Program) (f : FuncId) (fn : Func) (s : ChangeSpec) (c : OpenClaim) : Bool := (fn.resultTypes.all (fun t => P.readableRec t && decide (t < P.types.size)))
def K20 (P : Program) (f : FuncId) (fn : Func) (s : ChangeSpec) (c : OpenClaim) : Bool := ((c.ifacesOut == fn.resultTypes.toList.any (P.ifacesRec ·)))
def K21 (P : Program) (f : FuncId) (fn : Func) (s : ChangeSpec) (c : OpenClaim) : Bool := ((c.loopsOut == fn.resultTypes.toList.any (P.loopsFrom ·)))
def K22 (P : Program) (f : FuncId) (fn : Func) (s : ChangeSpec) (c : OpenClaim) : Bool := ((c.plainKeys == P.plainKeys))
def K23 (P : Program) (f : FuncId) (fn : Func) (s : ChangeSpec) (c : OpenClaim) : Bool := (c.shortTexts.isNone)
def K24 (P : Program) (f : FuncId) (fn : Func) (s : ChangeSpec) (c : OpenClaim) : Bool := (P.stopsHeard)
def K25 (P : Program) (f : FuncId) (fn : Func) (s : ChangeSpec) (c : OpenClaim) : Bool := (P.mayEnter)
def K26 (P : Program) (f : FuncId) (fn : Func) (s : ChangeSpec) (c : OpenClaim) : Bool := ((c.lifted == P.liftsFinal))
def K27 (P : Program) (f : FuncId) (fn : Func) (s : ChangeSpec) (c : OpenClaim) : Bool := ((P.make == some c.make))
def K28 (P : Program) (f : FuncId) (fn : Func) (s : ChangeSpec) (c : OpenClaim) : Bool := ((c.kinds == (if c.domain.isEmpty then [] else fn.params.toList.map fun t => match P.underlying t with | some (.int k) => some k | _ => none)))
def K29 (P : Program) (f : FuncId) (fn : Func) (s : ChangeSpec) (c : OpenClaim) : Bool := ((c.pinned == c.pinnedBy))
def K30 (P : Program) (f : FuncId) (fn : Func) (s : ChangeSpec) (c : OpenClaim) : Bool := ((c.veiled == (fn.params.toList ++ s.plain.varTypes P ++ fn.resultTypes.toList).any (P.veiledRec ·)))
def K31 (P : Program) (f : FuncId) (fn : Func) (s : ChangeSpec) (c : OpenClaim) : Bool := (c.veiledFits P fn.params.toList (fn.params.toList ++ s.plain.varTypes P ++ fn.resultTypes.toList))
theorem joined_eq (P : Program) (f : FuncId) (fn : Func) (s : ChangeSpec) (c : OpenClaim) : joinedFacts P f fn s c = (K0 P f fn s c && K1 P f fn s c && K2 P f fn s c && K3 P f fn s c && K4 P f fn s c && K5 P f fn s c && K6 P f fn s c && K7 P f fn s c && K8 P f fn s c && K9 P f fn s c && K10 P f fn s c && K11 P f fn s c && K12 P f fn s c && K13 P f fn s c && K14 P f fn s c && K15 P f fn s c && K16 P f fn s c && K17 P f fn s c && K18 P f fn s c && K19 P f fn s c && K20 P f fn s c && K21 P f fn s c && K22 P f fn s c && K23 P f fn s c && K24 P f fn s c && K25 P f fn s c && K26 P f fn s c && K27 P f fn s c && K28 P f fn s c && K29 P f fn s c && K30 P f fn s c && K31 P f fn s c) := rfl
theorem joined_of {P : Program} {f : FuncId} {fn : Func} {s : ChangeSpec} {c : OpenClaim} (h0 : K0 P f fn s c = true) (h1 : K1 P f fn s c = true) (h2 : K2 P f fn s c = true) (h3 : K3 P f fn s c = true) (h4 : K4 P f fn s c = true) (h5 : K5 P f fn s c = true) (h6 : K6 P f fn s c = true) (h7 : K7 P f fn s c = true) (h8 : K8 P f fn s c = true) (h9 : K9 P f fn s c = true) (h10 : K10 P f fn s c = true) (h11 : K11 P f fn s c = true) (h12 : K12 P f fn s c = true) (h13 : K13 P f fn s c = true) (h14 : K14 P f fn s c = true) (h15 : K15 P f fn s c = true) (h16 : K16 P f fn s c = true) (h17 : K17 P f fn s c = true) (h18 : K18 P f fn s c = true) (h19 : K19 P f fn s c = true) (h20 : K20 P f fn s c = true) (h21 : K21 P f fn s c = true) (h22 : K22 P f fn s c = true) (h23 : K23 P f fn s c = true) (h24 : K24 P f fn s c = true) (h25 : K25 P f fn s c = true) (h26 : K26 P f fn s c = true) (h27 : K27 P f fn s c = true) (h28 : K28 P f fn s c = true) (h29 : K29 P f fn s c = true) (h30 : K30 P f fn s c = true) (h31 : K31 P f fn s c = true) : joinedFacts P f fn s c = true := by
  rw [joined_eq, h0, h1, h2, h3, h4, h5, h6, h7, h8, h9, h10, h11, h12, h13, h14, h15, h16, h17, h18, h19, h20, h21, h22, h23, h24, h25, h26, h27, h28, h29, h30, h31]; rfl

def signs : List Nat := [104, 97, 114, 110, 101, 115, 115, 32, 53, 57, 53, 49, 57, 57, 101, 55, 55, 97, 102, 55, 98, 102, 56, 54, 55, 50, 56, 100, 56, 53, 50, 57, 50, 53, 98, 50, 49, 97, 100, 52, 52, 49, 101, 52, 53, 48, 98, 49, 98, 54, 98, 99, 56, 51, 55, 56, 53, 97, 100, 57, 102, 49, 52, 101, 98, 99, 102, 50, 51, 54, 56, 54, 32, 99, 117, 116, 32, 97, 116, 32, 104, 101, 97, 100, 108, 97, 110, 100, 47, 104, 101, 97, 100, 108, 97, 110, 100, 108, 97, 119, 49, 57, 46, 83, 112, 97, 99, 101, 90, 101, 114, 111, 32, 104, 101, 97, 100, 108, 97, 110, 100, 47, 104, 101, 97, 100, 108, 97, 110, 100, 108, 97, 119, 49, 57, 46, 83, 112, 97, 99, 101, 68, 101, 110, 105, 101, 100, 32, 104, 101, 97, 100, 108, 97, 110, 100, 47, 104, 101, 97, 100, 108, 97, 110, 100, 108, 97, 119, 50, 48, 46, 69, 118, 105, 99, 116, 70, 114, 101, 101, 115, 32, 104, 101, 97, 100, 108, 97, 110, 100, 47, 104, 101, 97, 100, 108, 97, 110, 100, 108, 97, 119, 50, 51, 46, 79, 102, 102, 108, 105, 110, 101, 78, 111, 110, 101, 32, 104, 101, 97, 100, 108, 97, 110, 100, 47, 104, 101, 97, 100, 108, 97, 110, 100, 108, 97, 119, 50, 51, 46, 79, 102, 102, 108, 105, 110, 101, 80, 105, 110, 110, 101, 100, 32, 104, 101, 97, 100, 108, 97, 110, 100, 47, 104, 101, 97, 100, 108, 97, 110, 100, 108, 97, 119, 50, 48, 46, 69, 118, 105, 99, 116, 67, 108, 101, 97, 110, 32, 104, 101, 97, 100, 108, 97, 110, 100, 47, 104, 101, 97, 100, 108, 97, 110, 100, 108, 97, 119, 49, 57, 46, 83, 112, 97, 99, 101, 70, 111, 114, 107, 32, 104, 101, 97, 100, 108, 97, 110, 100, 47, 104, 101, 97, 100, 108, 97, 110, 100, 108, 97, 119, 50, 48, 46, 69, 118, 105, 99, 116, 83, 121, 110, 99, 32, 104, 101, 97, 100, 108, 97, 110, 100, 47, 104, 101, 97, 100, 108, 97, 110, 100, 108, 97, 119, 50, 48, 46, 69, 118, 105, 99, 116, 70, 111, 114, 107, 101, 100, 32, 104, 101, 97, 100, 108, 97, 110, 100, 47, 104, 101, 97, 100, 108, 97, 110, 100, 108, 97, 119, 50, 50, 46, 72, 117, 114, 116, 78, 111, 110, 101, 32, 104, 101, 97, 100, 108, 97, 110, 100, 47, 104, 101, 97, 100, 108, 97, 110, 100, 108, 97, 119, 50, 50, 46, 72, 117, 114, 116, 83, 111, 102, 116, 32, 104, 101, 97, 100, 108, 97, 110, 100, 47, 104, 101, 97, 100, 108, 97, 110, 100, 108, 97, 119, 49, 57, 46, 83, 112, 97, 99, 101, 78, 111, 110, 101, 32, 104, 101, 97, 100, 108, 97, 110, 100, 47, 104, 101, 97, 100, 108, 97, 110, 100, 108, 97, 119, 50, 50, 46, 72, 117, 114, 116, 67, 108, 101, 97, 110, 32, 104, 101, 97, 100, 108, 97, 110, 100, 47, 104, 101, 97, 100, 108, 97, 110, 100, 108, 97, 119, 50, 52, 46, 77, 97, 99, 104, 105, 110, 101, 68, 111, 119, 110, 32, 104, 101, 97, 100, 108, 97, 110, 100, 47, 104, 101, 97, 100, 108, 97, 110, 100, 108, 97, 119, 50, 52, 46, 77, 97, 99, 104, 105, 110, 101, 83, 101, 99, 116, 115, 32, 104, 101, 97, 100, 108, 97, 110, 100, 47, 104, 101, 97, 100, 108, 97, 110, 100, 108, 97, 119, 50, 52, 46, 77, 97, 99, 104, 105, 110, 101, 66, 97, 108, 108, 111, 111, 110, 32, 104, 101, 97, 100, 108, 97, 110, 100, 47, 104, 101, 97, 100, 108, 97, 110, 100, 108, 97, 119, 50, 52, 46, 77, 97, 99, 104, 105, 110, 101, 82, 101, 109, 111, 118, 101, 100, 32, 104, 101, 97, 100, 108, 97, 110, 100, 47, 104, 101, 97, 100, 108, 97, 110, 100, 108, 97, 119, 50, 52, 46, 77, 97, 99, 104, 105, 110, 101, 66, 97, 100, 32, 104, 101, 97, 100, 108, 97, 110, 100, 47, 104, 101, 97, 100, 108, 97, 110, 100, 108, 97, 119, 50, 52, 46, 77, 97, 99, 104, 105, 110, 101, 70, 97, 105, 108, 115, 32, 104, 101, 97, 100, 108, 97, 110, 100, 47, 104, 101, 97, 100, 108, 97, 110, 100, 108, 97, 119, 50, 52, 46, 77, 97, 99, 104, 105, 110, 101, 75, 105, 110, 100, 115, 32, 104, 101, 97, 100, 108, 97, 110, 100, 47, 104, 101, 97, 100, 108, 97, 110, 100, 108, 97, 119, 50, 52, 46, 77, 97, 99, 104, 105, 110, 101, 78, 111, 110, 101, 32, 104, 101, 97, 100, 108, 97, 110, 100, 47, 104, 101, 97, 100, 108, 97, 110, 100, 116, 111, 112, 46, 87, 104, 111, 108, 101, 76, 97, 115, 116, 115, 32, 104, 101, 97, 100, 108, 97, 110, 100, 47, 104, 101, 97, 100, 108, 97, 110, 100, 116, 111, 112, 46, 87, 104, 111, 108, 101, 69, 110, 100, 115, 32, 104, 101, 97, 100, 108, 97, 110, 100, 47, 104, 101, 97, 100, 108, 97, 110, 100, 116, 111, 112, 46, 87, 104, 111, 108, 101, 75, 105, 108, 108, 101, 100]
theorem init_eq : Tryz.prog.initOrder = String.ofList (signs.map Char.ofNat) := by kernel_rfl
theorem init_list : Tryz.prog.initOrder.toList = signs.map Char.ofNat := by rw [init_eq, String.toList_ofList]
theorem later_ok : Tryz.prog.laysLater = false := by
  unfold Program.laysLater; rw [← Array.any_toList]; decide +kernel
def behind : List (List Char) := behindMainWord (wordsSigns (signs.map Char.ofNat))
theorem behind_head : behind.head? = some "cut".toList := by decide +kernel
theorem behind_cons : ∃ r, behind = "cut".toList :: r := by
  have h := behind_head
  cases hb : behind with
  | nil => rw [hb] at h; cases h
  | cons c r => rw [hb] at h; injection h with h; subst h; exact ⟨r, rfl⟩
theorem mayEnter_of {P : Program} {r : List (List Char)} (h0 : behindMainWord (wordsSigns P.initOrder.toList) = "cut".toList :: r) (h1 : ((stripLifts liftWords ("cut".toList :: r)).2.head? == some "cut".toList) = true)
    (h2 : (stripLifts liftWords ("cut".toList :: r)).1 = []) (h3 : P.bearsReflect = false) (h4 : P.doorFits [] = true) (h5 : P.laysLater = false) : P.mayEnter = true := by
  unfold Program.mayEnter; rw [h0]
  simp only [h1, h2, h3, h4, h5]
  simp
theorem strip_cut : ((stripLifts liftWords behind).2.head? == some "cut".toList) = true := by decide +kernel
theorem strip_none : (stripLifts liftWords behind).1.isEmpty = true := by decide +kernel
theorem reflect_ok : Tryz.prog.bearsReflect = false := by decide +kernel
theorem door_ok : Tryz.prog.doorFits [] = true := by decide +kernel
theorem behind_init : behindMainWord (wordsSigns Tryz.prog.initOrder.toList) = behind := by rw [init_list]; rfl
theorem mayEnter_ok : Tryz.prog.mayEnter = true := by
  obtain ⟨r, hr⟩ := behind_cons
  have h1 := strip_cut
  have h2 := strip_none
  rw [hr] at h1 h2
  exact mayEnter_of (behind_init.trans hr) h1 (List.isEmpty_iff.1 h2) reflect_ok door_ok later_ok
theorem lifts_ok : Tryz.prog.liftsFinal = false := by
  unfold Program.liftsFinal Program.headLifts; rw [init_list]; kernel_rfl
theorem make_of {P : Program} {r : List (List Char)} (h0 : behindMainWord (wordsSigns P.initOrder.toList) = "cut".toList :: r) (h2 : ("cut".toList == "gc".toList || "cut".toList == "spec".toList) = false) : P.make = some .cut := by
  unfold Program.make; rw [h0]
  simp only [h2, Bool.false_eq_true, if_false, beq_self_eq_true, Bool.true_or, if_true]
theorem make_cut : Tryz.prog.make = some Make.cut := by
  obtain ⟨r, hr⟩ := behind_cons
  exact make_of (behind_init.trans hr) (by decide +kernel)
theorem make_ok (m : Make) (h : (some Make.cut == some m) = true) : (Tryz.prog.make == some m) = true := by
  rw [make_cut]; exact h
theorem g1 (f : FuncId) (fn : Func) (s : ChangeSpec) (c : OpenClaim) : K1 Tryz.prog f fn s c = true := by kernel_rfl
theorem g2 (f : FuncId) (fn : Func) (s : ChangeSpec) (c : OpenClaim) : K2 Tryz.prog f fn s c = true := by kernel_rfl
theorem g6 (f : FuncId) (fn : Func) (s : ChangeSpec) (c : OpenClaim) : K6 Tryz.prog f fn s c = true := by kernel_rfl
theorem g8 (f : FuncId) (fn : Func) (s : ChangeSpec) (c : OpenClaim) : K8 Tryz.prog f fn s c = true := by kernel_rfl
theorem g24 (f : FuncId) (fn : Func) (s : ChangeSpec) (c : OpenClaim) : K24 Tryz.prog f fn s c = true := by kernel_rfl
theorem g25 (f : FuncId) (fn : Func) (s : ChangeSpec) (c : OpenClaim) : K25 Tryz.prog f fn s c = true := mayEnter_ok
end Go.Proofs.YtmookoajpcnigaaGreat.Facts
