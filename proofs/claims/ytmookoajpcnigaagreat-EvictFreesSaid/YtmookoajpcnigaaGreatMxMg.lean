/- Parts of the abstract interpreter, in the order in which they build. -/
import Derived.Test.YtmookoajpcnigaaGreatMxMf
import Derived.Test.YtmookoajpcnigaaGreatMxTab
set_option linter.unusedSimpArgs false
namespace Go.Mx
open Go Go.Proofs
noncomputable def E0 : Env := ⟨tyT, fnT, .leaf, frT⟩
theorem ty_checked : PT.all (tiChk Tryz.prog) tyT 1 0 = true := by decide +kernel
theorem E0_ty : TyOk Tryz.prog E0 := tyOk_of ty_checked
end Go.Mx

set_option linter.unusedSimpArgs false
namespace Go.Mx
open Go Go.Proofs
def fnChk (E : Env) (f : Nat) (fn : Func) : Bool := (fn.name == "runtime.NumGoroutine") == false && match fn.body with | some c => codeOk fn.ntmps (freeOf E f) c | none => true
theorem fn_checked : PT.all (fnChk E0) fnT 1 0 = true := by decide +kernel
end Go.Mx

/- The program's table is right. -/
set_option linter.unusedSimpArgs false
set_option maxRecDepth 20000
namespace Go.Mx
open Go Go.Proofs

def PT.AllP {α : Type} (p : Nat → α → Prop) : PT α → Nat → Nat → Prop
  | .leaf, _, _ => True
  | .node l v r, a, b => (match v with | some x => p b x | none => True) ∧ PT.AllP p l (2 * a) (a + b) ∧ PT.AllP p r (2 * a) (2 * a + b)

theorem PT.allP_get {α : Type} {p : Nat → α → Prop} : ∀ {t : PT α} {a b : Nat}, PT.AllP p t a b → ∀ {k : Nat} {x : α}, t.get k = some x → p (a * k + b) x := by
  intro t
  induction t with
  | leaf => intro a b _ k x h; simp [PT.get] at h
  | node l v r ihl ihr =>
    intro a b h k x hg
    simp only [PT.AllP] at h
    obtain ⟨h1, h2, h3⟩ := h
    rw [PT.get_node] at hg
    split at hg
    · rename_i e; subst e; subst hg; simpa using h1
    · split at hg
      · rename_i e1 e2
        have := ihl h2 hg
        have e : 2 * a * (k / 2) + (a + b) = a * k + b := by
          have : a * k = a * (2 * (k / 2) + 1) := by congr 1; omega
          rw [this, Nat.mul_add, Nat.mul_one, ← Nat.mul_assoc, Nat.mul_comm a 2]; omega
        rw [e] at this; exact this
      · rename_i e1 e2
        have := ihr h3 hg
        have e : 2 * a * (k / 2 - 1) + (2 * a + b) = a * k + b := by
          have : a * k = a * (2 * (k / 2 - 1) + 2) := by congr 1; omega
          rw [this, Nat.mul_add, ← Nat.mul_assoc, Nat.mul_comm a 2]; omega
        rw [e] at this; exact this

theorem fn_told : PT.AllP (fun f fn => Tryz.prog.funcs[f]? = some fn) fnT 1 0 :=
  ⟨trivial, ⟨trivial, ⟨Tryz.func3, ⟨Tryz.func7, ⟨Tryz.func15, ⟨Tryz.func31, ⟨Tryz.func63, ⟨Tryz.func127, ⟨Tryz.func255, trivial, trivial⟩, ⟨Tryz.func383, trivial, trivial⟩⟩, ⟨Tryz.func191, ⟨Tryz.func319, trivial, trivial⟩, trivial⟩⟩, ⟨trivial, ⟨Tryz.func159, ⟨Tryz.func287, trivial, trivial⟩, trivial⟩, ⟨Tryz.func223, ⟨trivial, trivial, trivial⟩, trivial⟩⟩⟩, ⟨Tryz.func47, ⟨Tryz.func79, ⟨Tryz.func143, ⟨Tryz.func271, trivial, trivial⟩, ⟨trivial, trivial, trivial⟩⟩, ⟨Tryz.func207, ⟨Tryz.func335, trivial, trivial⟩, trivial⟩⟩, ⟨Tryz.func111, ⟨Tryz.func175, ⟨Tryz.func303, trivial, trivial⟩, trivial⟩, ⟨Tryz.func239, ⟨Tryz.func367, trivial, trivial⟩, trivial⟩⟩⟩⟩, ⟨Tryz.func23, ⟨Tryz.func39, ⟨Tryz.func71, ⟨Tryz.func135, ⟨Tryz.func263, trivial, trivial⟩, ⟨trivial, trivial, trivial⟩⟩, ⟨Tryz.func199, ⟨Tryz.func327, trivial, trivial⟩, trivial⟩⟩, ⟨Tryz.func103, ⟨Tryz.func167, ⟨Tryz.func295, trivial, trivial⟩, trivial⟩, ⟨Tryz.func231, ⟨Tryz.func359, trivial, trivial⟩, trivial⟩⟩⟩, ⟨Tryz.func55, ⟨Tryz.func87, ⟨Tryz.func151, ⟨Tryz.func279, trivial, trivial⟩, trivial⟩, ⟨Tryz.func215, ⟨Tryz.func343, trivial, trivial⟩, trivial⟩⟩, ⟨Tryz.func119, ⟨Tryz.func183, ⟨trivial, trivial, trivial⟩, trivial⟩, ⟨Tryz.func247, ⟨Tryz.func375, trivial, trivial⟩, trivial⟩⟩⟩⟩⟩, ⟨Tryz.func11, ⟨Tryz.func19, ⟨Tryz.func35, ⟨Tryz.func67, ⟨Tryz.func131, ⟨Tryz.func259, trivial, trivial⟩, ⟨trivial, trivial, trivial⟩⟩, ⟨Tryz.func195, ⟨Tryz.func323, trivial, trivial⟩, trivial⟩⟩, ⟨Tryz.func99, ⟨Tryz.func163, ⟨Tryz.func291, trivial, trivial⟩, trivial⟩, ⟨Tryz.func227, ⟨trivial, trivial, trivial⟩, trivial⟩⟩⟩, ⟨Tryz.func51, ⟨Tryz.func83, ⟨Tryz.func147, ⟨Tryz.func275, trivial, trivial⟩, ⟨trivial, trivial, trivial⟩⟩, ⟨Tryz.func211, ⟨Tryz.func339, trivial, trivial⟩, trivial⟩⟩, ⟨Tryz.func115, ⟨Tryz.func179, ⟨trivial, trivial, trivial⟩, trivial⟩, ⟨Tryz.func243, ⟨trivial, trivial, trivial⟩, trivial⟩⟩⟩⟩, ⟨Tryz.func27, ⟨Tryz.func43, ⟨Tryz.func75, ⟨Tryz.func139, ⟨Tryz.func267, trivial, trivial⟩, ⟨trivial, trivial, trivial⟩⟩, ⟨Tryz.func203, ⟨Tryz.func331, trivial, trivial⟩, trivial⟩⟩, ⟨Tryz.func107, ⟨Tryz.func171, ⟨Tryz.func299, trivial, trivial⟩, trivial⟩, ⟨Tryz.func235, ⟨Tryz.func363, trivial, trivial⟩, trivial⟩⟩⟩, ⟨Tryz.func59, ⟨Tryz.func91, ⟨Tryz.func155, ⟨Tryz.func283, trivial, trivial⟩, trivial⟩, ⟨trivial, ⟨trivial, trivial, trivial⟩, trivial⟩⟩, ⟨Tryz.func123, ⟨Tryz.func187, ⟨trivial, trivial, trivial⟩, trivial⟩, ⟨Tryz.func251, ⟨Tryz.func379, trivial, trivial⟩, trivial⟩⟩⟩⟩⟩⟩, ⟨Tryz.func5, ⟨Tryz.func9, ⟨Tryz.func17, ⟨Tryz.func33, ⟨Tryz.func65, ⟨Tryz.func129, ⟨Tryz.func257, trivial, trivial⟩, ⟨trivial, trivial, trivial⟩⟩, ⟨Tryz.func193, ⟨Tryz.func321, trivial, trivial⟩, trivial⟩⟩, ⟨Tryz.func97, ⟨Tryz.func161, ⟨Tryz.func289, trivial, trivial⟩, trivial⟩, ⟨Tryz.func225, ⟨trivial, trivial, trivial⟩, trivial⟩⟩⟩, ⟨Tryz.func49, ⟨Tryz.func81, ⟨trivial, ⟨trivial, trivial, trivial⟩, ⟨trivial, trivial, trivial⟩⟩, ⟨Tryz.func209, ⟨Tryz.func337, trivial, trivial⟩, trivial⟩⟩, ⟨Tryz.func113, ⟨Tryz.func177, ⟨trivial, trivial, trivial⟩, trivial⟩, ⟨Tryz.func241, ⟨Tryz.func369, trivial, trivial⟩, trivial⟩⟩⟩⟩, ⟨Tryz.func25, ⟨Tryz.func41, ⟨Tryz.func73, ⟨Tryz.func137, ⟨trivial, trivial, trivial⟩, ⟨trivial, trivial, trivial⟩⟩, ⟨Tryz.func201, ⟨Tryz.func329, trivial, trivial⟩, trivial⟩⟩, ⟨Tryz.func105, ⟨Tryz.func169, ⟨Tryz.func297, trivial, trivial⟩, trivial⟩, ⟨Tryz.func233, ⟨Tryz.func361, trivial, trivial⟩, trivial⟩⟩⟩, ⟨Tryz.func57, ⟨Tryz.func89, ⟨trivial, ⟨Tryz.func281, trivial, trivial⟩, trivial⟩, ⟨Tryz.func217, ⟨Tryz.func345, trivial, trivial⟩, trivial⟩⟩, ⟨Tryz.func121, ⟨Tryz.func185, ⟨trivial, trivial, trivial⟩, trivial⟩, ⟨Tryz.func249, ⟨Tryz.func377, trivial, trivial⟩, trivial⟩⟩⟩⟩⟩, ⟨Tryz.func13, ⟨Tryz.func21, ⟨Tryz.func37, ⟨Tryz.func69, ⟨Tryz.func133, ⟨Tryz.func261, trivial, trivial⟩, ⟨trivial, trivial, trivial⟩⟩, ⟨Tryz.func197, ⟨Tryz.func325, trivial, trivial⟩, trivial⟩⟩, ⟨Tryz.func101, ⟨Tryz.func165, ⟨Tryz.func293, trivial, trivial⟩, trivial⟩, ⟨Tryz.func229, ⟨Tryz.func357, trivial, trivial⟩, trivial⟩⟩⟩, ⟨Tryz.func53, ⟨Tryz.func85, ⟨Tryz.func149, ⟨Tryz.func277, trivial, trivial⟩, trivial⟩, ⟨Tryz.func213, ⟨Tryz.func341, trivial, trivial⟩, trivial⟩⟩, ⟨Tryz.func117, ⟨Tryz.func181, ⟨trivial, trivial, trivial⟩, trivial⟩, ⟨Tryz.func245, ⟨trivial, trivial, trivial⟩, trivial⟩⟩⟩⟩, ⟨Tryz.func29, ⟨Tryz.func45, ⟨Tryz.func77, ⟨Tryz.func141, ⟨Tryz.func269, trivial, trivial⟩, ⟨trivial, trivial, trivial⟩⟩, ⟨Tryz.func205, ⟨Tryz.func333, trivial, trivial⟩, trivial⟩⟩, ⟨Tryz.func109, ⟨Tryz.func173, ⟨Tryz.func301, trivial, trivial⟩, trivial⟩, ⟨Tryz.func237, ⟨Tryz.func365, trivial, trivial⟩, trivial⟩⟩⟩, ⟨Tryz.func61, ⟨Tryz.func93, ⟨Tryz.func157, ⟨Tryz.func285, trivial, trivial⟩, trivial⟩, ⟨Tryz.func221, ⟨trivial, trivial, trivial⟩, trivial⟩⟩, ⟨Tryz.func125, ⟨Tryz.func189, ⟨Tryz.func317, trivial, trivial⟩, trivial⟩, ⟨Tryz.func253, ⟨Tryz.func381, trivial, trivial⟩, trivial⟩⟩⟩⟩⟩⟩⟩, ⟨trivial, ⟨Tryz.func4, ⟨Tryz.func8, ⟨Tryz.func16, ⟨Tryz.func32, ⟨Tryz.func64, ⟨Tryz.func128, ⟨Tryz.func256, trivial, trivial⟩, ⟨trivial, trivial, trivial⟩⟩, ⟨Tryz.func192, ⟨Tryz.func320, trivial, trivial⟩, trivial⟩⟩, ⟨Tryz.func96, ⟨Tryz.func160, ⟨Tryz.func288, trivial, trivial⟩, trivial⟩, ⟨Tryz.func224, ⟨trivial, trivial, trivial⟩, trivial⟩⟩⟩, ⟨Tryz.func48, ⟨Tryz.func80, ⟨trivial, ⟨trivial, trivial, trivial⟩, ⟨trivial, trivial, trivial⟩⟩, ⟨Tryz.func208, ⟨Tryz.func336, trivial, trivial⟩, trivial⟩⟩, ⟨Tryz.func112, ⟨Tryz.func176, ⟨Tryz.func304, trivial, trivial⟩, trivial⟩, ⟨Tryz.func240, ⟨Tryz.func368, trivial, trivial⟩, trivial⟩⟩⟩⟩, ⟨Tryz.func24, ⟨Tryz.func40, ⟨Tryz.func72, ⟨Tryz.func136, ⟨Tryz.func264, trivial, trivial⟩, ⟨trivial, trivial, trivial⟩⟩, ⟨Tryz.func200, ⟨Tryz.func328, trivial, trivial⟩, trivial⟩⟩, ⟨Tryz.func104, ⟨Tryz.func168, ⟨Tryz.func296, trivial, trivial⟩, trivial⟩, ⟨Tryz.func232, ⟨Tryz.func360, trivial, trivial⟩, trivial⟩⟩⟩, ⟨Tryz.func56, ⟨Tryz.func88, ⟨Tryz.func152, ⟨Tryz.func280, trivial, trivial⟩, trivial⟩, ⟨Tryz.func216, ⟨Tryz.func344, trivial, trivial⟩, trivial⟩⟩, ⟨Tryz.func120, ⟨Tryz.func184, ⟨trivial, trivial, trivial⟩, trivial⟩, ⟨Tryz.func248, ⟨Tryz.func376, trivial, trivial⟩, trivial⟩⟩⟩⟩⟩, ⟨Tryz.func12, ⟨Tryz.func20, ⟨Tryz.func36, ⟨Tryz.func68, ⟨Tryz.func132, ⟨Tryz.func260, trivial, trivial⟩, ⟨trivial, trivial, trivial⟩⟩, ⟨Tryz.func196, ⟨Tryz.func324, trivial, trivial⟩, trivial⟩⟩, ⟨Tryz.func100, ⟨Tryz.func164, ⟨Tryz.func292, trivial, trivial⟩, trivial⟩, ⟨Tryz.func228, ⟨trivial, trivial, trivial⟩, trivial⟩⟩⟩, ⟨Tryz.func52, ⟨Tryz.func84, ⟨Tryz.func148, ⟨Tryz.func276, trivial, trivial⟩, trivial⟩, ⟨Tryz.func212, ⟨Tryz.func340, trivial, trivial⟩, trivial⟩⟩, ⟨Tryz.func116, ⟨Tryz.func180, ⟨trivial, trivial, trivial⟩, trivial⟩, ⟨Tryz.func244, ⟨trivial, trivial, trivial⟩, trivial⟩⟩⟩⟩, ⟨Tryz.func28, ⟨Tryz.func44, ⟨Tryz.func76, ⟨Tryz.func140, ⟨Tryz.func268, trivial, trivial⟩, ⟨trivial, trivial, trivial⟩⟩, ⟨Tryz.func204, ⟨Tryz.func332, trivial, trivial⟩, trivial⟩⟩, ⟨Tryz.func108, ⟨Tryz.func172, ⟨Tryz.func300, trivial, trivial⟩, trivial⟩, ⟨Tryz.func236, ⟨Tryz.func364, trivial, trivial⟩, trivial⟩⟩⟩, ⟨Tryz.func60, ⟨Tryz.func92, ⟨Tryz.func156, ⟨Tryz.func284, trivial, trivial⟩, trivial⟩, ⟨Tryz.func220, ⟨trivial, trivial, trivial⟩, trivial⟩⟩, ⟨Tryz.func124, ⟨Tryz.func188, ⟨Tryz.func316, trivial, trivial⟩, trivial⟩, ⟨Tryz.func252, ⟨Tryz.func380, trivial, trivial⟩, trivial⟩⟩⟩⟩⟩⟩, ⟨Tryz.func6, ⟨Tryz.func10, ⟨Tryz.func18, ⟨Tryz.func34, ⟨Tryz.func66, ⟨Tryz.func130, ⟨Tryz.func258, trivial, trivial⟩, ⟨trivial, trivial, trivial⟩⟩, ⟨Tryz.func194, ⟨Tryz.func322, trivial, trivial⟩, trivial⟩⟩, ⟨Tryz.func98, ⟨Tryz.func162, ⟨Tryz.func290, trivial, trivial⟩, trivial⟩, ⟨Tryz.func226, ⟨trivial, trivial, trivial⟩, trivial⟩⟩⟩, ⟨Tryz.func50, ⟨Tryz.func82, ⟨Tryz.func146, ⟨Tryz.func274, trivial, trivial⟩, ⟨trivial, trivial, trivial⟩⟩, ⟨Tryz.func210, ⟨Tryz.func338, trivial, trivial⟩, trivial⟩⟩, ⟨Tryz.func114, ⟨Tryz.func178, ⟨trivial, trivial, trivial⟩, trivial⟩, ⟨Tryz.func242, ⟨Tryz.func370, trivial, trivial⟩, trivial⟩⟩⟩⟩, ⟨Tryz.func26, ⟨Tryz.func42, ⟨Tryz.func74, ⟨Tryz.func138, ⟨trivial, trivial, trivial⟩, ⟨trivial, trivial, trivial⟩⟩, ⟨trivial, ⟨Tryz.func330, trivial, trivial⟩, trivial⟩⟩, ⟨Tryz.func106, ⟨Tryz.func170, ⟨Tryz.func298, trivial, trivial⟩, trivial⟩, ⟨Tryz.func234, ⟨Tryz.func362, trivial, trivial⟩, trivial⟩⟩⟩, ⟨Tryz.func58, ⟨Tryz.func90, ⟨Tryz.func154, ⟨Tryz.func282, trivial, trivial⟩, trivial⟩, ⟨trivial, ⟨trivial, trivial, trivial⟩, trivial⟩⟩, ⟨Tryz.func122, ⟨Tryz.func186, ⟨trivial, trivial, trivial⟩, trivial⟩, ⟨Tryz.func250, ⟨Tryz.func378, trivial, trivial⟩, trivial⟩⟩⟩⟩⟩, ⟨Tryz.func14, ⟨Tryz.func22, ⟨Tryz.func38, ⟨Tryz.func70, ⟨Tryz.func134, ⟨Tryz.func262, trivial, trivial⟩, ⟨trivial, trivial, trivial⟩⟩, ⟨Tryz.func198, ⟨Tryz.func326, trivial, trivial⟩, trivial⟩⟩, ⟨Tryz.func102, ⟨Tryz.func166, ⟨Tryz.func294, trivial, trivial⟩, trivial⟩, ⟨Tryz.func230, ⟨Tryz.func358, trivial, trivial⟩, trivial⟩⟩⟩, ⟨Tryz.func54, ⟨Tryz.func86, ⟨Tryz.func150, ⟨Tryz.func278, trivial, trivial⟩, trivial⟩, ⟨Tryz.func214, ⟨Tryz.func342, trivial, trivial⟩, trivial⟩⟩, ⟨Tryz.func118, ⟨Tryz.func182, ⟨trivial, trivial, trivial⟩, trivial⟩, ⟨Tryz.func246, ⟨trivial, trivial, trivial⟩, trivial⟩⟩⟩⟩, ⟨Tryz.func30, ⟨Tryz.func46, ⟨Tryz.func78, ⟨Tryz.func142, ⟨Tryz.func270, trivial, trivial⟩, ⟨trivial, trivial, trivial⟩⟩, ⟨Tryz.func206, ⟨Tryz.func334, trivial, trivial⟩, trivial⟩⟩, ⟨Tryz.func110, ⟨Tryz.func174, ⟨Tryz.func302, trivial, trivial⟩, trivial⟩, ⟨Tryz.func238, ⟨Tryz.func366, trivial, trivial⟩, trivial⟩⟩⟩, ⟨Tryz.func62, ⟨Tryz.func94, ⟨Tryz.func158, ⟨Tryz.func286, trivial, trivial⟩, trivial⟩, ⟨Tryz.func222, ⟨trivial, trivial, trivial⟩, trivial⟩⟩, ⟨Tryz.func126, ⟨Tryz.func190, ⟨Tryz.func318, trivial, trivial⟩, trivial⟩, ⟨Tryz.func254, ⟨trivial, trivial, trivial⟩, trivial⟩⟩⟩⟩⟩⟩⟩⟩

theorem fns_ok {I : PT Intr} : ∀ f fn, (⟨tyT, fnT, I, frT⟩ : Env).fns.get f = some fn → Tryz.prog.funcs[f]? = some fn ∧ (fn.name == "runtime.NumGoroutine") = false ∧
    ∀ c, fn.body = some c → codeOk fn.ntmps (freeOf ⟨tyT, fnT, I, frT⟩ f) c = true := fun f fn h => by
  have h1 := PT.allP_get fn_told h
  have h2 := PT.all_get fn_checked h
  simp only [Nat.one_mul, Nat.add_zero] at h1 h2
  unfold fnChk at h2
  simp only [Bool.and_eq_true, beq_iff_eq] at h2
  refine ⟨h1, h2.1, fun c hc => ?_⟩
  have h3 := h2.2
  rw [hc] at h3
  exact h3

theorem env_ok {I : PT Intr} (hI : ∀ f F, I.get f = some F → CfOk Tryz.prog (fun g args s => if g = f then F args s else none)) : EnvOk Tryz.prog ⟨tyT, fnT, I, frT⟩ where
  follows := by rfl
  ty := E0_ty
  fns := fns_ok
  intr := hI

theorem E0_ok : EnvOk Tryz.prog E0 := env_ok fun f F h => by simp [PT.get] at h
end Go.Mx
