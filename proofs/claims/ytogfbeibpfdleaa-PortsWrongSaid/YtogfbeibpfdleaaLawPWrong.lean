/- PortsWrong: for all arguments the call returns true, and the arguments read as before. No condition. -/
import Derived.Test.YtogfbeibpfdleaaOpenW
import Derived.Test.YtogfbeibpfdleaaPWrong
import Derived.Test.YtogfbeibpfdleaaRows
set_option linter.unusedSimpArgs false
set_option linter.unusedVariables false
namespace Go.Proofs.Ytogfbeibpfdleaa
open Go.ChangeShapes Go.WideShapes Go.ChangeAt Go.RowKit Go.Deep

set_option maxRecDepth 100000 in
theorem wrong_lifted (os : Os) (started : os.Started) (H : Type) (enc : TypeId × Value → H) :
    ReturnsInHanded {} Try.checked os 5 .any (Rows.portsWrongSpec.pre6 enc Try.prog Try.f5 Rows.portsWrongRow.domain false) (Rows.portsWrongSpec.post enc Try.prog Try.f5 false true false false) := by
  refine lifted_of os started H enc 5 Try.f5 Rows.portsWrongSpec Try.func5 (by kernel_rfl) rfl rfl (by kernel_rfl) ?_
    (ChangeSpec.witness6 (enc := enc) (C := Try.checked) false ⟨#[], #[.int .i64 0, .int .i64 0, .slice none 0 0], []⟩ 8 (by kernel_rfl) (by kernel_rfl) (by kernel_rfl) (by kernel_rfl)) ?_
  · intro ds hds
    match ds, hds with
    | [d0, d1, d2], _ => rfl
  · intro W args ds ps hval hA hsz
    rw [Try.params5] at hA hval
    obtain ⟨v0, v1, v2, d0, d1, d2, p0, p1, p2, rfl, rfl, rfl, h0, h1, h2⟩ := trodAll_three hA
    obtain ⟨b0, k0⟩ := hval 0 3 v0 rfl rfl
    obtain ⟨b1, k1⟩ := hval 1 3 v1 rfl rfl
    obtain ⟨b2, k2⟩ := hval 2 40 v2 rfl rfl
    obtain ⟨z0, rfl, rfl, rfl, wf0⟩ := open_int Try.underlying3 k0 h0
    obtain ⟨z1, rfl, rfl, rfl, wf1⟩ := open_int Try.underlying3 k1 h1
    obtain ⟨a2, n2, m2, rfl⟩ := okWide_slice Try.underlying40 k2
    obtain ⟨fu2, hf2⟩ := h2
    obtain ⟨l2, hi2, hr2⟩ := bytes_of hf2 (Light.of_each hsz (j := 2) rfl rfl)
    exact wrong_walk z0 z1 (i64_of_wf wf0) (i64_of_wf wf1) l2 _ W hi2

theorem wrong_holds : Rows.PortsWrongSaid :=
  OpenClaim.holds_of_wide 5 Try.f5 rfl rfl rfl rfl rfl rfl rfl ⟨rfl, rfl, rfl, rfl, rfl⟩ rfl rfl rfl rfl rfl (by kernel_rfl) Try.func5 (by kernel_rfl)
    (of_decide_eq_true (by kernel_rfl)) (by unfold Func.isWrapper; first | (rw [if_pos (by decide +kernel)]; kernel_rfl) | (rw [if_neg (by decide +kernel)]; exact ⟨rfl, rfl⟩))
    (fun os started H enc _ => wrong_lifted os started H enc)
#print axioms wrong_holds
end Go.Proofs.Ytogfbeibpfdleaa
