/- PortsFresh: for all arguments the call returns true, and the arguments read as before. No condition. -/
import Derived.Test.YtogfbeibpfdleaaOpenW
import Derived.Test.YtogfbeibpfdleaaPFresh
import Derived.Test.YtogfbeibpfdleaaRows
set_option linter.unusedSimpArgs false
set_option linter.unusedVariables false
namespace Go.Proofs.Ytogfbeibpfdleaa
open Go.ChangeShapes Go.WideShapes Go.ChangeAt Go.RowKit Go.Deep

set_option maxRecDepth 100000 in
theorem fresh_lifted (os : Os) (started : os.Started) (H : Type) (enc : TypeId × Value → H) :
    ReturnsInHanded {} Try.checked os 7 .any (Rows.portsFreshSpec.pre6 enc Try.prog Try.f7 Rows.portsFreshRow.domain false) (Rows.portsFreshSpec.post enc Try.prog Try.f7 false true false false) := by
  refine lifted_of os started H enc 7 Try.f7 Rows.portsFreshSpec Try.func7 (by kernel_rfl) rfl rfl (by kernel_rfl) ?_
    (ChangeSpec.witness6 (enc := enc) (C := Try.checked) false ⟨#[], #[.slice none 0 0, .slice none 0 0, .int .i64 0, .int .i64 0], []⟩ 8 (by kernel_rfl) (by kernel_rfl) (by kernel_rfl) (by kernel_rfl)) ?_
  · intro ds hds
    match ds, hds with
    | [d0, d1, d2, d3], _ => rfl
  · intro W args ds ps hval hA hsz
    rw [Try.params7] at hA hval
    obtain ⟨v0, v1, v2, v3, d0, d1, d2, d3, p0, p1, p2, p3, rfl, rfl, rfl, h0, h1, h2, h3⟩ := trodAll_four hA
    obtain ⟨b0, k0⟩ := hval 0 40 v0 rfl rfl
    obtain ⟨b1, k1⟩ := hval 1 40 v1 rfl rfl
    obtain ⟨b2, k2⟩ := hval 2 3 v2 rfl rfl
    obtain ⟨b3, k3⟩ := hval 3 3 v3 rfl rfl
    obtain ⟨a0, n0, m0, rfl⟩ := okWide_slice Try.underlying40 k0
    obtain ⟨fu0, hf0⟩ := h0
    obtain ⟨l0, hi0, hr0⟩ := bytes_of hf0 (Light.of_each hsz (j := 0) rfl rfl)
    obtain ⟨a1, n1, m1, rfl⟩ := okWide_slice Try.underlying40 k1
    obtain ⟨fu1, hf1⟩ := h1
    obtain ⟨l1, hi1, hr1⟩ := bytes_of hf1 (Light.of_each hsz (j := 1) rfl rfl)
    obtain ⟨z2, rfl, rfl, rfl, wf2⟩ := open_int Try.underlying3 k2 h2
    obtain ⟨z3, rfl, rfl, rfl, wf3⟩ := open_int Try.underlying3 k3 h3
    exact fresh_walk l0 l1 _ _ z2 z3 (i64_of_wf wf2) (i64_of_wf wf3) W hi0 hi1

theorem fresh_holds : Rows.PortsFreshSaid :=
  OpenClaim.holds_of_wide 7 Try.f7 rfl rfl rfl rfl rfl rfl rfl ⟨rfl, rfl, rfl, rfl, rfl⟩ rfl rfl rfl rfl rfl (by kernel_rfl) Try.func7 (by kernel_rfl)
    (of_decide_eq_true (by kernel_rfl)) (by unfold Func.isWrapper; first | (rw [if_pos (by decide +kernel)]; kernel_rfl) | (rw [if_neg (by decide +kernel)]; exact ⟨rfl, rfl⟩))
    (fun os started H enc _ => fresh_lifted os started H enc)
#print axioms fresh_holds
end Go.Proofs.Ytogfbeibpfdleaa
