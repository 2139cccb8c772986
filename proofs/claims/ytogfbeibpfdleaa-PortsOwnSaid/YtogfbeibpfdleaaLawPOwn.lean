/- PortsOwn: for all arguments the call returns true, and the arguments read as before. No condition. -/
import Derived.Test.YtogfbeibpfdleaaOpenW
import Derived.Test.YtogfbeibpfdleaaPOwn
import Derived.Test.YtogfbeibpfdleaaRows
set_option linter.unusedSimpArgs false
set_option linter.unusedVariables false
namespace Go.Proofs.Ytogfbeibpfdleaa
open Go.ChangeShapes Go.WideShapes Go.ChangeAt Go.RowKit Go.Deep

set_option maxRecDepth 100000 in
theorem own_lifted (os : Os) (started : os.Started) (H : Type) (enc : TypeId × Value → H) :
    ReturnsInHanded {} Try.checked os 4 .any (Rows.portsOwnSpec.pre6 enc Try.prog Try.f4 Rows.portsOwnRow.domain false) (Rows.portsOwnSpec.post enc Try.prog Try.f4 false true false false) := by
  refine lifted_of os started H enc 4 Try.f4 Rows.portsOwnSpec Try.func4 (by kernel_rfl) rfl rfl (by kernel_rfl) ?_
    (ChangeSpec.witness6 (enc := enc) (C := Try.checked) false ⟨#[], #[.slice none 0 0], []⟩ 8 (by kernel_rfl) (by kernel_rfl) (by kernel_rfl) (by kernel_rfl)) ?_
  · intro ds hds
    match ds, hds with
    | [d0], _ => rfl
  · intro W args ds ps hval hA hsz
    rw [Try.params4] at hA hval
    obtain ⟨v0, d0, rfl, rfl, h0⟩ := trodAll_one hA
    obtain ⟨b0, k0⟩ := hval 0 40 v0 rfl rfl
    obtain ⟨a0, n0, m0, rfl⟩ := okWide_slice Try.underlying40 k0
    obtain ⟨fu0, hf0⟩ := h0
    obtain ⟨l0, hi0, hr0⟩ := bytes_of hf0 (Light.of_each hsz (j := 0) rfl rfl)
    exact own_walk l0 _ W hi0

theorem own_holds : Rows.PortsOwnSaid :=
  OpenClaim.holds_of_wide 4 Try.f4 rfl rfl rfl rfl rfl rfl rfl ⟨rfl, rfl, rfl, rfl, rfl⟩ rfl rfl rfl rfl rfl (by kernel_rfl) Try.func4 (by kernel_rfl)
    (of_decide_eq_true (by kernel_rfl)) (by unfold Func.isWrapper; first | (rw [if_pos (by decide +kernel)]; kernel_rfl) | (rw [if_neg (by decide +kernel)]; exact ⟨rfl, rfl⟩))
    (fun os started H enc _ => own_lifted os started H enc)
#print axioms own_holds
end Go.Proofs.Ytogfbeibpfdleaa
