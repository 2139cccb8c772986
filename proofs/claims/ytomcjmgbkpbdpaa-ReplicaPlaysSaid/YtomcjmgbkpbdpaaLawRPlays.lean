/- ReplicaPlays: for all arguments the call returns true, and the arguments read as before. No condition. -/
import Derived.Test.YtomcjmgbkpbdpaaOpen14
import Derived.Test.YtomcjmgbkpbdpaaRPlays
import Derived.Test.YtomcjmgbkpbdpaaRows
set_option linter.unusedSimpArgs false
set_option linter.unusedVariables false
namespace Go.Proofs.Ytomcjmgbkpbdpaa
open Go.ChangeShapes Go.WideShapes Go.ChangeAt Go.RowKit Go.Deep

set_option maxRecDepth 100000 in
theorem replays_lifted (os : Os) (started : os.Started) (H : Type) (enc : TypeId × Value → H) :
    ReturnsInHanded {} Try.checked os 6 .any (Rows.replicaPlaysSpec.pre6 enc Try.prog Try.f6 Rows.replicaPlaysRow.domain false) (Rows.replicaPlaysSpec.post enc Try.prog Try.f6 false true false false) := by
  refine lifted_of os started H enc 6 Try.f6 Rows.replicaPlaysSpec Try.func6 (by kernel_rfl) rfl rfl (by kernel_rfl) ?_
    (ChangeSpec.witness6 (enc := enc) (C := Try.checked) false ⟨#[], #[.slice none 0 0], []⟩ 8 (by kernel_rfl) (by kernel_rfl) (by kernel_rfl) (by kernel_rfl)) ?_
  · intro ds hds
    match ds, hds with
    | [d0], _ => rfl
  · intro W args ds ps hval hA hsz
    rw [Try.params6] at hA hval
    obtain ⟨v0, d0, rfl, rfl, h0⟩ := trodAll_one hA
    obtain ⟨b0, k0⟩ := hval 0 22 v0 rfl rfl
    obtain ⟨a0, n0, m0, rfl⟩ := okWide_slice Try.underlying22 k0
    obtain ⟨fu0, hf0⟩ := h0
    obtain ⟨l0, hr0, ho0⟩ := cmds_of hf0
    exact replays_walk l0 _ W ho0 hr0

theorem replays_holds : Rows.ReplicaPlaysSaid :=
  OpenClaim.holds_of_wide 6 Try.f6 rfl rfl rfl rfl rfl rfl rfl ⟨rfl, rfl, rfl, rfl, rfl⟩ rfl rfl rfl rfl rfl (by kernel_rfl) Try.func6 (by kernel_rfl)
    (of_decide_eq_true (by kernel_rfl)) (by unfold Func.isWrapper; first | (rw [if_pos (by decide +kernel)]; kernel_rfl) | (rw [if_neg (by decide +kernel)]; exact ⟨rfl, rfl⟩))
    (fun os started H enc _ => replays_lifted os started H enc)
#print axioms replays_holds
end Go.Proofs.Ytomcjmgbkpbdpaa
