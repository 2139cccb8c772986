/- ReplicaKeys: for every list of commands and every key the call returns true, and the arguments read as before. No condition. -/
import Derived.Test.YtomcjmgbkpbdpaaOpen14
import Derived.Test.YtomcjmgbkpbdpaaRows
set_option linter.unusedSimpArgs false
set_option linter.unusedVariables false
namespace Go.Proofs.Ytomcjmgbkpbdpaa
open Go.ChangeShapes Go.WideShapes Go.ChangeAt Go.RowKit Go.Deep

set_option maxRecDepth 100000 in
theorem keys_lifted (os : Os) (started : os.Started) (H : Type) (enc : TypeId × Value → H) :
    ReturnsInHanded {} Try.checked os 3 .any (Rows.replicaKeysSpec.pre6 enc Try.prog Try.f3 Rows.replicaKeysRow.domain false) (Rows.replicaKeysSpec.post enc Try.prog Try.f3 false true false false) := by
  refine lifted_of os started H enc 3 Try.f3 Rows.replicaKeysSpec Try.func3 (by kernel_rfl) rfl rfl (by kernel_rfl) ?_
    (ChangeSpec.witness6 (enc := enc) (C := Try.checked) false ⟨#[], #[.slice none 0 0, .int .u8 0], []⟩ 8 (by kernel_rfl) (by kernel_rfl) (by kernel_rfl) (by kernel_rfl)) ?_
  · intro ds hds
    match ds, hds with
    | [d1, d2], _ => rfl
  · intro W args ds ps hval hA _
    rw [Try.params3] at hA hval
    obtain ⟨v0, v1, d0, d1, p0, p1, rfl, rfl, rfl, h0, h1⟩ := trodAll_two hA
    obtain ⟨b0, k0⟩ := hval 0 22 v0 rfl rfl
    obtain ⟨b1, k1⟩ := hval 1 5 v1 rfl rfl
    obtain ⟨key, rfl, rfl, rfl, wk⟩ := open_int Try.underlying5 k1 h1
    obtain ⟨a, len, cap, rfl⟩ := okWide_slice Try.underlying22 k0
    obtain ⟨fuel, hf⟩ := h0
    obtain ⟨l, hrd, hok⟩ := cmds_of hf
    exact keys_walk key l _ W (u8_of_wf wk).1 (u8_of_wf wk).2 hok hrd

theorem keys_holds : Rows.ReplicaKeysSaid :=
  OpenClaim.holds_of_wide 3 Try.f3 rfl rfl rfl rfl rfl rfl rfl ⟨rfl, rfl, rfl, rfl, rfl⟩ rfl rfl rfl rfl rfl (by kernel_rfl) Try.func3 (by kernel_rfl)
    (of_decide_eq_true (by kernel_rfl)) (by unfold Func.isWrapper; first | (rw [if_pos (by decide +kernel)]; kernel_rfl) | (rw [if_neg (by decide +kernel)]; exact ⟨rfl, rfl⟩))
    (fun os started H enc _ => keys_lifted os started H enc)
#print axioms keys_holds
end Go.Proofs.Ytomcjmgbkpbdpaa
