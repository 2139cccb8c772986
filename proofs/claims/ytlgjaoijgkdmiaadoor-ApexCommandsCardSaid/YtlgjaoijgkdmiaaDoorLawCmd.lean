/- ApexCommands: for all arguments the call returns true, and the arguments read as before; errors.errorType is tied to the program's text. No condition. -/
import Derived.Test.YtlgjaoijgkdmiaaDoorOpenK
import Derived.Test.YtlgjaoijgkdmiaaDoorCmd
import Derived.Test.YtlgjaoijgkdmiaaDoorRows
import Derived.Test.YtlgjaoijgkdmiaaDoorCards
import Derived.Test.YtlgjaoijgkdmiaaDoorTie
import Derived.SevenTiedAt
set_option linter.unusedSimpArgs false
set_option linter.unusedVariables false
namespace Go.Proofs.YtlgjaoijgkdmiaaDoor
open Go.ChangeShapes Go.WideShapes Go.ChangeAt Go.RowKit Go.Deep

set_option maxRecDepth 100000 in
theorem commands_lifted (os : Os) (started : os.Started) (H : Type) (enc : TypeId × Value → H) :
    ReturnsInHanded {} Tryd.checked os 4 .any (fun w args => (Rows.apexCommandsSpec.pre enc Tryd.prog Tryd.f4 [] false w args ∧ laidMetH Tryd.prog laidL w) ∧ sizedMet enc Tryd.prog Tryd.f4 (OpenSpec.ofChange Rows.apexCommandsSpec) false w args) (Rows.apexCommandsSpec.post enc Tryd.prog Tryd.f4 false true false false) := by
  refine lifted_door os started H enc 4 Tryd.f4 Rows.apexCommandsSpec Tryd.func4 (by kernel_rfl) rfl rfl (by kernel_rfl) ?_
    (ChangeSpec.witness_at (enc := enc) (C := Tryd.checked) (os := os) (X := fun w _ => laidMetH Tryd.prog laidL w) false (laidWorld os) #[.slice none 0 0] 8 rfl (by kernel_rfl) (by kernel_rfl) (by kernel_rfl) (by kernel_rfl) (by kernel_rfl) (laidWorld_met os _)) ?_
  · intro ds hds
    match ds, hds with
    | [d0], _ => rfl
  · intro W args ds ps hg hval hA hsz
    rw [Tryd.params4] at hA hval
    obtain ⟨v0, d0, rfl, rfl, h0⟩ := trodAll_one hA
    obtain ⟨b0, k0⟩ := hval 0 22 v0 rfl rfl
    obtain ⟨a0, n0, m0, rfl⟩ := okWide_slice Tryd.underlying22 k0
    obtain ⟨fu0, hf0⟩ := h0
    obtain ⟨l0, hi0, _, hlk0⟩ := list_ofw (g := fun p : Value × OpT => p.2.cells p.1) (p := fun p : Value × OpT => IsBytes W (fun _ => 0) p.1 p.2.d ∧ p.2.d.length ≤ 140737488355328) Tryd.underlying22 (show Tryd.prog.cellsOf 60 = 6 by kernel_rfl) (by omega) (fun m r d h hL => oprow_of h hL) hf0 (Light.of_each hsz (j := 0) rfl rfl)
    rw [show l0.length = (l0.map fun p : Value × OpT => p.2).length by simp] at hi0
    exact commands_walk _ _ (l0.map fun p => p.2) W hg hi0 (ops_of l0 hlk0)

theorem commands_row : Rows.ApexCommandsSaid :=
  OpenClaim.holds_of_wide 4 Tryd.f4 rfl rfl rfl rfl rfl rfl rfl ⟨rfl, rfl, rfl, rfl, rfl⟩ rfl rfl rfl rfl rfl (by kernel_rfl) Tryd.func4 (by kernel_rfl)
    (of_decide_eq_true (by kernel_rfl)) (by unfold Func.isWrapper; first | (rw [if_pos (by decide +kernel)]; kernel_rfl) | (rw [if_neg (by decide +kernel)]; exact ⟨rfl, rfl⟩))
    (fun os started H enc _ => commands_lifted os started H enc)

theorem commands_holds : Rows.ApexCommandsCardSaid :=
  Claim7.holds_tied_plain_at .later [] [.handle] true (true, "101b45a94dad8ecc7159bbb1b11cd99a81cf472a8702530aa6de0eb0944ddefb") true
    commands_row (fun _ h => by cases h) (by kernel_rfl) (fun _ h => by cases h) apexCommands_row_tie rfl ⟨rfl, rfl⟩ (by kernel_rfl) rfl
    (fun f fn hf hfn => by
      obtain rfl : f = 4 := Option.some.inj ((show Tryd.prog.funcNamed "escapement/escapementlaw16.ApexCommands" = some 4 by kernel_rfl).symm.trans hf) |>.symm
      obtain rfl : fn = Tryd.f4 := (Option.some.inj (Tryd.func4.symm.trans hfn)).symm
      refine ⟨by kernel_rfl, fun j t ht => ?_⟩
      rw [Tryd.params4] at ht
      rcases j with _ | j
      · obtain rfl : t = 22 := by simpa using ht.symm
        kernel_rfl
      · simp at ht)
    (by kernel_rfl)
#print axioms commands_holds
end Go.Proofs.YtlgjaoijgkdmiaaDoor
