/- ApexBudget: for all arguments the call returns true, and the arguments read as before; errors.errorType is tied to the program's text. No condition. -/
import Derived.Test.YtlgjaoijgkdmiaaDoorOpenK
import Derived.Test.YtlgjaoijgkdmiaaDoorBudK
import Derived.Test.YtlgjaoijgkdmiaaDoorRows
import Derived.Test.YtlgjaoijgkdmiaaDoorCards
import Derived.Test.YtlgjaoijgkdmiaaDoorTie
import Derived.SevenTiedAt
set_option linter.unusedSimpArgs false
set_option linter.unusedVariables false
namespace Go.Proofs.YtlgjaoijgkdmiaaDoor
open Go.ChangeShapes Go.WideShapes Go.ChangeAt Go.RowKit Go.Deep

set_option maxRecDepth 100000 in
theorem budget_lifted (os : Os) (started : os.Started) (H : Type) (enc : TypeId × Value → H) :
    ReturnsInHanded {} Tryd.checked os 3 .any (fun w args => (Rows.apexBudgetSpec.pre enc Tryd.prog Tryd.f3 [] false w args ∧ laidMetH Tryd.prog laidL w) ∧ sizedMet enc Tryd.prog Tryd.f3 (OpenSpec.ofChange Rows.apexBudgetSpec) false w args) (Rows.apexBudgetSpec.post enc Tryd.prog Tryd.f3 false true false false) := by
  refine lifted_door os started H enc 3 Tryd.f3 Rows.apexBudgetSpec Tryd.func3 (by kernel_rfl) rfl rfl (by kernel_rfl) ?_
    (ChangeSpec.witness_at (enc := enc) (C := Tryd.checked) (os := os) (X := fun w _ => laidMetH Tryd.prog laidL w) false (laidWorld os) #[.int .i64 0, .slice none 0 0] 8 rfl (by kernel_rfl) (by kernel_rfl) (by kernel_rfl) (by kernel_rfl) (by kernel_rfl) (laidWorld_met os _)) ?_
  · intro ds hds
    match ds, hds with
    | [d0, d1], _ => rfl
  · intro W args ds ps hg hval hA hsz
    rw [Tryd.params3] at hA hval
    obtain ⟨v0, v1, d0, d1, p0, p1, rfl, rfl, rfl, h0, h1⟩ := trodAll_two hA
    obtain ⟨b0, k0⟩ := hval 0 3 v0 rfl rfl
    obtain ⟨b1, k1⟩ := hval 1 22 v1 rfl rfl
    obtain ⟨z0, rfl, rfl, rfl, wf0⟩ := open_int Tryd.underlying3 k0 h0
    obtain ⟨a1, n1, m1, rfl⟩ := okWide_slice Tryd.underlying22 k1
    obtain ⟨fu1, hf1⟩ := h1
    obtain ⟨l1, hi1, _, hlk1⟩ := list_ofw (g := fun p : Value × OpT => p.2.cells p.1) (p := fun p : Value × OpT => IsBytes W (fun _ => 0) p.1 p.2.d ∧ p.2.d.length ≤ 140737488355328) Tryd.underlying22 (show Tryd.prog.cellsOf 60 = 6 by kernel_rfl) (by omega) (fun m r d h hL => oprow_of h hL) hf1 (Light.of_each hsz (j := 1) rfl rfl)
    rw [show l1.length = (l1.map fun p : Value × OpT => p.2).length by simp] at hi1
    exact budget_walk z0 _ _ (l1.map fun p => p.2) W hg hi1 (ops_of l1 hlk1) (ops_len l1 hlk1)

theorem budget_row : Rows.ApexBudgetSaid :=
  OpenClaim.holds_of_wide 3 Tryd.f3 rfl rfl rfl rfl rfl rfl rfl ⟨rfl, rfl, rfl, rfl, rfl⟩ rfl rfl rfl rfl rfl (by kernel_rfl) Tryd.func3 (by kernel_rfl)
    (of_decide_eq_true (by kernel_rfl)) (by unfold Func.isWrapper; first | (rw [if_pos (by decide +kernel)]; kernel_rfl) | (rw [if_neg (by decide +kernel)]; exact ⟨rfl, rfl⟩))
    (fun os started H enc _ => budget_lifted os started H enc)

theorem budget_holds : Rows.ApexBudgetCardSaid :=
  Claim7.holds_tied_plain_at .later [] [.handle] true (true, "101b45a94dad8ecc7159bbb1b11cd99a81cf472a8702530aa6de0eb0944ddefb") true
    budget_row (fun _ h => by cases h) (by kernel_rfl) (fun _ h => by cases h) apexBudget_row_tie rfl ⟨rfl, rfl⟩ (by kernel_rfl) rfl
    (fun f fn hf hfn => by
      obtain rfl : f = 3 := Option.some.inj ((show Tryd.prog.funcNamed "escapement/escapementlaw16.ApexBudget" = some 3 by kernel_rfl).symm.trans hf) |>.symm
      obtain rfl : fn = Tryd.f3 := (Option.some.inj (Tryd.func3.symm.trans hfn)).symm
      refine ⟨by kernel_rfl, fun j t ht => ?_⟩
      rw [Tryd.params3] at ht
      rcases j with _ | _ | j
      · obtain rfl : t = 3 := by simpa using ht.symm
        kernel_rfl
      · obtain rfl : t = 22 := by simpa using ht.symm
        kernel_rfl
      · simp at ht)
    (by kernel_rfl)
#print axioms budget_holds
end Go.Proofs.YtlgjaoijgkdmiaaDoor
