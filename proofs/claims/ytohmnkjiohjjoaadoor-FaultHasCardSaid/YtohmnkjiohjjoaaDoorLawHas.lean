/- FaultHas: for all arguments the call returns true, and the arguments read as before; errors.errorType is tied to the program's text. No condition. -/
import Derived.Test.YtohmnkjiohjjoaaDoorOpen01
import Derived.Test.YtohmnkjiohjjoaaDoorHas
import Derived.Test.YtohmnkjiohjjoaaDoorRows
import Derived.Test.YtohmnkjiohjjoaaDoorDoor
import Derived.Test.YtohmnkjiohjjoaaDoorCards
import Derived.Test.YtohmnkjiohjjoaaDoorTie
import Derived.SevenTiedAt
set_option linter.unusedSimpArgs false
set_option linter.unusedVariables false
namespace Go.Proofs.YtohmnkjiohjjoaaDoor
open Go.ChangeShapes Go.WideShapes Go.ChangeAt Go.RowKit Go.Deep

set_option maxRecDepth 100000 in
theorem has_lifted (os : Os) (started : os.Started) (H : Type) (enc : TypeId × Value → H) :
    ReturnsInHanded {} Tryd.checked os 4 .any (fun w args => (Rows.faultHasSpec.pre enc Tryd.prog Tryd.f4 [] false w args ∧ laidMetH Tryd.prog laidL w) ∧ sizedMet enc Tryd.prog Tryd.f4 (OpenSpec.ofChange Rows.faultHasSpec) false w args) (Rows.faultHasSpec.post enc Tryd.prog Tryd.f4 false true false false) := by
  refine lifted_door os started H enc 4 Tryd.f4 Rows.faultHasSpec Tryd.func4 (by kernel_rfl) rfl rfl (by kernel_rfl) ?_
    (ChangeSpec.witness_at (enc := enc) (C := Tryd.checked) (os := os) (X := fun w _ => laidMetH Tryd.prog laidL w) false (laidWorld os) #[.slice none 0 0, .int .i64 0] 8 rfl (by kernel_rfl) (by kernel_rfl) (by kernel_rfl) (by kernel_rfl) (by kernel_rfl) (laidWorld_met os _)) ?_
  · intro ds hds
    match ds, hds with
    | [d0, d1], _ => rfl
  · intro W args ds ps hg hval hA hsz
    rw [Tryd.params4] at hA hval
    obtain ⟨v0, v1, d0, d1, p0, p1, rfl, rfl, rfl, h0, h1⟩ := trodAll_two hA
    obtain ⟨b0, k0⟩ := hval 0 22 v0 rfl rfl
    obtain ⟨b1, k1⟩ := hval 1 3 v1 rfl rfl
    obtain ⟨a0, n0, m0, rfl⟩ := okWide_slice Tryd.underlying22 k0
    obtain ⟨fu0, hf0⟩ := h0
    obtain ⟨l0, hr0, ho0⟩ := links_of hf0
    obtain ⟨z1, rfl, rfl, rfl, wf1⟩ := open_int Tryd.underlying3 k1 h1
    exact has_walk l0 _ z1 W hg ho0 hr0

theorem has_row : Rows.FaultHasSaid :=
  OpenClaim.holds_of_wide 4 Tryd.f4 rfl rfl rfl rfl rfl rfl rfl ⟨rfl, rfl, rfl, rfl, rfl⟩ rfl rfl rfl rfl rfl (by kernel_rfl) Tryd.func4 (by kernel_rfl)
    (of_decide_eq_true (by kernel_rfl)) (by unfold Func.isWrapper; first | (rw [if_pos (by decide +kernel)]; kernel_rfl) | (rw [if_neg (by decide +kernel)]; exact ⟨rfl, rfl⟩))
    (fun os started H enc _ => has_lifted os started H enc)

theorem has_holds : Rows.FaultHasCardSaid :=
  Claim7.holds_tied_plain_at .later [] [.handle] true (true, "3beafe674b37561b4a711a792d58ef452e1827982a80da634168e974a0310e97") true
    has_row (fun _ h => by cases h) (by kernel_rfl) (fun _ h => by cases h) faultHas_row_tie rfl ⟨rfl, rfl⟩ (by kernel_rfl) rfl
    (fun f fn hf hfn => by
      obtain rfl : f = 4 := Option.some.inj ((show Tryd.prog.funcNamed "escapement/escapementlaw01.FaultHas" = some 4 by kernel_rfl).symm.trans hf) |>.symm
      obtain rfl : fn = Tryd.f4 := (Option.some.inj (Tryd.func4.symm.trans hfn)).symm
      refine ⟨by kernel_rfl, fun j t ht => ?_⟩
      rw [Tryd.params4] at ht
      rcases j with _ | _ | j
      · obtain rfl : t = 22 := by simpa using ht.symm
        kernel_rfl
      · obtain rfl : t = 3 := by simpa using ht.symm
        kernel_rfl
      · simp at ht)
    (by kernel_rfl)
#print axioms has_holds
end Go.Proofs.YtohmnkjiohjjoaaDoor
