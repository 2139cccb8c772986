/- Chapter 14's fixed facts: Awake returns true and leaves what was there. No condition. -/
import Derived.Test.YtomcjmgbkpbdpaaRep
set_option linter.unusedSimpArgs false
set_option linter.unusedVariables false
namespace Go.Proofs.Ytomcjmgbkpbdpaa
open Go.RowKit Go.Maps

set_option maxRecDepth 100000 in
theorem awake14 (w : World) : Calls Try.prog 8 #[] w fun e w' => e = .returned (.bool true) ∧ Below w.heap.size w w' := by
  go_enter Try.func8, Try.ntmps8
  go_wp2_with fail
  refine (repNew (fun _ => 0) 1 _).mono ?_
  rintro e w1 ⟨tb, C1, rfl, f1, h1⟩
  go_wp2_with fail
  refine (repApply C1 1 tb _ _ ⟨1, 3, 7, 0⟩ (by constructor <;> simp) _ h1).mono ?_
  rw [show applyB (fun _ => none) ⟨1, 3, 7, 0⟩ = true by rfl, show errv (applyE ⟨1, 3, 7, 0⟩) = .nilIface by rfl]
  rintro e w2 ⟨rfl, f2, h2⟩
  have f2' := f1.mono (K' := (· ≠ 0)) (fun c h => h.elim) |>.trans (f2.mono (by simp))
  clear f1 h1 f2
  go_wp2_with fail
  refine (repApply C1 1 tb _ _ ⟨3, 3, 9, 7⟩ (by constructor <;> simp) _ h2).mono ?_
  rw [show applyB (applyF (fun _ => none) ⟨1, 3, 7, 0⟩) ⟨3, 3, 9, 7⟩ = true by rfl, show errv (applyE ⟨3, 3, 9, 7⟩) = .nilIface by rfl]
  rintro e w3 ⟨rfl, f3, h3⟩
  have f3' := f2'.trans (f3.mono (by simp))
  clear h2 f3 f2'
  go_wp2_with fail
  refine (repAsk C1 1 tb _ _ 3 _ h3 (by omega) (by omega)).mono ?_
  rw [show ((applyF (applyF (fun _ => none) ⟨1, 3, 7, 0⟩) ⟨3, 3, 9, 7⟩) 3) = some 9 by rfl]
  simp only [Option.getD_some, askE_some, errv]
  rintro e w4 ⟨rfl, rfl⟩
  go_wp2_with fail
  refine (repDone C1 1 tb _ _ _ h3).mono ?_
  rw [show applyN (applyN 0 ⟨1, 3, 7, 0⟩) ⟨3, 3, 9, 7⟩ = 2 by simp [applyN, applied, wrap64]]
  rintro e w5 ⟨rfl, rfl⟩
  have hb := f3'.old
  clear h3 f3'
  go_wp2
  go_ret
  exact ⟨rfl, hb⟩
end Go.Proofs.Ytomcjmgbkpbdpaa
