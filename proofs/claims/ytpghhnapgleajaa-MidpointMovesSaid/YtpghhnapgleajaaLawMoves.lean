/- MidpointMoves: for all arguments the call returns true, and the arguments read as before. No condition. -/
import Derived.Test.YtpghhnapgleajaaIntsOf
import Derived.Test.YtpghhnapgleajaaMoves
import Derived.Test.YtpghhnapgleajaaRows
set_option linter.unusedSimpArgs false
set_option linter.unusedVariables false
namespace Go.Proofs.Ytpghhnapgleajaa
open Go.ChangeShapes Go.WideShapes Go.ChangeAt Go.RowKit Go.Deep

set_option maxRecDepth 100000 in
theorem moves_lifted (os : Os) (started : os.Started) (H : Type) (enc : TypeId × Value → H) :
    ReturnsInHanded {} Try.checked os 6 .any (Rows.midpointMovesSpec.pre6 enc Try.prog Try.f6 Rows.midpointMovesRow.domain false) (Rows.midpointMovesSpec.post enc Try.prog Try.f6 false true false false) := by
  refine lifted_of os started H enc 6 Try.f6 Rows.midpointMovesSpec Try.func6 (by kernel_rfl) rfl rfl (by kernel_rfl) ?_
    (ChangeSpec.witness6 (enc := enc) (C := Try.checked) false ⟨#[], #[.slice none 0 0, .int .i64 0, .int .i64 0], []⟩ 8 (by kernel_rfl) (by kernel_rfl) (by kernel_rfl) (by kernel_rfl)) ?_
  · intro ds hds
    match ds, hds with
    | [d0, d1, d2], _ => rfl
  · intro W args ds ps hval hA hsz
    rw [Try.params6] at hA hval
    obtain ⟨v0, v1, v2, d0, d1, d2, p0, p1, p2, rfl, rfl, rfl, h0, h1, h2⟩ := trodAll_three hA
    obtain ⟨b0, k0⟩ := hval 0 22 v0 rfl rfl
    obtain ⟨b1, k1⟩ := hval 1 3 v1 rfl rfl
    obtain ⟨b2, k2⟩ := hval 2 3 v2 rfl rfl
    obtain ⟨a0, n0, m0, rfl⟩ := okWide_slice Try.underlying22 k0
    obtain ⟨fu0, hf0⟩ := h0
    obtain ⟨l0, hi0, hz0⟩ := ints_of hf0
    obtain ⟨z1, rfl, rfl, rfl, wf1⟩ := open_int Try.underlying3 k1 h1
    obtain ⟨z2, rfl, rfl, rfl, wf2⟩ := open_int Try.underlying3 k2 h2
    exact moves_walk l0 hz0 _ z1 (i64_of_wf wf1) z2 (i64_of_wf wf2) W hi0

theorem moves_holds : Rows.MidpointMovesSaid :=
  OpenClaim.holds_of_wide 6 Try.f6 rfl rfl rfl rfl rfl rfl rfl ⟨rfl, rfl, rfl, rfl, rfl⟩ rfl rfl rfl rfl rfl (by kernel_rfl) Try.func6 (by kernel_rfl)
    (of_decide_eq_true (by kernel_rfl)) (by unfold Func.isWrapper; first | (rw [if_pos (by decide +kernel)]; kernel_rfl) | (rw [if_neg (by decide +kernel)]; exact ⟨rfl, rfl⟩))
    (fun os started H enc _ => moves_lifted os started H enc)
#print axioms moves_holds
end Go.Proofs.Ytpghhnapgleajaa
