/- MidpointMost: for all arguments the call returns true, and the arguments read as before. No condition. -/
import Derived.Test.YtpghhnapgleajaaIntsOf
import Derived.Test.YtpghhnapgleajaaMostLaw
import Derived.Test.YtpghhnapgleajaaRows
set_option linter.unusedSimpArgs false
set_option linter.unusedVariables false
namespace Go.Proofs.Ytpghhnapgleajaa
open Go.ChangeShapes Go.WideShapes Go.ChangeAt Go.RowKit Go.Deep

set_option maxRecDepth 100000 in
theorem most_lifted (os : Os) (started : os.Started) (H : Type) (enc : TypeId × Value → H) :
    ReturnsInHanded {} Try.checked os 7 .any (Rows.midpointMostSpec.pre6 enc Try.prog Try.f7 Rows.midpointMostRow.domain false) (Rows.midpointMostSpec.post enc Try.prog Try.f7 false true false false) := by
  refine lifted_of os started H enc 7 Try.f7 Rows.midpointMostSpec Try.func7 (by kernel_rfl) rfl rfl (by kernel_rfl) ?_
    (ChangeSpec.witness6 (enc := enc) (C := Try.checked) false ⟨#[], #[.int .i64 0, .slice none 0 0, .int .i64 0], []⟩ 8 (by kernel_rfl) (by kernel_rfl) (by kernel_rfl) (by kernel_rfl)) ?_
  · intro ds hds
    match ds, hds with
    | [d0, d1, d2], _ => rfl
  · intro W args ds ps hval hA hsz
    rw [Try.params7] at hA hval
    obtain ⟨v0, v1, v2, d0, d1, d2, p0, p1, p2, rfl, rfl, rfl, h0, h1, h2⟩ := trodAll_three hA
    obtain ⟨b0, k0⟩ := hval 0 3 v0 rfl rfl
    obtain ⟨b1, k1⟩ := hval 1 22 v1 rfl rfl
    obtain ⟨b2, k2⟩ := hval 2 3 v2 rfl rfl
    obtain ⟨z0, rfl, rfl, rfl, wf0⟩ := open_int Try.underlying3 k0 h0
    obtain ⟨a1, n1, m1, rfl⟩ := okWide_slice Try.underlying22 k1
    obtain ⟨fu1, hf1⟩ := h1
    obtain ⟨l1, hi1, hz1⟩ := ints_of hf1
    obtain ⟨z2, rfl, rfl, rfl, wf2⟩ := open_int Try.underlying3 k2 h2
    exact mostlaw_walk z0 (i64_of_wf wf0) l1 hz1 _ z2 (i64_of_wf wf2) W hi1

theorem most_holds : Rows.MidpointMostSaid :=
  OpenClaim.holds_of_wide 7 Try.f7 rfl rfl rfl rfl rfl rfl rfl ⟨rfl, rfl, rfl, rfl, rfl⟩ rfl rfl rfl rfl rfl (by kernel_rfl) Try.func7 (by kernel_rfl)
    (of_decide_eq_true (by kernel_rfl)) (by unfold Func.isWrapper; first | (rw [if_pos (by decide +kernel)]; kernel_rfl) | (rw [if_neg (by decide +kernel)]; exact ⟨rfl, rfl⟩))
    (fun os started H enc _ => most_lifted os started H enc)
#print axioms most_holds
end Go.Proofs.Ytpghhnapgleajaa
