/- MidpointMeets: for all arguments the call returns true, and the arguments read as before. No condition. -/
import Derived.Test.YtpghhnapgleajaaIntsOf
import Derived.Test.YtpghhnapgleajaaMeets
import Derived.Test.YtpghhnapgleajaaRows
set_option linter.unusedSimpArgs false
set_option linter.unusedVariables false
namespace Go.Proofs.Ytpghhnapgleajaa
open Go.ChangeShapes Go.WideShapes Go.ChangeAt Go.RowKit Go.Deep

theorem trodAll_six {H : Type} {enc : TypeId × Value → H} {P : Program} {w : World} {base : Nat} {spare : Nat → Bool} {held : Bool} {t0 t1 t2 t3 t4 t5 : TypeId} {args : Array Value} {ds : List (DataW H)} {ps : List MemPlace} (h : DataW.TrodAll enc P w base spare held [t0, t1, t2, t3, t4, t5] args.toList ds ps) :
    ∃ v0 v1 v2 v3 v4 v5 d0 d1 d2 d3 d4 d5 p0 p1 p2 p3 p4 p5, args = #[v0, v1, v2, v3, v4, v5] ∧ ds = [d0, d1, d2, d3, d4, d5] ∧ ps = p0 ++ (p1 ++ (p2 ++ (p3 ++ (p4 ++ p5)))) ∧ DataW.Trod enc P w base spare held t0 v0 d0 p0 ∧ DataW.Trod enc P w base spare held t1 v1 d1 p1 ∧ DataW.Trod enc P w base spare held t2 v2 d2 p2 ∧ DataW.Trod enc P w base spare held t3 v3 d3 p3 ∧ DataW.Trod enc P w base spare held t4 v4 d4 p4 ∧ DataW.Trod enc P w base spare held t5 v5 d5 p5 := by
  obtain ⟨v0, vs0, d0, ds0, p0, q0, hargs, rfl, rfl, hd0, h0⟩ := trodAll_cons h
  obtain ⟨v1, vs1, d1, ds1, p1, q1, rfl, rfl, rfl, hd1, h1⟩ := trodAll_cons h0
  obtain ⟨v2, vs2, d2, ds2, p2, q2, rfl, rfl, rfl, hd2, h2⟩ := trodAll_cons h1
  obtain ⟨v3, vs3, d3, ds3, p3, q3, rfl, rfl, rfl, hd3, h3⟩ := trodAll_cons h2
  obtain ⟨v4, vs4, d4, ds4, p4, q4, rfl, rfl, rfl, hd4, h4⟩ := trodAll_cons h3
  obtain ⟨v5, vs5, d5, ds5, p5, q5, rfl, rfl, rfl, hd5, h5⟩ := trodAll_cons h4
  obtain ⟨rfl, rfl, rfl⟩ := trodAll_nil h5
  exact ⟨v0, v1, v2, v3, v4, v5, d0, d1, d2, d3, d4, d5, p0, p1, p2, p3, p4, p5, by cases args; simp_all, rfl, by simp, hd0, hd1, hd2, hd3, hd4, hd5⟩

set_option maxRecDepth 100000 in
theorem meets_lifted (os : Os) (started : os.Started) (H : Type) (enc : TypeId × Value → H) :
    ReturnsInHanded {} Try.checked os 5 .any (Rows.midpointMeetsSpec.pre6 enc Try.prog Try.f5 Rows.midpointMeetsRow.domain false) (Rows.midpointMeetsSpec.post enc Try.prog Try.f5 false true false false) := by
  refine lifted_of os started H enc 5 Try.f5 Rows.midpointMeetsSpec Try.func5 (by kernel_rfl) rfl rfl (by kernel_rfl) ?_
    (ChangeSpec.witness6 (enc := enc) (C := Try.checked) false ⟨#[], #[.slice none 0 0, .slice none 0 0, .slice none 0 0, .slice none 0 0, .int .i64 0, .int .i64 0], []⟩ 8 (by kernel_rfl) (by kernel_rfl) (by kernel_rfl) (by kernel_rfl)) ?_
  · intro ds hds
    match ds, hds with
    | [d0, d1, d2, d3, d4, d5], _ => rfl
  · intro W args ds ps hval hA hsz
    rw [Try.params5] at hA hval
    obtain ⟨v0, v1, v2, v3, v4, v5, d0, d1, d2, d3, d4, d5, p0, p1, p2, p3, p4, p5, rfl, rfl, rfl, h0, h1, h2, h3, h4, h5⟩ := trodAll_six hA
    obtain ⟨b0, k0⟩ := hval 0 22 v0 rfl rfl
    obtain ⟨b1, k1⟩ := hval 1 22 v1 rfl rfl
    obtain ⟨b2, k2⟩ := hval 2 22 v2 rfl rfl
    obtain ⟨b3, k3⟩ := hval 3 22 v3 rfl rfl
    obtain ⟨b4, k4⟩ := hval 4 3 v4 rfl rfl
    obtain ⟨b5, k5⟩ := hval 5 3 v5 rfl rfl
    obtain ⟨a0, n0, m0, rfl⟩ := okWide_slice Try.underlying22 k0
    obtain ⟨fu0, hf0⟩ := h0
    obtain ⟨l0, hi0, hz0⟩ := ints_of hf0
    obtain ⟨a1, n1, m1, rfl⟩ := okWide_slice Try.underlying22 k1
    obtain ⟨fu1, hf1⟩ := h1
    obtain ⟨l1, hi1, hz1⟩ := ints_of hf1
    obtain ⟨a2, n2, m2, rfl⟩ := okWide_slice Try.underlying22 k2
    obtain ⟨fu2, hf2⟩ := h2
    obtain ⟨l2, hi2, hz2⟩ := ints_of hf2
    obtain ⟨a3, n3, m3, rfl⟩ := okWide_slice Try.underlying22 k3
    obtain ⟨fu3, hf3⟩ := h3
    obtain ⟨l3, hi3, hz3⟩ := ints_of hf3
    obtain ⟨z4, rfl, rfl, rfl, wf4⟩ := open_int Try.underlying3 k4 h4
    obtain ⟨z5, rfl, rfl, rfl, wf5⟩ := open_int Try.underlying3 k5 h5
    exact meets_walk l0 hz0 _ l1 hz1 _ l2 hz2 _ l3 hz3 _ z4 (i64_of_wf wf4) z5 (i64_of_wf wf5) W hi0 hi1 hi2 hi3

theorem meets_holds : Rows.MidpointMeetsSaid :=
  OpenClaim.holds_of_wide 5 Try.f5 rfl rfl rfl rfl rfl rfl rfl ⟨rfl, rfl, rfl, rfl, rfl⟩ rfl rfl rfl rfl rfl (by kernel_rfl) Try.func5 (by kernel_rfl)
    (of_decide_eq_true (by kernel_rfl)) (by unfold Func.isWrapper; first | (rw [if_pos (by decide +kernel)]; kernel_rfl) | (rw [if_neg (by decide +kernel)]; exact ⟨rfl, rfl⟩))
    (fun os started H enc _ => meets_lifted os started H enc)
#print axioms meets_holds
end Go.Proofs.Ytpghhnapgleajaa
