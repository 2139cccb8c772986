/- GuardPlays: for all arguments the call returns true, and the arguments read as before. No condition. -/
import Derived.Test.YtbdcbfjpalefjaaCallOf
import Derived.Test.YtbdcbfjpalefjaaPlays2
import Derived.Test.YtbdcbfjpalefjaaRows
set_option linter.unusedSimpArgs false
set_option linter.unusedVariables false
namespace Go.Proofs.Ytbdcbfjpalefjaa
open Go.ChangeShapes Go.WideShapes Go.ChangeAt Go.RowKit Go.Deep


set_option maxRecDepth 100000 in
theorem plays_lifted (os : Os) (started : os.Started) (H : Type) (enc : TypeId × Value → H) :
    ReturnsInHanded {} Try.checked os 3 .any (Rows.guardPlaysSpec.pre6 enc Try.prog Try.f3 Rows.guardPlaysRow.domain false) (Rows.guardPlaysSpec.post enc Try.prog Try.f3 false true false false) := by
  refine lifted_of os started H enc 3 Try.f3 Rows.guardPlaysSpec Try.func3 (by kernel_rfl) rfl rfl (by kernel_rfl) ?_
    (ChangeSpec.witness6 (enc := enc) (C := Try.checked) false ⟨#[], #[.agg #[.int .i64 0, .int .i64 0, .int .i64 0, .int .i64 0, .int .i64 0, .int .i64 0, .int .i64 0, .int .i64 0, .slice none 0 0, .slice none 0 0, .slice none 0 0], .slice none 0 0], []⟩ 8 (by kernel_rfl) (by kernel_rfl) (by kernel_rfl) (by kernel_rfl)) ?_
  · intro ds hds
    match ds, hds with
    | [d0, d1], _ => rfl
  · intro W args ds ps hval hA hsz
    rw [Try.params3] at hA hval
    obtain ⟨v0, v1, d0, d1, p0, p1, rfl, rfl, rfl, h0, h1⟩ := trodAll_two hA
    obtain ⟨b0, k0⟩ := hval 0 26 v0 rfl rfl
    obtain ⟨b1, k1⟩ := hval 1 27 v1 rfl rfl
    obtain ⟨cs0, rfl, _⟩ := okWide_struct Try.underlying26 k0
    obtain ⟨fu0, hf0⟩ := h0
    obtain ⟨c, pv, qv, rv, hcs0, hok, hl⟩ := cfg_of hf0
    have hv0 : (.agg cs0 : Value) = c.v pv qv rv := by
      have : cs0 = (c.cells pv qv rv).toArray := by
        have h' : cs0.toList = c.cells pv qv rv := hcs0
        rw [← h', Array.toArray_toList]
      rw [this]
      rfl
    rw [hv0]
    obtain ⟨a1, n1, m1, rfl⟩ := okWide_slice Try.underlying27 k1
    obtain ⟨fu1, hf1⟩ := h1
    obtain ⟨l, hrd, hlk⟩ := list_of (g := Call.cells) (p := Call.ok) Try.underlying27 (show Try.prog.cellsOf 43 = 2 by kernel_rfl) (by omega) (fun m r d h => call_of h) hf1
    exact plays_walk c hok l hlk pv qv rv _ W hl hrd

theorem plays_holds : Rows.GuardPlaysSaid :=
  OpenClaim.holds_of_wide 3 Try.f3 rfl rfl rfl rfl rfl rfl rfl ⟨rfl, rfl, rfl, rfl, rfl⟩ rfl rfl rfl rfl rfl (by kernel_rfl) Try.func3 (by kernel_rfl)
    (of_decide_eq_true (by kernel_rfl)) (by unfold Func.isWrapper; first | (rw [if_pos (by decide +kernel)]; kernel_rfl) | (rw [if_neg (by decide +kernel)]; exact ⟨rfl, rfl⟩))
    (fun os started H enc _ => plays_lifted os started H enc)
#print axioms plays_holds
end Go.Proofs.Ytbdcbfjpalefjaa
