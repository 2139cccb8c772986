/- GuardApart: for all tables and every time the call returns true, and the arguments read as before. No condition. -/
import Derived.Test.YtbdcbfjpalefjaaOpenCfg
import Derived.Test.YtbdcbfjpalefjaaApart
import Derived.Test.YtbdcbfjpalefjaaRows
set_option linter.unusedSimpArgs false
set_option linter.unusedVariables false
namespace Go.Proofs.Ytbdcbfjpalefjaa
open Go.ChangeShapes Go.WideShapes Go.ChangeAt Go.RowKit Go.Deep

set_option maxRecDepth 100000 in
theorem apart_lifted (os : Os) (started : os.Started) (H : Type) (enc : TypeId × Value → H) :
    ReturnsInHanded {} Try.checked os 4 .any (Rows.guardApartSpec.pre6 enc Try.prog Try.f4 Rows.guardApartRow.domain false) (Rows.guardApartSpec.post enc Try.prog Try.f4 false true false false) := by
  refine lifted_of os started H enc 4 Try.f4 Rows.guardApartSpec Try.func4 (by kernel_rfl) rfl rfl (by kernel_rfl) ?_
    (ChangeSpec.witness6 (enc := enc) (C := Try.checked) false ⟨#[], #[.agg #[.int .i64 0, .int .i64 0, .int .i64 0, .int .i64 0, .int .i64 0, .int .i64 0, .int .i64 0, .int .i64 0, .slice none 0 0, .slice none 0 0, .slice none 0 0], .int .i64 0], []⟩ 8 (by kernel_rfl) (by kernel_rfl) (by kernel_rfl) (by kernel_rfl)) ?_
  · intro ds hds
    match ds, hds with
    | [d1, d2], _ => rfl
  · intro W args ds ps hval hA _
    rw [Try.params4] at hA hval
    obtain ⟨v0, v1, d0, d1, p0, p1, rfl, rfl, rfl, h0, h1⟩ := trodAll_two hA
    obtain ⟨b0, k0⟩ := hval 0 26 v0 rfl rfl
    obtain ⟨b1, k1⟩ := hval 1 3 v1 rfl rfl
    obtain ⟨n, rfl, rfl, rfl, wk⟩ := open_int Try.underlying3 k1 h1
    obtain ⟨cs, rfl, _⟩ := okWide_struct Try.underlying26 k0
    obtain ⟨fuel, hf⟩ := h0
    obtain ⟨c, pv, qv, rv, hcs, hok, hl⟩ := cfg_of hf
    have hv : (.agg cs : Value) = c.v pv qv rv := by
      have : cs = (c.cells pv qv rv).toArray := by
        have h' : cs.toList = c.cells pv qv rv := hcs
        rw [← h', Array.toArray_toList]
      rw [this]
      rfl
    rw [hv]
    exact apart_walk c hok n pv qv rv W hl

theorem apart_holds : Rows.GuardApartSaid :=
  OpenClaim.holds_of_wide 4 Try.f4 rfl rfl rfl rfl rfl rfl rfl ⟨rfl, rfl, rfl, rfl, rfl⟩ rfl rfl rfl rfl rfl (by kernel_rfl) Try.func4 (by kernel_rfl)
    (of_decide_eq_true (by kernel_rfl)) (by unfold Func.isWrapper; first | (rw [if_pos (by decide +kernel)]; kernel_rfl) | (rw [if_neg (by decide +kernel)]; exact ⟨rfl, rfl⟩))
    (fun os started H enc _ => apart_lifted os started H enc)
#print axioms apart_holds
end Go.Proofs.Ytbdcbfjpalefjaa
