/- ApexNews: for all arguments the call returns true, and the arguments read as before; errors.errorType is tied to the program's text. No condition. -/
import Derived.Test.YtlgjaoijgkdmiaaDoorOpenK
import Derived.Test.YtlgjaoijgkdmiaaDoorNewsK
import Derived.Test.YtlgjaoijgkdmiaaDoorRows
import Derived.Test.YtlgjaoijgkdmiaaDoorOpenCfg
import Derived.Test.YtlgjaoijgkdmiaaDoorCards
import Derived.Test.YtlgjaoijgkdmiaaDoorTie
import Derived.SevenTiedAt
set_option linter.unusedSimpArgs false
set_option linter.unusedVariables false
namespace Go.Proofs.YtlgjaoijgkdmiaaDoor
open Go.ChangeShapes Go.WideShapes Go.ChangeAt Go.RowKit Go.Deep

set_option maxRecDepth 100000 in
theorem news_lifted (os : Os) (started : os.Started) (H : Type) (enc : TypeId × Value → H) :
    ReturnsInHanded {} Tryd.checked os 7 .any (fun w args => (Rows.apexNewsSpec.pre enc Tryd.prog Tryd.f7 [] false w args ∧ laidMetH Tryd.prog laidL w) ∧ sizedMet enc Tryd.prog Tryd.f7 (OpenSpec.ofChange Rows.apexNewsSpec) false w args) (Rows.apexNewsSpec.post enc Tryd.prog Tryd.f7 false true false false) := by
  refine lifted_door os started H enc 7 Tryd.f7 Rows.apexNewsSpec Tryd.func7 (by kernel_rfl) rfl rfl (by kernel_rfl) ?_
    (ChangeSpec.witness_at (enc := enc) (C := Tryd.checked) (os := os) (X := fun w _ => laidMetH Tryd.prog laidL w) false (laidWorld os) #[.agg #[.int .i64 0, .int .i64 0, .int .i64 0, .int .i64 0, .int .i64 0, .int .i64 0, .int .i64 0, .int .i64 0, .slice none 0 0, .slice none 0 0, .slice none 0 0], .int .i64 0] 8 rfl (by kernel_rfl) (by kernel_rfl) (by kernel_rfl) (by kernel_rfl) (by kernel_rfl) (laidWorld_met os _)) ?_
  · intro ds hds
    match ds, hds with
    | [d0, d1], _ => rfl
  · intro W args ds ps hg hval hA hsz
    rw [Tryd.params7] at hA hval
    obtain ⟨v0, v1, d0, d1, p0, p1, rfl, rfl, rfl, h0, h1⟩ := trodAll_two hA
    obtain ⟨b0, k0⟩ := hval 0 28 v0 rfl rfl
    obtain ⟨b1, k1⟩ := hval 1 3 v1 rfl rfl
    obtain ⟨cs0, rfl, _⟩ := okWide_struct Tryd.underlying28 k0
    obtain ⟨fu0, hf0⟩ := h0
    obtain ⟨c, pv, qv, rv, hcs0, hok, hl⟩ := cfg_of hf0
    have hv0 : (.agg cs0 : Value) = c.v pv qv rv := by
      have : cs0 = (c.cells pv qv rv).toArray := by
        have h' : cs0.toList = c.cells pv qv rv := hcs0
        rw [← h', Array.toArray_toList]
      rw [this]
      rfl
    rw [hv0]
    obtain ⟨z1, rfl, rfl, rfl, wf1⟩ := open_int Tryd.underlying3 k1 h1
    exact news_walk c hok pv qv rv z1 W hg hl

theorem news_row : Rows.ApexNewsSaid :=
  OpenClaim.holds_of_wide 7 Tryd.f7 rfl rfl rfl rfl rfl rfl rfl ⟨rfl, rfl, rfl, rfl, rfl⟩ rfl rfl rfl rfl rfl (by kernel_rfl) Tryd.func7 (by kernel_rfl)
    (of_decide_eq_true (by kernel_rfl)) (by unfold Func.isWrapper; first | (rw [if_pos (by decide +kernel)]; kernel_rfl) | (rw [if_neg (by decide +kernel)]; exact ⟨rfl, rfl⟩))
    (fun os started H enc _ => news_lifted os started H enc)

theorem news_holds : Rows.ApexNewsCardSaid :=
  Claim7.holds_tied_plain_at .later [] [.handle] true (true, "101b45a94dad8ecc7159bbb1b11cd99a81cf472a8702530aa6de0eb0944ddefb") true
    news_row (fun _ h => by cases h) (by kernel_rfl) (fun _ h => by cases h) apexNews_row_tie rfl ⟨rfl, rfl⟩ (by kernel_rfl) rfl
    (fun f fn hf hfn => by
      obtain rfl : f = 7 := Option.some.inj ((show Tryd.prog.funcNamed "escapement/escapementlaw16.ApexNews" = some 7 by kernel_rfl).symm.trans hf) |>.symm
      obtain rfl : fn = Tryd.f7 := (Option.some.inj (Tryd.func7.symm.trans hfn)).symm
      refine ⟨by kernel_rfl, fun j t ht => ?_⟩
      rw [Tryd.params7] at ht
      rcases j with _ | _ | j
      · obtain rfl : t = 28 := by simpa using ht.symm
        kernel_rfl
      · obtain rfl : t = 3 := by simpa using ht.symm
        kernel_rfl
      · simp at ht)
    (by kernel_rfl)
#print axioms news_holds
end Go.Proofs.YtlgjaoijgkdmiaaDoor
