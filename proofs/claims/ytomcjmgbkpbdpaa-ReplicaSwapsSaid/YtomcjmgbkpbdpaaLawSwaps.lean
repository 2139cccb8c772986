/- ReplicaSwaps: for every key, old value and list of new values the call returns true, and the arguments read as before. No condition. -/
import Derived.Test.YtomcjmgbkpbdpaaSwaps
import Derived.Test.YtomcjmgbkpbdpaaRowKit
import Derived.Test.YtomcjmgbkpbdpaaRows
set_option linter.unusedSimpArgs false
set_option linter.unusedVariables false
namespace Go.Proofs.Ytomcjmgbkpbdpaa
open Go.ChangeShapes Go.WideShapes Go.ChangeAt Go.RowKit Go.Deep

set_option maxRecDepth 100000 in
theorem swaps_lifted (os : Os) (started : os.Started) (H : Type) (enc : TypeId × Value → H) :
    ReturnsInHanded {} Try.checked os 4 .any (Rows.replicaSwapsSpec.pre6 enc Try.prog Try.f4 Rows.replicaSwapsRow.domain false) (Rows.replicaSwapsSpec.post enc Try.prog Try.f4 false true false false) := by
  refine lifted_of os started H enc 4 Try.f4 Rows.replicaSwapsSpec Try.func4 (by kernel_rfl) rfl rfl (by kernel_rfl) ?_
    (ChangeSpec.witness6 (enc := enc) (C := Try.checked) false ⟨#[], #[.int .u8 0, .int .u16 0, .slice none 0 0], []⟩ 8 (by kernel_rfl) (by kernel_rfl) (by kernel_rfl) (by kernel_rfl)) ?_
  · intro ds hds
    match ds, hds with
    | [d1, d2, d3], _ => rfl
  · intro W args ds ps hval hA _
    rw [Try.params4] at hA hval
    obtain ⟨v0, v1, v2, d0, d1, d2, p0, p1, p2, rfl, rfl, rfl, h0, h1, h2⟩ := trodAll_three hA
    obtain ⟨b0, k0⟩ := hval 0 5 v0 rfl rfl
    obtain ⟨b1, k1⟩ := hval 1 27 v1 rfl rfl
    obtain ⟨b2, k2⟩ := hval 2 38 v2 rfl rfl
    obtain ⟨key, rfl, rfl, rfl, wk⟩ := open_int Try.underlying5 k0 h0
    obtain ⟨old, rfl, rfl, rfl, wo⟩ := open_int Try.underlying27 k1 h1
    obtain ⟨a, len, cap, rfl⟩ := okWide_slice Try.underlying38 k2
    obtain ⟨fuel, hf⟩ := h2
    have hc1 : Try.prog.cellsOf 27 = 1 := by kernel_rfl
    obtain ⟨rows, hrd, hrow⟩ := open_rd Try.underlying38 (by rw [hc1]; omega) hf
    rw [hc1] at hrd hrow
    have hl : ∃ l : List Int, rows.flatten = l.map (fun x => Value.int .u16 x) ∧ rows.length = l.length ∧ ∀ x ∈ l, 0 ≤ x ∧ x < 65536 := by
      clear hrd hf
      induction rows with
      | nil => exact ⟨[], rfl, rfl, by simp⟩
      | cons r rows ih =>
        obtain ⟨l, h1, h2, h3⟩ := ih (fun r hr => hrow r (by simp [hr]))
        obtain ⟨_, m, d, hd⟩ := hrow r (by simp)
        obtain ⟨n, rfl, _, hw⟩ := DataW.trod_int Try.underlying27 hd
        refine ⟨n :: l, by simp [h1], by simp [h2], fun x hx => ?_⟩
        rcases List.mem_cons.1 hx with rfl | hx
        · exact u16_of_wf hw
        · exact h3 x hx
    obtain ⟨l, e1, e2, e3⟩ := hl
    rw [e1, e2] at hrd
    exact swaps_walk key old l _ W (u8_of_wf wk).1 (u8_of_wf wk).2 (u16_of_wf wo).1 (u16_of_wf wo).2 e3 hrd

theorem swaps_holds : Rows.ReplicaSwapsSaid :=
  OpenClaim.holds_of_wide 4 Try.f4 rfl rfl rfl rfl rfl rfl rfl ⟨rfl, rfl, rfl, rfl, rfl⟩ rfl rfl rfl rfl rfl (by kernel_rfl) Try.func4 (by kernel_rfl)
    (of_decide_eq_true (by kernel_rfl)) (by unfold Func.isWrapper; first | (rw [if_pos (by decide +kernel)]; kernel_rfl) | (rw [if_neg (by decide +kernel)]; exact ⟨rfl, rfl⟩))
    (fun os started H enc _ => swaps_lifted os started H enc)
#print axioms swaps_holds
end Go.Proofs.Ytomcjmgbkpbdpaa
