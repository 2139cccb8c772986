/- Ints that came in. No condition. -/
import Derived.Test.YtnmhfdkmiblknaaRowKit
import Derived.Test.YtnmhfdkmiblknaaIntsL
set_option linter.unusedSimpArgs false
set_option linter.unusedVariables false
namespace Go.Proofs.Ytnmhfdkmiblknaa
open Go.ChangeShapes Go.WideShapes Go.ChangeAt Go.RowKit Go.Deep

theorem ints_of {H : Type} {enc : TypeId × Value → H} {w : World} {base fuel : Nat} {v : Value} {x : DataW H × List MemPlace}
    (h : DataW.trod enc Try.prog w base (fun _ => true) true fuel 27 [v] = some x) : ∃ xs : List Int, IsInts w (fun _ => 0) v xs ∧ ∀ x ∈ xs, Z64 x := by
  have hc1 : Try.prog.cellsOf 3 = 1 := by kernel_rfl
  obtain ⟨rows, hrd, hrow⟩ := open_rd Try.underlying27 (by rw [hc1]; omega) h
  rw [hc1] at hrd hrow
  have hl : ∃ l : List Int, rows.flatten = l.map (fun x => Value.int .i64 x) ∧ rows.length = l.length ∧ ∀ x ∈ l, Z64 x := by
    clear hrd h
    induction rows with
    | nil => exact ⟨[], rfl, rfl, by simp⟩
    | cons r rows ih =>
      obtain ⟨l, h1, h2, h3⟩ := ih (fun r hr => hrow r (by simp [hr]))
      obtain ⟨_, m, d, hd⟩ := hrow r (by simp)
      obtain ⟨n, rfl, _, hw⟩ := DataW.trod_int Try.underlying3 hd
      refine ⟨n :: l, by simp [h1], by simp [h2], fun x hx => ?_⟩
      rcases List.mem_cons.1 hx with rfl | hx
      · exact i64_of_wf hw
      · exact h3 x hx
  obtain ⟨l, e1, e2, e3⟩ := hl
  rw [e1, e2] at hrd
  exact ⟨l, hrd, e3⟩
end Go.Proofs.Ytnmhfdkmiblknaa
