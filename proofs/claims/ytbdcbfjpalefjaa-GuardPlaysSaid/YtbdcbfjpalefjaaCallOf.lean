/- Comings that came in. No condition. -/
import Derived.Test.YtbdcbfjpalefjaaOpenCfg
import Derived.Test.YtbdcbfjpalefjaaOnce
set_option linter.unusedSimpArgs false
set_option linter.unusedVariables false
namespace Go.Proofs.Ytbdcbfjpalefjaa
open Go.ChangeShapes Go.WideShapes Go.ChangeAt Go.RowKit Go.Deep

set_option maxRecDepth 100000 in
theorem call_of {H : Type} {enc : TypeId × Value → H} {w : World} {base m : Nat} {r : List Value} {d : DataW H × List MemPlace} (hd : DataW.trod enc Try.prog w base (fun _ => true) true m 43 r = some d) :
    ∃ p : Call, r = p.cells ∧ p.ok := by
  obtain ⟨xs, n, _, _, hlen, hxs, hf⟩ := DataW.trod_struct Try.underlying43 hd
  have hC : Try.prog.cellsOf 43 = 2 := by kernel_rfl
  rw [hC] at hlen
  match r, hlen, xs, hxs with
  | [c0, c1], _, [y0, y1], _ =>
    have q0 : Try.prog.cellsOf 3 = 1 := by kernel_rfl
    have g0 := hf 0 _ rfl
    have g1 := hf 1 _ rfl
    simp only [q0, List.drop_zero, List.drop_succ_cons, List.take_succ_cons, List.take_zero, List.take_nil, List.getElem?_cons_zero, List.getElem?_cons_succ] at g0 g1
    obtain ⟨a0, rfl, w0⟩ := cell_int (q := .i64) Try.underlying3 g0
    obtain ⟨a1, rfl, w1⟩ := cell_int (q := .i64) Try.underlying3 g1
    exact ⟨⟨a0, a1⟩, rfl, ⟨i64_of_wf w0, i64_of_wf w1⟩⟩
end Go.Proofs.Ytbdcbfjpalefjaa
