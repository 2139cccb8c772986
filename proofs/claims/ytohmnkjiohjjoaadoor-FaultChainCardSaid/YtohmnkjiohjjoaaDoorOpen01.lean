/- Links that came in. No condition. -/
import Derived.Test.YtohmnkjiohjjoaaDoorMade
import Derived.Test.YtohmnkjiohjjoaaDoorRowKit
set_option linter.unusedSimpArgs false
set_option linter.unusedVariables false
namespace Go.Proofs.YtohmnkjiohjjoaaDoor
open Go.ChangeShapes Go.WideShapes Go.ChangeAt Go.RowKit Go.Deep

set_option maxRecDepth 100000 in
theorem link_of {H : Type} {enc : TypeId × Value → H} {w : World} {base m : Nat} {r : List Value} {d : DataW H × List MemPlace} (hd : DataW.trod enc Tryd.prog w base (fun _ => true) true m 52 r = some d) :
    ∃ p : LinkT, r = p.cells ∧ p.ok := by
  obtain ⟨xs, n, _, _, hlen, hxs, hf⟩ := DataW.trod_struct Tryd.underlying52 hd
  have hC : Tryd.prog.cellsOf 52 = 3 := by kernel_rfl
  rw [hC] at hlen
  match r, hlen, xs, hxs with
  | [c0, c1, c2], _, [y0, y1, y2], _ =>
    have q0 : Tryd.prog.cellsOf 3 = 1 := by kernel_rfl
    have q1 : Tryd.prog.cellsOf 4 = 1 := by kernel_rfl
    have g0 := hf 0 _ rfl
    have g1 := hf 1 _ rfl
    have g2 := hf 2 _ rfl
    simp only [q0, q1, List.drop_zero, List.drop_succ_cons, List.take_succ_cons, List.take_zero, List.take_nil, List.getElem?_cons_zero, List.getElem?_cons_succ] at g0 g1 g2
    obtain ⟨a0, rfl, w0⟩ := cell_int (q := .i64) Tryd.underlying3 g0
    obtain ⟨a1, rfl, w1⟩ := cell_int (q := .i64) Tryd.underlying3 g1
    obtain ⟨a2, h2, _⟩ := DataW.trod_bool Tryd.underlying4 g2
    obtain rfl : c2 = .bool a2 := by injection h2
    exact ⟨⟨a0, a1, a2⟩, rfl, ⟨(i64_of_wf w1).1, (i64_of_wf w1).2⟩⟩

theorem links_of {H : Type} {enc : TypeId × Value → H} {w : World} {base fuel : Nat} {v : Value} {x : DataW H × List MemPlace} (h : DataW.trod enc Tryd.prog w base (fun _ => true) true fuel 22 [v] = some x) :
    ∃ l : List LinkT, Rd w z0 v 3 l.length (l.flatMap LinkT.cells) ∧ ∀ c ∈ l, c.ok := by
  have hC : Tryd.prog.cellsOf 52 = 3 := by kernel_rfl
  obtain ⟨rows, hrd, hrow⟩ := open_rd Tryd.underlying22 (by rw [hC]; omega) h
  rw [hC] at hrd hrow
  obtain ⟨l, h1, h2, h3⟩ := rows_of (g := LinkT.cells) (p := LinkT.ok) rows (fun r hr => by
    obtain ⟨_, m, d, hd⟩ := hrow r hr
    exact link_of hd)
  rw [h1, h2] at hrd
  exact ⟨l, hrd, h3⟩
end Go.Proofs.YtohmnkjiohjjoaaDoor
