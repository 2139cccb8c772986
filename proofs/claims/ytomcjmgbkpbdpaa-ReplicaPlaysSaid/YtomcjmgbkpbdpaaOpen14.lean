/- Commands that came in. No condition. -/
import Derived.Test.YtomcjmgbkpbdpaaKeys
import Derived.Test.YtomcjmgbkpbdpaaRowKit
set_option linter.unusedSimpArgs false
set_option linter.unusedVariables false
namespace Go.Proofs.Ytomcjmgbkpbdpaa
open Go.ChangeShapes Go.WideShapes Go.ChangeAt Go.RowKit Go.Deep

theorem cmd_of {H : Type} {enc : TypeId × Value → H} {w : World} {base m : Nat} {r : List Value} {d : DataW H × List MemPlace} (hd : DataW.trod enc Try.prog w base (fun _ => true) true m 29 r = some d) :
    ∃ c : Cmd, r = c.cells ∧ c.ok := by
  obtain ⟨xs, n, _, _, hlen, hxs, hf⟩ := DataW.trod_struct Try.underlying29 hd
  have hC : Try.prog.cellsOf 29 = 4 := by kernel_rfl
  rw [hC] at hlen
  match r, hlen, xs, hxs with
  | [c0, c1, c2, c3], _, [y0, y1, y2, y3], _ =>
    have k8 : Try.prog.cellsOf 5 = 1 := by kernel_rfl
    have k16 : Try.prog.cellsOf 27 = 1 := by kernel_rfl
    have kk : Try.prog.cellsOf 26 = 1 := by kernel_rfl
    have g0 := hf 0 _ rfl
    have g1 := hf 1 _ rfl
    have g2 := hf 2 _ rfl
    have g3 := hf 3 _ rfl
    simp only [k8, k16, kk, List.drop_zero, List.drop_succ_cons, List.take_succ_cons, List.take_zero, List.getElem?_cons_zero, List.getElem?_cons_succ] at g0 g1 g2 g3
    obtain ⟨a0, rfl, w0⟩ := cell_int (q := .u8) Try.underlying26 g0
    obtain ⟨a1, rfl, w1⟩ := cell_int (q := .u8) Try.underlying5 g1
    obtain ⟨a2, rfl, w2⟩ := cell_int (q := .u16) Try.underlying27 g2
    obtain ⟨a3, rfl, w3⟩ := cell_int (q := .u16) Try.underlying27 g3
    exact ⟨⟨a0, a1, a2, a3⟩, rfl, ⟨u8_of_wf w0, u8_of_wf w1, u16_of_wf w2, u16_of_wf w3⟩⟩

theorem cmds_of {H : Type} {enc : TypeId × Value → H} {w : World} {base fuel : Nat} {v : Value} {x : DataW H × List MemPlace} (h : DataW.trod enc Try.prog w base (fun _ => true) true fuel 22 [v] = some x) :
    ∃ l : List Cmd, Rd w (fun _ => 0) v 4 l.length (l.flatMap Cmd.cells) ∧ ∀ c ∈ l, c.ok := by
  have hC : Try.prog.cellsOf 29 = 4 := by kernel_rfl
  obtain ⟨rows, hrd, hrow⟩ := open_rd Try.underlying22 (by rw [hC]; omega) h
  rw [hC] at hrd hrow
  obtain ⟨l, h1, h2, h3⟩ := rows_of (g := Cmd.cells) (p := Cmd.ok) rows (fun r hr => by
    obtain ⟨_, m, d, hd⟩ := hrow r hr
    exact cmd_of hd)
  rw [h1, h2] at hrd
  exact ⟨l, hrd, h3⟩
end Go.Proofs.Ytomcjmgbkpbdpaa
