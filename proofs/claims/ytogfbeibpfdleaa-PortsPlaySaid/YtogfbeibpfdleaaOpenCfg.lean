/- Tables that came in. No condition. -/
import Derived.Test.YtogfbeibpfdleaaCfg
import Derived.Test.YtogfbeibpfdleaaRowKit
set_option linter.unusedSimpArgs false
set_option linter.unusedVariables false
namespace Go.Proofs.Ytogfbeibpfdleaa
open Go.ChangeShapes Go.WideShapes Go.ChangeAt Go.RowKit Go.Deep

theorem trod_array {H : Type} {enc : TypeId × Value → H} {P : Program} {w : World} {base fuel : Nat} {spare : Nat → Bool} {held : Bool} {t e : TypeId} {n : Nat} {cs : List Value} {x : DataW H × List MemPlace} (ht : P.underlying t = some (.array n e)) (h : DataW.trod enc P w base spare held fuel t cs = some x) :
    cs.length = P.cellsOf t ∧ ∃ m, ∀ i, i < n → ∃ d, DataW.trod enc P w base spare held m e ((cs.drop (i * P.cellsOf e)).take (P.cellsOf e)) = some d := by
  cases fuel with
  | zero => simp [DataW.trod] at h
  | succ m =>
    unfold DataW.trod at h
    rw [ht] at h
    split at h <;> simp_all
    obtain ⟨hl, xs, hp, hd⟩ := h
    have hlen := mapM_some_length hp
    rw [List.length_range] at hlen
    refine ⟨m, fun i hi => ?_⟩
    have := mapM_some_get hp i i (by simp [hi])
    rw [List.getElem?_eq_getElem (by omega)] at this
    exact ⟨_, _, this⟩

set_option maxRecDepth 100000 in
theorem part_of {H : Type} {enc : TypeId × Value → H} {w : World} {base m : Nat} {r : List Value} {d : DataW H × List MemPlace} (hd : DataW.trod enc Try.prog w base (fun _ => true) true m 77 r = some d) :
    ∃ p : Part, r = p.cells ∧ p.ok := by
  obtain ⟨xs, n, _, _, hlen, hxs, hf⟩ := DataW.trod_struct Try.underlying77 hd
  have hC : Try.prog.cellsOf 77 = 9 := by kernel_rfl
  rw [hC] at hlen
  match r, hlen, xs, hxs with
  | [c0, c1, c2, c3, c4, c5, c6, c7, c8], _, [y0, y1, y2, y3, y4, y5], _ =>
    have ki : Try.prog.cellsOf 3 = 1 := by kernel_rfl
    have ka : Try.prog.cellsOf 75 = 4 := by kernel_rfl
    have kb : Try.prog.cellsOf 74 = 1 := by kernel_rfl
    have g0 := hf 0 _ rfl
    have g1 := hf 1 _ rfl
    have g2 := hf 2 _ rfl
    have g3 := hf 3 _ rfl
    have g4 := hf 4 _ rfl
    have g5 := hf 5 _ rfl
    simp only [ki, ka, List.drop_zero, List.drop_succ_cons, List.take_succ_cons, List.take_zero, List.take_nil, List.getElem?_cons_zero, List.getElem?_cons_succ] at g0 g1 g2 g3 g4 g5
    obtain ⟨_, k, ha⟩ := trod_array Try.underlying75 g5
    obtain ⟨d0, h0⟩ := ha 0 (by omega)
    obtain ⟨d1, h1⟩ := ha 1 (by omega)
    obtain ⟨d2, h2⟩ := ha 2 (by omega)
    obtain ⟨d3, h3⟩ := ha 3 (by omega)
    simp only [kb, Nat.zero_mul, Nat.one_mul, Nat.mul_one, List.drop_zero, List.drop_succ_cons, List.take_succ_cons, List.take_zero] at h0 h1 h2 h3
    obtain ⟨a0, rfl, w0⟩ := cell_int (q := .i64) Try.underlying3 g0
    obtain ⟨a1, rfl, w1⟩ := cell_int (q := .i64) Try.underlying3 g1
    obtain ⟨a2, rfl, w2⟩ := cell_int (q := .i64) Try.underlying3 g2
    obtain ⟨a3, rfl, w3⟩ := cell_int (q := .i64) Try.underlying3 g3
    obtain ⟨a4, rfl, w4⟩ := cell_int (q := .i64) Try.underlying3 g4
    obtain ⟨b0, rfl, v0⟩ := cell_int (q := .u8) Try.underlying74 h0
    obtain ⟨b1, rfl, v1⟩ := cell_int (q := .u8) Try.underlying74 h1
    obtain ⟨b2, rfl, v2⟩ := cell_int (q := .u8) Try.underlying74 h2
    obtain ⟨b3, rfl, v3⟩ := cell_int (q := .u8) Try.underlying74 h3
    exact ⟨⟨a0, a1, a2, a3, a4, b0, b1, b2, b3⟩, rfl, ⟨i64_of_wf w0, i64_of_wf w1, i64_of_wf w2, i64_of_wf w3, i64_of_wf w4, u8_of_wf v0, u8_of_wf v1, u8_of_wf v2, u8_of_wf v3⟩⟩

set_option maxRecDepth 100000 in
theorem port_of {H : Type} {enc : TypeId × Value → H} {w : World} {base m : Nat} {r : List Value} {d : DataW H × List MemPlace} (hd : DataW.trod enc Try.prog w base (fun _ => true) true m 33 r = some d) :
    ∃ p : Port, r = p.cells ∧ p.ok := by
  obtain ⟨xs, n, _, _, hlen, hxs, hf⟩ := DataW.trod_struct Try.underlying33 hd
  have hC : Try.prog.cellsOf 33 = 6 := by kernel_rfl
  rw [hC] at hlen
  match r, hlen, xs, hxs with
  | [c0, c1, c2, c3, c4, c5], _, [y0, y1, y2, y3, y4, y5], _ =>
    have ki : Try.prog.cellsOf 3 = 1 := by kernel_rfl
    have ka : Try.prog.cellsOf 31 = 1 := by kernel_rfl
    have kb : Try.prog.cellsOf 4 = 1 := by kernel_rfl
    have g0 := hf 0 _ rfl
    have g1 := hf 1 _ rfl
    have g2 := hf 2 _ rfl
    have g3 := hf 3 _ rfl
    have g4 := hf 4 _ rfl
    have g5 := hf 5 _ rfl
    simp only [ki, ka, kb, List.drop_zero, List.drop_succ_cons, List.take_succ_cons, List.take_zero, List.take_nil, List.getElem?_cons_zero, List.getElem?_cons_succ] at g0 g1 g2 g3 g4 g5
    obtain ⟨a0, rfl, w0⟩ := cell_int (q := .i64) Try.underlying3 g0
    obtain ⟨a1, rfl, w1⟩ := cell_int (q := .u8) Try.underlying31 g1
    obtain ⟨a2, h2, _⟩ := DataW.trod_bool Try.underlying4 g2
    obtain ⟨a3, rfl, w3⟩ := cell_int (q := .i64) Try.underlying3 g3
    obtain ⟨a4, rfl, w4⟩ := cell_int (q := .i64) Try.underlying3 g4
    obtain ⟨a5, rfl, w5⟩ := cell_int (q := .i64) Try.underlying3 g5
    obtain rfl : c2 = .bool a2 := by injection h2
    exact ⟨⟨a0, a1, a2, a3, a4, a5⟩, rfl, ⟨i64_of_wf w0, u8_of_wf w1, i64_of_wf w3, i64_of_wf w4, i64_of_wf w5⟩⟩

set_option maxRecDepth 100000 in
theorem route_of {H : Type} {enc : TypeId × Value → H} {w : World} {base m : Nat} {r : List Value} {d : DataW H × List MemPlace} (hd : DataW.trod enc Try.prog w base (fun _ => true) true m 79 r = some d) :
    ∃ p : Route, r = p.cells ∧ p.ok := by
  obtain ⟨xs, n, _, _, hlen, hxs, hf⟩ := DataW.trod_struct Try.underlying79 hd
  have hC : Try.prog.cellsOf 79 = 2 := by kernel_rfl
  rw [hC] at hlen
  match r, hlen, xs, hxs with
  | [c0, c1], _, [y0, y1], _ =>
    have ki : Try.prog.cellsOf 3 = 1 := by kernel_rfl
    have g0 := hf 0 _ rfl
    have g1 := hf 1 _ rfl
    simp only [ki, List.drop_zero, List.drop_succ_cons, List.take_succ_cons, List.take_zero, List.take_nil, List.getElem?_cons_zero, List.getElem?_cons_succ] at g0 g1
    obtain ⟨a0, rfl, w0⟩ := cell_int (q := .i64) Try.underlying3 g0
    obtain ⟨a1, rfl, w1⟩ := cell_int (q := .i64) Try.underlying3 g1
    exact ⟨⟨a0, a1⟩, rfl, ⟨i64_of_wf w0, i64_of_wf w1⟩⟩

theorem list_of {H : Type} {enc : TypeId × Value → H} {w : World} {base fuel : Nat} {t e : TypeId} {v : Value} {x : DataW H × List MemPlace} {α : Type} {g : α → List Value} {p : α → Prop} {sz : Nat} (ht : Try.prog.underlying t = some (.slice e)) (hsz : Try.prog.cellsOf e = sz) (h0 : 0 < sz)
    (hg : ∀ m r d, DataW.trod enc Try.prog w base (fun _ => true) true m e r = some d → ∃ x, r = g x ∧ p x) (h : DataW.trod enc Try.prog w base (fun _ => true) true fuel t [v] = some x) :
    ∃ l : List α, Rd w (fun _ => 0) v sz l.length (l.flatMap g) ∧ ∀ x ∈ l, p x := by
  obtain ⟨rows, hrd, hrow⟩ := open_rd ht (by rw [hsz]; exact h0) h
  rw [hsz] at hrd hrow
  obtain ⟨l, h1, h2, h3⟩ := rows_of (g := g) (p := p) rows (fun r hr => by
    obtain ⟨_, m, d, hd⟩ := hrow r hr
    exact hg m r d hd)
  rw [h1, h2] at hrd
  exact ⟨l, hrd, h3⟩

set_option maxRecDepth 100000 in
theorem cfg_of {H : Type} {enc : TypeId × Value → H} {w : World} {base m : Nat} {r : List Value} {d : DataW H × List MemPlace} (hd : DataW.trod enc Try.prog w base (fun _ => true) true m 28 r = some d) :
    ∃ (c : Cfg) (pv qv rv : Value), r = c.cells pv qv rv ∧ c.ok ∧ Lists w (fun _ => 0) c pv qv rv := by
  obtain ⟨xs, n, _, _, hlen, hxs, hf⟩ := DataW.trod_struct Try.underlying28 hd
  have hC : Try.prog.cellsOf 28 = 11 := by kernel_rfl
  rw [hC] at hlen
  match r, hlen, xs, hxs with
  | [c0, c1, c2, c3, c4, c5, c6, c7, c8, c9, c10], _, [y0, y1, y2, y3, y4, y5, y6, y7, y8, y9, y10], _ =>
    have ki : Try.prog.cellsOf 3 = 1 := by kernel_rfl
    have kp : Try.prog.cellsOf 24 = 1 := by kernel_rfl
    have kq : Try.prog.cellsOf 25 = 1 := by kernel_rfl
    have kr : Try.prog.cellsOf 26 = 1 := by kernel_rfl
    have g0 := hf 0 _ rfl
    have g1 := hf 1 _ rfl
    have g2 := hf 2 _ rfl
    have g3 := hf 3 _ rfl
    have g4 := hf 4 _ rfl
    have g5 := hf 5 _ rfl
    have g6 := hf 6 _ rfl
    have g7 := hf 7 _ rfl
    have g8 := hf 8 _ rfl
    have g9 := hf 9 _ rfl
    have g10 := hf 10 _ rfl
    simp only [ki, kp, kq, kr, List.drop_zero, List.drop_succ_cons, List.take_succ_cons, List.take_zero, List.take_nil, List.getElem?_cons_zero, List.getElem?_cons_succ] at g0 g1 g2 g3 g4 g5 g6 g7 g8 g9 g10
    obtain ⟨a0, rfl, w0⟩ := cell_int (q := .i64) Try.underlying3 g0
    obtain ⟨a1, rfl, w1⟩ := cell_int (q := .i64) Try.underlying3 g1
    obtain ⟨a2, rfl, w2⟩ := cell_int (q := .i64) Try.underlying3 g2
    obtain ⟨a3, rfl, w3⟩ := cell_int (q := .i64) Try.underlying3 g3
    obtain ⟨a4, rfl, w4⟩ := cell_int (q := .i64) Try.underlying3 g4
    obtain ⟨a5, rfl, w5⟩ := cell_int (q := .i64) Try.underlying3 g5
    obtain ⟨a6, rfl, w6⟩ := cell_int (q := .i64) Try.underlying3 g6
    obtain ⟨a7, rfl, w7⟩ := cell_int (q := .i64) Try.underlying3 g7
    obtain ⟨lp, hp1, hp2⟩ := list_of (g := Part.cells) (p := Part.ok) Try.underlying24 (show Try.prog.cellsOf 77 = 9 by kernel_rfl) (by omega) (fun m r d h => part_of h) g8
    obtain ⟨lq, hq1, hq2⟩ := list_of (g := Port.cells) (p := Port.ok) Try.underlying25 (show Try.prog.cellsOf 33 = 6 by kernel_rfl) (by omega) (fun m r d h => port_of h) g9
    obtain ⟨lr, hr1, hr2⟩ := list_of (g := Route.cells) (p := Route.ok) Try.underlying26 (show Try.prog.cellsOf 79 = 2 by kernel_rfl) (by omega) (fun m r d h => route_of h) g10
    exact ⟨⟨a0, a1, a2, a3, a4, a5, a6, a7, lp, lq, lr⟩, c8, c9, c10, rfl, ⟨i64_of_wf w0, i64_of_wf w1, i64_of_wf w2, i64_of_wf w3, i64_of_wf w4, i64_of_wf w5, i64_of_wf w6, i64_of_wf w7, hp2, hq2, hr2⟩, ⟨hp1, hq1, hr1⟩⟩
end Go.Proofs.Ytogfbeibpfdleaa
