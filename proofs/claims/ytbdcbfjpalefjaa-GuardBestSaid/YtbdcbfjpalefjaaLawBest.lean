/- GuardBest: for all arguments the call returns true, and the arguments read as before. No condition. -/
import Derived.Test.YtbdcbfjpalefjaaOpenCfg
import Derived.Test.YtbdcbfjpalefjaaBest3
import Derived.Test.YtbdcbfjpalefjaaRows
set_option linter.unusedSimpArgs false
set_option linter.unusedVariables false
namespace Go.Proofs.Ytbdcbfjpalefjaa
open Go.ChangeShapes Go.WideShapes Go.ChangeAt Go.RowKit Go.Deep

set_option maxRecDepth 100000 in
theorem bact_of {H : Type} {enc : TypeId × Value → H} {w : World} {m : Nat} {r : List Value} {d : DataW H × List MemPlace} (hd : DataW.trod enc Try.prog w 0 (fun _ => true) true m 57 r = some d) (hL : Light 57 d.1) :
    ∃ p : BAct, r = p.cells ∧ BAct.ok w p := by
  obtain ⟨xs, n, _, hx, hlen, hxs, hf⟩ := DataW.trod_struct Try.underlying57 hd
  have hC : Try.prog.cellsOf 57 = 3 := by kernel_rfl
  rw [hC] at hlen
  match r, hlen, xs, hxs with
  | [c0, c1, c2], _, [y0, y1, y2], _ =>
    have q0 : Try.prog.cellsOf 4 = 1 := by kernel_rfl
    have q1 : Try.prog.cellsOf 3 = 1 := by kernel_rfl
    have q2 : Try.prog.cellsOf 55 = 1 := by kernel_rfl
    have g0 := hf 0 _ rfl
    have g1 := hf 1 _ rfl
    have g2 := hf 2 _ rfl
    simp only [q0, q1, q2, List.drop_zero, List.drop_succ_cons, List.take_succ_cons, List.take_zero, List.take_nil, List.getElem?_cons_zero, List.getElem?_cons_succ] at g0 g1 g2
    obtain ⟨a0, h0, _⟩ := DataW.trod_bool Try.underlying4 g0
    obtain rfl : c0 = .bool a0 := by injection h0
    obtain ⟨a1, rfl, w1⟩ := cell_int (q := .i64) Try.underlying3 g1
    subst hx
    have hl2 : Light 55 y2.1 := hL.field Try.underlying57 (i := 2) rfl rfl
    obtain ⟨dd, hb, hn⟩ := bytes_of g2 hl2
    exact ⟨⟨a0, a1, c2, dd⟩, rfl, ⟨i64_of_wf w1, hb, by unfold reachBytes at hn; simp only; omega⟩⟩

set_option maxRecDepth 100000 in
theorem best_lifted (os : Os) (started : os.Started) (H : Type) (enc : TypeId × Value → H) :
    ReturnsInHanded {} Try.checked os 6 .any (Rows.guardBestSpec.pre6 enc Try.prog Try.f6 Rows.guardBestRow.domain false) (Rows.guardBestSpec.post enc Try.prog Try.f6 false true false false) := by
  refine lifted_of os started H enc 6 Try.f6 Rows.guardBestSpec Try.func6 (by kernel_rfl) rfl rfl (by kernel_rfl) ?_
    (ChangeSpec.witness6 (enc := enc) (C := Try.checked) false ⟨#[], #[.agg #[.int .i64 0, .int .i64 0, .int .i64 0, .int .i64 0, .int .i64 0, .int .i64 0, .int .i64 0, .int .i64 0, .slice none 0 0, .slice none 0 0, .slice none 0 0], .slice none 0 0], []⟩ 8 (by kernel_rfl) (by kernel_rfl) (by kernel_rfl) (by kernel_rfl)) ?_
  · intro ds hds
    match ds, hds with
    | [d0, d1], _ => rfl
  · intro W args ds ps hval hA hsz
    rw [Try.params6] at hA hval
    obtain ⟨v0, v1, d0, d1, p0, p1, rfl, rfl, rfl, h0, h1⟩ := trodAll_two hA
    obtain ⟨b0, k0⟩ := hval 0 26 v0 rfl rfl
    obtain ⟨b1, k1⟩ := hval 1 50 v1 rfl rfl
    obtain ⟨cs0, rfl, _⟩ := okWide_struct Try.underlying26 k0
    obtain ⟨fu0, hf0⟩ := h0
    obtain ⟨c, pv, qv, rv, hcs0, hok, hl⟩ := cfg_of hf0
    have hv0 : (.agg cs0 : Value) = c.v pv qv rv := by
      have : cs0 = (c.cells pv qv rv).toArray := by
        have h' : cs0.toList = c.cells pv qv rv := hcs0
        rw [← h', Array.toArray_toList]
      rw [this]
      rfl
    rw [hv0]
    obtain ⟨a1, n1, m1, rfl⟩ := okWide_slice Try.underlying50 k1
    obtain ⟨fu1, hf1⟩ := h1
    obtain ⟨l, hrd, _, hlk⟩ := list_ofw (g := BAct.cells) (p := BAct.ok W) Try.underlying50 (show Try.prog.cellsOf 57 = 3 by kernel_rfl) (by omega) (fun m r d h hL => bact_of h hL) hf1 (Light.of_each hsz (j := 1) rfl rfl)
    exact best_walk c hok l pv qv rv _ W hlk hl hrd

theorem best_holds : Rows.GuardBestSaid :=
  OpenClaim.holds_of_wide 6 Try.f6 rfl rfl rfl rfl rfl rfl rfl ⟨rfl, rfl, rfl, rfl, rfl⟩ rfl rfl rfl rfl rfl (by kernel_rfl) Try.func6 (by kernel_rfl)
    (of_decide_eq_true (by kernel_rfl)) (by unfold Func.isWrapper; first | (rw [if_pos (by decide +kernel)]; kernel_rfl) | (rw [if_neg (by decide +kernel)]; exact ⟨rfl, rfl⟩))
    (fun os started H enc _ => best_lifted os started H enc)
#print axioms best_holds
end Go.Proofs.Ytbdcbfjpalefjaa
