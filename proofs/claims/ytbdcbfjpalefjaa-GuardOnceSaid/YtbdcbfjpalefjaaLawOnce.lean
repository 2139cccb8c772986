/- GuardOnce: for all arguments the call returns true, and the arguments read as before. No condition. -/
import Derived.Test.YtbdcbfjpalefjaaOpenCfg
import Derived.Test.YtbdcbfjpalefjaaOnce
import Derived.Test.YtbdcbfjpalefjaaRows
set_option linter.unusedSimpArgs false
set_option linter.unusedVariables false
namespace Go.Proofs.Ytbdcbfjpalefjaa
open Go.ChangeShapes Go.WideShapes Go.ChangeAt Go.RowKit Go.Deep

set_option maxRecDepth 100000 in
theorem call_of {H : Type} {enc : TypeId × Value → H} {w : World} {base m : Nat} {r : List Value} {d : DataW H × List MemPlace} (hd : DataW.trod enc Try.prog w base (fun _ => true) true m 43 r = some d) :
    ∃ p : Call, r = p.cells ∧ p.ok := by
  obtain ⟨xs, n, _, _, hlen, hxs, hf⟩ := DataW.trod_struct Try.underlying43 hd
  have hC : Try.prog.cellsOf 43 = 2 := by kernel_rfl
  rw [hC] at hlen
  match r, hlen, xs, hxs with
  | [c0, c1], _, [y0, y1], _ =>
    have q0 : Try.prog.cellsOf 3 = 1 := by kernel_rfl
    have g0 := hf 0 _ rfl
    have g1 := hf 1 _ rfl
    simp only [q0, List.drop_zero, List.drop_succ_cons, List.take_succ_cons, List.take_zero, List.take_nil, List.getElem?_cons_zero, List.getElem?_cons_succ] at g0 g1
    obtain ⟨a0, rfl, w0⟩ := cell_int (q := .i64) Try.underlying3 g0
    obtain ⟨a1, rfl, w1⟩ := cell_int (q := .i64) Try.underlying3 g1
    exact ⟨⟨a0, a1⟩, rfl, ⟨i64_of_wf w0, i64_of_wf w1⟩⟩

set_option maxRecDepth 100000 in
theorem once_lifted (os : Os) (started : os.Started) (H : Type) (enc : TypeId × Value → H) :
    ReturnsInHanded {} Try.checked os 5 .any (Rows.guardOnceSpec.pre6 enc Try.prog Try.f5 Rows.guardOnceRow.domain false) (Rows.guardOnceSpec.post enc Try.prog Try.f5 false true false false) := by
  refine lifted_of os started H enc 5 Try.f5 Rows.guardOnceSpec Try.func5 (by kernel_rfl) rfl rfl (by kernel_rfl) ?_
    (ChangeSpec.witness6 (enc := enc) (C := Try.checked) false ⟨#[], #[.agg #[.int .i64 0, .int .i64 0, .int .i64 0, .int .i64 0, .int .i64 0, .int .i64 0, .int .i64 0, .int .i64 0, .slice none 0 0, .slice none 0 0, .slice none 0 0], .slice none 0 0], []⟩ 8 (by kernel_rfl) (by kernel_rfl) (by kernel_rfl) (by kernel_rfl)) ?_
  · intro ds hds
    match ds, hds with
    | [d0, d1], _ => rfl
  · intro W args ds ps hval hA hsz
    rw [Try.params5] at hA hval
    obtain ⟨v0, v1, d0, d1, p0, p1, rfl, rfl, rfl, h0, h1⟩ := trodAll_two hA
    obtain ⟨b0, k0⟩ := hval 0 26 v0 rfl rfl
    obtain ⟨b1, k1⟩ := hval 1 27 v1 rfl rfl
    obtain ⟨cs0, rfl, _⟩ := okWide_struct Try.underlying26 k0
    obtain ⟨fu0, hf0⟩ := h0
    obtain ⟨c, pv, qv, rv, hcs0, hok, hl⟩ := cfg_of hf0
    have hv0 : (.agg cs0 : Value) = c.v pv qv rv := by
      have : cs0 = (c.cells pv qv rv).toArray := by
        have h' : cs0.toList = c.cells pv qv rv := hcs0
        rw [← h', Array.toArray_toList]
      rw [this]
      rfl
    rw [hv0]
    obtain ⟨a1, n1, m1, rfl⟩ := okWide_slice Try.underlying27 k1
    obtain ⟨fu1, hf1⟩ := h1
    obtain ⟨l, hrd, hlk⟩ := list_of (g := Call.cells) (p := Call.ok) Try.underlying27 (show Try.prog.cellsOf 43 = 2 by kernel_rfl) (by omega) (fun m r d h => call_of h) hf1
    exact once_walk c hok l hlk pv qv rv _ W hl hrd

theorem once_holds : Rows.GuardOnceSaid :=
  OpenClaim.holds_of_wide 5 Try.f5 rfl rfl rfl rfl rfl rfl rfl ⟨rfl, rfl, rfl, rfl, rfl⟩ rfl rfl rfl rfl rfl (by kernel_rfl) Try.func5 (by kernel_rfl)
    (of_decide_eq_true (by kernel_rfl)) (by unfold Func.isWrapper; first | (rw [if_pos (by decide +kernel)]; kernel_rfl) | (rw [if_neg (by decide +kernel)]; exact ⟨rfl, rfl⟩))
    (fun os started H enc _ => once_lifted os started H enc)
#print axioms once_holds
end Go.Proofs.Ytbdcbfjpalefjaa
