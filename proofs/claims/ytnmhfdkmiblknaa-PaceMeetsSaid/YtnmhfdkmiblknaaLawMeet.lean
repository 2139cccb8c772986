/- PaceMeets: for all arguments the call returns true, and the arguments read as before. No condition. -/
import Derived.Test.YtnmhfdkmiblknaaOpenCfg
import Derived.Test.YtnmhfdkmiblknaaIntsOfE
import Derived.Test.YtnmhfdkmiblknaaMeet
import Derived.Test.YtnmhfdkmiblknaaRows
set_option linter.unusedSimpArgs false
set_option linter.unusedVariables false
namespace Go.Proofs.Ytnmhfdkmiblknaa
open Go.ChangeShapes Go.WideShapes Go.ChangeAt Go.RowKit Go.Deep

theorem trodAll_five {H : Type} {enc : TypeId × Value → H} {P : Program} {w : World} {base : Nat} {spare : Nat → Bool} {held : Bool} {t0 t1 t2 t3 t4 : TypeId} {args : Array Value} {ds : List (DataW H)} {ps : List MemPlace} (h : DataW.TrodAll enc P w base spare held [t0, t1, t2, t3, t4] args.toList ds ps) :
    ∃ v0 v1 v2 v3 v4 d0 d1 d2 d3 d4 p0 p1 p2 p3 p4, args = #[v0, v1, v2, v3, v4] ∧ ds = [d0, d1, d2, d3, d4] ∧ ps = p0 ++ (p1 ++ (p2 ++ (p3 ++ p4))) ∧ DataW.Trod enc P w base spare held t0 v0 d0 p0 ∧ DataW.Trod enc P w base spare held t1 v1 d1 p1 ∧ DataW.Trod enc P w base spare held t2 v2 d2 p2 ∧ DataW.Trod enc P w base spare held t3 v3 d3 p3 ∧ DataW.Trod enc P w base spare held t4 v4 d4 p4 := by
  obtain ⟨v0, vs0, d0, ds0, p0, q0, hargs, rfl, rfl, hd0, h0⟩ := trodAll_cons h
  obtain ⟨v1, vs1, d1, ds1, p1, q1, rfl, rfl, rfl, hd1, h1⟩ := trodAll_cons h0
  obtain ⟨v2, vs2, d2, ds2, p2, q2, rfl, rfl, rfl, hd2, h2⟩ := trodAll_cons h1
  obtain ⟨v3, vs3, d3, ds3, p3, q3, rfl, rfl, rfl, hd3, h3⟩ := trodAll_cons h2
  obtain ⟨v4, vs4, d4, ds4, p4, q4, rfl, rfl, rfl, hd4, h4⟩ := trodAll_cons h3
  obtain ⟨rfl, rfl, rfl⟩ := trodAll_nil h4
  exact ⟨v0, v1, v2, v3, v4, d0, d1, d2, d3, d4, p0, p1, p2, p3, p4, by cases args; simp_all, rfl, by simp, hd0, hd1, hd2, hd3, hd4⟩

theorem okWide_array {P : Program} {w : World} {r : Reach} {base n : Nat} {t e : TypeId} {v : Value} (ht : P.underlying t = some (.array n e)) (h : Value.okWide P w r base t v) : ∃ cs, v = .agg cs ∧ cs.size = P.cellsOf t := by
  simp only [Value.okWide, ht] at h
  obtain ⟨cs, h1, h2, _⟩ := h
  exact ⟨cs, h1, h2⟩
set_option maxRecDepth 100000 in
theorem two_of {H : Type} {enc : TypeId × Value → H} {w : World} {base m : Nat} {r : List Value} {d : DataW H × List MemPlace} (hd : DataW.trod enc Try.prog w base (fun _ => true) true m 28 r = some d) :
    ∃ a b : Int, r = [.int .i64 a, .int .i64 b] := by
  obtain ⟨hl, k, ha⟩ := trod_array Try.underlying28 hd
  have hC : Try.prog.cellsOf 28 = 2 := by kernel_rfl
  have ki : Try.prog.cellsOf 3 = 1 := by kernel_rfl
  rw [hC] at hl
  match r, hl with
  | [x, y], _ =>
    obtain ⟨d0, h0⟩ := ha 0 (by omega)
    obtain ⟨d1, h1⟩ := ha 1 (by omega)
    simp only [ki, Nat.zero_mul, Nat.one_mul, Nat.mul_one, List.drop_zero, List.drop_succ_cons, List.take_succ_cons, List.take_zero] at h0 h1
    obtain ⟨a0, rfl, w0⟩ := cell_int (q := .i64) Try.underlying3 h0
    obtain ⟨a1, rfl, w1⟩ := cell_int (q := .i64) Try.underlying3 h1
    exact ⟨a0, a1, rfl⟩

set_option maxRecDepth 100000 in
theorem meets_lifted (os : Os) (started : os.Started) (H : Type) (enc : TypeId × Value → H) :
    ReturnsInHanded {} Try.checked os 3 .any (Rows.paceMeetsSpec.pre6 enc Try.prog Try.f3 Rows.paceMeetsRow.domain false) (Rows.paceMeetsSpec.post enc Try.prog Try.f3 false true false false) := by
  refine lifted_of os started H enc 3 Try.f3 Rows.paceMeetsSpec Try.func3 (by kernel_rfl) rfl rfl (by kernel_rfl) ?_
    (ChangeSpec.witness6 (enc := enc) (C := Try.checked) false ⟨#[], #[.agg #[.int .i64 0, .int .i64 0, .int .i64 0, .int .i64 0, .int .i64 0, .int .i64 0, .int .i64 0, .int .i64 0, .slice none 0 0, .slice none 0 0, .slice none 0 0], .slice none 0 0, .slice none 0 0, .int .i64 0, .agg #[.int .i64 0, .int .i64 0]], []⟩ 8 (by kernel_rfl) (by kernel_rfl) (by kernel_rfl) (by kernel_rfl)) ?_
  · intro ds hds
    match ds, hds with
    | [d0, d1, d2, d3, d4], _ => rfl
  · intro W args ds ps hval hA hsz
    rw [Try.params3] at hA hval
    obtain ⟨v0, v1, v2, v3, v4, d0, d1, d2, d3, d4, p0, p1, p2, p3, p4, rfl, rfl, rfl, h0, h1, h2, h3, h4⟩ := trodAll_five hA
    obtain ⟨b0, k0⟩ := hval 0 26 v0 rfl rfl
    obtain ⟨b1, k1⟩ := hval 1 27 v1 rfl rfl
    obtain ⟨b2, k2⟩ := hval 2 27 v2 rfl rfl
    obtain ⟨b3, k3⟩ := hval 3 3 v3 rfl rfl
    obtain ⟨b4, k4⟩ := hval 4 28 v4 rfl rfl
    obtain ⟨cs0, rfl, _⟩ := okWide_struct Try.underlying26 k0
    obtain ⟨fu0, hf0⟩ := h0
    obtain ⟨c, pv, qv, rv, hcs0, hok, hl⟩ := cfg_of hf0
    have hv0 : (.agg cs0 : Value) = c.v pv qv rv := by
      have : cs0 = (c.cells pv qv rv).toArray := by
        have h' : cs0.toList = c.cells pv qv rv := hcs0
        rw [← h', Array.toArray_toList]
      rw [this]
      rfl
    rw [hv0]
    obtain ⟨a1, n1, m1, rfl⟩ := okWide_slice Try.underlying27 k1
    obtain ⟨fu1, hf1⟩ := h1
    obtain ⟨l1, hi1, hz1⟩ := ints_of hf1
    obtain ⟨a2, n2, m2, rfl⟩ := okWide_slice Try.underlying27 k2
    obtain ⟨fu2, hf2⟩ := h2
    obtain ⟨l2, hi2, hz2⟩ := ints_of hf2
    obtain ⟨z3, rfl, rfl, rfl, wf3⟩ := open_int Try.underlying3 k3 h3
    obtain ⟨cs4, rfl, _⟩ := okWide_array Try.underlying28 k4
    obtain ⟨fu4, hf4⟩ := h4
    obtain ⟨x0, x1, hcp⟩ := two_of hf4
    have hv4 : (.agg cs4 : Value) = .agg #[.int .i64 x0, .int .i64 x1] := by
      have h' : cs4.toList = [.int .i64 x0, .int .i64 x1] := hcp
      rw [show cs4 = ([.int .i64 x0, .int .i64 x1] : List Value).toArray by rw [← h', Array.toArray_toList]]
    rw [hv4]
    exact meets_walk c hok pv qv rv l1 l2 z3 x0 x1 _ _ W hl hi1 hi2

theorem meets_holds : Rows.PaceMeetsSaid :=
  OpenClaim.holds_of_wide 3 Try.f3 rfl rfl rfl rfl rfl rfl rfl ⟨rfl, rfl, rfl, rfl, rfl⟩ rfl rfl rfl rfl rfl (by kernel_rfl) Try.func3 (by kernel_rfl)
    (of_decide_eq_true (by kernel_rfl)) (by unfold Func.isWrapper; first | (rw [if_pos (by decide +kernel)]; kernel_rfl) | (rw [if_neg (by decide +kernel)]; exact ⟨rfl, rfl⟩))
    (fun os started H enc _ => meets_lifted os started H enc)
#print axioms meets_holds
end Go.Proofs.Ytnmhfdkmiblknaa
