/- PaceTurns: for all arguments the call returns true, and the arguments read as before. No condition. -/
import Derived.Test.YtnmhfdkmiblknaaOpenCfg
import Derived.Test.YtnmhfdkmiblknaaTurnsD
import Derived.Test.YtnmhfdkmiblknaaRows
set_option linter.unusedSimpArgs false
set_option linter.unusedVariables false
namespace Go.Proofs.Ytnmhfdkmiblknaa
open Go.ChangeShapes Go.WideShapes Go.ChangeAt Go.RowKit Go.Deep

structure WhoT where
  me : Int
  since : Int
  rate : Int
  cold : Bool
def WhoT.cells (p : WhoT) : List Value := [.int .i64 p.me, .int .i64 p.since, .int .i64 p.rate, .bool p.cold]
def WhoT.ok (p : WhoT) : Prop := I64 p.me ∧ I64 p.since ∧ I64 p.rate
set_option maxRecDepth 100000 in
theorem who_of {H : Type} {enc : TypeId × Value → H} {w : World} {base m : Nat} {r : List Value} {d : DataW H × List MemPlace} (hd : DataW.trod enc Try.prog w base (fun _ => true) true m 45 r = some d) :
    ∃ p : WhoT, r = p.cells ∧ p.ok := by
  obtain ⟨xs, n, _, _, hlen, hxs, hf⟩ := DataW.trod_struct Try.underlying45 hd
  have hC : Try.prog.cellsOf 45 = 4 := by kernel_rfl
  rw [hC] at hlen
  match r, hlen, xs, hxs with
  | [c0, c1, c2, c3], _, [y0, y1, y2, y3], _ =>
    have q0 : Try.prog.cellsOf 3 = 1 := by kernel_rfl
    have q1 : Try.prog.cellsOf 4 = 1 := by kernel_rfl
    have g0 := hf 0 _ rfl
    have g1 := hf 1 _ rfl
    have g2 := hf 2 _ rfl
    have g3 := hf 3 _ rfl
    simp only [q0, q1, List.drop_zero, List.drop_succ_cons, List.take_succ_cons, List.take_zero, List.take_nil, List.getElem?_cons_zero, List.getElem?_cons_succ] at g0 g1 g2 g3
    obtain ⟨a0, rfl, w0⟩ := cell_int (q := .i64) Try.underlying3 g0
    obtain ⟨a1, rfl, w1⟩ := cell_int (q := .i64) Try.underlying3 g1
    obtain ⟨a2, rfl, w2⟩ := cell_int (q := .i64) Try.underlying3 g2
    obtain ⟨a3, h3, _⟩ := DataW.trod_bool Try.underlying4 g3
    obtain rfl : c3 = .bool a3 := by injection h3
    exact ⟨⟨a0, a1, a2, a3⟩, rfl, ⟨i64_of_wf w0, i64_of_wf w1, i64_of_wf w2⟩⟩
set_option maxRecDepth 100000 in
theorem heard_of {H : Type} {enc : TypeId × Value → H} {w : World} {base m : Nat} {r : List Value} {d : DataW H × List MemPlace} (hd : DataW.trod enc Try.prog w base (fun _ => true) true m 55 r = some d) :
    ∃ p : Int × Int, r = [.int .i64 p.1, .int .i64 p.2] ∧ True := by
  obtain ⟨xs, n, _, _, hlen, hxs, hf⟩ := DataW.trod_struct Try.underlying55 hd
  have hC : Try.prog.cellsOf 55 = 2 := by kernel_rfl
  rw [hC] at hlen
  match r, hlen, xs, hxs with
  | [c0, c1], _, [y0, y1], _ =>
    have q0 : Try.prog.cellsOf 3 = 1 := by kernel_rfl
    have g0 := hf 0 _ rfl
    have g1 := hf 1 _ rfl
    simp only [q0, List.drop_zero, List.drop_succ_cons, List.take_succ_cons, List.take_zero, List.take_nil, List.getElem?_cons_zero, List.getElem?_cons_succ] at g0 g1
    obtain ⟨a0, rfl, w0⟩ := cell_int (q := .i64) Try.underlying3 g0
    obtain ⟨a1, rfl, w1⟩ := cell_int (q := .i64) Try.underlying3 g1
    exact ⟨(a0, a1), rfl, trivial⟩

set_option maxRecDepth 100000 in
theorem turns_lifted (os : Os) (started : os.Started) (H : Type) (enc : TypeId × Value → H) :
    ReturnsInHanded {} Try.checked os 4 .any (Rows.paceTurnsSpec.pre6 enc Try.prog Try.f4 Rows.paceTurnsRow.domain false) (Rows.paceTurnsSpec.post enc Try.prog Try.f4 false true false false) := by
  refine lifted_of os started H enc 4 Try.f4 Rows.paceTurnsSpec Try.func4 (by kernel_rfl) rfl rfl (by kernel_rfl) ?_
    (ChangeSpec.witness6 (enc := enc) (C := Try.checked) false ⟨#[], #[.agg #[.int .i64 0, .int .i64 0, .int .i64 0, .int .i64 0, .int .i64 0, .int .i64 0, .int .i64 0, .int .i64 0, .slice none 0 0, .slice none 0 0, .slice none 0 0], .agg #[.int .i64 0, .int .i64 0, .int .i64 0, .bool false], .slice none 0 0], []⟩ 8 (by kernel_rfl) (by kernel_rfl) (by kernel_rfl) (by kernel_rfl)) ?_
  · intro ds hds
    match ds, hds with
    | [d0, d1, d2], _ => rfl
  · intro W args ds ps hval hA hsz
    rw [Try.params4] at hA hval
    obtain ⟨v0, v1, v2, d0, d1, d2, p0, p1, p2, rfl, rfl, rfl, h0, h1, h2⟩ := trodAll_three hA
    obtain ⟨b0, k0⟩ := hval 0 26 v0 rfl rfl
    obtain ⟨b1, k1⟩ := hval 1 45 v1 rfl rfl
    obtain ⟨b2, k2⟩ := hval 2 46 v2 rfl rfl
    obtain ⟨cs0, rfl, _⟩ := okWide_struct Try.underlying26 k0
    obtain ⟨fu0, hf0⟩ := h0
    obtain ⟨c, pv, qv, rv, hcs0, hok, hl⟩ := cfg_of hf0
    have hv0 : (.agg cs0 : Value) = c.v pv qv rv := by
      have : cs0 = (c.cells pv qv rv).toArray := by
        have h' : cs0.toList = c.cells pv qv rv := hcs0
        rw [← h', Array.toArray_toList]
      rw [this]
      rfl
    rw [hv0]
    obtain ⟨cs1, rfl, _⟩ := okWide_struct Try.underlying45 k1
    obtain ⟨fu1, hf1⟩ := h1
    obtain ⟨p, hcp, _⟩ := who_of hf1
    have hv1 : (.agg cs1 : Value) = .agg #[.int .i64 p.me, .int .i64 p.since, .int .i64 p.rate, .bool p.cold] := by
      have h' : cs1.toList = p.cells := hcp
      rw [show cs1 = p.cells.toArray by rw [← h', Array.toArray_toList]]
      rfl
    rw [hv1]
    obtain ⟨a2, n2, m2, rfl⟩ := okWide_slice Try.underlying46 k2
    obtain ⟨fu2, hf2⟩ := h2
    obtain ⟨l, hrd, _⟩ := list_of (g := fun x : Int × Int => [Value.int .i64 x.1, Value.int .i64 x.2]) (p := fun _ => True) Try.underlying46 (show Try.prog.cellsOf 55 = 2 by kernel_rfl) (by omega) (fun m r d h => heard_of h) hf2
    exact turns_walk c hok pv qv rv p.me p.since p.rate p.cold l _ W hl hrd

theorem turns_holds : Rows.PaceTurnsSaid :=
  OpenClaim.holds_of_wide 4 Try.f4 rfl rfl rfl rfl rfl rfl rfl ⟨rfl, rfl, rfl, rfl, rfl⟩ rfl rfl rfl rfl rfl (by kernel_rfl) Try.func4 (by kernel_rfl)
    (of_decide_eq_true (by kernel_rfl)) (by unfold Func.isWrapper; first | (rw [if_pos (by decide +kernel)]; kernel_rfl) | (rw [if_neg (by decide +kernel)]; exact ⟨rfl, rfl⟩))
    (fun os started H enc _ => turns_lifted os started H enc)
#print axioms turns_holds
end Go.Proofs.Ytnmhfdkmiblknaa
