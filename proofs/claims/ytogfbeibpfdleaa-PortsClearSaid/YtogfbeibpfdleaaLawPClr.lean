/- PortsClear: for all arguments the call returns true, and the arguments read as before. No condition. -/
import Derived.Test.YtogfbeibpfdleaaOpenW
import Derived.Test.YtogfbeibpfdleaaPClr
import Derived.Test.YtogfbeibpfdleaaRows
import Derived.Test.YtogfbeibpfdleaaOpenCfg
set_option linter.unusedSimpArgs false
set_option linter.unusedVariables false
namespace Go.Proofs.Ytogfbeibpfdleaa
open Go.ChangeShapes Go.WideShapes Go.ChangeAt Go.RowKit Go.Deep

set_option maxRecDepth 100000 in
theorem msgrow_of {H : Type} {enc : TypeId × Value → H} {w : World} {m : Nat} {r : List Value} {d : DataW H × List MemPlace} (hd : DataW.trod enc Try.prog w 0 (fun _ => true) true m 50 r = some d) (hL : Light 50 d.1) :
    ∃ p : Value × Msg, r = [.int .i64 p.2.port, p.1] ∧ (IsBytes w (fun _ => 0) p.1 p.2.d ∧ p.2.d.length ≤ 140737488355328) := by
  obtain ⟨xs, n, _, hx, hlen, hxs, hf⟩ := DataW.trod_struct Try.underlying50 hd
  have hC : Try.prog.cellsOf 50 = 2 := by kernel_rfl
  rw [hC] at hlen
  match r, hlen, xs, hxs with
  | [c0, c1], _, [y0, y1], _ =>
    have q0 : Try.prog.cellsOf 3 = 1 := by kernel_rfl
    have q1 : Try.prog.cellsOf 40 = 1 := by kernel_rfl
    have g0 := hf 0 _ rfl
    have g1 := hf 1 _ rfl
    simp only [q0, q1, List.drop_zero, List.drop_succ_cons, List.take_succ_cons, List.take_zero, List.take_nil, List.getElem?_cons_zero, List.getElem?_cons_succ] at g0 g1
    obtain ⟨a0, rfl, w0⟩ := cell_int (q := .i64) Try.underlying3 g0
    subst hx
    have hl1 : Light 40 y1.1 := hL.field Try.underlying50 (i := 1) rfl rfl
    obtain ⟨dd, hb, hn⟩ := bytes_of g1 hl1
    exact ⟨(c1, ⟨a0, dd⟩), rfl, hb, by unfold reachBytes at hn; simp only; omega⟩
theorem msgs_of {w : World} : ∀ (l : List (Value × Msg)), (∀ p ∈ l, IsBytes w (fun _ => 0) p.1 p.2.d ∧ p.2.d.length ≤ 140737488355328) → IsMsgs w (fun _ => 0) (l.flatMap fun p : Value × Msg => [.int .i64 p.2.port, p.1]) (l.map fun p : Value × Msg => p.2)
  | [], _ => trivial
  | p :: l, h => by
    have h1 := (h p (by simp)).1
    obtain ⟨a, c, hv, h2⟩ := id h1
    exact ⟨rfl, h1, by rw [hv]; rfl, msgs_of l (fun q hq => h q (by simp [hq]))⟩
theorem msgs_len {w : World} (l : List (Value × Msg)) (h : ∀ p ∈ l, IsBytes w (fun _ => 0) p.1 p.2.d ∧ p.2.d.length ≤ 140737488355328) (i : Nat) (hi : i < (l.map fun p : Value × Msg => p.2).length) : ((l.map fun p : Value × Msg => p.2).getD i default).d.length ≤ 140737488355328 := by
  rw [List.getD_eq_getElem?_getD, List.getElem?_eq_getElem hi, Option.getD_some, List.getElem_map]
  exact (h _ (List.getElem_mem _)).2

set_option maxRecDepth 100000 in
theorem clear_lifted (os : Os) (started : os.Started) (H : Type) (enc : TypeId × Value → H) :
    ReturnsInHanded {} Try.checked os 8 .any (Rows.portsClearSpec.pre6 enc Try.prog Try.f8 Rows.portsClearRow.domain false) (Rows.portsClearSpec.post enc Try.prog Try.f8 false true false false) := by
  refine lifted_of os started H enc 8 Try.f8 Rows.portsClearSpec Try.func8 (by kernel_rfl) rfl rfl (by kernel_rfl) ?_
    (ChangeSpec.witness6 (enc := enc) (C := Try.checked) false ⟨#[], #[.agg #[.int .i64 0, .int .i64 0, .int .i64 0, .int .i64 0, .int .i64 0, .int .i64 0, .int .i64 0, .int .i64 0, .slice none 0 0, .slice none 0 0, .slice none 0 0], .int .i64 0, .int .i64 0, .slice none 0 0], []⟩ 8 (by kernel_rfl) (by kernel_rfl) (by kernel_rfl) (by kernel_rfl)) ?_
  · intro ds hds
    match ds, hds with
    | [d0, d1, d2, d3], _ => rfl
  · intro W args ds ps hval hA hsz
    rw [Try.params8] at hA hval
    obtain ⟨v0, v1, v2, v3, d0, d1, d2, d3, p0, p1, p2, p3, rfl, rfl, rfl, h0, h1, h2, h3⟩ := trodAll_four hA
    obtain ⟨b0, k0⟩ := hval 0 28 v0 rfl rfl
    obtain ⟨b1, k1⟩ := hval 1 3 v1 rfl rfl
    obtain ⟨b2, k2⟩ := hval 2 3 v2 rfl rfl
    obtain ⟨b3, k3⟩ := hval 3 43 v3 rfl rfl
    obtain ⟨cs0, rfl, _⟩ := okWide_struct Try.underlying28 k0
    obtain ⟨fu0, hf0⟩ := h0
    obtain ⟨c, pv, qv, rv, hcs0, hok, hl⟩ := cfg_of hf0
    have hv0 : (.agg cs0 : Value) = c.v pv qv rv := by
      have : cs0 = (c.cells pv qv rv).toArray := by
        have h' : cs0.toList = c.cells pv qv rv := hcs0
        rw [← h', Array.toArray_toList]
      rw [this]
      rfl
    rw [hv0]
    obtain ⟨z1, rfl, rfl, rfl, wf1⟩ := open_int Try.underlying3 k1 h1
    obtain ⟨z2, rfl, rfl, rfl, wf2⟩ := open_int Try.underlying3 k2 h2
    obtain ⟨a3, n3, m3, rfl⟩ := okWide_slice Try.underlying43 k3
    obtain ⟨fu3, hf3⟩ := h3
    obtain ⟨l3, hi3, _, hlk3⟩ := list_ofw (g := fun p : Value × Msg => [.int .i64 p.2.port, p.1]) (p := fun p : Value × Msg => IsBytes W (fun _ => 0) p.1 p.2.d ∧ p.2.d.length ≤ 140737488355328) Try.underlying43 (show Try.prog.cellsOf 50 = 2 by kernel_rfl) (by omega) (fun m r d h hL => msgrow_of h hL) hf3 (Light.of_each hsz (j := 3) rfl rfl)
    rw [show l3.length = (l3.map fun p : Value × Msg => p.2).length by simp] at hi3
    exact clear_walk c hok pv qv rv z1 z2 (i64_of_wf wf1) (i64_of_wf wf2) _ _ (l3.map fun p => p.2) W hl hi3 (msgs_of l3 hlk3) (msgs_len l3 hlk3)

theorem clear_holds : Rows.PortsClearSaid :=
  OpenClaim.holds_of_wide 8 Try.f8 rfl rfl rfl rfl rfl rfl rfl ⟨rfl, rfl, rfl, rfl, rfl⟩ rfl rfl rfl rfl rfl (by kernel_rfl) Try.func8 (by kernel_rfl)
    (of_decide_eq_true (by kernel_rfl)) (by unfold Func.isWrapper; first | (rw [if_pos (by decide +kernel)]; kernel_rfl) | (rw [if_neg (by decide +kernel)]; exact ⟨rfl, rfl⟩))
    (fun os started H enc _ => clear_lifted os started H enc)
#print axioms clear_holds
end Go.Proofs.Ytogfbeibpfdleaa
