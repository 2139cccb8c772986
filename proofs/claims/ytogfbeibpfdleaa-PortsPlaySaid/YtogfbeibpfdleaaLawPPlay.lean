/- PortsPlay: for all arguments the call returns true, and the arguments read as before. No condition. -/
import Derived.Test.YtogfbeibpfdleaaOpenW
import Derived.Test.YtogfbeibpfdleaaOpenCfg
import Derived.Test.YtogfbeibpfdleaaPPlayK
import Derived.Test.YtogfbeibpfdleaaRows
set_option linter.unusedSimpArgs false
set_option linter.unusedVariables false
namespace Go.Proofs.Ytogfbeibpfdleaa
open Go.ChangeShapes Go.WideShapes Go.ChangeAt Go.RowKit Go.Deep

set_option maxRecDepth 100000 in
theorem msgrow_of {H : Type} {enc : TypeId × Value → H} {w : World} {m : Nat} {r : List Value} {d : DataW H × List MemPlace} (hd : DataW.trod enc Try.prog w 0 (fun _ => true) true m 50 r = some d) (hL : Light 50 d.1) :
    ∃ p : Value × Msg, r = [.int .i64 p.2.port, p.1] ∧ (IsBytes w (fun _ => 0) p.1 p.2.d ∧ p.2.d.length ≤ 140737488355328) := by
  obtain ⟨xs, n, _, hx, hlen, hxs, hf⟩ := DataW.trod_struct Try.underlying50 hd
  have hC : Try.prog.cellsOf 50 = 2 := by kernel_rfl
  rw [hC] at hlen
  match r, hlen, xs, hxs with
  | [c0, c1], _, [y0, y1], _ =>
    have q0 : Try.prog.cellsOf 3 = 1 := by kernel_rfl
    have q1 : Try.prog.cellsOf 40 = 1 := by kernel_rfl
    have g0 := hf 0 _ rfl
    have g1 := hf 1 _ rfl
    simp only [q0, q1, List.drop_zero, List.drop_succ_cons, List.take_succ_cons, List.take_zero, List.take_nil, List.getElem?_cons_zero, List.getElem?_cons_succ] at g0 g1
    obtain ⟨a0, rfl, w0⟩ := cell_int (q := .i64) Try.underlying3 g0
    subst hx
    have hl1 : Light 40 y1.1 := hL.field Try.underlying50 (i := 1) rfl rfl
    obtain ⟨dd, hb, hn⟩ := bytes_of g1 hl1
    exact ⟨(c1, ⟨a0, dd⟩), rfl, hb, by unfold reachBytes at hn; simp only; omega⟩
theorem msgs_of {w : World} : ∀ (l : List (Value × Msg)), (∀ p ∈ l, IsBytes w (fun _ => 0) p.1 p.2.d ∧ p.2.d.length ≤ 140737488355328) → IsMsgs w (fun _ => 0) (l.flatMap fun p : Value × Msg => [.int .i64 p.2.port, p.1]) (l.map fun p : Value × Msg => p.2)
  | [], _ => trivial
  | p :: l, h => by
    have h1 := (h p (by simp)).1
    obtain ⟨a, c, hv, h2⟩ := id h1
    exact ⟨rfl, h1, by rw [hv]; rfl, msgs_of l (fun q hq => h q (by simp [hq]))⟩
theorem msgs_len {w : World} (l : List (Value × Msg)) (h : ∀ p ∈ l, IsBytes w (fun _ => 0) p.1 p.2.d ∧ p.2.d.length ≤ 140737488355328) (i : Nat) (hi : i < (l.map fun p : Value × Msg => p.2).length) : ((l.map fun p : Value × Msg => p.2).getD i default).d.length ≤ 140737488355328 := by
  rw [List.getD_eq_getElem?_getD, List.getElem?_eq_getElem hi, Option.getD_some, List.getElem_map]
  exact (h _ (List.getElem_mem _)).2

set_option maxRecDepth 100000 in
theorem act_of {H : Type} {enc : TypeId × Value → H} {w : World} {m : Nat} {r : List Value} {d : DataW H × List MemPlace} (hd : DataW.trod enc Try.prog w 0 (fun _ => true) true m 68 r = some d) (hL : Light 68 d.1) :
    ∃ a : ActT, r = a.cells ∧ ActOk w (fun _ => 0) a := by
  obtain ⟨xs, n, _, hx, hlen, hxs, hf⟩ := DataW.trod_struct Try.underlying68 hd
  have hC : Try.prog.cellsOf 68 = 6 := by kernel_rfl
  rw [hC] at hlen
  match r, hlen, xs, hxs with
  | [c0, c1, c2, c3, c4, c5], _, [y0, y1, y2, y3, y4, y5], _ =>
    have q0 : Try.prog.cellsOf 3 = 1 := by kernel_rfl
    have q1 : Try.prog.cellsOf 40 = 1 := by kernel_rfl
    have q2 : Try.prog.cellsOf 43 = 1 := by kernel_rfl
    have g0 := hf 0 _ rfl
    have g1 := hf 1 _ rfl
    have g2 := hf 2 _ rfl
    have g3 := hf 3 _ rfl
    have g4 := hf 4 _ rfl
    have g5 := hf 5 _ rfl
    simp only [q0, q1, q2, List.drop_zero, List.drop_succ_cons, List.take_succ_cons, List.take_zero, List.take_nil, List.getElem?_cons_zero, List.getElem?_cons_succ] at g0 g1 g2 g3 g4 g5
    obtain ⟨a0, rfl, w0⟩ := cell_int (q := .i64) Try.underlying3 g0
    obtain ⟨a1, rfl, w1⟩ := cell_int (q := .i64) Try.underlying3 g1
    obtain ⟨a2, rfl, w2⟩ := cell_int (q := .i64) Try.underlying3 g2
    obtain ⟨a3, rfl, w3⟩ := cell_int (q := .i64) Try.underlying3 g3
    subst hx
    have hl4 : Light 40 y4.1 := hL.field Try.underlying68 (i := 4) rfl rfl
    have hl5 : Light 43 y5.1 := hL.field Try.underlying68 (i := 5) rfl rfl
    obtain ⟨dd, hb, hn⟩ := bytes_of g4 hl4
    obtain ⟨l5, hi5, _, hlk5⟩ := list_ofw (g := fun p : Value × Msg => [.int .i64 p.2.port, p.1]) (p := fun p : Value × Msg => IsBytes w (fun _ => 0) p.1 p.2.d ∧ p.2.d.length ≤ 140737488355328) Try.underlying43 (show Try.prog.cellsOf 50 = 2 by kernel_rfl) (by omega) (fun m r d h hL => msgrow_of h hL) g5 hl5
    rw [show l5.length = (l5.map fun p : Value × Msg => p.2).length by simp] at hi5
    exact ⟨⟨a0, a1, a2, a3, c4, dd, c5, l5⟩, rfl, i64_of_wf w1, i64_of_wf w2, i64_of_wf w3, hb, by unfold reachBytes at hn; simp only; omega, hi5, msgs_of l5 hlk5, msgs_len l5 hlk5⟩
theorem pplay_walk (c : Cfg) (hok : c.ok) (pv qv rv : Value) (node : Int) (acts : List ActT) (la : Option Addr) (lc : Nat) (w : World) (hl : Lists w (fun _ => 0) c pv qv rv) (hh : Rd w (fun _ => 0) (.slice la acts.length lc) 6 acts.length (acts.flatMap ActT.cells)) (ha : ∀ a ∈ acts, ActOk w (fun _ => 0) a) :
    Calls Try.prog 9 #[c.v pv qv rv, .int .i64 node, .slice la acts.length lc] w fun e w' => e = .returned (.bool true) ∧ Below w.heap.size w w' := by
  have ha' : ∀ i, i < acts.length → ActOk w (fun _ => 0) (acts.getD i default) := fun i hi => by
    rw [List.getD_eq_getElem?_getD, List.getElem?_eq_getElem hi]
    exact ha _ (List.getElem_mem hi)
  cases hL : longB c with
  | true => exact pplay_a c hok pv qv rv node acts la lc w hl hh ha' hL
  | false =>
    cases hs : sndE c with
    | some x => exact pplay_b c hok pv qv rv node acts la lc w hl hh ha' hL x hs
    | none =>
      by_cases hn : node < 0 ∨ c.nodes ≤ node
      · exact pplay_c c hok pv qv rv node acts la lc w hl hh ha' hL hs hn
      · exact pplay_d c hok pv qv rv node acts la lc w hl hh ha' hL hs hn

set_option maxRecDepth 100000 in
theorem play_lifted (os : Os) (started : os.Started) (H : Type) (enc : TypeId × Value → H) :
    ReturnsInHanded {} Try.checked os 9 .any (Rows.portsPlaySpec.pre6 enc Try.prog Try.f9 Rows.portsPlayRow.domain false) (Rows.portsPlaySpec.post enc Try.prog Try.f9 false true false false) := by
  refine lifted_of os started H enc 9 Try.f9 Rows.portsPlaySpec Try.func9 (by kernel_rfl) rfl rfl (by kernel_rfl) ?_
    (ChangeSpec.witness6 (enc := enc) (C := Try.checked) false ⟨#[], #[.agg #[.int .i64 0, .int .i64 0, .int .i64 0, .int .i64 0, .int .i64 0, .int .i64 0, .int .i64 0, .int .i64 0, .slice none 0 0, .slice none 0 0, .slice none 0 0], .int .i64 0, .slice none 0 0], []⟩ 8 (by kernel_rfl) (by kernel_rfl) (by kernel_rfl) (by kernel_rfl)) ?_
  · intro ds hds
    match ds, hds with
    | [d0, d1, d2], _ => rfl
  · intro W args ds ps hval hA hsz
    rw [Try.params9] at hA hval
    obtain ⟨v0, v1, v2, d0, d1, d2, p0, p1, p2, rfl, rfl, rfl, h0, h1, h2⟩ := trodAll_three hA
    obtain ⟨b0, k0⟩ := hval 0 28 v0 rfl rfl
    obtain ⟨b1, k1⟩ := hval 1 3 v1 rfl rfl
    obtain ⟨b2, k2⟩ := hval 2 61 v2 rfl rfl
    obtain ⟨cs0, rfl, _⟩ := okWide_struct Try.underlying28 k0
    obtain ⟨fu0, hf0⟩ := h0
    obtain ⟨c, pv, qv, rv, hcs0, hok, hl⟩ := cfg_of hf0
    have hv0 : (.agg cs0 : Value) = c.v pv qv rv := by
      have : cs0 = (c.cells pv qv rv).toArray := by
        have h' : cs0.toList = c.cells pv qv rv := hcs0
        rw [← h', Array.toArray_toList]
      rw [this]
      rfl
    rw [hv0]
    obtain ⟨z1, rfl, rfl, rfl, wf1⟩ := open_int Try.underlying3 k1 h1
    obtain ⟨a2, n2, m2, rfl⟩ := okWide_slice Try.underlying61 k2
    obtain ⟨fu2, hf2⟩ := h2
    obtain ⟨l2, hi2, _, hlk2⟩ := list_ofw (g := ActT.cells) (p := fun a : ActT => ActOk W (fun _ => 0) a) Try.underlying61 (show Try.prog.cellsOf 68 = 6 by kernel_rfl) (by omega) (fun m r d h hL => act_of h hL) hf2 (Light.of_each hsz (j := 2) rfl rfl)
    obtain ⟨a3, n3, hv3, _⟩ := id hi2
    cases hv3
    exact pplay_walk c hok pv qv rv z1 l2 _ _ W hl hi2 hlk2

theorem play_holds : Rows.PortsPlaySaid :=
  OpenClaim.holds_of_wide 9 Try.f9 rfl rfl rfl rfl rfl rfl rfl ⟨rfl, rfl, rfl, rfl, rfl⟩ rfl rfl rfl rfl rfl (by kernel_rfl) Try.func9 (by kernel_rfl)
    (of_decide_eq_true (by kernel_rfl)) (by unfold Func.isWrapper; first | (rw [if_pos (by decide +kernel)]; kernel_rfl) | (rw [if_neg (by decide +kernel)]; exact ⟨rfl, rfl⟩))
    (fun os started H enc _ => play_lifted os started H enc)
#print axioms play_holds
end Go.Proofs.Ytogfbeibpfdleaa
