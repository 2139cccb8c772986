/- law06.Long, law06.Works, package guard's New, Due, Come: what they compute. No condition but the tables' own ranges. -/
import Derived.Test.YtogfbeibpfdleaaRef6b
set_option linter.unusedSimpArgs false
set_option linter.unusedVariables false
namespace Go.Proofs.Ytogfbeibpfdleaa
open Go.RowKit Go.Maps

def longB (c : Cfg) : Bool := decide ((40 : Int) < c.parts.length) || decide ((60 : Int) < c.ports.length) || decide ((60 : Int) < c.routes.length)
theorem longB_false {c : Cfg} (h : Good c) : longB c = false := by
  have := h.np
  have := h.nq
  have := h.nr
  unfold longB
  rw [decide_eq_false (by omega), decide_eq_false (by omega), decide_eq_false (by omega)]
  rfl

set_option maxRecDepth 100000 in
theorem law6Long (c : Cfg) (C : Nat → Nat) (pv qv rv : Value) (w : World) (hl : Lists w C c pv qv rv) :
    Calls Try.prog 25 #[c.v pv qv rv] w fun e w' => e = .returned (.bool (longB c)) ∧ Below w.heap.size w w' := by
  obtain ⟨⟨pa, pc, rfl, p1, p2, p3, p4⟩, ⟨qa, qc, rfl, q1, q2, q3, q4⟩, ⟨ra, rc, rfl, r1, r2, r3, r4⟩⟩ := id hl
  unfold maxLen at p2 q2 r2
  have hb := fun o => (Below.refl w.heap.size w).alloc (Nat.le_refl _) o
  clear p3 p4 q3 q4 r3 r4 hl
  unfold Cfg.v
  go_enter Try.func25, Try.ntmps25
  go_wp2
  all_goals go_ret
  all_goals first
    | exact ⟨rfl, hb _⟩
    | exact ⟨congrArg (fun b => Ending.returned (.bool b)) (show true = longB c by symm; unfold longB; simp only [Bool.or_eq_true, decide_eq_true_eq]; omega), hb _⟩
    | exact ⟨congrArg (fun b => Ending.returned (.bool b)) (show decide _ = longB c by unfold longB; rw [Bool.eq_iff_iff]; simp only [Bool.or_eq_true, decide_eq_true_eq]; omega), hb _⟩

theorem sndE_good {c : Cfg} (h : sndE c = none) : Good c := by
  refine Good.of ?_
  unfold sndE at h
  cases ht : tabE c with
  | none => rfl
  | some x => rw [ht] at h; simp at h
theorem refT_none (o : Option (Int × Int)) : (refT o).isEmpty = o.isNone := by
  cases o with
  | none => rfl
  | some x => rw [ne_empty (refT_ne x)]; rfl

set_option maxRecDepth 100000 in
theorem law6Works (c : Cfg) (hok : c.ok) (C : Nat → Nat) (pv qv rv : Value) (w : World) (hl : Lists w C c pv qv rv) (hf : Fin C w) :
    Calls Try.prog 22 #[c.v pv qv rv] w fun e w' => e = .returned (.bool (sndE c).isNone) ∧ Below w.heap.size w w' := by
  unfold Cfg.v
  go_enter Try.func22, Try.ntmps22
  go_upto_region 1 with (fail)
  refine gen_world (fun W => Below w.heap.size w W ∧ Bk W w.heap.size 28 (c.cells pv qv rv)) ⟨(Below.refl w.heap.size w).alloc (Nat.le_refl _) _, Bk.new _ _ _⟩ ?_
  rintro W ⟨hW, hB⟩
  have dc := hB.cfg0
  have hlW : Lists W C c pv qv rv := hl.fr (Fr.of_below hW (fun _ => False)) (fun h => h)
  have hfW : Fin C W := (Fr.of_below hW (fun _ => False)).Fin hf
  go_wp2_with fail
  refine (law6Long c C pv qv rv W hlW).mono ?_
  cases hL : longB c with
  | true =>
    rintro e w1 ⟨rfl, hw1⟩
    have HN := hid_ (show (sndE c).isNone = false by
      cases h : sndE c with
      | none => rw [longB_false (sndE_good h)] at hL; cases hL
      | some x => rfl)
    clear hL
    go_wp2
    go_ret
    exact ⟨by rw [HN.out]; rfl, below_then hW hw1⟩
  | false =>
    rintro e w1 ⟨rfl, hw1⟩
    have hw1' := below_then hW hw1
    have hB1 : Bk w1 w.heap.size 28 (c.cells pv qv rv) := hB.same (hw1.block _ hB.lt)
    clear dc hL
    have dc := hB1.cfg0
    have hl1 : Lists w1 C c pv qv rv := hlW.fr (Fr.of_below hw1 (fun _ => False)) (fun h => h)
    have hf1 : Fin C w1 := (Fr.of_below hw1 (fun _ => False)).Fin hfW
    go_wp2_with fail
    refine (refCheck6 c hok C pv qv rv w1 hl1 hf1).mono ?_
    have HR := hid_ (refT_none (sndE c))
    rintro e w2 ⟨rfl, hw2⟩
    generalize refT (sndE c) = T at *
    cases T with
    | nil =>
      go_wp2
      go_ret
      exact ⟨by rw [← HR.out]; rfl, below_then hw1' hw2⟩
    | cons x T =>
      go_wp2
      go_ret
      exact ⟨by rw [← HR.out]; rfl, below_then hw1' hw2⟩
end Go.Proofs.Ytogfbeibpfdleaa
