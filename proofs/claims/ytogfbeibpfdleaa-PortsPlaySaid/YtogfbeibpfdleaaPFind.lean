/- Package ports: find. No condition but that the tables work. -/
import Derived.Test.YtogfbeibpfdleaaPorts
set_option linter.unusedSimpArgs false
set_option linter.unusedVariables false
namespace Go.Proofs.Ytogfbeibpfdleaa
open Go.RowKit Go.Maps

set_option maxRecDepth 100000 in
set_option maxHeartbeats 4000000 in
theorem find_neg (c : Cfg) (hg : Good c) (C : Nat → Nat) (k b ab : Nat) (pv qv rv : Value) (node part port : Int) (out : Bool) (lv : Nat → Value) (st : List PSt) (w : World) (h : IsPorts w C k b ab c pv qv rv node lv st) (h1 : port < 0) :
    Calls Try.prog 38 #[.pointer (some ⟨b, 0, none⟩), .int .i64 part, .int .i64 port, .bool out] w fun e w' => ∃ ev, e = .returned ev ∧ Below w.heap.size w w' ∧ ErrO w w' ev (some (17, if port < -1 then -1 else port)) := by
  obtain ⟨c8, c9, _, c11, c12⟩ := h.cells
  rw [h.len] at c12
  have hnq := hg.nq
  have hnp := hg.np
  have b0 : decide (port < 0) = true := decide_eq_true h1
  generalize hpl : (if port < -1 then -1 else port) = pl
  have HPL := hid_ hpl
  clear hpl
  go_enter Try.func38, Try.ntmps38
  go_wp2
  refine wp_region_quiet_lit (by kernel_rfl) (by kernel_rfl) ?_
  repeat (go_big_quiet_step (fail))
  refine wpQuiet_nil ?_
  intro _ hw'
  obtain ⟨nq, hw''⟩ := hw'
  subst hw''
  go_wp2_with fail
  refine (faultNew 17 port _ (by decide)).mono ?_
  rw [HPL.out]
  rintro e w1 ⟨fb, rfl, hw1, hge, hB⟩
  clear c8 c9 c11 c12
  go_wp2
  go_ret
  exact ⟨_, rfl, ⟨hw1.os, hw1.tape, hw1.output, hw1.size, hw1.block⟩, fb, rfl, hge, hB⟩

set_option maxRecDepth 100000 in
set_option maxHeartbeats 4000000 in
theorem find_big (c : Cfg) (hg : Good c) (C : Nat → Nat) (k b ab : Nat) (pv qv rv : Value) (node part : Int) (j : Nat) (out : Bool) (lv : Nat → Value) (st : List PSt) (w : World) (h : IsPorts w C k b ab c pv qv rv node lv st) (h2 : c.ports.length ≤ j) :
    Calls Try.prog 38 #[.pointer (some ⟨b, 0, none⟩), .int .i64 part, .int .i64 (j : Int), .bool out] w fun e w' => ∃ ev, e = .returned ev ∧ Below w.heap.size w w' ∧ ErrO w w' ev (some (17, (j : Int))) := by
  obtain ⟨c8, c9, _, c11, c12⟩ := h.cells
  rw [h.len] at c12
  have hnq := hg.nq
  have hnp := hg.np
  have b0 : decide ((j : Int) < 0) = false := decide_eq_false (by omega)
  have b1 : decide ((c.ports.length : Int) ≤ (j : Int)) = true := decide_eq_true (by omega)
  have hj0 : (0 : Int) ≤ (j : Int) := Int.natCast_nonneg _
  go_enter Try.func38, Try.ntmps38
  go_wp2
  refine wp_region_quiet_lit (by kernel_rfl) (by kernel_rfl) ?_
  repeat (go_big_quiet_step (fail))
  refine wpQuiet_nil ?_
  intro _ hw'
  obtain ⟨nq, hw''⟩ := hw'
  subst hw''
  go_wp2_with fail
  refine (faultNew 17 j _ (by decide)).mono ?_
  rw [if_neg (show ¬ (j : Int) < -1 by omega)]
  rintro e w1 ⟨fb, rfl, hw1, hge, hB⟩
  clear c8 c9 c11 c12
  go_wp2
  go_ret
  exact ⟨_, rfl, ⟨hw1.os, hw1.tape, hw1.output, hw1.size, hw1.block⟩, fb, rfl, hge, hB⟩

set_option maxRecDepth 100000 in
set_option maxHeartbeats 4000000 in
theorem find_part (c : Cfg) (hg : Good c) (C : Nat → Nat) (k b ab : Nat) (pv qv rv : Value) (node part : Int) (j : Nat) (out : Bool) (lv : Nat → Value) (st : List PSt) (w : World) (h : IsPorts w C k b ab c pv qv rv node lv st) (hj : j < c.ports.length) (h3 : (c.port j).part ≠ part) :
    Calls Try.prog 38 #[.pointer (some ⟨b, 0, none⟩), .int .i64 part, .int .i64 (j : Int), .bool out] w fun e w' => ∃ ev, e = .returned ev ∧ Below w.heap.size w w' ∧ ErrO w w' ev (some (17, (j : Int))) := by
  obtain ⟨c8, c9, _, c11, c12⟩ := h.cells
  rw [h.len] at c12
  have hnq := hg.nq
  have hnp := hg.np
  have hq := h.lists.ports
  obtain ⟨qa, qc, rfl, hqc, hqm, -⟩ := id hq
  obtain ⟨qb, qo, rfl, _, hcell⟩ := hq.row (fun _ => rfl) hj
  rw [show c.ports.getD j default = c.port j from rfl] at hcell
  have e0 := hcell 0 _ rfl
  have e2 := hcell 2 _ rfl
  simp only [Nat.add_zero] at e0
  have hj0 : (0 : Int) ≤ (j : Int) := Int.natCast_nonneg _
  have hj1 : (j : Int) < (c.ports.length : Int) := by omega
  have b0 : decide ((j : Int) < 0) = false := decide_eq_false (by omega)
  have b1 : decide (c.ports.length ≤ j) = false := decide_eq_false (by omega)
  unfold maxLen at hqm
  clear hcell hq
  have b3 : ((c.port j).part != part) = true := by simpa using h3
  clear h3
  go_enter Try.func38, Try.ntmps38
  go_wp2
  refine wp_region_quiet_lit (by kernel_rfl) (by kernel_rfl) ?_
  repeat (go_big_quiet_step (fail))
  refine wpQuiet_nil ?_
  intro _ hw'
  obtain ⟨nq, hw''⟩ := hw'
  subst hw''
  go_wp2_with fail
  refine (faultNew 17 j _ (by decide)).mono ?_
  rw [if_neg (show ¬ (j : Int) < -1 by omega)]
  rintro e w1 ⟨fb, rfl, hw1, hge, hB⟩
  clear c8 c9 c11 c12 e0 e2
  go_wp2
  go_ret
  exact ⟨_, rfl, ⟨hw1.os, hw1.tape, hw1.output, hw1.size, hw1.block⟩, fb, rfl, hge, hB⟩

end Go.Proofs.Ytogfbeibpfdleaa
