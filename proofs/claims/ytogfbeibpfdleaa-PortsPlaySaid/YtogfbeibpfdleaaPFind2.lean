/- Package ports: find. No condition but that the tables work. -/
import Derived.Test.YtogfbeibpfdleaaPorts
set_option linter.unusedSimpArgs false
set_option linter.unusedVariables false
namespace Go.Proofs.Ytogfbeibpfdleaa
open Go.RowKit Go.Maps

set_option maxRecDepth 100000 in
set_option maxHeartbeats 4000000 in
theorem find_node (c : Cfg) (hg : Good c) (C : Nat → Nat) (k b ab : Nat) (pv qv rv : Value) (node : Int) (i j : Nat) (out : Bool) (lv : Nat → Value) (st : List PSt) (w : World) (h : IsPorts w C k b ab c pv qv rv node lv st) (hj : j < c.ports.length) (hi : (c.port j).part = (i : Int)) (hil : i < c.parts.length) (h4 : (c.part i).node ≠ node) :
    Calls Try.prog 38 #[.pointer (some ⟨b, 0, none⟩), .int .i64 (i : Int), .int .i64 (j : Int), .bool out] w fun e w' => ∃ ev, e = .returned ev ∧ Below w.heap.size w w' ∧ ErrO w w' ev (some (17, (j : Int))) := by
  obtain ⟨c8, c9, _, c11, c12⟩ := h.cells
  rw [h.len] at c12
  have hnq := hg.nq
  have hnp := hg.np
  have hq := h.lists.ports
  obtain ⟨qa, qc, rfl, hqc, hqm, -⟩ := id hq
  obtain ⟨qb, qo, rfl, _, hcell⟩ := hq.row (fun _ => rfl) hj
  rw [show c.ports.getD j default = c.port j from rfl] at hcell
  have e0 := hcell 0 _ rfl
  have e2 := hcell 2 _ rfl
  simp only [Nat.add_zero] at e0
  have hj0 : (0 : Int) ≤ (j : Int) := Int.natCast_nonneg _
  have hj1 : (j : Int) < (c.ports.length : Int) := by omega
  have b0 : decide ((j : Int) < 0) = false := decide_eq_false (by omega)
  have b1 : decide (c.ports.length ≤ j) = false := decide_eq_false (by omega)
  unfold maxLen at hqm
  clear hcell hq
  have hp := h.lists.parts
  obtain ⟨pa, pc, rfl, hpc, hpm, -⟩ := id hp
  obtain ⟨pb, po, rfl, _, hcell⟩ := hp.row (fun _ => rfl) hil
  rw [show c.parts.getD i default = c.part i from rfl] at hcell
  have f0 := hcell 0 _ rfl
  simp only [Nat.add_zero] at f0
  have hi0 : (0 : Int) ≤ (i : Int) := Int.natCast_nonneg _
  have hi1 : (i : Int) < (c.parts.length : Int) := by omega
  unfold maxLen at hpm
  rw [hi] at e0
  have HI := hid_ hi
  clear hcell hp hi
  have b4 : ((c.part i).node != node) = true := by simpa using h4
  clear h4
  go_enter Try.func38, Try.ntmps38
  go_wp2
  refine wp_region_quiet_lit (by kernel_rfl) (by kernel_rfl) ?_
  repeat (go_big_quiet_step (fail))
  refine wpQuiet_nil ?_
  intro _ hw'
  obtain ⟨nq, hw''⟩ := hw'
  subst hw''
  go_wp2_with fail
  refine (faultNew 17 j _ (by decide)).mono ?_
  rw [if_neg (show ¬ (j : Int) < -1 by omega)]
  rintro e w1 ⟨fb, rfl, hw1, hge, hB⟩
  clear c8 c9 c11 c12 e0 e2 f0
  go_wp2
  go_ret
  exact ⟨_, rfl, ⟨hw1.os, hw1.tape, hw1.output, hw1.size, hw1.block⟩, fb, rfl, hge, hB⟩

set_option maxRecDepth 100000 in
set_option maxHeartbeats 4000000 in
theorem find_modeT (c : Cfg) (hg : Good c) (C : Nat → Nat) (k b ab : Nat) (pv qv rv : Value) (i j : Nat) (lv : Nat → Value) (st : List PSt) (w : World) (h : IsPorts w C k b ab c pv qv rv (c.part i).node lv st) (hj : j < c.ports.length) (hi : (c.port j).part = (i : Int)) (hil : i < c.parts.length) (ho : (c.port j).out = true) :
    Calls Try.prog 38 #[.pointer (some ⟨b, 0, none⟩), .int .i64 (i : Int), .int .i64 (j : Int), .bool false] w fun e w' => ∃ ev, e = .returned ev ∧ Below w.heap.size w w' ∧ ErrO w w' ev (some (13, (j : Int))) := by
  obtain ⟨c8, c9, _, c11, c12⟩ := h.cells
  rw [h.len] at c12
  have hnq := hg.nq
  have hnp := hg.np
  have hq := h.lists.ports
  obtain ⟨qa, qc, rfl, hqc, hqm, -⟩ := id hq
  obtain ⟨qb, qo, rfl, _, hcell⟩ := hq.row (fun _ => rfl) hj
  rw [show c.ports.getD j default = c.port j from rfl] at hcell
  have e0 := hcell 0 _ rfl
  have e2 := hcell 2 _ rfl
  simp only [Nat.add_zero] at e0
  have hj0 : (0 : Int) ≤ (j : Int) := Int.natCast_nonneg _
  have hj1 : (j : Int) < (c.ports.length : Int) := by omega
  have b0 : decide ((j : Int) < 0) = false := decide_eq_false (by omega)
  have b1 : decide (c.ports.length ≤ j) = false := decide_eq_false (by omega)
  unfold maxLen at hqm
  clear hcell hq
  have hp := h.lists.parts
  obtain ⟨pa, pc, rfl, hpc, hpm, -⟩ := id hp
  obtain ⟨pb, po, rfl, _, hcell⟩ := hp.row (fun _ => rfl) hil
  rw [show c.parts.getD i default = c.part i from rfl] at hcell
  have f0 := hcell 0 _ rfl
  simp only [Nat.add_zero] at f0
  have hi0 : (0 : Int) ≤ (i : Int) := Int.natCast_nonneg _
  have hi1 : (i : Int) < (c.parts.length : Int) := by omega
  unfold maxLen at hpm
  rw [hi] at e0
  have HI := hid_ hi
  clear hcell hp hi
  have b5 : (true != false) = true := rfl
  rw [ho] at e2
  have HO := hid_ ho
  clear ho b5
  go_enter Try.func38, Try.ntmps38
  go_wp2
  refine wp_region_quiet_lit (by kernel_rfl) (by kernel_rfl) ?_
  repeat (go_big_quiet_step (fail))
  refine wpQuiet_nil ?_
  intro _ hw'
  obtain ⟨nq, hw''⟩ := hw'
  subst hw''
  go_wp2_with fail
  refine (faultNew 13 j _ (by decide)).mono ?_
  rw [if_neg (show ¬ (j : Int) < -1 by omega)]
  rintro e w1 ⟨fb, rfl, hw1, hge, hB⟩
  clear c8 c9 c11 c12 e0 e2 f0
  go_wp2
  go_ret
  exact ⟨_, rfl, ⟨hw1.os, hw1.tape, hw1.output, hw1.size, hw1.block⟩, fb, rfl, hge, hB⟩

set_option maxRecDepth 100000 in
set_option maxHeartbeats 4000000 in
theorem find_modeF (c : Cfg) (hg : Good c) (C : Nat → Nat) (k b ab : Nat) (pv qv rv : Value) (i j : Nat) (lv : Nat → Value) (st : List PSt) (w : World) (h : IsPorts w C k b ab c pv qv rv (c.part i).node lv st) (hj : j < c.ports.length) (hi : (c.port j).part = (i : Int)) (hil : i < c.parts.length) (ho : (c.port j).out = false) :
    Calls Try.prog 38 #[.pointer (some ⟨b, 0, none⟩), .int .i64 (i : Int), .int .i64 (j : Int), .bool true] w fun e w' => ∃ ev, e = .returned ev ∧ Below w.heap.size w w' ∧ ErrO w w' ev (some (13, (j : Int))) := by
  obtain ⟨c8, c9, _, c11, c12⟩ := h.cells
  rw [h.len] at c12
  have hnq := hg.nq
  have hnp := hg.np
  have hq := h.lists.ports
  obtain ⟨qa, qc, rfl, hqc, hqm, -⟩ := id hq
  obtain ⟨qb, qo, rfl, _, hcell⟩ := hq.row (fun _ => rfl) hj
  rw [show c.ports.getD j default = c.port j from rfl] at hcell
  have e0 := hcell 0 _ rfl
  have e2 := hcell 2 _ rfl
  simp only [Nat.add_zero] at e0
  have hj0 : (0 : Int) ≤ (j : Int) := Int.natCast_nonneg _
  have hj1 : (j : Int) < (c.ports.length : Int) := by omega
  have b0 : decide ((j : Int) < 0) = false := decide_eq_false (by omega)
  have b1 : decide (c.ports.length ≤ j) = false := decide_eq_false (by omega)
  unfold maxLen at hqm
  clear hcell hq
  have hp := h.lists.parts
  obtain ⟨pa, pc, rfl, hpc, hpm, -⟩ := id hp
  obtain ⟨pb, po, rfl, _, hcell⟩ := hp.row (fun _ => rfl) hil
  rw [show c.parts.getD i default = c.part i from rfl] at hcell
  have f0 := hcell 0 _ rfl
  simp only [Nat.add_zero] at f0
  have hi0 : (0 : Int) ≤ (i : Int) := Int.natCast_nonneg _
  have hi1 : (i : Int) < (c.parts.length : Int) := by omega
  unfold maxLen at hpm
  rw [hi] at e0
  have HI := hid_ hi
  clear hcell hp hi
  have b5 : (false != true) = true := rfl
  rw [ho] at e2
  have HO := hid_ ho
  clear ho b5
  go_enter Try.func38, Try.ntmps38
  go_wp2
  refine wp_region_quiet_lit (by kernel_rfl) (by kernel_rfl) ?_
  repeat (go_big_quiet_step (fail))
  refine wpQuiet_nil ?_
  intro _ hw'
  obtain ⟨nq, hw''⟩ := hw'
  subst hw''
  go_wp2_with fail
  refine (faultNew 13 j _ (by decide)).mono ?_
  rw [if_neg (show ¬ (j : Int) < -1 by omega)]
  rintro e w1 ⟨fb, rfl, hw1, hge, hB⟩
  clear c8 c9 c11 c12 e0 e2 f0
  go_wp2
  go_ret
  exact ⟨_, rfl, ⟨hw1.os, hw1.tape, hw1.output, hw1.size, hw1.block⟩, fb, rfl, hge, hB⟩

end Go.Proofs.Ytogfbeibpfdleaa
