/- escapementref13.Ports: find and mine. No condition but that the tables work. -/
import Derived.Test.YtogfbeibpfdleaaRPs
import Derived.Test.YtogfbeibpfdleaaPMine
import Derived.Test.YtogfbeibpfdleaaRef5
import Derived.BigQuiet
import Derived.Deep.QuietTactic
set_option linter.unusedSimpArgs false
set_option linter.unusedVariables false
namespace Go.Proofs.Ytogfbeibpfdleaa
open Go.RowKit Go.Maps

set_option maxRecDepth 100000 in
set_option maxHeartbeats 4000000 in
theorem rfind_neg (c : Cfg) (hg : Good c) (C : Nat → Nat) (k b ab : Nat) (pv qv rv : Value) (node part port : Int) (hp : I64 port) (out : Bool) (lv : Nat → Value) (st : List PSt) (w : World) (h : IsRPs w C k b ab c pv qv rv node lv st) (h1 : port < 0) :
    Calls Try.prog 48 #[.pointer (some ⟨b, 0, none⟩), .int .i64 part, .int .i64 port, .bool out] w fun e w' => e = .returned (.string ⟨(refT (some (17, if port < -1 then -1 else port))).toArray⟩) ∧ Below w.heap.size w w' := by
  obtain ⟨c8, c9, _, c11, c12⟩ := h.cells
  rw [h.len] at c12
  have hnq := hg.nq
  have hnp := hg.np
  have b0 : decide (port < 0) = true := decide_eq_true h1
  have hpl : refT (some (17, if port < -1 then -1 else port)) = atT 17 port := by
    show atT 17 _ = _
    unfold atT
    rw [if_pos (show (if port < -1 then -1 else port) < 0 by split <;> omega), if_pos h1]
  rw [hpl]
  clear hpl
  obtain ⟨hp0, hp1⟩ := hp
  go_enter Try.func48, Try.ntmps48
  go_wp2
  refine wp_region_quiet_lit (by kernel_rfl) (by kernel_rfl) ?_
  repeat (go_big_quiet_step (fail))
  refine wpQuiet_nil ?_
  intro _ hw'
  obtain ⟨nq, hw''⟩ := hw'
  subst hw''
  go_wp2_with fail
  refine (refAt_any 17 port (by omega) (by omega) (by omega) (by omega) _).mono ?_
  rintro e w1 ⟨rfl, hw1⟩
  clear c8 c9 c11 c12
  go_wp2
  go_ret
  exact ⟨rfl, ⟨hw1.os, hw1.tape, hw1.output, hw1.size, hw1.block⟩⟩

set_option maxRecDepth 100000 in
set_option maxHeartbeats 4000000 in
theorem rfind_big (c : Cfg) (hg : Good c) (C : Nat → Nat) (k b ab : Nat) (pv qv rv : Value) (node part : Int) (j : Nat) (hj64 : (j : Int) ≤ 9223372036854775807) (out : Bool) (lv : Nat → Value) (st : List PSt) (w : World) (h : IsRPs w C k b ab c pv qv rv node lv st) (h2 : c.ports.length ≤ j) :
    Calls Try.prog 48 #[.pointer (some ⟨b, 0, none⟩), .int .i64 part, .int .i64 (j : Int), .bool out] w fun e w' => e = .returned (.string ⟨(refT (some (17, (j : Int)))).toArray⟩) ∧ Below w.heap.size w w' := by
  obtain ⟨c8, c9, _, c11, c12⟩ := h.cells
  rw [h.len] at c12
  have hnq := hg.nq
  have hnp := hg.np
  have b0 : decide ((j : Int) < 0) = false := decide_eq_false (by omega)
  have b1 : decide ((c.ports.length : Int) ≤ (j : Int)) = true := decide_eq_true (by omega)
  have hj0 : (0 : Int) ≤ (j : Int) := Int.natCast_nonneg _
  go_enter Try.func48, Try.ntmps48
  go_wp2
  refine wp_region_quiet_lit (by kernel_rfl) (by kernel_rfl) ?_
  repeat (go_big_quiet_step (fail))
  refine wpQuiet_nil ?_
  intro _ hw'
  obtain ⟨nq, hw''⟩ := hw'
  subst hw''
  go_wp2_with fail
  refine (refAt_any 17 j (by omega) (by omega) (by omega) (by omega) _).mono ?_
  rintro e w1 ⟨rfl, hw1⟩
  clear c8 c9 c11 c12
  go_wp2
  go_ret
  exact ⟨rfl, ⟨hw1.os, hw1.tape, hw1.output, hw1.size, hw1.block⟩⟩

set_option maxRecDepth 100000 in
set_option maxHeartbeats 4000000 in
theorem rfind_part (c : Cfg) (hg : Good c) (C : Nat → Nat) (k b ab : Nat) (pv qv rv : Value) (node part : Int) (j : Nat) (out : Bool) (lv : Nat → Value) (st : List PSt) (w : World) (h : IsRPs w C k b ab c pv qv rv node lv st) (hj : j < c.ports.length) (h3 : (c.port j).part ≠ part) :
    Calls Try.prog 48 #[.pointer (some ⟨b, 0, none⟩), .int .i64 part, .int .i64 (j : Int), .bool out] w fun e w' => e = .returned (.string ⟨(refT (some (17, (j : Int)))).toArray⟩) ∧ Below w.heap.size w w' := by
  obtain ⟨c8, c9, _, c11, c12⟩ := h.cells
  rw [h.len] at c12
  have hnq := hg.nq
  have hnp := hg.np
  have hq := h.lists.ports
  obtain ⟨qa, qc, rfl, hqc, hqm, -⟩ := id hq
  obtain ⟨qb, qo, rfl, _, hcell⟩ := hq.row (fun _ => rfl) hj
  rw [show c.ports.getD j default = c.port j from rfl] at hcell
  have e0 := hcell 0 _ rfl
  have e2 := hcell 2 _ rfl
  simp only [Nat.add_zero] at e0
  have hj0 : (0 : Int) ≤ (j : Int) := Int.natCast_nonneg _
  have hj1 : (j : Int) < (c.ports.length : Int) := by omega
  have b0 : decide ((j : Int) < 0) = false := decide_eq_false (by omega)
  have b1 : decide (c.ports.length ≤ j) = false := decide_eq_false (by omega)
  unfold maxLen at hqm
  clear hcell hq
  have b3 : ((c.port j).part != part) = true := by simpa using h3
  clear h3
  go_enter Try.func48, Try.ntmps48
  go_wp2
  refine wp_region_quiet_lit (by kernel_rfl) (by kernel_rfl) ?_
  repeat (go_big_quiet_step (fail))
  refine wpQuiet_nil ?_
  intro _ hw'
  obtain ⟨nq, hw''⟩ := hw'
  subst hw''
  go_wp2_with fail
  refine (refAt_any 17 j (by omega) (by omega) (by omega) (by omega) _).mono ?_
  rintro e w1 ⟨rfl, hw1⟩
  clear c8 c9 c11 c12 e0 e2
  go_wp2
  go_ret
  exact ⟨rfl, ⟨hw1.os, hw1.tape, hw1.output, hw1.size, hw1.block⟩⟩

set_option maxRecDepth 100000 in
set_option maxHeartbeats 4000000 in
theorem rfind_node (c : Cfg) (hg : Good c) (C : Nat → Nat) (k b ab : Nat) (pv qv rv : Value) (node : Int) (i j : Nat) (out : Bool) (lv : Nat → Value) (st : List PSt) (w : World) (h : IsRPs w C k b ab c pv qv rv node lv st) (hj : j < c.ports.length) (hi : (c.port j).part = (i : Int)) (hil : i < c.parts.length) (h4 : (c.part i).node ≠ node) :
    Calls Try.prog 48 #[.pointer (some ⟨b, 0, none⟩), .int .i64 (i : Int), .int .i64 (j : Int), .bool out] w fun e w' => e = .returned (.string ⟨(refT (some (17, (j : Int)))).toArray⟩) ∧ Below w.heap.size w w' := by
  obtain ⟨c8, c9, _, c11, c12⟩ := h.cells
  rw [h.len] at c12
  have hnq := hg.nq
  have hnp := hg.np
  have hq := h.lists.ports
  obtain ⟨qa, qc, rfl, hqc, hqm, -⟩ := id hq
  obtain ⟨qb, qo, rfl, _, hcell⟩ := hq.row (fun _ => rfl) hj
  rw [show c.ports.getD j default = c.port j from rfl] at hcell
  have e0 := hcell 0 _ rfl
  have e2 := hcell 2 _ rfl
  simp only [Nat.add_zero] at e0
  have hj0 : (0 : Int) ≤ (j : Int) := Int.natCast_nonneg _
  have hj1 : (j : Int) < (c.ports.length : Int) := by omega
  have b0 : decide ((j : Int) < 0) = false := decide_eq_false (by omega)
  have b1 : decide (c.ports.length ≤ j) = false := decide_eq_false (by omega)
  unfold maxLen at hqm
  clear hcell hq
  have hp := h.lists.parts
  obtain ⟨pa, pc, rfl, hpc, hpm, -⟩ := id hp
  obtain ⟨pb, po, rfl, _, hcell⟩ := hp.row (fun _ => rfl) hil
  rw [show c.parts.getD i default = c.part i from rfl] at hcell
  have f0 := hcell 0 _ rfl
  simp only [Nat.add_zero] at f0
  have hi0 : (0 : Int) ≤ (i : Int) := Int.natCast_nonneg _
  have hi1 : (i : Int) < (c.parts.length : Int) := by omega
  unfold maxLen at hpm
  rw [hi] at e0
  have HI := hid_ hi
  clear hcell hp hi
  have b4 : ((c.part i).node != node) = true := by simpa using h4
  clear h4
  go_enter Try.func48, Try.ntmps48
  go_wp2
  refine wp_region_quiet_lit (by kernel_rfl) (by kernel_rfl) ?_
  repeat (go_big_quiet_step (fail))
  refine wpQuiet_nil ?_
  intro _ hw'
  obtain ⟨nq, hw''⟩ := hw'
  subst hw''
  go_wp2_with fail
  refine (refAt_any 17 j (by omega) (by omega) (by omega) (by omega) _).mono ?_
  rintro e w1 ⟨rfl, hw1⟩
  clear c8 c9 c11 c12 e0 e2 f0
  go_wp2
  go_ret
  exact ⟨rfl, ⟨hw1.os, hw1.tape, hw1.output, hw1.size, hw1.block⟩⟩

set_option maxRecDepth 100000 in
set_option maxHeartbeats 4000000 in
theorem rfind_modeT (c : Cfg) (hg : Good c) (C : Nat → Nat) (k b ab : Nat) (pv qv rv : Value) (i j : Nat) (lv : Nat → Value) (st : List PSt) (w : World) (h : IsRPs w C k b ab c pv qv rv (c.part i).node lv st) (hj : j < c.ports.length) (hi : (c.port j).part = (i : Int)) (hil : i < c.parts.length) (ho : (c.port j).out = true) :
    Calls Try.prog 48 #[.pointer (some ⟨b, 0, none⟩), .int .i64 (i : Int), .int .i64 (j : Int), .bool false] w fun e w' => e = .returned (.string ⟨(refT (some (13, (j : Int)))).toArray⟩) ∧ Below w.heap.size w w' := by
  obtain ⟨c8, c9, _, c11, c12⟩ := h.cells
  rw [h.len] at c12
  have hnq := hg.nq
  have hnp := hg.np
  have hq := h.lists.ports
  obtain ⟨qa, qc, rfl, hqc, hqm, -⟩ := id hq
  obtain ⟨qb, qo, rfl, _, hcell⟩ := hq.row (fun _ => rfl) hj
  rw [show c.ports.getD j default = c.port j from rfl] at hcell
  have e0 := hcell 0 _ rfl
  have e2 := hcell 2 _ rfl
  simp only [Nat.add_zero] at e0
  have hj0 : (0 : Int) ≤ (j : Int) := Int.natCast_nonneg _
  have hj1 : (j : Int) < (c.ports.length : Int) := by omega
  have b0 : decide ((j : Int) < 0) = false := decide_eq_false (by omega)
  have b1 : decide (c.ports.length ≤ j) = false := decide_eq_false (by omega)
  unfold maxLen at hqm
  clear hcell hq
  have hp := h.lists.parts
  obtain ⟨pa, pc, rfl, hpc, hpm, -⟩ := id hp
  obtain ⟨pb, po, rfl, _, hcell⟩ := hp.row (fun _ => rfl) hil
  rw [show c.parts.getD i default = c.part i from rfl] at hcell
  have f0 := hcell 0 _ rfl
  simp only [Nat.add_zero] at f0
  have hi0 : (0 : Int) ≤ (i : Int) := Int.natCast_nonneg _
  have hi1 : (i : Int) < (c.parts.length : Int) := by omega
  unfold maxLen at hpm
  rw [hi] at e0
  have HI := hid_ hi
  clear hcell hp hi
  have b5 : (true != false) = true := rfl
  rw [ho] at e2
  have HO := hid_ ho
  clear ho b5
  go_enter Try.func48, Try.ntmps48
  go_wp2
  refine wp_region_quiet_lit (by kernel_rfl) (by kernel_rfl) ?_
  repeat (go_big_quiet_step (fail))
  refine wpQuiet_nil ?_
  intro _ hw'
  obtain ⟨nq, hw''⟩ := hw'
  subst hw''
  go_wp2_with fail
  refine (refAt_any 13 j (by omega) (by omega) (by omega) (by omega) _).mono ?_
  rintro e w1 ⟨rfl, hw1⟩
  clear c8 c9 c11 c12 e0 e2 f0
  go_wp2
  go_ret
  exact ⟨rfl, ⟨hw1.os, hw1.tape, hw1.output, hw1.size, hw1.block⟩⟩

set_option maxRecDepth 100000 in
set_option maxHeartbeats 4000000 in
theorem rfind_modeF (c : Cfg) (hg : Good c) (C : Nat → Nat) (k b ab : Nat) (pv qv rv : Value) (i j : Nat) (lv : Nat → Value) (st : List PSt) (w : World) (h : IsRPs w C k b ab c pv qv rv (c.part i).node lv st) (hj : j < c.ports.length) (hi : (c.port j).part = (i : Int)) (hil : i < c.parts.length) (ho : (c.port j).out = false) :
    Calls Try.prog 48 #[.pointer (some ⟨b, 0, none⟩), .int .i64 (i : Int), .int .i64 (j : Int), .bool true] w fun e w' => e = .returned (.string ⟨(refT (some (13, (j : Int)))).toArray⟩) ∧ Below w.heap.size w w' := by
  obtain ⟨c8, c9, _, c11, c12⟩ := h.cells
  rw [h.len] at c12
  have hnq := hg.nq
  have hnp := hg.np
  have hq := h.lists.ports
  obtain ⟨qa, qc, rfl, hqc, hqm, -⟩ := id hq
  obtain ⟨qb, qo, rfl, _, hcell⟩ := hq.row (fun _ => rfl) hj
  rw [show c.ports.getD j default = c.port j from rfl] at hcell
  have e0 := hcell 0 _ rfl
  have e2 := hcell 2 _ rfl
  simp only [Nat.add_zero] at e0
  have hj0 : (0 : Int) ≤ (j : Int) := Int.natCast_nonneg _
  have hj1 : (j : Int) < (c.ports.length : Int) := by omega
  have b0 : decide ((j : Int) < 0) = false := decide_eq_false (by omega)
  have b1 : decide (c.ports.length ≤ j) = false := decide_eq_false (by omega)
  unfold maxLen at hqm
  clear hcell hq
  have hp := h.lists.parts
  obtain ⟨pa, pc, rfl, hpc, hpm, -⟩ := id hp
  obtain ⟨pb, po, rfl, _, hcell⟩ := hp.row (fun _ => rfl) hil
  rw [show c.parts.getD i default = c.part i from rfl] at hcell
  have f0 := hcell 0 _ rfl
  simp only [Nat.add_zero] at f0
  have hi0 : (0 : Int) ≤ (i : Int) := Int.natCast_nonneg _
  have hi1 : (i : Int) < (c.parts.length : Int) := by omega
  unfold maxLen at hpm
  rw [hi] at e0
  have HI := hid_ hi
  clear hcell hp hi
  have b5 : (false != true) = true := rfl
  rw [ho] at e2
  have HO := hid_ ho
  clear ho b5
  go_enter Try.func48, Try.ntmps48
  go_wp2
  refine wp_region_quiet_lit (by kernel_rfl) (by kernel_rfl) ?_
  repeat (go_big_quiet_step (fail))
  refine wpQuiet_nil ?_
  intro _ hw'
  obtain ⟨nq, hw''⟩ := hw'
  subst hw''
  go_wp2_with fail
  refine (refAt_any 13 j (by omega) (by omega) (by omega) (by omega) _).mono ?_
  rintro e w1 ⟨rfl, hw1⟩
  clear c8 c9 c11 c12 e0 e2 f0
  go_wp2
  go_ret
  exact ⟨rfl, ⟨hw1.os, hw1.tape, hw1.output, hw1.size, hw1.block⟩⟩

set_option maxRecDepth 100000 in
set_option maxHeartbeats 4000000 in
theorem rfind_ok (c : Cfg) (hg : Good c) (C : Nat → Nat) (k b ab : Nat) (pv qv rv : Value) (i j : Nat) (lv : Nat → Value) (st : List PSt) (w : World) (h : IsRPs w C k b ab c pv qv rv (c.part i).node lv st) (hj : j < c.ports.length) (hi : (c.port j).part = (i : Int)) (hil : i < c.parts.length) :
    Calls Try.prog 48 #[.pointer (some ⟨b, 0, none⟩), .int .i64 (i : Int), .int .i64 (j : Int), .bool (c.port j).out] w fun e w' => e = .returned (.string ⟨(refT (none)).toArray⟩) ∧ Below w.heap.size w w' := by
  obtain ⟨c8, c9, _, c11, c12⟩ := h.cells
  rw [h.len] at c12
  have hnq := hg.nq
  have hnp := hg.np
  have hq := h.lists.ports
  obtain ⟨qa, qc, rfl, hqc, hqm, -⟩ := id hq
  obtain ⟨qb, qo, rfl, _, hcell⟩ := hq.row (fun _ => rfl) hj
  rw [show c.ports.getD j default = c.port j from rfl] at hcell
  have e0 := hcell 0 _ rfl
  have e2 := hcell 2 _ rfl
  simp only [Nat.add_zero] at e0
  have hj0 : (0 : Int) ≤ (j : Int) := Int.natCast_nonneg _
  have hj1 : (j : Int) < (c.ports.length : Int) := by omega
  have b0 : decide ((j : Int) < 0) = false := decide_eq_false (by omega)
  have b1 : decide (c.ports.length ≤ j) = false := decide_eq_false (by omega)
  unfold maxLen at hqm
  clear hcell hq
  have hp := h.lists.parts
  obtain ⟨pa, pc, rfl, hpc, hpm, -⟩ := id hp
  obtain ⟨pb, po, rfl, _, hcell⟩ := hp.row (fun _ => rfl) hil
  rw [show c.parts.getD i default = c.part i from rfl] at hcell
  have f0 := hcell 0 _ rfl
  simp only [Nat.add_zero] at f0
  have hi0 : (0 : Int) ≤ (i : Int) := Int.natCast_nonneg _
  have hi1 : (i : Int) < (c.parts.length : Int) := by omega
  unfold maxLen at hpm
  rw [hi] at e0
  have HI := hid_ hi
  clear hcell hp hi
  go_enter Try.func48, Try.ntmps48
  go_wp2
  refine wp_region_quiet_lit (by kernel_rfl) (by kernel_rfl) ?_
  repeat (go_big_quiet_step (fail))
  refine wpQuiet_nil ?_
  intro _ hw'
  obtain ⟨nq, hw''⟩ := hw'
  subst hw''
  go_wp2
  go_ret
  exact ⟨rfl, below_drewN (Below.refl _ w) _⟩

set_option maxRecDepth 100000 in
set_option maxHeartbeats 2000000 in
theorem rpMine (c : Cfg) (hg : Good c) (C : Nat → Nat) (k b ab : Nat) (pv qv rv : Value) (node : Int) (j : Nat) (lv : Nat → Value) (st : List PSt) (w : World) (h : IsRPs w C k b ab c pv qv rv node lv st) (hj : j < c.ports.length) :
    Calls Try.prog 49 #[.pointer (some ⟨b, 0, none⟩), .int .i64 (j : Int)] w fun e w' => e = .returned (.bool (mineB c node j)) ∧ Below w.heap.size w w' := by
  obtain ⟨p0, p1⟩ := part_in hg hj
  obtain ⟨i, hi⟩ := Int.eq_ofNat_of_zero_le p0
  have hil : i < c.parts.length := by omega
  have HM := hid_ (show mineB c node j = ((c.part i).node == node) by unfold mineB; rw [hi, Int.toNat_natCast])
  obtain ⟨c8, c9, _, c11, c12⟩ := h.cells
  have hq := h.lists.ports
  obtain ⟨qa, qc, rfl, hqc, hqm, -⟩ := id hq
  obtain ⟨qb, qo, rfl, _, hcell⟩ := hq.row (fun _ => rfl) hj
  rw [show c.ports.getD j default = c.port j from rfl] at hcell
  have e0 := hcell 0 _ rfl
  simp only [Nat.add_zero] at e0
  have hp := h.lists.parts
  obtain ⟨pa, pc, rfl, hpc, hpm, -⟩ := id hp
  obtain ⟨pb, po, rfl, _, hcellp⟩ := hp.row (fun _ => rfl) hil
  rw [show c.parts.getD i default = c.part i from rfl] at hcellp
  have f0 := hcellp 0 _ rfl
  simp only [Nat.add_zero] at f0
  rw [hi] at e0
  have hj0 : (0 : Int) ≤ (j : Int) := Int.natCast_nonneg _
  have hj1 : (j : Int) < (c.ports.length : Int) := by omega
  have hi0 : (0 : Int) ≤ (i : Int) := Int.natCast_nonneg _
  have hi1 : (i : Int) < (c.parts.length : Int) := by omega
  unfold maxLen at hpm hqm
  clear hcell hcellp hp hq hi p0 p1
  go_enter Try.func49, Try.ntmps49
  go_wp2
  go_quiet (fail)
  go_wp2
  go_ret
  exact ⟨congrArg (fun b => Ending.returned (.bool b)) HM.out.symm, below_drewN (Below.refl _ w) _⟩

theorem rpFind (c : Cfg) (hg : Good c) (C : Nat → Nat) (k b ab : Nat) (pv qv rv : Value) (node part port : Int) (hp : I64 port) (out : Bool) (lv : Nat → Value) (st : List PSt) (w : World) (h : IsRPs w C k b ab c pv qv rv node lv st) :
    Calls Try.prog 48 #[.pointer (some ⟨b, 0, none⟩), .int .i64 part, .int .i64 port, .bool out] w fun e w' => e = .returned (.string ⟨(refT (findE c node part port out)).toArray⟩) ∧ Below w.heap.size w w' := by
  unfold findE
  by_cases h1 : port < 0
  · rw [if_pos (.inl h1)]
    exact rfind_neg c hg C k b ab pv qv rv node part port hp out lv st w h h1
  · obtain ⟨j, rfl⟩ := Int.eq_ofNat_of_zero_le (show 0 ≤ port by omega)
    rw [if_neg (show ¬ (j : Int) < -1 by omega), Int.toNat_natCast]
    by_cases h2 : c.ports.length ≤ j
    · rw [if_pos (.inr (.inl (by omega)))]
      exact rfind_big c hg C k b ab pv qv rv node part j hp.2 out lv st w h h2
    · have hj : j < c.ports.length := by omega
      by_cases h3 : (c.port j).part = part
      · subst h3
        obtain ⟨p0, p1⟩ := part_in hg hj
        obtain ⟨i, hi⟩ := Int.eq_ofNat_of_zero_le p0
        have hil : i < c.parts.length := by omega
        rw [hi, Int.toNat_natCast]
        by_cases h4 : (c.part i).node = node
        · subst h4
          rw [if_neg (by omega)]
          by_cases h5 : (c.port j).out = out
          · subst h5
            rw [if_neg (by simp)]
            exact rfind_ok c hg C k b ab pv qv rv i j lv st w h hj hi hil
          · rw [if_pos h5]
            cases ho : (c.port j).out with
            | true =>
              obtain rfl : out = false := by cases out; rfl; exact absurd ho h5
              exact rfind_modeT c hg C k b ab pv qv rv i j lv st w h hj hi hil ho
            | false =>
              obtain rfl : out = true := by cases out; exact absurd ho h5; rfl
              exact rfind_modeF c hg C k b ab pv qv rv i j lv st w h hj hi hil ho
        · rw [if_pos (.inr (.inr (.inr h4)))]
          exact rfind_node c hg C k b ab pv qv rv node i j out lv st w h hj hi hil h4
      · rw [if_pos (.inr (.inr (.inl h3)))]
        exact rfind_part c hg C k b ab pv qv rv node part j out lv st w h hj h3

end Go.Proofs.Ytogfbeibpfdleaa
