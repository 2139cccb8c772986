/- Package ports: find. No condition but that the tables work. -/
import Derived.Test.YtogfbeibpfdleaaPorts
import Derived.Test.YtogfbeibpfdleaaPFind
import Derived.Test.YtogfbeibpfdleaaPFind2
set_option linter.unusedSimpArgs false
set_option linter.unusedVariables false
namespace Go.Proofs.Ytogfbeibpfdleaa
open Go.RowKit Go.Maps

set_option maxRecDepth 100000 in
set_option maxHeartbeats 4000000 in
theorem find_ok (c : Cfg) (hg : Good c) (C : Nat → Nat) (k b ab : Nat) (pv qv rv : Value) (i j : Nat) (lv : Nat → Value) (st : List PSt) (w : World) (h : IsPorts w C k b ab c pv qv rv (c.part i).node lv st) (hj : j < c.ports.length) (hi : (c.port j).part = (i : Int)) (hil : i < c.parts.length) :
    Calls Try.prog 38 #[.pointer (some ⟨b, 0, none⟩), .int .i64 (i : Int), .int .i64 (j : Int), .bool (c.port j).out] w fun e w' => ∃ ev, e = .returned ev ∧ Below w.heap.size w w' ∧ ErrO w w' ev (none) := by
  obtain ⟨c8, c9, _, c11, c12⟩ := h.cells
  rw [h.len] at c12
  have hnq := hg.nq
  have hnp := hg.np
  have hq := h.lists.ports
  obtain ⟨qa, qc, rfl, hqc, hqm, -⟩ := id hq
  obtain ⟨qb, qo, rfl, _, hcell⟩ := hq.row (fun _ => rfl) hj
  rw [show c.ports.getD j default = c.port j from rfl] at hcell
  have e0 := hcell 0 _ rfl
  have e2 := hcell 2 _ rfl
  simp only [Nat.add_zero] at e0
  have hj0 : (0 : Int) ≤ (j : Int) := Int.natCast_nonneg _
  have hj1 : (j : Int) < (c.ports.length : Int) := by omega
  have b0 : decide ((j : Int) < 0) = false := decide_eq_false (by omega)
  have b1 : decide (c.ports.length ≤ j) = false := decide_eq_false (by omega)
  unfold maxLen at hqm
  clear hcell hq
  have hp := h.lists.parts
  obtain ⟨pa, pc, rfl, hpc, hpm, -⟩ := id hp
  obtain ⟨pb, po, rfl, _, hcell⟩ := hp.row (fun _ => rfl) hil
  rw [show c.parts.getD i default = c.part i from rfl] at hcell
  have f0 := hcell 0 _ rfl
  simp only [Nat.add_zero] at f0
  have hi0 : (0 : Int) ≤ (i : Int) := Int.natCast_nonneg _
  have hi1 : (i : Int) < (c.parts.length : Int) := by omega
  unfold maxLen at hpm
  rw [hi] at e0
  have HI := hid_ hi
  clear hcell hp hi
  go_enter Try.func38, Try.ntmps38
  go_wp2
  refine wp_region_quiet_lit (by kernel_rfl) (by kernel_rfl) ?_
  repeat (go_big_quiet_step (fail))
  refine wpQuiet_nil ?_
  intro _ hw'
  obtain ⟨nq, hw''⟩ := hw'
  subst hw''
  go_wp2
  go_ret
  exact ⟨_, rfl, below_drewN (Below.refl _ w) _, rfl⟩


theorem portsFind (c : Cfg) (hg : Good c) (C : Nat → Nat) (k b ab : Nat) (pv qv rv : Value) (node part port : Int) (out : Bool) (lv : Nat → Value) (st : List PSt) (w : World) (h : IsPorts w C k b ab c pv qv rv node lv st) :
    Calls Try.prog 38 #[.pointer (some ⟨b, 0, none⟩), .int .i64 part, .int .i64 port, .bool out] w fun e w' => ∃ ev, e = .returned ev ∧ Below w.heap.size w w' ∧ ErrO w w' ev (findE c node part port out) := by
  unfold findE
  by_cases h1 : port < 0
  · rw [if_pos (.inl h1)]
    exact find_neg c hg C k b ab pv qv rv node part port out lv st w h h1
  · obtain ⟨j, rfl⟩ := Int.eq_ofNat_of_zero_le (show 0 ≤ port by omega)
    rw [if_neg (show ¬ (j : Int) < -1 by omega), Int.toNat_natCast]
    by_cases h2 : c.ports.length ≤ j
    · rw [if_pos (.inr (.inl (by omega)))]
      exact find_big c hg C k b ab pv qv rv node part j out lv st w h h2
    · have hj : j < c.ports.length := by omega
      by_cases h3 : (c.port j).part = part
      · subst h3
        obtain ⟨p0, p1⟩ := part_in hg hj
        obtain ⟨i, hi⟩ := Int.eq_ofNat_of_zero_le p0
        have hil : i < c.parts.length := by omega
        rw [hi, Int.toNat_natCast]
        by_cases h4 : (c.part i).node = node
        · subst h4
          rw [if_neg (by omega)]
          by_cases h5 : (c.port j).out = out
          · subst h5
            rw [if_neg (by simp)]
            exact find_ok c hg C k b ab pv qv rv i j lv st w h hj hi hil
          · rw [if_pos h5]
            cases ho : (c.port j).out with
            | true =>
              obtain rfl : out = false := by cases out; rfl; exact absurd ho h5
              exact find_modeT c hg C k b ab pv qv rv i j lv st w h hj hi hil ho
            | false =>
              obtain rfl : out = true := by cases out; exact absurd ho h5; rfl
              exact find_modeF c hg C k b ab pv qv rv i j lv st w h hj hi hil ho
        · rw [if_pos (.inr (.inr (.inr h4)))]
          exact find_node c hg C k b ab pv qv rv node i j out lv st w h hj hi hil h4
      · rw [if_pos (.inr (.inr (.inl h3)))]
        exact find_part c hg C k b ab pv qv rv node part j out lv st w h hj h3
end Go.Proofs.Ytogfbeibpfdleaa
