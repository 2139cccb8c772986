/- Package ports: mine. No condition but that the tables work. -/
import Derived.Test.YtogfbeibpfdleaaPFind3
set_option linter.unusedSimpArgs false
set_option linter.unusedVariables false
namespace Go.Proofs.Ytogfbeibpfdleaa
open Go.RowKit Go.Maps

/-- Is a port one of the node's? -/
def mineB (c : Cfg) (node : Int) (j : Nat) : Bool := (c.part (c.port j).part.toNat).node == node

set_option maxRecDepth 100000 in
set_option maxHeartbeats 2000000 in
theorem portsMine (c : Cfg) (hg : Good c) (C : Nat → Nat) (k b ab : Nat) (pv qv rv : Value) (node : Int) (j : Nat) (lv : Nat → Value) (st : List PSt) (w : World) (h : IsPorts w C k b ab c pv qv rv node lv st) (hj : j < c.ports.length) :
    Calls Try.prog 41 #[.pointer (some ⟨b, 0, none⟩), .int .i64 (j : Int)] w fun e w' => e = .returned (.bool (mineB c node j)) ∧ Below w.heap.size w w' := by
  obtain ⟨p0, p1⟩ := part_in hg hj
  obtain ⟨i, hi⟩ := Int.eq_ofNat_of_zero_le p0
  have hil : i < c.parts.length := by omega
  have HM := hid_ (show mineB c node j = ((c.part i).node == node) by unfold mineB; rw [hi, Int.toNat_natCast])
  obtain ⟨c8, c9, _, c11, c12⟩ := h.cells
  have hq := h.lists.ports
  obtain ⟨qa, qc, rfl, hqc, hqm, -⟩ := id hq
  obtain ⟨qb, qo, rfl, _, hcell⟩ := hq.row (fun _ => rfl) hj
  rw [show c.ports.getD j default = c.port j from rfl] at hcell
  have e0 := hcell 0 _ rfl
  simp only [Nat.add_zero] at e0
  have hp := h.lists.parts
  obtain ⟨pa, pc, rfl, hpc, hpm, -⟩ := id hp
  obtain ⟨pb, po, rfl, _, hcellp⟩ := hp.row (fun _ => rfl) hil
  rw [show c.parts.getD i default = c.part i from rfl] at hcellp
  have f0 := hcellp 0 _ rfl
  simp only [Nat.add_zero] at f0
  rw [hi] at e0
  have hj0 : (0 : Int) ≤ (j : Int) := Int.natCast_nonneg _
  have hj1 : (j : Int) < (c.ports.length : Int) := by omega
  have hi0 : (0 : Int) ≤ (i : Int) := Int.natCast_nonneg _
  have hi1 : (i : Int) < (c.parts.length : Int) := by omega
  unfold maxLen at hpm hqm
  clear hcell hcellp hp hq hi p0 p1
  go_enter Try.func41, Try.ntmps41
  go_wp2
  go_quiet (fail)
  go_wp2
  go_ret
  exact ⟨congrArg (fun b => Ending.returned (.bool b)) HM.out.symm, below_drewN (Below.refl _ w) _⟩
end Go.Proofs.Ytogfbeibpfdleaa
