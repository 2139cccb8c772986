/- The references' Mean and Send. No condition but the tables' own ranges. -/
import Derived.Test.YtnmhfdkmiblknaaRef6
set_option linter.unusedSimpArgs false
set_option linter.unusedVariables false
namespace Go.Proofs.Ytnmhfdkmiblknaa
open Go.RowKit Go.Maps

set_option maxRecDepth 100000 in
theorem ref6Mean (c : Cfg) (pv qv rv : Value) (h : Ranges c) (w : World) :
    Calls Try.prog 28 #[c.v pv qv rv] w fun e w' => e = .returned (.int .i64 c.mean) ∧ Below w.heap.size w w' := by
  have d0 := h.d0
  have d1 := h.d1
  have x1 := h.x1
  have hb := fun o => (Below.refl w.heap.size w).alloc (Nat.le_refl _) o
  unfold Cfg.v
  go_enter Try.func28, Try.ntmps28
  go_upto_region 1 with (fail)
  refine gen_world (fun W => Below w.heap.size w W ∧ Bk W w.heap.size 26 (c.cells pv qv rv)) ⟨hb _, Bk.new _ _ _⟩ ?_
  rintro W ⟨hW, hB⟩
  first
    | (have dc := fun n : Aft W => hB.cfg n
       refine wp_region_aft (by kernel_rfl) (by kernel_rfl) ?_
       repeat (go_big_quiet_step (fail))
       refine wpQuiet_nil ?_
       rintro _ ⟨n, rfl⟩
       go_wp2
       go_ret
       exact ⟨rfl, below_then hW n.h⟩)
    | (have dc := hB.cfg0
       go_wp2
       go_ret
       exact ⟨rfl, hW⟩)

set_option maxRecDepth 100000 in
theorem ref6Send (c : Cfg) (pv qv rv : Value) (h : Ranges c) (i : Int) (hi : -9 ≤ i ∧ i ≤ 9) (w : World) :
    Calls Try.prog 12 #[c.v pv qv rv, .int .i64 i] w fun e w' => e = .returned (.int .i64 (c.send i)) ∧ Below w.heap.size w w' := by
  have s0 := h.s0
  have s1 := h.s1
  have m0 := h.m0
  have m1 := h.m1
  have q : -150994944 ≤ i * c.slot ∧ i * c.slot ≤ 150994944 := by
    rcases (by omega : i = -9 ∨ i = -8 ∨ i = -7 ∨ i = -6 ∨ i = -5 ∨ i = -4 ∨ i = -3 ∨ i = -2 ∨ i = -1 ∨ i = 0 ∨ i = 1 ∨ i = 2 ∨ i = 3 ∨ i = 4 ∨ i = 5 ∨ i = 6 ∨ i = 7 ∨ i = 8 ∨ i = 9) with rfl | rfl | rfl | rfl | rfl | rfl | rfl | rfl | rfl | rfl | rfl | rfl | rfl | rfl | rfl | rfl | rfl | rfl | rfl <;> omega
  obtain ⟨q0, q1⟩ := q
  have hb := fun o => (Below.refl w.heap.size w).alloc (Nat.le_refl _) o
  unfold Cfg.v
  go_enter Try.func12, Try.ntmps12
  go_upto_region 1 with (fail)
  refine gen_world (fun W => Below w.heap.size w W ∧ Bk W w.heap.size 26 (c.cells pv qv rv)) ⟨hb _, Bk.new _ _ _⟩ ?_
  rintro W ⟨hW, hB⟩
  first
    | (have dc := fun n : Aft W => hB.cfg n
       refine wp_region_aft (by kernel_rfl) (by kernel_rfl) ?_
       repeat (go_big_quiet_step (fail))
       refine wpQuiet_nil ?_
       rintro _ ⟨n, rfl⟩
       go_wp2
       go_ret
       exact ⟨rfl, below_then hW n.h⟩)
    | (have dc := hB.cfg0
       go_wp2
       go_ret
       exact ⟨rfl, hW⟩)
end Go.Proofs.Ytnmhfdkmiblknaa
