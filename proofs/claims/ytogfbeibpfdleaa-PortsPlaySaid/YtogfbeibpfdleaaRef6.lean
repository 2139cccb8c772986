/- The document's numbers of chapter 6. No condition but the tables' own ranges. -/
import Derived.Test.YtogfbeibpfdleaaRef5b
set_option linter.unusedSimpArgs false
set_option linter.unusedVariables false
namespace Go.Proofs.Ytogfbeibpfdleaa
open Go.RowKit Go.Maps

set_option maxRecDepth 100000 in
theorem ref6Round (c : Cfg) (pv qv rv : Value) (h : Ranges c) (w : World) :
    Calls Try.prog 56 #[c.v pv qv rv] w fun e w' => e = .returned (.int .i64 c.round) ∧ Below w.heap.size w w' := by
  obtain ⟨a0, a1⟩ := h.ns
  have hg0 := h.g0
  have hg1 := h.g1
  have n0 := h.n0
  have n1 := h.n1
  have s0 := h.s0
  have s1 := h.s1
  have hb := fun o => (Below.refl w.heap.size w).alloc (Nat.le_refl _) o
  unfold Cfg.v
  go_enter Try.func56, Try.ntmps56
  go_wp2
  go_ret
  exact ⟨rfl, hb _⟩

set_option maxRecDepth 100000 in
theorem ref6Drift (c : Cfg) (pv qv rv : Value) (h : Ranges c) (w : World) :
    Calls Try.prog 47 #[c.v pv qv rv] w fun e w' => e = .returned (.int .i64 c.drift) ∧ Below w.heap.size w w' := by
  obtain ⟨a0, a1⟩ := h.rr
  obtain ⟨b0, b1⟩ := h.round
  have r0 := h.r0
  have r1 := h.r1
  have hb := fun o => (Below.refl w.heap.size w).alloc (Nat.le_refl _) o
  unfold Cfg.v
  go_enter Try.func47, Try.ntmps47
  go_upto_region 1 with (fail)
  refine gen_world (fun W => Below w.heap.size w W ∧ Bk W w.heap.size 28 (c.cells pv qv rv)) ⟨hb _, Bk.new _ _ _⟩ ?_
  rintro W ⟨hW, hB⟩
  have dc := fun n : Aft W => hB.cfg n
  refine wp_region_aft (by kernel_rfl) (by kernel_rfl) ?_
  repeat (go_big_quiet_step (exact Aft.calls _ (ref6Round c pv qv rv h _)))
  refine wpQuiet_nil ?_
  rintro _ ⟨n, rfl⟩
  go_wp2
  go_ret
  exact ⟨rfl, below_then hW n.h⟩

set_option maxRecDepth 100000 in
theorem ref6Prec (c : Cfg) (pv qv rv : Value) (h : Ranges c) (w : World) :
    Calls Try.prog 46 #[c.v pv qv rv] w fun e w' => e = .returned (.int .i64 c.prec) ∧ Below w.heap.size w w' := by
  obtain ⟨a0, a1⟩ := h.drift
  have d0 := h.d0
  have d1 := h.d1
  have x1 := h.x1
  have hb := fun o => (Below.refl w.heap.size w).alloc (Nat.le_refl _) o
  unfold Cfg.v
  go_enter Try.func46, Try.ntmps46
  go_upto_region 1 with (fail)
  refine gen_world (fun W => Below w.heap.size w W ∧ Bk W w.heap.size 28 (c.cells pv qv rv)) ⟨hb _, Bk.new _ _ _⟩ ?_
  rintro W ⟨hW, hB⟩
  have dc := fun n : Aft W => hB.cfg n
  refine wp_region_aft (by kernel_rfl) (by kernel_rfl) ?_
  repeat (go_big_quiet_step (exact Aft.calls _ (ref6Drift c pv qv rv h _)))
  refine wpQuiet_nil ?_
  rintro _ ⟨n, rfl⟩
  go_wp2
  go_ret
  exact ⟨rfl, below_then hW n.h⟩

end Go.Proofs.Ytogfbeibpfdleaa
