/- The walks of package sound: Round, Drift, Precision, Mean, Send. No condition but the tables' own ranges. -/
import Derived.Test.YtogfbeibpfdleaaTabAll
import Derived.Deep.DeepCutAuto
set_option linter.unusedSimpArgs false
set_option linter.unusedVariables false
namespace Go.Proofs.Ytogfbeibpfdleaa
open Go.RowKit Go.Maps

/-- Tables that are in their ranges. -/
structure Good (c : Cfg) : Prop where
  rg : Ranges c
  np : c.parts.length ≤ 12
  nq : c.ports.length ≤ 24
  nr : c.routes.length ≤ 24
  parts : ∀ i, i < c.parts.length → partOk c.nodes (c.part i) = true
  ports : ∀ i, i < c.ports.length → portOk c.parts.length (c.port i) = true
  routes : ∀ i, i < c.routes.length → routeIn c.ports.length (c.route i) = true
theorem Good.of {c : Cfg} (h : tabE c = none) : Good c := by
  unfold tabE at h
  split at h
  · cases h
  · rename_i hr
    split at h
    · cases h
    · rename_i hm
      obtain ⟨h1, h⟩ := atE_eq_none h
      obtain ⟨h2, h⟩ := atE_eq_none h
      obtain ⟨h3, _⟩ := atE_eq_none h
      exact ⟨Ranges.of (by simpa using hr), by omega, by omega, by omega, fun i hi => by simpa [partBad] using h1 i hi, fun i hi => by simpa [portBad] using h2 i hi, fun i hi => by simpa [routeOut] using h3 i hi⟩

theorem Ranges.ns {c : Cfg} (h : Ranges c) : 0 ≤ c.nodes * c.slot ∧ c.nodes * c.slot ≤ 117440512 := by
  refine ⟨Int.mul_nonneg (by have := h.n0; omega) (by have := h.s0; omega), ?_⟩
  have := Int.mul_le_mul h.n1 h.s1 (by have := h.s0; omega) (by omega)
  omega
theorem Ranges.round {c : Cfg} (h : Ranges c) : 0 ≤ c.round ∧ c.round ≤ 134217728 := by
  have := h.ns
  have := h.g0
  have := h.g1
  unfold Cfg.round
  omega
theorem Ranges.rr {c : Cfg} (h : Ranges c) : 0 ≤ 2 * c.rho * c.round ∧ 2 * c.rho * c.round ≤ 53687091200 := by
  obtain ⟨a, b⟩ := h.round
  refine ⟨Int.mul_nonneg (by have := h.r0; omega) a, ?_⟩
  have := Int.mul_le_mul (a := 2 * c.rho) (b := c.round) (c := 400) (d := 134217728) (by have := h.r1; omega) b a (by omega)
  omega
theorem Ranges.drift {c : Cfg} (h : Ranges c) : 2 ≤ c.drift ∧ c.drift ≤ 53690 := by
  have := h.rr
  unfold Cfg.drift
  omega
theorem Ranges.prec {c : Cfg} (h : Ranges c) : 96 ≤ c.prec ∧ c.prec ≤ 6000000 := by
  have := h.drift
  have := h.d0
  have := h.d1
  have := h.x1
  unfold Cfg.prec
  omega

set_option maxRecDepth 100000 in
theorem sndRound (c : Cfg) (pv qv rv : Value) (h : Ranges c) (w : World) :
    Calls Try.prog 60 #[c.v pv qv rv] w fun e w' => e = .returned (.int .i64 c.round) ∧ Below w.heap.size w w' := by
  obtain ⟨a0, a1⟩ := h.ns
  have hg0 := h.g0
  have hg1 := h.g1
  have n0 := h.n0
  have n1 := h.n1
  have s0 := h.s0
  have s1 := h.s1
  have hb := fun o => (Below.refl w.heap.size w).alloc (Nat.le_refl _) o
  unfold Cfg.v
  go_enter Try.func60, Try.ntmps60
  go_wp2
  go_ret
  exact ⟨rfl, hb _⟩

theorem Bk.cfg0 {W : World} {b : Nat} {c : Cfg} {pv qv rv : Value} (h : Bk W b 28 (c.cells pv qv rv)) :
    W.cell? ⟨b, 0, none⟩ = some (.int .i64 c.nodes) ∧ W.cell? ⟨b, 1, none⟩ = some (.int .i64 c.faulty) ∧ W.cell? ⟨b, 2, none⟩ = some (.int .i64 c.slot) ∧ W.cell? ⟨b, 3, none⟩ = some (.int .i64 c.gap) ∧ W.cell? ⟨b, 4, none⟩ = some (.int .i64 c.rho) ∧ W.cell? ⟨b, 5, none⟩ = some (.int .i64 c.dmin) ∧ W.cell? ⟨b, 6, none⟩ = some (.int .i64 c.dmax) ∧ W.cell? ⟨b, 7, none⟩ = some (.int .i64 c.margin) ∧ W.cell? ⟨b, 8, none⟩ = some (pv) ∧ W.cell? ⟨b, 9, none⟩ = some (qv) ∧ W.cell? ⟨b, 10, none⟩ = some (rv) :=
  ⟨h.cell_ 0 rfl, h.cell_ 1 rfl, h.cell_ 2 rfl, h.cell_ 3 rfl, h.cell_ 4 rfl, h.cell_ 5 rfl, h.cell_ 6 rfl, h.cell_ 7 rfl, h.cell_ 8 rfl, h.cell_ 9 rfl, h.cell_ 10 rfl⟩
theorem Bk.cfg {W : World} {b : Nat} {c : Cfg} {pv qv rv : Value} (h : Bk W b 28 (c.cells pv qv rv)) (n : Aft W) :
    n.W.cell? ⟨b, 0, none⟩ = some (.int .i64 c.nodes) ∧ n.W.cell? ⟨b, 1, none⟩ = some (.int .i64 c.faulty) ∧ n.W.cell? ⟨b, 2, none⟩ = some (.int .i64 c.slot) ∧ n.W.cell? ⟨b, 3, none⟩ = some (.int .i64 c.gap) ∧ n.W.cell? ⟨b, 4, none⟩ = some (.int .i64 c.rho) ∧ n.W.cell? ⟨b, 5, none⟩ = some (.int .i64 c.dmin) ∧ n.W.cell? ⟨b, 6, none⟩ = some (.int .i64 c.dmax) ∧ n.W.cell? ⟨b, 7, none⟩ = some (.int .i64 c.margin) ∧ n.W.cell? ⟨b, 8, none⟩ = some (pv) ∧ n.W.cell? ⟨b, 9, none⟩ = some (qv) ∧ n.W.cell? ⟨b, 10, none⟩ = some (rv) :=
  ⟨n.cell (h.cell_ 0 rfl), n.cell (h.cell_ 1 rfl), n.cell (h.cell_ 2 rfl), n.cell (h.cell_ 3 rfl), n.cell (h.cell_ 4 rfl), n.cell (h.cell_ 5 rfl), n.cell (h.cell_ 6 rfl), n.cell (h.cell_ 7 rfl), n.cell (h.cell_ 8 rfl), n.cell (h.cell_ 9 rfl), n.cell (h.cell_ 10 rfl)⟩

set_option maxRecDepth 100000 in
theorem sndDrift (c : Cfg) (pv qv rv : Value) (h : Ranges c) (w : World) :
    Calls Try.prog 52 #[c.v pv qv rv] w fun e w' => e = .returned (.int .i64 c.drift) ∧ Below w.heap.size w w' := by
  obtain ⟨a0, a1⟩ := h.rr
  obtain ⟨b0, b1⟩ := h.round
  have r0 := h.r0
  have r1 := h.r1
  have hb := fun o => (Below.refl w.heap.size w).alloc (Nat.le_refl _) o
  unfold Cfg.v
  go_enter Try.func52, Try.ntmps52
  go_upto_region 1 with (fail)
  refine gen_world (fun W => Below w.heap.size w W ∧ Bk W w.heap.size 28 (c.cells pv qv rv)) ⟨hb _, Bk.new _ _ _⟩ ?_
  rintro W ⟨hW, hB⟩
  have dc := fun n : Aft W => hB.cfg n
  refine wp_region_aft (by kernel_rfl) (by kernel_rfl) ?_
  repeat (go_big_quiet_step (exact Aft.calls _ (sndRound c pv qv rv h _)))
  refine wpQuiet_nil ?_
  rintro _ ⟨n, rfl⟩
  go_wp2
  go_ret
  exact ⟨rfl, below_then hW n.h⟩

set_option maxRecDepth 100000 in
theorem sndPrec (c : Cfg) (pv qv rv : Value) (h : Ranges c) (w : World) :
    Calls Try.prog 51 #[c.v pv qv rv] w fun e w' => e = .returned (.int .i64 c.prec) ∧ Below w.heap.size w w' := by
  obtain ⟨a0, a1⟩ := h.drift
  have d0 := h.d0
  have d1 := h.d1
  have x1 := h.x1
  have hb := fun o => (Below.refl w.heap.size w).alloc (Nat.le_refl _) o
  unfold Cfg.v
  go_enter Try.func51, Try.ntmps51
  go_upto_region 1 with (fail)
  refine gen_world (fun W => Below w.heap.size w W ∧ Bk W w.heap.size 28 (c.cells pv qv rv)) ⟨hb _, Bk.new _ _ _⟩ ?_
  rintro W ⟨hW, hB⟩
  have dc := fun n : Aft W => hB.cfg n
  refine wp_region_aft (by kernel_rfl) (by kernel_rfl) ?_
  repeat (go_big_quiet_step (exact Aft.calls _ (sndDrift c pv qv rv h _)))
  refine wpQuiet_nil ?_
  rintro _ ⟨n, rfl⟩
  go_wp2
  go_ret
  exact ⟨rfl, below_then hW n.h⟩

end Go.Proofs.Ytogfbeibpfdleaa
