/- The document's tables' check: escapementref05.Check tells tabE as a text. No condition but the tables' own ranges. -/
import Derived.Test.YtogfbeibpfdleaaSound4
import Derived.Test.YtogfbeibpfdleaaNum
import Derived.Deep.DeepCutAuto
set_option linter.unusedSimpArgs false
set_option linter.unusedVariables false
namespace Go.Proofs.Ytogfbeibpfdleaa
open Go.RowKit Go.Maps

/-- What is wrong, as a text. -/
def refT : Option (Int × Int) → List UInt8
  | none => []
  | some (c, a) => atT c a

set_option maxRecDepth 100000 in
theorem refUp (x lo hi : Int) (w : World) :
    Calls Try.prog 55 #[.int .i64 x, .int .i64 lo, .int .i64 hi] w fun e w' => e = .returned (.bool (inb x lo hi)) ∧ w = w' := by
  by_cases h : lo ≤ x
  · go_enter Try.func55, Try.ntmps55
    go_wp2
    go_ret
    exact ⟨by simp [inb, h], rfl⟩
  · have hx : inb x lo hi = false := by simp [inb, h]
    rw [hx]
    go_enter Try.func55, Try.ntmps55
    go_wp2
    go_ret
    exact ⟨rfl, rfl⟩
theorem refUpT {x lo hi : Int} (h : inb x lo hi = true) (w : World) : Calls Try.prog 55 #[.int .i64 x, .int .i64 lo, .int .i64 hi] w fun e w' => e = .returned (.bool true) ∧ w = w' :=
  h ▸ refUp x lo hi w
theorem refUpF {x lo hi : Int} (h : inb x lo hi = false) (w : World) : Calls Try.prog 55 #[.int .i64 x, .int .i64 lo, .int .i64 hi] w fun e w' => e = .returned (.bool false) ∧ w = w' :=
  h ▸ refUp x lo hi w

theorem refUpA {x lo hi : Int} {b : Bool} (h : inb x lo hi = b) {w0 : World} (n : Aft w0) : Calls Try.prog 55 #[.int .i64 x, .int .i64 lo, .int .i64 hi] n.W fun e w' => e = .returned (.bool b) ∧ ∃ m : Aft w0, w' = m.W :=
  (refUp x lo hi n.W).mono fun e w' ⟨h1, h2⟩ => ⟨by rw [h1, h], n, h2.symm⟩

/-- The reference's At at a code and a place that are in their ranges. -/
theorem refAt_ (c a : Int) (hc : 0 ≤ c ∧ c ≤ 100) (ha : -1 ≤ a ∧ a ≤ 1000) (w : World) :
    Calls Try.prog 19 #[.int .i64 c, .int .i64 a] w fun e w' => e = .returned (.string ⟨(refT (some (c, a))).toArray⟩) ∧ Below w.heap.size w w' :=
  refAt_any c a (by omega) (by omega) (by omega) (by omega) w

set_option maxRecDepth 100000 in
set_option maxHeartbeats 2000000 in
theorem refCheck_range (c : Cfg) (pv qv rv : Value) (w : World)
    (h : inb c.nodes 1 7 = false ∨ inb c.nodes 1 7 = true ∧ inb c.faulty 0 2 = false ∨ inb c.nodes 1 7 = true ∧ inb c.faulty 0 2 = true ∧ inb c.slot 1 16777216 = false ∨
      inb c.nodes 1 7 = true ∧ inb c.faulty 0 2 = true ∧ inb c.slot 1 16777216 = true ∧ inb c.gap 0 16777216 = false ∨
      inb c.nodes 1 7 = true ∧ inb c.faulty 0 2 = true ∧ inb c.slot 1 16777216 = true ∧ inb c.gap 0 16777216 = true ∧ inb c.rho 0 200 = false ∨
      inb c.nodes 1 7 = true ∧ inb c.faulty 0 2 = true ∧ inb c.slot 1 16777216 = true ∧ inb c.gap 0 16777216 = true ∧ inb c.rho 0 200 = true ∧ inb c.dmax 0 1048576 = false ∨
      inb c.nodes 1 7 = true ∧ inb c.faulty 0 2 = true ∧ inb c.slot 1 16777216 = true ∧ inb c.gap 0 16777216 = true ∧ inb c.rho 0 200 = true ∧ inb c.dmax 0 1048576 = true ∧ inb c.dmin 0 c.dmax = false ∨
      inb c.nodes 1 7 = true ∧ inb c.faulty 0 2 = true ∧ inb c.slot 1 16777216 = true ∧ inb c.gap 0 16777216 = true ∧ inb c.rho 0 200 = true ∧ inb c.dmax 0 1048576 = true ∧ inb c.dmin 0 c.dmax = true ∧ inb c.margin 0 16777216 = false) :
    Calls Try.prog 45 #[c.v pv qv rv] w fun e w' => e = .returned (.string ⟨(refT (some (2, -1))).toArray⟩) ∧ Below w.heap.size w w' := by
  obtain ⟨c0, c1, c2, c3, c4, c5, c6, c7, c8, c9, c10⟩ := c
  unfold Cfg.v
  simp only at h ⊢
  have hW := (Below.refl w.heap.size w).alloc (Nat.le_refl _) (.cells #[.int .i64 c0, .int .i64 c1, .int .i64 c2, .int .i64 c3, .int .i64 c4, .int .i64 c5, .int .i64 c6, .int .i64 c7, pv, qv, rv] 28)
  rcases h with g0 | ⟨g0, g1⟩ | ⟨g0, g1, g2⟩ | ⟨g0, g1, g2, g3⟩ | ⟨g0, g1, g2, g3, g4⟩ | ⟨g0, g1, g2, g3, g4, g5⟩ | ⟨g0, g1, g2, g3, g4, g5, g6⟩ | ⟨g0, g1, g2, g3, g4, g5, g6, g7⟩
  all_goals go_enter Try.func45, Try.ntmps45
  all_goals go_wp2_with (first
    | (go_at_call 55; first | (refine (refUpT (by assumption) _).mono ?_; rintro e w' ⟨rfl, rfl⟩) | (refine (refUpF (by assumption) _).mono ?_; rintro e w' ⟨rfl, rfl⟩))
    | (go_at_call 19; refine (refAt_ 2 (-1) (by omega) (by omega) _).mono ?_; rintro e w' ⟨rfl, hb⟩))
  all_goals go_ret
  all_goals exact ⟨rfl, below_then hW hb⟩

set_option maxRecDepth 100000 in
set_option maxHeartbeats 4000000 in
theorem refCheck_many (c : Cfg) (hok : c.ok) (C : Nat → Nat) (pv qv rv : Value) (w : World) (hl : Lists w C c pv qv rv) (hr : rangesOk c = true) (hmany : c.parts.length > 12 ∨ c.ports.length > 24 ∨ c.routes.length > 24) :
    Calls Try.prog 45 #[c.v pv qv rv] w fun e w' => e = .returned (.string ⟨(refT (some (3, -1))).toArray⟩) ∧ Below w.heap.size w w' := by
  obtain ⟨⟨pa, pc, rfl, p1, p2, p3, p4⟩, ⟨qa, qc, rfl, q1, q2, q3, q4⟩, ⟨ra, rc, rfl, r1, r2, r3, r4⟩⟩ := id hl
  have hR := Ranges.of hr
  unfold maxLen at p2 q2 r2
  have k0 : inb c.nodes 1 7 = true := by simp [inb, hR.n0, hR.n1]
  have k1 : inb c.faulty 0 2 = true := by simp [inb, hR.f0, hR.f1]
  have k2 : inb c.slot 1 16777216 = true := by simp [inb, hR.s0, hR.s1]
  have k3 : inb c.gap 0 16777216 = true := by simp [inb, hR.g0, hR.g1]
  have k4 : inb c.rho 0 200 = true := by simp [inb, hR.r0, hR.r1]
  have k5 : inb c.dmax 0 1048576 = true := by simp [inb, hR.x0, hR.x1]
  have k6 : inb c.dmin 0 c.dmax = true := by simp [inb, hR.d0, hR.d1]
  have k7 : inb c.margin 0 16777216 = true := by simp [inb, hR.m0, hR.m1]
  unfold Cfg.v
  have hW := (Below.refl w.heap.size w).alloc (Nat.le_refl _) (.cells #[.int .i64 c.nodes, .int .i64 c.faulty, .int .i64 c.slot, .int .i64 c.gap, .int .i64 c.rho, .int .i64 c.dmin, .int .i64 c.dmax, .int .i64 c.margin, .slice pa c.parts.length pc, .slice qa c.ports.length qc, .slice ra c.routes.length rc] 28)
  clear p3 p4 q3 q4 r3 r4 hl hr
  by_cases m1 : 12 < c.parts.length
  · go_enter Try.func45, Try.ntmps45
    go_wp2_with (first
      | (go_at_call 55; refine (refUpT (by assumption) _).mono ?_; rintro e w' ⟨rfl, rfl⟩)
      | (go_at_call 19; refine (refAt_ 3 (-1) (by omega) (by omega) _).mono ?_; rintro e w' ⟨rfl, hb⟩))
    go_ret
    exact ⟨rfl, below_then hW hb⟩
  · by_cases m2 : 24 < c.ports.length
    · go_enter Try.func45, Try.ntmps45
      go_wp2_with (first
        | (go_at_call 55; refine (refUpT (by assumption) _).mono ?_; rintro e w' ⟨rfl, rfl⟩)
        | (go_at_call 19; refine (refAt_ 3 (-1) (by omega) (by omega) _).mono ?_; rintro e w' ⟨rfl, hb⟩))
      go_ret
      exact ⟨rfl, below_then hW hb⟩
    · have m3 : 24 < c.routes.length := by omega
      go_enter Try.func45, Try.ntmps45
      go_wp2_with (first
        | (go_at_call 55; refine (refUpT (by assumption) _).mono ?_; rintro e w' ⟨rfl, rfl⟩)
        | (go_at_call 19; refine (refAt_ 3 (-1) (by omega) (by omega) _).mono ?_; rintro e w' ⟨rfl, hb⟩))
      go_ret
      exact ⟨rfl, below_then hW hb⟩

def Part.r (p : Part) (k : Nat) : Int := [p.r0, p.r1, p.r2, p.r3].getD k 0
def part5 (n : Int) (p : Part) : Bool := inb p.node 0 (n - 1) && (inb p.start 0 268435456 && (inb p.length 1 268435456 && (inb p.budget 0 64 && inb p.words 0 16)))
def partAt (n : Int) (p : Part) (k : Nat) : Bool := part5 n p && (List.range k).all fun j => decide (p.r j ≤ 3)
theorem partAt_zero (n : Int) (p : Part) : partAt n p 0 = part5 n p := by simp [partAt]
theorem partAt_succ (n : Int) (p : Part) (k : Nat) : partAt n p (k + 1) = (partAt n p k && decide (p.r k ≤ 3)) := by
  simp [partAt, List.range_succ, Bool.and_assoc]
theorem partAt_four (n : Int) (p : Part) : partAt n p 4 = partOk n p := by
  simp only [partAt_succ, partAt_zero, part5, partOk, Part.r, List.getD_cons_zero, List.getD_cons_succ]
  rw [Bool.eq_iff_iff]
  simp only [Bool.and_eq_true, decide_eq_true_eq]
  constructor <;> intro h <;> simp_all

/-- How a port's ranges come out. -/
theorem portOk_ways (n : Int) (p : Port) (r : Bool) (h : portOk n p = r) :
      inb p.part 0 (n - 1) = false ∧ r = false ∧ (p.kind == 1) = false ∨ inb p.part 0 (n - 1) = false ∧ r = false ∧ (p.kind == 1) = true ∨
      inb p.part 0 (n - 1) = true ∧ inb p.size 0 16 = false ∧ r = false ∧ (p.kind == 1) = false ∨ inb p.part 0 (n - 1) = true ∧ inb p.size 0 16 = false ∧ r = false ∧ (p.kind == 1) = true ∨
      inb p.part 0 (n - 1) = true ∧ inb p.size 0 16 = true ∧ (p.kind == 1) = true ∧ (p.depth == 0) = false ∧ r = false ∨
      inb p.part 0 (n - 1) = true ∧ inb p.size 0 16 = true ∧ (p.kind == 1) = true ∧ (p.depth == 0) = true ∧ inb p.fresh 0 8 = false ∧ r = false ∨
      inb p.part 0 (n - 1) = true ∧ inb p.size 0 16 = true ∧ (p.kind == 1) = true ∧ (p.depth == 0) = true ∧ inb p.fresh 0 8 = true ∧ p.out = false ∧ r = true ∨
      inb p.part 0 (n - 1) = true ∧ inb p.size 0 16 = true ∧ (p.kind == 1) = true ∧ (p.depth == 0) = true ∧ inb p.fresh 0 8 = true ∧ p.out = true ∧ (p.fresh != 0) = false ∧ r = true ∨
      inb p.part 0 (n - 1) = true ∧ inb p.size 0 16 = true ∧ (p.kind == 1) = true ∧ (p.depth == 0) = true ∧ inb p.fresh 0 8 = true ∧ p.out = true ∧ (p.fresh != 0) = true ∧ r = false ∨
      inb p.part 0 (n - 1) = true ∧ inb p.size 0 16 = true ∧ (p.kind == 1) = false ∧ (p.kind == 2) = true ∧ inb p.depth 1 4 = false ∧ r = false ∨
      inb p.part 0 (n - 1) = true ∧ inb p.size 0 16 = true ∧ (p.kind == 1) = false ∧ (p.kind == 2) = true ∧ inb p.depth 1 4 = true ∧ (p.fresh == 0) = true ∧ r = true ∨
      inb p.part 0 (n - 1) = true ∧ inb p.size 0 16 = true ∧ (p.kind == 1) = false ∧ (p.kind == 2) = true ∧ inb p.depth 1 4 = true ∧ (p.fresh == 0) = false ∧ r = false ∨
      inb p.part 0 (n - 1) = true ∧ inb p.size 0 16 = true ∧ (p.kind == 1) = false ∧ (p.kind == 2) = false ∧ r = false := by
  subst h
  unfold portOk
  by_cases k1 : p.kind = 1
  · cases g0 : inb p.part 0 (n - 1) <;> cases g1 : inb p.size 0 16 <;> cases g4 : inb p.fresh 0 8 <;> cases g5 : p.out <;> by_cases g3 : p.depth = 0 <;> by_cases g6 : p.fresh = 0 <;> simp [k1, g3, g6]
  · by_cases k2 : p.kind = 2
    · cases g0 : inb p.part 0 (n - 1) <;> cases g1 : inb p.size 0 16 <;> cases g4 : inb p.depth 1 4 <;> by_cases g6 : p.fresh = 0 <;> simp [k2, g6]
    · cases g0 : inb p.part 0 (n - 1) <;> cases g1 : inb p.size 0 16 <;> simp [k1, k2]
end Go.Proofs.Ytogfbeibpfdleaa
