/- The walk of table.Check: it tells tabE. No condition but the tables' own ranges. -/
import Derived.Test.YtogfbeibpfdleaaTabCheck
set_option linter.unusedSimpArgs false
set_option linter.unusedVariables false
namespace Go.Proofs.Ytogfbeibpfdleaa
open Go.RowKit Go.Maps

theorem ErrO.of (w w' : World) (b : Nat) (c a : Int) (h : w.heap.size ≤ b) (hB : Bk w' b 95 [.int .i64 c, .int .i64 (if a < -1 then -1 else a), .nilIface]) (ha : -1 ≤ a) : ErrO w w' (faultV b) (some (c, a)) := by
  rw [if_neg (by omega)] at hB
  exact ⟨b, rfl, h, hB⟩

set_option maxRecDepth 100000 in
set_option maxHeartbeats 2000000 in
theorem tabCheck_range (c : Cfg) (pv qv rv : Value) (w : World)
    (h : inb c.nodes 1 7 = false ∨ inb c.nodes 1 7 = true ∧ inb c.faulty 0 2 = false ∨ inb c.nodes 1 7 = true ∧ inb c.faulty 0 2 = true ∧ inb c.slot 1 16777216 = false ∨
      inb c.nodes 1 7 = true ∧ inb c.faulty 0 2 = true ∧ inb c.slot 1 16777216 = true ∧ inb c.gap 0 16777216 = false ∨
      inb c.nodes 1 7 = true ∧ inb c.faulty 0 2 = true ∧ inb c.slot 1 16777216 = true ∧ inb c.gap 0 16777216 = true ∧ inb c.rho 0 200 = false ∨
      inb c.nodes 1 7 = true ∧ inb c.faulty 0 2 = true ∧ inb c.slot 1 16777216 = true ∧ inb c.gap 0 16777216 = true ∧ inb c.rho 0 200 = true ∧ inb c.dmax 0 1048576 = false ∨
      inb c.nodes 1 7 = true ∧ inb c.faulty 0 2 = true ∧ inb c.slot 1 16777216 = true ∧ inb c.gap 0 16777216 = true ∧ inb c.rho 0 200 = true ∧ inb c.dmax 0 1048576 = true ∧ inb c.dmin 0 c.dmax = false ∨
      inb c.nodes 1 7 = true ∧ inb c.faulty 0 2 = true ∧ inb c.slot 1 16777216 = true ∧ inb c.gap 0 16777216 = true ∧ inb c.rho 0 200 = true ∧ inb c.dmax 0 1048576 = true ∧ inb c.dmin 0 c.dmax = true ∧ inb c.margin 0 16777216 = false) :
    Calls Try.prog 50 #[c.v pv qv rv] w fun e w' => ∃ b, e = .returned (faultV b) ∧ Below w.heap.size w w' ∧ w.heap.size ≤ b ∧ Bk w' b 95 [.int .i64 2, .int .i64 (-1), .nilIface] := by
  obtain ⟨c0, c1, c2, c3, c4, c5, c6, c7, c8, c9, c10⟩ := c
  unfold Cfg.v
  simp only at h ⊢
  have hW := (Below.refl w.heap.size w).alloc (Nat.le_refl _) (.cells #[.int .i64 c0, .int .i64 c1, .int .i64 c2, .int .i64 c3, .int .i64 c4, .int .i64 c5, .int .i64 c6, .int .i64 c7, pv, qv, rv] 28)
  rcases h with g0 | ⟨g0, g1⟩ | ⟨g0, g1, g2⟩ | ⟨g0, g1, g2, g3⟩ | ⟨g0, g1, g2, g3, g4⟩ | ⟨g0, g1, g2, g3, g4, g5⟩ | ⟨g0, g1, g2, g3, g4, g5, g6⟩ | ⟨g0, g1, g2, g3, g4, g5, g6, g7⟩
  all_goals go_enter Try.func50, Try.ntmps50
  all_goals go_wp2_with (first
    | (go_at_call 57; first | (refine (tabInT (by assumption) _).mono ?_; rintro e w' ⟨rfl, rfl⟩) | (refine (tabInF (by assumption) _).mono ?_; rintro e w' ⟨rfl, rfl⟩))
    | (go_at_call 39; refine (faultNew 2 (-1) _ (by decide)).mono ?_; rintro e w' ⟨b, rfl, hb, hlt, hB⟩))
  all_goals go_ret
  all_goals exact ⟨b, rfl, below_then hW hb, by have := hW.size; omega, hB⟩

/-- Ranges that are kept. -/
structure Ranges (c : Cfg) : Prop where
  n0 : 1 ≤ c.nodes
  n1 : c.nodes ≤ 7
  f0 : 0 ≤ c.faulty
  f1 : c.faulty ≤ 2
  s0 : 1 ≤ c.slot
  s1 : c.slot ≤ 16777216
  g0 : 0 ≤ c.gap
  g1 : c.gap ≤ 16777216
  r0 : 0 ≤ c.rho
  r1 : c.rho ≤ 200
  x0 : 0 ≤ c.dmax
  x1 : c.dmax ≤ 1048576
  d0 : 0 ≤ c.dmin
  d1 : c.dmin ≤ c.dmax
  m0 : 0 ≤ c.margin
  m1 : c.margin ≤ 16777216
theorem Ranges.of {c : Cfg} (h : rangesOk c = true) : Ranges c := by
  simp only [rangesOk, inb, Bool.and_eq_true, decide_eq_true_eq] at h
  obtain ⟨⟨⟨⟨⟨⟨⟨⟨a0, a1⟩, b0, b1⟩, c0, c1⟩, d0, d1⟩, e0, e1⟩, f0, f1⟩, g0, g1⟩, h0, h1⟩ := h
  exact ⟨a0, a1, b0, b1, c0, c1, d0, d1, e0, e1, f0, f1, g0, g1, h0, h1⟩

set_option maxRecDepth 100000 in
set_option maxHeartbeats 4000000 in
theorem tabCheck_many (c : Cfg) (hok : c.ok) (C : Nat → Nat) (pv qv rv : Value) (w : World) (hl : Lists w C c pv qv rv) (hr : rangesOk c = true) (hmany : c.parts.length > 12 ∨ c.ports.length > 24 ∨ c.routes.length > 24) :
    Calls Try.prog 50 #[c.v pv qv rv] w fun e w' => ∃ ev, e = .returned ev ∧ Below w.heap.size w w' ∧ ErrO w w' ev (tabE c) := by
  obtain ⟨⟨pa, pc, rfl, p1, p2, p3, p4⟩, ⟨qa, qc, rfl, q1, q2, q3, q4⟩, ⟨ra, rc, rfl, r1, r2, r3, r4⟩⟩ := id hl
  have h1 := hl.parts
  have h2 := hl.ports
  have h3 := hl.routes
  have hR := Ranges.of hr
  unfold maxLen at p2 q2 r2
  have k0 : inb c.nodes 1 7 = true := by simp [inb, hR.n0, hR.n1]
  have k1 : inb c.faulty 0 2 = true := by simp [inb, hR.f0, hR.f1]
  have k2 : inb c.slot 1 16777216 = true := by simp [inb, hR.s0, hR.s1]
  have k3 : inb c.gap 0 16777216 = true := by simp [inb, hR.g0, hR.g1]
  have k4 : inb c.rho 0 200 = true := by simp [inb, hR.r0, hR.r1]
  have k5 : inb c.dmax 0 1048576 = true := by simp [inb, hR.x0, hR.x1]
  have k6 : inb c.dmin 0 c.dmax = true := by simp [inb, hR.d0, hR.d1]
  have k7 : inb c.margin 0 16777216 = true := by simp [inb, hR.m0, hR.m1]
  unfold Cfg.v
  · have hE : tabE c = some (3, -1) := by unfold tabE; rw [if_neg (by simp [hr]), if_pos hmany]
    have HE := hid_ hE
    have hW := (Below.refl w.heap.size w).alloc (Nat.le_refl _) (.cells #[.int .i64 c.nodes, .int .i64 c.faulty, .int .i64 c.slot, .int .i64 c.gap, .int .i64 c.rho, .int .i64 c.dmin, .int .i64 c.dmax, .int .i64 c.margin, .slice pa c.parts.length pc, .slice qa c.ports.length qc, .slice ra c.routes.length rc] 28)
    clear hE p3 p4 q3 q4 r3 r4 h1 h2 h3 hl hr
    by_cases m1 : 12 < c.parts.length
    · go_enter Try.func50, Try.ntmps50
      go_wp2_with (first
        | (go_at_call 57; refine (tabInT (by assumption) _).mono ?_; rintro e w' ⟨rfl, rfl⟩)
        | (go_at_call 39; refine (faultNew 3 (-1) _ (by decide)).mono ?_; rintro e w' ⟨b, rfl, hb, hlt, hB⟩))
      go_ret
      exact ⟨_, rfl, below_then hW hb, by rw [HE.out]; exact ⟨b, rfl, by have := hW.size; omega, hB⟩⟩
    · by_cases m2 : 24 < c.ports.length
      · go_enter Try.func50, Try.ntmps50
        go_wp2_with (first
          | (go_at_call 57; refine (tabInT (by assumption) _).mono ?_; rintro e w' ⟨rfl, rfl⟩)
          | (go_at_call 39; refine (faultNew 3 (-1) _ (by decide)).mono ?_; rintro e w' ⟨b, rfl, hb, hlt, hB⟩))
        go_ret
        exact ⟨_, rfl, below_then hW hb, by rw [HE.out]; exact ⟨b, rfl, by have := hW.size; omega, hB⟩⟩
      · have m3 : 24 < c.routes.length := by omega
        go_enter Try.func50, Try.ntmps50
        go_wp2_with (first
          | (go_at_call 57; refine (tabInT (by assumption) _).mono ?_; rintro e w' ⟨rfl, rfl⟩)
          | (go_at_call 39; refine (faultNew 3 (-1) _ (by decide)).mono ?_; rintro e w' ⟨b, rfl, hb, hlt, hB⟩))
        go_ret
        exact ⟨_, rfl, below_then hW hb, by rw [HE.out]; exact ⟨b, rfl, by have := hW.size; omega, hB⟩⟩

set_option maxRecDepth 100000 in
set_option maxHeartbeats 4000000 in
theorem tabCheck_loops (c : Cfg) (hok : c.ok) (C : Nat → Nat) (pv qv rv : Value) (w : World) (hl : Lists w C c pv qv rv) (hr : rangesOk c = true) (hmany : ¬(c.parts.length > 12 ∨ c.ports.length > 24 ∨ c.routes.length > 24)) :
    Calls Try.prog 50 #[c.v pv qv rv] w fun e w' => ∃ ev, e = .returned ev ∧ Below w.heap.size w w' ∧ ErrO w w' ev (tabE c) := by
  obtain ⟨⟨pa, pc, rfl, p1, p2, p3, p4⟩, ⟨qa, qc, rfl, q1, q2, q3, q4⟩, ⟨ra, rc, rfl, r1, r2, r3, r4⟩⟩ := id hl
  have h1 := hl.parts
  have h2 := hl.ports
  have h3 := hl.routes
  have hR := Ranges.of hr
  unfold maxLen at p2 q2 r2
  have k0 : inb c.nodes 1 7 = true := by simp [inb, hR.n0, hR.n1]
  have k1 : inb c.faulty 0 2 = true := by simp [inb, hR.f0, hR.f1]
  have k2 : inb c.slot 1 16777216 = true := by simp [inb, hR.s0, hR.s1]
  have k3 : inb c.gap 0 16777216 = true := by simp [inb, hR.g0, hR.g1]
  have k4 : inb c.rho 0 200 = true := by simp [inb, hR.r0, hR.r1]
  have k5 : inb c.dmax 0 1048576 = true := by simp [inb, hR.x0, hR.x1]
  have k6 : inb c.dmin 0 c.dmax = true := by simp [inb, hR.d0, hR.d1]
  have k7 : inb c.margin 0 16777216 = true := by simp [inb, hR.m0, hR.m1]
  unfold Cfg.v
  have m1 : c.parts.length ≤ 12 := by omega
  have m2 : c.ports.length ≤ 24 := by omega
  have m3 : c.routes.length ≤ 24 := by omega
  have hE : tabE c = atE 2 c.parts.length (partBad c) (atE 8 c.ports.length (portBad c) (atE 72 c.routes.length (routeOut c) none)) := by unfold tabE; rw [if_neg (by simp [hr]), if_neg hmany]
  have HE := hid_ hE
  have n0 := hR.n0
  have n1 := hR.n1
  clear hE hmany p3 p4 q3 q4 r3 r4 hr hR
  go_enter Try.func50, Try.ntmps50
  go_upto_region 12 with (go_at_call 57; refine (tabInT (by assumption) _).mono ?_; rintro e w' ⟨rfl, rfl⟩)
  refine gen_world (fun W => Below w.heap.size w W ∧ Bk W w.heap.size 28 (c.cells (.slice pa c.parts.length pc) (.slice qa c.ports.length qc) (.slice ra c.routes.length rc))) ⟨(Below.refl _ _).alloc (Nat.le_refl _) _, Bk.new _ _ _⟩ ?_
  rintro W ⟨hW, hB⟩
  have b0 := hB.cell_ 0 rfl
  have b8 := hB.cell_ 8 rfl
  have b9 := hB.cell_ 9 rfl
  have b10 := hB.cell_ 10 rfl
  go_wp2
  go_loopw [66] (fun iv wr => ∃ i : Nat, i ≤ c.parts.length ∧ iv = .int .i64 i ∧ Below W.heap.size W wr ∧ ∀ j, j < i → partBad c j = false) (fun iv _ => c.parts.length - (intOf iv).toNat)
  case atStart => exact ⟨0, Nat.zero_le _, rfl, Below.refl _ _, fun j hj => absurd hj (by omega)⟩
  case round =>
    obtain ⟨i, hi, rfl, hwr, hgood⟩ := hrel
    by_cases hlt : i < c.parts.length
    · obtain ⟨bb, off, rfl, _, hcell⟩ := h1.row (fun _ => rfl) hlt
      have hce : ∀ j v, (Part.cells (c.part i))[j]? = some v → wr.cell? ⟨bb, off + i * 9 + j, none⟩ = some v := fun j v hv => grown_cell hwr (grown_cell hW (hcell j v hv))
      have e0 := hce 0 _ rfl
      have e1 := hce 1 _ rfl
      have e2 := hce 2 _ rfl
      have e3 := hce 3 _ rfl
      have e4 := hce 4 _ rfl
      have e5 := hce 5 _ rfl
      have e6 := hce 6 _ rfl
      have e7 := hce 7 _ rfl
      have e8 := hce 8 _ rfl
      have f0 := fun o => grown_cell (hwr.alloc hwr.size o) b0
      simp only [Nat.add_zero] at e0
      have hpok : (c.part i).ok := hok.parts _ (by unfold Cfg.part; rw [List.getD_eq_getElem?_getD, List.getElem?_eq_getElem hlt]; exact List.getElem_mem hlt)
      clear hcell hce
      have HG := hid_ hgood
      clear hgood
      go_wp2_with fail
      refine (tabPart (c.part i) c.nodes hpok ⟨n0, n1⟩ _).mono ?_
      have hwa := fun o => hwr.alloc hwr.size o
      cases hpo : partOk c.nodes (c.part i) with
      | false =>
        rintro e w2 ⟨rfl, hw2⟩
        go_wp2_with fail
        refine (faultNew 2 i _ (by decide)).mono ?_
        rintro e w3 ⟨b, rfl, hw3, hlt3, hB3⟩
        go_wp2
        go_ret
        have hfin := below_then (hwa _) (below_then hw2 hw3)
        refine ⟨_, rfl, below_then hW hfin, ?_⟩
        rw [HE.out, atE_some hlt HG.out (by simp [partBad, hpo])]
        have := (below_then (hwa _) hw2).size
        have := hW.size
        exact ErrO.of _ _ _ _ _ (by omega) hB3 (by omega)
      | true =>
        rintro e w2 ⟨rfl, hw2⟩
        go_wp2
        go_roundw
        case rel => exact ⟨i + 1, by omega, by go_num, below_then (hwa _) hw2, fun j hj => by
          rcases Nat.lt_succ_iff_lt_or_eq.1 hj with h | rfl
          · exact HG.out j h
          · simp [partBad, hpo]⟩
        case measure => simp [intOf]; omega
    · have HG1 := hid_ (show ∀ j, j < c.parts.length → partBad c j = false from fun j hj => hgood j (by omega))
      clear hgood
      obtain ⟨w1, rfl⟩ : ∃ w1 : World, w1 = wr := ⟨_, rfl⟩
      have g0 := grown_cell hwr b0
      have g8 := grown_cell hwr b8
      have g9 := grown_cell hwr b9
      have g10 := grown_cell hwr b10
      have hw1 := below_then hW hwr
      go_wp2
      go_loopw [82] (fun iv wr => ∃ i : Nat, i ≤ c.ports.length ∧ iv = .int .i64 i ∧ Below w1.heap.size w1 wr ∧ ∀ j, j < i → portBad c j = false) (fun iv _ => c.ports.length - (intOf iv).toNat)
      case atStart => exact ⟨0, Nat.zero_le _, rfl, Below.refl _ _, fun j hj => absurd hj (by omega)⟩
      case round =>
        obtain ⟨i, hi, rfl, hwr, hgood⟩ := hrel
        by_cases hlt : i < c.ports.length
        · obtain ⟨bb, off, rfl, _, hcell⟩ := h2.row (fun _ => rfl) hlt
          have hce : ∀ j v, (Port.cells (c.port i))[j]? = some v → wr.cell? ⟨bb, off + i * 6 + j, none⟩ = some v := fun j v hv => grown_cell hwr (grown_cell hw1 (hcell j v hv))
          have e0 := hce 0 _ rfl
          have e1 := hce 1 _ rfl
          have e2 := hce 2 _ rfl
          have e3 := hce 3 _ rfl
          have e4 := hce 4 _ rfl
          have e5 := hce 5 _ rfl
          have f8 := fun o => grown_cell (hwr.alloc hwr.size o) g8
          simp only [Nat.add_zero] at e0
          clear hcell hce
          have HG := hid_ hgood
          clear hgood
          go_wp2_with fail
          refine (tabPort (c.port i) c.parts.length ⟨by omega, by omega⟩ _).mono ?_
          have hwa := fun o => hwr.alloc hwr.size o
          cases hpo : portOk c.parts.length (c.port i) with
          | false =>
            rintro e w2 ⟨rfl, hw2⟩
            go_wp2_with fail
            refine (faultNew 8 i _ (by decide)).mono ?_
            rintro e w3 ⟨b, rfl, hw3, hlt3, hB3⟩
            go_wp2
            go_ret
            have hfin := below_then (hwa _) (below_then hw2 hw3)
            refine ⟨_, rfl, below_then hw1 hfin, ?_⟩
            rw [HE.out, atE_none HG1.out, atE_some hlt HG.out (by simp [portBad, hpo])]
            have := (below_then (hwa _) hw2).size
            have := hw1.size
            exact ErrO.of _ _ _ _ _ (by omega) hB3 (by omega)
          | true =>
            rintro e w2 ⟨rfl, hw2⟩
            go_wp2
            go_roundw
            case rel => exact ⟨i + 1, by omega, by go_num, below_then (hwa _) hw2, fun j hj => by
              rcases Nat.lt_succ_iff_lt_or_eq.1 hj with h | rfl
              · exact HG.out j h
              · simp [portBad, hpo]⟩
            case measure => simp [intOf]; omega
        · have HG2 := hid_ (show ∀ j, j < c.ports.length → portBad c j = false from fun j hj => hgood j (by omega))
          clear hgood
          obtain ⟨w2, rfl⟩ : ∃ w2 : World, w2 = wr := ⟨_, rfl⟩
          have k10 := grown_cell hwr g10
          have k9 := grown_cell hwr g9
          have hw2 := below_then hw1 hwr
          go_wp2
          go_loopw [99] (fun iv wr => ∃ i : Nat, i ≤ c.routes.length ∧ iv = .int .i64 i ∧ Below w2.heap.size w2 wr ∧ ∀ j, j < i → routeOut c j = false) (fun iv _ => c.routes.length - (intOf iv).toNat)
          case atStart => exact ⟨0, Nat.zero_le _, rfl, Below.refl _ _, fun j hj => absurd hj (by omega)⟩
          case round =>
            obtain ⟨i, hi, rfl, hwr, hgood⟩ := hrel
            by_cases hlt : i < c.routes.length
            · obtain ⟨bb, off, rfl, _, hcell⟩ := h3.row (fun _ => rfl) hlt
              have hce : ∀ j v, (Route.cells (c.route i))[j]? = some v → wr.cell? ⟨bb, off + i * 2 + j, none⟩ = some v := fun j v hv => grown_cell hwr (grown_cell hw2 (hcell j v hv))
              have e0 := hce 0 _ rfl
              have e1 := hce 1 _ rfl
              have f9 := fun o => grown_cell (hwr.alloc hwr.size o) k9
              simp only [Nat.add_zero] at e0
              clear hcell hce
              have HG := hid_ hgood
              have hwa := fun o => hwr.alloc hwr.size o
              clear hgood
              cases s1 : inb (c.route i).src 0 (c.ports.length - 1) with
              | false =>
                go_wp2_with fail
                refine (tabInF s1 _).mono ?_
                rintro e w3 ⟨rfl, rfl⟩
                go_wp2_with fail
                refine (faultNew 72 i _ (by decide)).mono ?_
                rintro e w4 ⟨b, rfl, hw4, hlt4, hB4⟩
                go_wp2
                go_ret
                have hfin := below_then (hwa _) hw4
                refine ⟨_, rfl, below_then hw2 hfin, ?_⟩
                rw [HE.out, atE_none HG1.out, atE_none HG2.out, atE_some hlt HG.out (by simp [routeOut, routeIn, s1])]
                have := hw2.size
                have := hwr.size
                simp only [World.size_alloc] at hlt4
                exact ErrO.of _ _ _ _ _ (by omega) hB4 (by omega)
              | true =>
                cases s2 : inb (c.route i).dst 0 (c.ports.length - 1) with
                | false =>
                  go_wp2_with fail
                  refine (tabInT s1 _).mono ?_
                  rintro e w3 ⟨rfl, rfl⟩
                  go_wp2_with fail
                  refine (tabInF s2 _).mono ?_
                  rintro e w3 ⟨rfl, rfl⟩
                  go_wp2_with fail
                  refine (faultNew 72 i _ (by decide)).mono ?_
                  rintro e w4 ⟨b, rfl, hw4, hlt4, hB4⟩
                  go_wp2
                  go_ret
                  have hfin := below_then (hwa _) hw4
                  refine ⟨_, rfl, below_then hw2 hfin, ?_⟩
                  rw [HE.out, atE_none HG1.out, atE_none HG2.out, atE_some hlt HG.out (by simp [routeOut, routeIn, s2])]
                  have := hw2.size
                  have := hwr.size
                  simp only [World.size_alloc] at hlt4
                  exact ErrO.of _ _ _ _ _ (by omega) hB4 (by omega)
                | true =>
                  go_wp2_with fail
                  refine (tabInT s1 _).mono ?_
                  rintro e w3 ⟨rfl, rfl⟩
                  go_wp2_with fail
                  refine (tabInT s2 _).mono ?_
                  rintro e w3 ⟨rfl, rfl⟩
                  go_wp2
                  go_roundw
                  case rel => exact ⟨i + 1, by omega, by go_num, hwa _, fun j hj => by
                    rcases Nat.lt_succ_iff_lt_or_eq.1 hj with h | rfl
                    · exact HG.out j h
                    · simp [routeOut, routeIn, s1, s2]⟩
                  case measure => simp [intOf]; omega
            · have HG3 := hid_ (show ∀ j, j < c.routes.length → routeOut c j = false from fun j hj => hgood j (by omega))
              clear hgood
              go_wp2
              go_ret
              refine ⟨_, rfl, below_then hw2 hwr, ?_⟩
              rw [HE.out, atE_none HG1.out, atE_none HG2.out, atE_none HG3.out]
              rfl

theorem tabCheck_on (c : Cfg) (hok : c.ok) (C : Nat → Nat) (pv qv rv : Value) (w : World) (hl : Lists w C c pv qv rv) (hr : rangesOk c = true) :
    Calls Try.prog 50 #[c.v pv qv rv] w fun e w' => ∃ ev, e = .returned ev ∧ Below w.heap.size w w' ∧ ErrO w w' ev (tabE c) := by
  by_cases hmany : c.parts.length > 12 ∨ c.ports.length > 24 ∨ c.routes.length > 24
  · exact tabCheck_many c hok C pv qv rv w hl hr hmany
  · exact tabCheck_loops c hok C pv qv rv w hl hr hmany

theorem tabCheck (c : Cfg) (hok : c.ok) (C : Nat → Nat) (pv qv rv : Value) (w : World) (hl : Lists w C c pv qv rv) :
    Calls Try.prog 50 #[c.v pv qv rv] w fun e w' => ∃ ev, e = .returned ev ∧ Below w.heap.size w w' ∧ ErrO w w' ev (tabE c) := by
  cases hr : rangesOk c with
  | true => exact tabCheck_on c hok C pv qv rv w hl hr
  | false =>
    have hE : tabE c = some (2, -1) := by unfold tabE; rw [if_pos hr]
    rw [hE]
    refine (tabCheck_range c pv qv rv w ?_).mono ?_
    · unfold rangesOk at hr
      revert hr
      cases inb c.nodes 1 7 <;> cases inb c.faulty 0 2 <;> cases inb c.slot 1 16777216 <;> cases inb c.gap 0 16777216 <;> cases inb c.rho 0 200 <;> cases inb c.dmax 0 1048576 <;> cases inb c.dmin 0 c.dmax <;> cases inb c.margin 0 16777216 <;> simp
    · rintro e w' ⟨b, rfl, h1, h2, h3⟩
      exact ⟨_, rfl, h1, b, rfl, h2, h3⟩
end Go.Proofs.Ytogfbeibpfdleaa
