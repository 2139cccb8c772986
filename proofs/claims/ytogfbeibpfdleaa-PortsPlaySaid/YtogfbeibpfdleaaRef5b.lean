/- The document's tables' check, its loops: escapementref05.Check tells tabE as a text. No condition but the tables' own ranges. -/
import Derived.Test.YtogfbeibpfdleaaRef5
set_option linter.unusedSimpArgs false
set_option linter.unusedVariables false
namespace Go.Proofs.Ytogfbeibpfdleaa
open Go.RowKit Go.Maps

set_option maxRecDepth 100000 in
set_option maxHeartbeats 8000000 in
theorem refCheck_loops (c : Cfg) (hok : c.ok) (C : Nat → Nat) (pv qv rv : Value) (w : World) (hl : Lists w C c pv qv rv) (hr : rangesOk c = true) (hmany : ¬(c.parts.length > 12 ∨ c.ports.length > 24 ∨ c.routes.length > 24)) :
    Calls Try.prog 45 #[c.v pv qv rv] w fun e w' => e = .returned (.string ⟨(refT (tabE c)).toArray⟩) ∧ Below w.heap.size w w' := by
  obtain ⟨⟨pa, pc, rfl, p1, p2, p3, p4⟩, ⟨qa, qc, rfl, q1, q2, q3, q4⟩, ⟨ra, rc, rfl, r1, r2, r3, r4⟩⟩ := id hl
  have h1 := hl.parts
  have h2 := hl.ports
  have h3 := hl.routes
  have hR := Ranges.of hr
  unfold maxLen at p2 q2 r2
  have k0 : inb c.nodes 1 7 = true := by simp [inb, hR.n0, hR.n1]
  have k1 : inb c.faulty 0 2 = true := by simp [inb, hR.f0, hR.f1]
  have k2 : inb c.slot 1 16777216 = true := by simp [inb, hR.s0, hR.s1]
  have k3 : inb c.gap 0 16777216 = true := by simp [inb, hR.g0, hR.g1]
  have k4 : inb c.rho 0 200 = true := by simp [inb, hR.r0, hR.r1]
  have k5 : inb c.dmax 0 1048576 = true := by simp [inb, hR.x0, hR.x1]
  have k6 : inb c.dmin 0 c.dmax = true := by simp [inb, hR.d0, hR.d1]
  have k7 : inb c.margin 0 16777216 = true := by simp [inb, hR.m0, hR.m1]
  unfold Cfg.v
  have m1 : c.parts.length ≤ 12 := by omega
  have m2 : c.ports.length ≤ 24 := by omega
  have m3 : c.routes.length ≤ 24 := by omega
  have hE : tabE c = atE 2 c.parts.length (partBad c) (atE 8 c.ports.length (portBad c) (atE 72 c.routes.length (routeOut c) none)) := by unfold tabE; rw [if_neg (by simp [hr]), if_neg hmany]
  have HE := hid_ hE
  have n0 := hR.n0
  have n1 := hR.n1
  clear hE hmany p3 p4 q3 q4 r3 r4 hr hR
  go_enter Try.func45, Try.ntmps45
  go_upto_region 3 with (go_at_call 55; refine (refUpT (by assumption) _).mono ?_; rintro e w' ⟨rfl, rfl⟩)
  refine gen_world (fun W => Below w.heap.size w W ∧ Bk W w.heap.size 28 (c.cells (.slice pa c.parts.length pc) (.slice qa c.ports.length qc) (.slice ra c.routes.length rc))) ⟨(Below.refl _ _).alloc (Nat.le_refl _) _, Bk.new _ _ _⟩ ?_
  rintro W ⟨hW, hB⟩
  have b0 := hB.cell_ 0 rfl
  have b8 := hB.cell_ 8 rfl
  have b9 := hB.cell_ 9 rfl
  have b10 := hB.cell_ 10 rfl
  clear k0 k1 k2 k3 k4 k5 k6 k7
  go_wp2
  go_loopw [3] (fun iv wr => ∃ i : Nat, i ≤ c.parts.length ∧ iv = .int .i64 i ∧ Below W.heap.size W wr ∧ ∀ j, j < i → partBad c j = false) (fun iv _ => c.parts.length - (intOf iv).toNat)
  case atStart => exact ⟨0, Nat.zero_le _, rfl, Below.refl _ _, fun j hj => absurd hj (by omega)⟩
  case round =>
    obtain ⟨i, hi, rfl, hwr, hgood⟩ := hrel
    by_cases hlt : i < c.parts.length
    · obtain ⟨bb, off, rfl, _, hcell⟩ := h1.row (fun _ => rfl) hlt
      have hce : ∀ j v, (Part.cells (c.part i))[j]? = some v → wr.cell? ⟨bb, off + i * 9 + j, none⟩ = some v := fun j v hv => grown_cell hwr (grown_cell hW (hcell j v hv))
      have e0 := hce 0 _ rfl
      have e1 := hce 1 _ rfl
      have e2 := hce 2 _ rfl
      have e3 := hce 3 _ rfl
      have e4 := hce 4 _ rfl
      have e5 := hce 5 _ rfl
      have e6 := hce 6 _ rfl
      have e7 := hce 7 _ rfl
      have e8 := hce 8 _ rfl
      have f8 := grown_cell hwr b8
      simp only [Nat.add_zero] at e0
      clear hcell hce
      have HG := hid_ hgood
      clear hgood
      go_upto_region 9 with (fail)
      refine gen_world (fun w1 => Below wr.heap.size wr w1 ∧ Bk w1 wr.heap.size 77 (c.part i).cells) ⟨(Below.refl _ _).alloc (Nat.le_refl _) _, Bk.new _ _ _⟩ ?_
      rintro w1 ⟨hw1, hP⟩
      have hww := below_then hwr hw1
      have g0 := grown_cell hww b0
      have g8 := grown_cell hww b8
      have q0 := hP.cell_ 0 rfl
      have q1 := hP.cell_ 1 rfl
      have q2 := hP.cell_ 2 rfl
      have q3 := hP.cell_ 3 rfl
      have q4 := hP.cell_ 4 rfl
      have s0 := hP.cell_ 5 rfl
      have s1 := hP.cell_ 6 rfl
      have s2 := hP.cell_ 7 rfl
      have s3 := hP.cell_ 8 rfl
      clear e0 e1 e2 e3 e4 e5 e6 e7 e8 f8
      go_cut [5] (fun u wx => u = .bool (part5 c.nodes (c.part i)) ∧ wx = w1)
      case first =>
        cases v0 : inb (c.part i).node 0 (c.nodes - 1) with
        | false =>
          have HV := hid_ (show part5 c.nodes (c.part i) = false by simp [part5, v0])
          go_wp2_with (go_at_call 55; first | (refine (refUpT (by assumption) _).mono ?_; rintro e w' ⟨rfl, rfl⟩) | (refine (refUpF (by assumption) _).mono ?_; rintro e w' ⟨rfl, rfl⟩))
          go_meet
          exact ⟨by rw [HV.out], rfl⟩
        | true =>
          cases v1 : inb (c.part i).start 0 268435456 with
          | false =>
            have HV := hid_ (show part5 c.nodes (c.part i) = false by simp [part5, v1])
            go_wp2_with (go_at_call 55; first | (refine (refUpT (by assumption) _).mono ?_; rintro e w' ⟨rfl, rfl⟩) | (refine (refUpF (by assumption) _).mono ?_; rintro e w' ⟨rfl, rfl⟩))
            go_meet
            exact ⟨by rw [HV.out], rfl⟩
          | true =>
            cases v2 : inb (c.part i).length 1 268435456 with
            | false =>
              have HV := hid_ (show part5 c.nodes (c.part i) = false by simp [part5, v2])
              go_wp2_with (go_at_call 55; first | (refine (refUpT (by assumption) _).mono ?_; rintro e w' ⟨rfl, rfl⟩) | (refine (refUpF (by assumption) _).mono ?_; rintro e w' ⟨rfl, rfl⟩))
              go_meet
              exact ⟨by rw [HV.out], rfl⟩
            | true =>
              cases v3 : inb (c.part i).budget 0 64 with
              | false =>
                have HV := hid_ (show part5 c.nodes (c.part i) = false by simp [part5, v3])
                go_wp2_with (go_at_call 55; first | (refine (refUpT (by assumption) _).mono ?_; rintro e w' ⟨rfl, rfl⟩) | (refine (refUpF (by assumption) _).mono ?_; rintro e w' ⟨rfl, rfl⟩))
                go_meet
                exact ⟨by rw [HV.out], rfl⟩
              | true =>
                have HV := hid_ (show part5 c.nodes (c.part i) = inb (c.part i).words 0 16 by simp [part5, v0, v1, v2, v3])
                go_wp2_with (go_at_call 55; first | (refine (refUpT (by assumption) _).mono ?_; rintro e w' ⟨rfl, rfl⟩) | (refine (refUp _ _ _ _).mono ?_; rintro e w' ⟨rfl, rfl⟩))
                go_meet
                exact ⟨by rw [HV.out], rfl⟩
      case rest =>
        obtain ⟨rfl, rfl⟩ := hcut
        have HP4 := hid_ (partAt_four c.nodes (c.part i))
        rw [← partAt_zero]
        obtain ⟨wo, rfl⟩ : ∃ wo : World, wo = wr := ⟨_, rfl⟩
        go_wp2
        go_loop [6, 5] (fun kv ov => ∃ k : Nat, k ≤ 4 ∧ kv = .int .i64 k ∧ ov = .bool (partAt c.nodes (c.part i) k)) (fun kv _ => 4 - (intOf kv).toNat)
        case atStart => exact ⟨0, by omega, rfl, rfl⟩
        case round =>
          obtain ⟨k, hk, rfl, rfl⟩ := hrel
          rcases (by omega : k = 0 ∨ k = 1 ∨ k = 2 ∨ k = 3 ∨ k = 4) with rfl | rfl | rfl | rfl | rfl
          case inr.inr.inr.inr =>
            rw [HP4.out]
            cases hpo : partOk c.nodes (c.part i) with
            | false =>
              go_wp2_with fail
              refine (refAt_ 2 i (by omega) (by omega) _).mono ?_
              rintro e w3 ⟨rfl, hw3⟩
              go_wp2
              go_ret
              refine ⟨?_, below_then hW (below_then hww hw3)⟩
              rw [HE.out, atE_some hlt HG.out (by simp [partBad, hpo])]
              rfl
            | true =>
              go_wp2
              go_roundw
              case rel => exact ⟨i + 1, by omega, by go_num, hww, fun j hj => by
                rcases Nat.lt_succ_iff_lt_or_eq.1 hj with h | rfl
                · exact HG.out j h
                · simp [partBad, hpo]⟩
              case measure => simp [intOf]; omega
          case inl =>
            have HS := hid_ (partAt_succ c.nodes (c.part i) 0)
            cases hv : partAt c.nodes (c.part i) 0 with
            | false =>
              have HT := hid_ (show partAt c.nodes (c.part i) 1 = false by rw [HS.out, hv]; rfl)
              clear hv
              go_wp2
              go_round
              case rel => exact ⟨1, by omega, by go_num, by rw [HT.out]⟩
              case measure => simp [intOf]
            | true =>
              by_cases hr : (c.part i).r0 ≤ 3
              · have HT := hid_ (show partAt c.nodes (c.part i) 1 = true by rw [HS.out, hv]; simp [Part.r, hr])
                clear hv
                go_wp2
                go_round
                case rel => exact ⟨1, by omega, by go_num, by rw [HT.out]⟩
                case measure => simp [intOf]
              · have HT := hid_ (show partAt c.nodes (c.part i) 1 = false by rw [HS.out, hv]; simp [Part.r, hr])
                clear hv
                go_wp2
                go_round
                case rel => exact ⟨1, by omega, by go_num, by rw [HT.out]⟩
                case measure => simp [intOf]
          case inr.inl =>
            have HS := hid_ (partAt_succ c.nodes (c.part i) 1)
            cases hv : partAt c.nodes (c.part i) 1 with
            | false =>
              have HT := hid_ (show partAt c.nodes (c.part i) 2 = false by rw [HS.out, hv]; rfl)
              clear hv
              go_wp2
              go_round
              case rel => exact ⟨2, by omega, by go_num, by rw [HT.out]⟩
              case measure => simp [intOf]
            | true =>
              by_cases hr : (c.part i).r1 ≤ 3
              · have HT := hid_ (show partAt c.nodes (c.part i) 2 = true by rw [HS.out, hv]; simp [Part.r, hr])
                clear hv
                go_wp2
                go_round
                case rel => exact ⟨2, by omega, by go_num, by rw [HT.out]⟩
                case measure => simp [intOf]
              · have HT := hid_ (show partAt c.nodes (c.part i) 2 = false by rw [HS.out, hv]; simp [Part.r, hr])
                clear hv
                go_wp2
                go_round
                case rel => exact ⟨2, by omega, by go_num, by rw [HT.out]⟩
                case measure => simp [intOf]
          case inr.inr.inl =>
            have HS := hid_ (partAt_succ c.nodes (c.part i) 2)
            cases hv : partAt c.nodes (c.part i) 2 with
            | false =>
              have HT := hid_ (show partAt c.nodes (c.part i) 3 = false by rw [HS.out, hv]; rfl)
              clear hv
              go_wp2
              go_round
              case rel => exact ⟨3, by omega, by go_num, by rw [HT.out]⟩
              case measure => simp [intOf]
            | true =>
              by_cases hr : (c.part i).r2 ≤ 3
              · have HT := hid_ (show partAt c.nodes (c.part i) 3 = true by rw [HS.out, hv]; simp [Part.r, hr])
                clear hv
                go_wp2
                go_round
                case rel => exact ⟨3, by omega, by go_num, by rw [HT.out]⟩
                case measure => simp [intOf]
              · have HT := hid_ (show partAt c.nodes (c.part i) 3 = false by rw [HS.out, hv]; simp [Part.r, hr])
                clear hv
                go_wp2
                go_round
                case rel => exact ⟨3, by omega, by go_num, by rw [HT.out]⟩
                case measure => simp [intOf]
          case inr.inr.inr.inl =>
            have HS := hid_ (partAt_succ c.nodes (c.part i) 3)
            cases hv : partAt c.nodes (c.part i) 3 with
            | false =>
              have HT := hid_ (show partAt c.nodes (c.part i) 4 = false by rw [HS.out, hv]; rfl)
              clear hv
              go_wp2
              go_round
              case rel => exact ⟨4, by omega, by go_num, by rw [HT.out]⟩
              case measure => simp [intOf]
            | true =>
              by_cases hr : (c.part i).r3 ≤ 3
              · have HT := hid_ (show partAt c.nodes (c.part i) 4 = true by rw [HS.out, hv]; simp [Part.r, hr])
                clear hv
                go_wp2
                go_round
                case rel => exact ⟨4, by omega, by go_num, by rw [HT.out]⟩
                case measure => simp [intOf]
              · have HT := hid_ (show partAt c.nodes (c.part i) 4 = false by rw [HS.out, hv]; simp [Part.r, hr])
                clear hv
                go_wp2
                go_round
                case rel => exact ⟨4, by omega, by go_num, by rw [HT.out]⟩
                case measure => simp [intOf]
    · have HG1 := hid_ (show ∀ j, j < c.parts.length → partBad c j = false from fun j hj => hgood j (by omega))
      clear hgood
      obtain ⟨w1, rfl⟩ : ∃ w1 : World, w1 = wr := ⟨_, rfl⟩
      have g0 := grown_cell hwr b0
      have g8 := grown_cell hwr b8
      have g9 := grown_cell hwr b9
      have g10 := grown_cell hwr b10
      have hw1 := below_then hW hwr
      go_wp2
      go_loopw [7] (fun iv wr => ∃ i : Nat, i ≤ c.ports.length ∧ iv = .int .i64 i ∧ Below w1.heap.size w1 wr ∧ ∀ j, j < i → portBad c j = false) (fun iv _ => c.ports.length - (intOf iv).toNat)
      case atStart => exact ⟨0, Nat.zero_le _, rfl, Below.refl _ _, fun j hj => absurd hj (by omega)⟩
      case round =>
        obtain ⟨i, hi, rfl, hwr, hgood⟩ := hrel
        by_cases hlt : i < c.ports.length
        · obtain ⟨bb, off, rfl, _, hcell⟩ := h2.row (fun _ => rfl) hlt
          have hce : ∀ j v, (Port.cells (c.port i))[j]? = some v → wr.cell? ⟨bb, off + i * 6 + j, none⟩ = some v := fun j v hv => grown_cell hwr (grown_cell hw1 (hcell j v hv))
          have e0 := hce 0 _ rfl
          have e1 := hce 1 _ rfl
          have e2 := hce 2 _ rfl
          have e3 := hce 3 _ rfl
          have e4 := hce 4 _ rfl
          have e5 := hce 5 _ rfl
          have f9 := grown_cell hwr g9
          simp only [Nat.add_zero] at e0
          clear hcell hce
          have HG := hid_ hgood
          clear hgood
          go_upto_region 20 with (fail)
          refine gen_world (fun w1 => Below wr.heap.size wr w1 ∧ Bk w1 wr.heap.size 33 (c.port i).cells) ⟨(Below.refl _ _).alloc (Nat.le_refl _) _, Bk.new _ _ _⟩ ?_
          rintro w2 ⟨hw2, hP⟩
          have hww := below_then hwr hw2
          have j8 := grown_cell hww g8
          have q0 := hP.cell_ 0 rfl
          have q1 := hP.cell_ 1 rfl
          have q2 := hP.cell_ 2 rfl
          have q3 := hP.cell_ 3 rfl
          have q4 := hP.cell_ 4 rfl
          have q5 := hP.cell_ 5 rfl
          clear e0 e1 e2 e3 e4 e5 f9
          go_cut [9] (fun u wx => u = .bool (inb (c.port i).part 0 (c.parts.length - 1) && inb (c.port i).size 0 16) ∧ wx = w2)
          case first =>
            cases v0 : inb (c.port i).part 0 (c.parts.length - 1) with
            | false =>
              go_wp2_with (go_at_call 55; first | (refine (refUpT (by assumption) _).mono ?_; rintro e w' ⟨rfl, rfl⟩) | (refine (refUpF (by assumption) _).mono ?_; rintro e w' ⟨rfl, rfl⟩))
              go_meet
              exact ⟨by simp [v0], rfl⟩
            | true =>
              go_wp2_with (go_at_call 55; first | (refine (refUpT (by assumption) _).mono ?_; rintro e w' ⟨rfl, rfl⟩) | (refine (refUp _ _ _ _).mono ?_; rintro e w' ⟨rfl, rfl⟩))
              go_meet
              exact ⟨by simp [v0], rfl⟩
          case rest =>
            obtain ⟨rfl, rfl⟩ := hcut
            obtain ⟨r, hr⟩ : ∃ r, portOk c.parts.length (c.port i) = r := ⟨_, rfl⟩
            have HR := hid_ hr
            have W1 := portOk_ways _ _ r hr
            clear hr
            rcases W1 with ⟨v0, rfl, v1⟩ | ⟨v0, rfl, v1⟩ | ⟨v0, v1, rfl, v2⟩ | ⟨v0, v1, rfl, v2⟩ | ⟨v0, v1, v2, v3, rfl⟩ | ⟨v0, v1, v2, v3, v4, rfl⟩ | ⟨v0, v1, v2, v3, v4, v5, rfl⟩ | ⟨v0, v1, v2, v3, v4, v5, v6, rfl⟩ | ⟨v0, v1, v2, v3, v4, v5, v6, rfl⟩ | ⟨v0, v1, v2, v3, v4, rfl⟩ | ⟨v0, v1, v2, v3, v4, v5, rfl⟩ | ⟨v0, v1, v2, v3, v4, v5, rfl⟩ | ⟨v0, v1, v2, v3, rfl⟩
            all_goals first | rw [v0, v1] | rw [v0]
            all_goals try simp only [Bool.false_and, Bool.true_and, Bool.and_false, Bool.and_true]
            all_goals try rw [v5] at q2
            all_goals try clear v0
            all_goals go_wp2_with (first
              | (go_at_call 55; first | (refine (refUpT (by assumption) _).mono ?_; rintro e w' ⟨rfl, rfl⟩) | (refine (refUpF (by assumption) _).mono ?_; rintro e w' ⟨rfl, rfl⟩))
              | (go_at_call 19; refine (refAt_ 8 i (by omega) (by omega) _).mono ?_; rintro e w3 ⟨rfl, hw3⟩))
            all_goals first
              | (go_ret
                 refine ⟨?_, below_then hw1 (below_then hww hw3)⟩
                 rw [HE.out, atE_none HG1.out, atE_some hlt HG.out (by simp [portBad, HR.out])]
                 rfl)
              | (go_roundw
                 case rel => exact ⟨i + 1, by omega, by go_num, hww, fun j hj => by
                   rcases Nat.lt_succ_iff_lt_or_eq.1 hj with h | rfl
                   · exact HG.out j h
                   · simp [portBad, HR.out]⟩
                 case measure => simp [intOf]; omega)
        · have HG2 := hid_ (show ∀ j, j < c.ports.length → portBad c j = false from fun j hj => hgood j (by omega))
          clear hgood
          obtain ⟨w2, rfl⟩ : ∃ w2 : World, w2 = wr := ⟨_, rfl⟩
          have k10 := grown_cell hwr g10
          have k9 := grown_cell hwr g9
          have hw2 := below_then hw1 hwr
          clear g0 g8 g9 g10 b0 b8 b9 b10
          go_wp2
          go_loopw [10] (fun iv wr => ∃ i : Nat, i ≤ c.routes.length ∧ iv = .int .i64 i ∧ Below w2.heap.size w2 wr ∧ ∀ j, j < i → routeOut c j = false) (fun iv _ => c.routes.length - (intOf iv).toNat)
          case atStart => exact ⟨0, Nat.zero_le _, rfl, Below.refl _ _, fun j hj => absurd hj (by omega)⟩
          case round =>
            obtain ⟨i, hi, rfl, hwr, hgood⟩ := hrel
            by_cases hlt : i < c.routes.length
            · obtain ⟨bb, off, rfl, _, hcell⟩ := h3.row (fun _ => rfl) hlt
              have hce : ∀ j v, (Route.cells (c.route i))[j]? = some v → wr.cell? ⟨bb, off + i * 2 + j, none⟩ = some v := fun j v hv => grown_cell hwr (grown_cell hw2 (hcell j v hv))
              have e0' := hce 0 _ rfl
              have e1' := hce 1 _ rfl
              simp only [Nat.add_zero] at e0'
              have t9 := grown_cell hwr k9
              have t10 := grown_cell hwr k10
              clear hcell hce k9 k10
              have HG := hid_ hgood
              clear hgood
              go_upto_region 29 with (fail)
              have e0 := fun n : Aft wr => n.cell e0'
              have e1 := fun n : Aft wr => n.cell e1'
              have f9 := fun n : Aft wr => n.cell t9
              have f10 := fun n : Aft wr => n.cell t10
              clear e0' e1' t9 t10
              cases s1 : inb (c.route i).src 0 (c.ports.length - 1) with
              | false =>
                refine wp_region_aft (by kernel_rfl) (by kernel_rfl) ?_
                repeat (go_big_quiet_step (exact refUpA (by with_reducible assumption) _))
                refine wpQuiet_nil ?_
                rintro _ ⟨n, rfl⟩
                go_wp2_with fail
                refine (refAt_ 72 i (by omega) (by omega) _).mono ?_
                rintro e w4 ⟨rfl, hw4⟩
                go_wp2
                go_ret
                refine ⟨?_, below_then hw2 (below_then hwr (below_then n.h hw4))⟩
                rw [HE.out, atE_none HG1.out, atE_none HG2.out, atE_some hlt HG.out (by simp [routeOut, routeIn, s1])]
                rfl
              | true =>
                cases s2 : inb (c.route i).dst 0 (c.ports.length - 1) with
                | false =>
                  refine wp_region_aft (by kernel_rfl) (by kernel_rfl) ?_
                  repeat (go_big_quiet_step (exact refUpA (by with_reducible assumption) _))
                  refine wpQuiet_nil ?_
                  rintro _ ⟨n, rfl⟩
                  go_wp2_with fail
                  refine (refAt_ 72 i (by omega) (by omega) _).mono ?_
                  rintro e w4 ⟨rfl, hw4⟩
                  go_wp2
                  go_ret
                  refine ⟨?_, below_then hw2 (below_then hwr (below_then n.h hw4))⟩
                  rw [HE.out, atE_none HG1.out, atE_none HG2.out, atE_some hlt HG.out (by simp [routeOut, routeIn, s2])]
                  rfl
                | true =>
                  refine wp_region_aft (by kernel_rfl) (by kernel_rfl) ?_
                  repeat (go_big_quiet_step (exact refUpA (by with_reducible assumption) _))
                  refine wpQuiet_nil ?_
                  rintro _ ⟨n, rfl⟩
                  go_wp2
                  go_roundw
                  case rel => exact ⟨i + 1, by omega, by go_num, below_then hwr n.h, fun j hj => by
                    rcases Nat.lt_succ_iff_lt_or_eq.1 hj with h | rfl
                    · exact HG.out j h
                    · simp [routeOut, routeIn, s1, s2]⟩
                  case measure => simp [intOf]; omega
            · have HG3 := hid_ (show ∀ j, j < c.routes.length → routeOut c j = false from fun j hj => hgood j (by omega))
              clear hgood
              have t10 := grown_cell hwr k10
              go_wp2
              go_ret
              refine ⟨?_, below_then hw2 hwr⟩
              rw [HE.out, atE_none HG1.out, atE_none HG2.out, atE_none HG3.out]
              rfl

theorem refCheck5 (c : Cfg) (hok : c.ok) (C : Nat → Nat) (pv qv rv : Value) (w : World) (hl : Lists w C c pv qv rv) :
    Calls Try.prog 45 #[c.v pv qv rv] w fun e w' => e = .returned (.string ⟨(refT (tabE c)).toArray⟩) ∧ Below w.heap.size w w' := by
  cases hr : rangesOk c with
  | true =>
    by_cases hmany : c.parts.length > 12 ∨ c.ports.length > 24 ∨ c.routes.length > 24
    · have hE : tabE c = some (3, -1) := by unfold tabE; rw [if_neg (by simp [hr]), if_pos hmany]
      rw [hE]
      exact refCheck_many c hok C pv qv rv w hl hr hmany
    · exact refCheck_loops c hok C pv qv rv w hl hr hmany
  | false =>
    have hE : tabE c = some (2, -1) := by unfold tabE; rw [if_pos hr]
    rw [hE]
    refine refCheck_range c pv qv rv w ?_
    unfold rangesOk at hr
    revert hr
    cases inb c.nodes 1 7 <;> cases inb c.faulty 0 2 <;> cases inb c.slot 1 16777216 <;> cases inb c.gap 0 16777216 <;> cases inb c.rho 0 200 <;> cases inb c.dmax 0 1048576 <;> cases inb c.dmin 0 c.dmax <;> cases inb c.margin 0 16777216 <;> simp
end Go.Proofs.Ytogfbeibpfdleaa
