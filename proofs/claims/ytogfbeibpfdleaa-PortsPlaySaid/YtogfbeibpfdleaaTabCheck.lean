/- The walks of table.in, table.part, table.port, fault.New. No condition but the arguments' ranges. -/
import Derived.Test.YtogfbeibpfdleaaCfg
import Derived.Outline
import Derived.Deep.CutBlock
set_option linter.unusedSimpArgs false
set_option linter.unusedVariables false
namespace Go.Proofs.Ytogfbeibpfdleaa
open Go.RowKit Go.Maps

set_option maxRecDepth 100000 in
theorem faultNew (c a : Int) (w : World) (h0 : (c == 0) = false) :
    Calls Try.prog 39 #[.int .i64 c, .int .i64 a] w fun e w' => ∃ b, e = .returned (faultV b) ∧ Below w.heap.size w w' ∧ w.heap.size ≤ b ∧ Bk w' b 95 [.int .i64 c, .int .i64 (if a < -1 then -1 else a), .nilIface] := by
  by_cases h : a < -1
  · rw [if_pos h]
    go_enter Try.func39, Try.ntmps39
    go_wp2
    go_ret
    exact ⟨w.heap.size, rfl, (Below.refl _ _).alloc (Nat.le_refl _) _, Nat.le_refl _, Bk.new _ _ _⟩
  · rw [if_neg h]
    go_enter Try.func39, Try.ntmps39
    go_wp2
    go_ret
    exact ⟨w.heap.size, rfl, (Below.refl _ _).alloc (Nat.le_refl _) _, Nat.le_refl _, Bk.new _ _ _⟩

set_option maxRecDepth 100000 in
theorem tabIn (x lo hi : Int) (w : World) :
    Calls Try.prog 57 #[.int .i64 x, .int .i64 lo, .int .i64 hi] w fun e w' => e = .returned (.bool (inb x lo hi)) ∧ w = w' := by
  by_cases h : lo ≤ x
  · go_enter Try.func57, Try.ntmps57
    go_wp2
    go_ret
    exact ⟨by simp [inb, h], rfl⟩
  · have hx : inb x lo hi = false := by simp [inb, h]
    rw [hx]
    go_enter Try.func57, Try.ntmps57
    go_wp2
    go_ret
    exact ⟨rfl, rfl⟩
theorem tabInT {x lo hi : Int} (h : inb x lo hi = true) (w : World) : Calls Try.prog 57 #[.int .i64 x, .int .i64 lo, .int .i64 hi] w fun e w' => e = .returned (.bool true) ∧ w = w' :=
  h ▸ tabIn x lo hi w
theorem tabInF {x lo hi : Int} (h : inb x lo hi = false) (w : World) : Calls Try.prog 57 #[.int .i64 x, .int .i64 lo, .int .i64 hi] w fun e w' => e = .returned (.bool false) ∧ w = w' :=
  h ▸ tabIn x lo hi w

theorem ixR0 (a b c d : Int) (w : World) : (Instr.index 75 (.agg #[.int .u8 a, .int .u8 b, .int .u8 c, .int .u8 d]) (.int .i64 0)).run Try.prog w = .ok (.int .u8 a) w := by kernel_rfl
theorem ixR1 (a b c d : Int) (w : World) : (Instr.index 75 (.agg #[.int .u8 a, .int .u8 b, .int .u8 c, .int .u8 d]) (.int .i64 1)).run Try.prog w = .ok (.int .u8 b) w := by kernel_rfl
theorem ixR2 (a b c d : Int) (w : World) : (Instr.index 75 (.agg #[.int .u8 a, .int .u8 b, .int .u8 c, .int .u8 d]) (.int .i64 2)).run Try.prog w = .ok (.int .u8 c) w := by kernel_rfl
theorem ixR3 (a b c d : Int) (w : World) : (Instr.index 75 (.agg #[.int .u8 a, .int .u8 b, .int .u8 c, .int .u8 d]) (.int .i64 3)).run Try.prog w = .ok (.int .u8 d) w := by kernel_rfl

set_option maxRecDepth 100000 in
set_option maxHeartbeats 2000000 in
theorem tabPart (p : Part) (n : Int) (hp : p.ok) (hn : 1 ≤ n ∧ n ≤ 7) (w : World) :
    Calls Try.prog 58 #[.agg #[.int .i64 p.node, .int .i64 p.start, .int .i64 p.length, .int .i64 p.budget, .int .i64 p.words, .int .u8 p.r0, .int .u8 p.r1, .int .u8 p.r2, .int .u8 p.r3], .int .i64 n] w fun e w' => e = .returned (.bool (partOk n p)) ∧ Below w.heap.size w w' := by
  have hb := (Below.refl w.heap.size w).alloc (Nat.le_refl _) (.cells #[.int .i64 p.node, .int .i64 p.start, .int .i64 p.length, .int .i64 p.budget, .int .i64 p.words, .int .u8 p.r0, .int .u8 p.r1, .int .u8 p.r2, .int .u8 p.r3] 77)
  obtain ⟨n0, n1⟩ := hn
  have hi0 := ixR0 p.r0 p.r1 p.r2 p.r3
  have hi1 := ixR1 p.r0 p.r1 p.r2 p.r3
  have hi2 := ixR2 p.r0 p.r1 p.r2 p.r3
  have hi3 := ixR3 p.r0 p.r1 p.r2 p.r3
  go_enter Try.func58, Try.ntmps58
  go_wp2
  go_loop [9] (fun iv => ∃ i : Int, 0 ≤ i ∧ i ≤ 4 ∧ iv = .int .i64 i ∧ (0 < i → p.r0 ≤ 3) ∧ (1 < i → p.r1 ≤ 3) ∧ (2 < i → p.r2 ≤ 3) ∧ (3 < i → p.r3 ≤ 3)) (fun iv => 4 - (intOf iv).toNat)
  case atStart => exact ⟨0, by omega, by omega, rfl, by omega, by omega, by omega, by omega⟩
  case round =>
    obtain ⟨i, hi', hi, rfl, q0, q1, q2, q3⟩ := hrel
    by_cases h4 : i < 4
    · rcases (by omega : i = 0 ∨ i = 1 ∨ i = 2 ∨ i = 3) with rfl | rfl | rfl | rfl
      · by_cases hk : p.r0 ≤ 3
        · go_wp2
          go_round
          case rel => exact ⟨1, by omega, by omega, rfl, fun _ => hk, by omega, by omega, by omega⟩
          case measure => simp [intOf]
        · have HR := hid_ (show partOk n p = false by simp [partOk, hk])
          go_wp2
          go_ret
          exact ⟨by rw [HR.out]; rfl, hb⟩
      · by_cases hk : p.r1 ≤ 3
        · go_wp2
          go_round
          case rel => exact ⟨2, by omega, by omega, rfl, fun _ => q0 (by omega), fun _ => hk, by omega, by omega⟩
          case measure => simp [intOf]
        · have HR := hid_ (show partOk n p = false by simp [partOk, hk])
          go_wp2
          go_ret
          exact ⟨by rw [HR.out]; rfl, hb⟩
      · by_cases hk : p.r2 ≤ 3
        · go_wp2
          go_round
          case rel => exact ⟨3, by omega, by omega, rfl, fun _ => q0 (by omega), fun _ => q1 (by omega), fun _ => hk, by omega⟩
          case measure => simp [intOf]
        · have HR := hid_ (show partOk n p = false by simp [partOk, hk])
          go_wp2
          go_ret
          exact ⟨by rw [HR.out]; rfl, hb⟩
      · by_cases hk : p.r3 ≤ 3
        · go_wp2
          go_round
          case rel => exact ⟨4, by omega, by omega, rfl, fun _ => q0 (by omega), fun _ => q1 (by omega), fun _ => q2 (by omega), fun _ => hk⟩
          case measure => simp [intOf]
        · have HR := hid_ (show partOk n p = false by simp [partOk, hk])
          go_wp2
          go_ret
          exact ⟨by rw [HR.out]; rfl, hb⟩
    · obtain rfl : i = 4 := by omega
      have q0 := q0 (by omega)
      have q1 := q1 (by omega)
      have q2 := q2 (by omega)
      have q3 := q3 (by omega)
      clear hi0 hi1 hi2 hi3
      cases g0 : inb p.node 0 (n - 1) with
      | false =>
        have HR := hid_ (show partOk n p = false by simp [partOk, g0])
        go_wp2_with (go_at_call 57; first | (refine (tabInT (by assumption) _).mono ?_; rintro e w' ⟨rfl, rfl⟩) | (refine (tabInF (by assumption) _).mono ?_; rintro e w' ⟨rfl, rfl⟩))
        go_ret
        exact ⟨by rw [HR.out]; rfl, hb⟩
      | true =>
        cases g1 : inb p.start 0 268435456 with
        | false =>
          have HR := hid_ (show partOk n p = false by simp [partOk, g1])
          go_wp2_with (go_at_call 57; first | (refine (tabInT (by assumption) _).mono ?_; rintro e w' ⟨rfl, rfl⟩) | (refine (tabInF (by assumption) _).mono ?_; rintro e w' ⟨rfl, rfl⟩))
          go_ret
          exact ⟨by rw [HR.out]; rfl, hb⟩
        | true =>
          cases g2 : inb p.length 1 268435456 with
          | false =>
            have HR := hid_ (show partOk n p = false by simp [partOk, g2])
            go_wp2_with (go_at_call 57; first | (refine (tabInT (by assumption) _).mono ?_; rintro e w' ⟨rfl, rfl⟩) | (refine (tabInF (by assumption) _).mono ?_; rintro e w' ⟨rfl, rfl⟩))
            go_ret
            exact ⟨by rw [HR.out]; rfl, hb⟩
          | true =>
            cases g3 : inb p.budget 0 64 with
            | false =>
              have HR := hid_ (show partOk n p = false by simp [partOk, g3])
              go_wp2_with (go_at_call 57; first | (refine (tabInT (by assumption) _).mono ?_; rintro e w' ⟨rfl, rfl⟩) | (refine (tabInF (by assumption) _).mono ?_; rintro e w' ⟨rfl, rfl⟩))
              go_ret
              exact ⟨by rw [HR.out]; rfl, hb⟩
            | true =>
              cases g4 : inb p.words 0 16 with
              | false =>
                have HR := hid_ (show partOk n p = false by simp [partOk, g4])
                go_wp2_with (go_at_call 57; first | (refine (tabInT (by assumption) _).mono ?_; rintro e w' ⟨rfl, rfl⟩) | (refine (tabInF (by assumption) _).mono ?_; rintro e w' ⟨rfl, rfl⟩))
                go_ret
                exact ⟨by rw [HR.out]; rfl, hb⟩
              | true =>
                have HR := hid_ (show partOk n p = true by simp [partOk, g0, g1, g2, g3, g4, q0, q1, q2, q3])
                go_wp2_with (go_at_call 57; refine (tabInT (by assumption) _).mono ?_; rintro e w' ⟨rfl, rfl⟩)
                go_ret
                exact ⟨by rw [HR.out]; rfl, hb⟩


set_option maxRecDepth 100000 in
set_option maxHeartbeats 2000000 in
theorem tabPort_walk (p : Port) (n : Int) (hn : 0 ≤ n ∧ n ≤ 1000000) (w : World) (r : Bool)
    (h : inb p.part 0 (n - 1) = false ∧ r = false ∨
      inb p.part 0 (n - 1) = true ∧ inb p.size 0 16 = false ∧ r = false ∨
      inb p.part 0 (n - 1) = true ∧ inb p.size 0 16 = true ∧ (p.kind == 1) = true ∧ (p.depth == 0) = false ∧ r = false ∨
      inb p.part 0 (n - 1) = true ∧ inb p.size 0 16 = true ∧ (p.kind == 1) = true ∧ (p.depth == 0) = true ∧ inb p.fresh 0 8 = false ∧ r = false ∨
      inb p.part 0 (n - 1) = true ∧ inb p.size 0 16 = true ∧ (p.kind == 1) = true ∧ (p.depth == 0) = true ∧ inb p.fresh 0 8 = true ∧ p.out = false ∧ r = true ∨
      inb p.part 0 (n - 1) = true ∧ inb p.size 0 16 = true ∧ (p.kind == 1) = true ∧ (p.depth == 0) = true ∧ inb p.fresh 0 8 = true ∧ p.out = true ∧ (p.fresh == 0) = r ∨
      inb p.part 0 (n - 1) = true ∧ inb p.size 0 16 = true ∧ (p.kind == 1) = false ∧ (p.kind == 2) = true ∧ inb p.depth 1 4 = false ∧ r = false ∨
      inb p.part 0 (n - 1) = true ∧ inb p.size 0 16 = true ∧ (p.kind == 1) = false ∧ (p.kind == 2) = true ∧ inb p.depth 1 4 = true ∧ (p.fresh == 0) = r ∨
      inb p.part 0 (n - 1) = true ∧ inb p.size 0 16 = true ∧ (p.kind == 1) = false ∧ (p.kind == 2) = false ∧ r = false) :
    Calls Try.prog 59 #[.agg #[.int .i64 p.part, .int .u8 p.kind, .bool p.out, .int .i64 p.size, .int .i64 p.depth, .int .i64 p.fresh], .int .i64 n] w fun e w' => e = .returned (.bool r) ∧ Below w.heap.size w w' := by
  obtain ⟨pp, pk, po, ps, pd, pf⟩ := p
  simp only at h
  have hb := (Below.refl w.heap.size w).alloc (Nat.le_refl _) (.cells #[.int .i64 pp, .int .u8 pk, .bool po, .int .i64 ps, .int .i64 pd, .int .i64 pf] 33)
  obtain ⟨n0, n1⟩ := hn
  rcases h with ⟨g0, rfl⟩ | ⟨g0, g1, rfl⟩ | ⟨g0, g1, g2, g3, rfl⟩ | ⟨g0, g1, g2, g3, g4, rfl⟩ | ⟨g0, g1, g2, g3, g4, rfl, rfl⟩ | ⟨g0, g1, g2, g3, g4, rfl, g5⟩ | ⟨g0, g1, g2, g3, g4, rfl⟩ | ⟨g0, g1, g2, g3, g4, g5⟩ | ⟨g0, g1, g2, g3, rfl⟩
  all_goals go_enter Try.func59, Try.ntmps59
  all_goals go_wp2_with (go_at_call 57; first | (refine (tabInT (by assumption) _).mono ?_; rintro e w' ⟨rfl, rfl⟩) | (refine (tabInF (by assumption) _).mono ?_; rintro e w' ⟨rfl, rfl⟩))
  all_goals go_ret
  all_goals exact ⟨rfl, hb⟩

theorem tabPort (p : Port) (n : Int) (hn : 0 ≤ n ∧ n ≤ 1000000) (w : World) :
    Calls Try.prog 59 #[.agg #[.int .i64 p.part, .int .u8 p.kind, .bool p.out, .int .i64 p.size, .int .i64 p.depth, .int .i64 p.fresh], .int .i64 n] w fun e w' => e = .returned (.bool (portOk n p)) ∧ Below w.heap.size w w' := by
  refine tabPort_walk p n hn w _ ?_
  unfold portOk
  by_cases k1 : p.kind = 1
  · cases g0 : inb p.part 0 (n - 1) <;> cases g1 : inb p.size 0 16 <;> cases g4 : inb p.fresh 0 8 <;> cases g5 : p.out <;> by_cases g3 : p.depth = 0 <;> simp [k1, g3] <;> (rw [Bool.eq_iff_iff]; simp)
  · by_cases k2 : p.kind = 2
    · cases g0 : inb p.part 0 (n - 1) <;> cases g1 : inb p.size 0 16 <;> cases g4 : inb p.depth 1 4 <;> simp [k2] <;> (rw [Bool.eq_iff_iff]; simp)
    · cases g0 : inb p.part 0 (n - 1) <;> cases g1 : inb p.size 0 16 <;> simp [k1, k2]
end Go.Proofs.Ytogfbeibpfdleaa
