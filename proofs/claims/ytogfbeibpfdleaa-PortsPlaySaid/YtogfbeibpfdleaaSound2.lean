/- The walks of sound.windows, sound.routes, sound.Check: they tell sndE. No condition but the tables' own ranges. -/
import Derived.Test.YtogfbeibpfdleaaSound
set_option linter.unusedSimpArgs false
set_option linter.unusedVariables false
namespace Go.Proofs.Ytogfbeibpfdleaa
open Go.RowKit Go.Maps

/-- A place, or -1. -/
def idxI : Option Nat → Int
  | none => -1
  | some i => i

theorem partOk_rng {n : Int} {p : Part} (h : partOk n p = true) : 0 ≤ p.node ∧ p.node < n ∧ 0 ≤ p.start ∧ p.start ≤ 268435456 ∧ 1 ≤ p.length ∧ p.length ≤ 268435456 ∧ 0 ≤ p.budget ∧ p.budget ≤ 64 ∧ 0 ≤ p.words ∧ p.words ≤ 16 ∧ p.r0 ≤ 3 ∧ p.r1 ≤ 3 ∧ p.r2 ≤ 3 ∧ p.r3 ≤ 3 := by
  simp only [partOk, inb, Bool.and_eq_true, decide_eq_true_eq] at h
  omega

set_option maxRecDepth 100000 in
set_option maxHeartbeats 4000000 in
theorem sndWindows (c : Cfg) (C : Nat → Nat) (pv qv rv : Value) (w : World) (hl : Rd w C pv 9 c.parts.length (c.parts.flatMap Part.cells)) (hg : Good c) :
    Calls Try.prog 53 #[c.v pv qv rv] w fun e w' => e = .returned (.int .i64 (idxI (firstIdx c.parts.length (winBad c)))) ∧ Below w.heap.size w w' := by
  obtain ⟨pa, pc, rfl, p1, p2, p3, p4⟩ := id hl
  unfold maxLen at p2
  have np := hg.np
  obtain ⟨ns0, ns1⟩ := hg.rg.ns
  have n0 := hg.rg.n0
  have n1 := hg.rg.n1
  have s0 := hg.rg.s0
  have s1 := hg.rg.s1
  have HP := hid_ (fun i hi => partOk_rng (hg.parts i hi))
  clear p3 p4
  unfold Cfg.v
  go_enter Try.func53, Try.ntmps53
  go_upto_region 1 with (fail)
  refine gen_world (fun W => Below w.heap.size w W ∧ Bk W w.heap.size 28 (c.cells (.slice pa c.parts.length pc) qv rv)) ⟨(Below.refl w.heap.size w).alloc (Nat.le_refl _) _, Bk.new _ _ _⟩ ?_
  rintro W ⟨hW, hB⟩
  have b0 := hB.cell_ 0 rfl
  have b2 := hB.cell_ 2 rfl
  have b8 := hB.cell_ 8 rfl
  go_wp2
  go_loopw [10] (fun iv wr => ∃ i : Nat, i ≤ c.parts.length ∧ iv = .int .i64 i ∧ Below W.heap.size W wr ∧ ∀ j, j < i → winBad c j = false) (fun iv _ => c.parts.length - (intOf iv).toNat)
  case atStart => exact ⟨0, Nat.zero_le _, rfl, Below.refl _ _, fun j hj => absurd hj (by omega)⟩
  case round =>
    obtain ⟨i, hi, rfl, hwr, hgood⟩ := hrel
    by_cases hlt : i < c.parts.length
    · obtain ⟨bb, off, rfl, _, hcell⟩ := hl.row (fun _ => rfl) hlt
      obtain ⟨x0, x1, y0, y1, z0, z1, _⟩ := HP.out i hlt
      have hce : ∀ j v, (Part.cells (c.part i))[j]? = some v → wr.cell? ⟨bb, off + i * 9 + j, none⟩ = some v := fun j v hv => grown_cell hwr (grown_cell hW (hcell j v hv))
      have e0 := hce 0 _ rfl
      have e1 := hce 1 _ rfl
      have e2 := hce 2 _ rfl
      have e3 := hce 3 _ rfl
      have e4 := hce 4 _ rfl
      have e5 := hce 5 _ rfl
      have e6 := hce 6 _ rfl
      have e7 := hce 7 _ rfl
      have e8 := hce 8 _ rfl
      have f0 := fun o => grown_cell (hwr.alloc hwr.size o) b0
      have f2 := fun o => grown_cell (hwr.alloc hwr.size o) b2
      have f8 := fun o => grown_cell (hwr.alloc hwr.size o) b8
      have hwa := fun o => hwr.alloc hwr.size o
      simp only [Nat.add_zero] at e0
      clear hcell hce
      have HG := hid_ hgood
      clear hgood
      by_cases hend : c.nodes * c.slot < (c.part i).start + (c.part i).length
      · have HR := hid_ (show firstIdx c.parts.length (winBad c) = some i from firstIdx_some hlt HG.out (by simp [winBad, hend]))
        go_wp2
        go_ret
        exact ⟨by rw [HR.out]; rfl, below_then hW (hwa _)⟩
      · go_upto_region 6 with (fail)
        refine gen_world (fun w1 => Below wr.heap.size wr w1 ∧ Bk w1 wr.heap.size 77 (c.part i).cells) ⟨(Below.refl _ _).alloc (Nat.le_refl _) _, Bk.new _ _ _⟩ ?_
        rintro w1 ⟨hw1, hP⟩
        have hww := below_then hwr hw1
        have g8 := grown_cell hww b8
        have q0 := hP.cell_ 0 rfl
        have q1 := hP.cell_ 1 rfl
        have q2 := hP.cell_ 2 rfl
        clear e0 e1 e2 e3 e4 e5 e6 e7 e8 f0 f2 f8
        go_wp2
        obtain ⟨wo, rfl⟩ : ∃ wo : World, wo = wr := ⟨_, rfl⟩
        go_loopw [32] (fun kv wr => ∃ k : Nat, k ≤ i ∧ kv = .int .i64 k ∧ Below w1.heap.size w1 wr ∧ ∀ j, j < k → meets (c.part i) (c.part j) = false) (fun kv _ => i - (intOf kv).toNat)
        case atStart => exact ⟨0, Nat.zero_le _, rfl, Below.refl _ _, fun j hj => absurd hj (by omega)⟩
        case round =>
          obtain ⟨k, hk, rfl, hwk, hno⟩ := hrel
          by_cases hki : k < i
          · have hkl : k < c.parts.length := by omega
            obtain ⟨bb2, off2, hbb, _, hcell2⟩ := hl.row (fun _ => rfl) hkl
            simp only [Option.some.injEq, Addr.mk.injEq, and_true] at hbb
            obtain ⟨rfl, rfl⟩ := hbb
            obtain ⟨x0', x1', y0', y1', z0', z1', _⟩ := HP.out k hkl
            have hwk' := below_then hww hwk
            have hce : ∀ j v, (Part.cells (c.part k))[j]? = some v → wr.cell? ⟨bb, off + k * 9 + j, none⟩ = some v := fun j v hv => grown_cell hwk' (grown_cell hW (hcell2 j v hv))
            have e0 := hce 0 _ rfl
            have e1 := hce 1 _ rfl
            have e2 := hce 2 _ rfl
            have e3 := hce 3 _ rfl
            have e4 := hce 4 _ rfl
            have e5 := hce 5 _ rfl
            have e6 := hce 6 _ rfl
            have e7 := hce 7 _ rfl
            have e8 := hce 8 _ rfl
            have f0 := fun o => grown_cell (hwk.alloc hwk.size o) q0
            have f1 := fun o => grown_cell (hwk.alloc hwk.size o) q1
            have f2 := fun o => grown_cell (hwk.alloc hwk.size o) q2
            have hwa2 := fun o => hwk.alloc hwk.size o
            simp only [Nat.add_zero] at e0
            clear hcell2 hce
            have HN := hid_ hno
            clear hno
            cases hm : meets (c.part i) (c.part k) with
            | true =>
              have HR := hid_ (show firstIdx c.parts.length (winBad c) = some i from firstIdx_some hlt HG.out (by
                simp only [winBad, Bool.or_eq_true, List.any_eq_true]
                exact .inr ⟨k, by simpa using hki, hm⟩))
              simp only [meets, Bool.and_eq_true, decide_eq_true_eq] at hm
              obtain ⟨⟨m0, m1⟩, m2⟩ := hm
              have t0 : ((c.part k).node == (c.part i).node) = true := by simpa using m0
              have H0 := hid_ m0
              clear m0
              go_wp2
              go_ret
              exact ⟨by rw [HR.out]; rfl, below_then hW (below_then hww (hwa2 _))⟩
            | false =>
              have HM := hid_ hm
              by_cases m0 : (c.part k).node = (c.part i).node
              · have t0 : ((c.part k).node == (c.part i).node) = true := by simpa using m0
                by_cases m1 : (c.part i).start < (c.part k).start + (c.part k).length
                · have m2 : ¬ (c.part k).start < (c.part i).start + (c.part i).length := by
                    intro m2
                    simp [meets, m0, m1, m2] at hm
                  clear hm m0
                  go_wp2
                  go_roundw
                  case rel => exact ⟨k + 1, by omega, by go_num, hwa2 _, fun j hj => by
                    rcases Nat.lt_succ_iff_lt_or_eq.1 hj with h | rfl
                    · exact HN.out j h
                    · exact HM.out⟩
                  case measure => simp [intOf]; omega
                · clear hm m0
                  go_wp2
                  go_roundw
                  case rel => exact ⟨k + 1, by omega, by go_num, hwa2 _, fun j hj => by
                    rcases Nat.lt_succ_iff_lt_or_eq.1 hj with h | rfl
                    · exact HN.out j h
                    · exact HM.out⟩
                  case measure => simp [intOf]; omega
              · have t0 : ((c.part k).node == (c.part i).node) = false := by simpa using m0
                clear hm m0
                go_wp2
                go_roundw
                case rel => exact ⟨k + 1, by omega, by go_num, hwa2 _, fun j hj => by
                  rcases Nat.lt_succ_iff_lt_or_eq.1 hj with h | rfl
                  · exact HN.out j h
                  · exact HM.out⟩
                case measure => simp [intOf]; omega
          · have HB := hid_ (show winBad c i = false by
              simp only [winBad, Bool.or_eq_false_iff, List.any_eq_false]
              refine ⟨by simpa using hend, fun j hj => ?_⟩
              have : j < i := by simpa using hj
              simp [hno j (by omega)])
            clear hno
            go_wp2
            go_roundw
            case rel => exact ⟨i + 1, by omega, by go_num, below_then hww hwk, fun j hj => by
              rcases Nat.lt_succ_iff_lt_or_eq.1 hj with h | rfl
              · exact HG.out j h
              · exact HB.out⟩
            case measure => simp [intOf]; omega
    · have HR := hid_ (show firstIdx c.parts.length (winBad c) = none from firstIdx_none (fun j hj => hgood j (by omega)))
      clear hgood
      go_wp2
      go_ret
      exact ⟨by rw [HR.out]; rfl, below_then hW hwr⟩
end Go.Proofs.Ytogfbeibpfdleaa
