/- The walks of sound.routes, sound.Check. No condition but the tables' own ranges. -/
import Derived.Test.YtogfbeibpfdleaaSound2
set_option linter.unusedSimpArgs false
set_option linter.unusedVariables false
namespace Go.Proofs.Ytogfbeibpfdleaa
open Go.RowKit Go.Maps

theorem two_new (W : World) (t : Nat) (xs ys : List Value) :
    Below W.heap.size W ((W.alloc (.cells xs.toArray t)).alloc (.cells ys.toArray t)).drew ∧ Bk ((W.alloc (.cells xs.toArray t)).alloc (.cells ys.toArray t)).drew W.heap.size t xs ∧ Bk ((W.alloc (.cells xs.toArray t)).alloc (.cells ys.toArray t)).drew (W.heap.size + 1) t ys := by
  have h := Bk.new (W.alloc (.cells xs.toArray t)) t ys
  rw [World.size_alloc] at h
  exact ⟨(((Below.refl _ _).alloc (Nat.le_refl _) _).alloc (by simp) _).drew, (Bk.new W t xs).alloc _, h⟩

set_option maxRecDepth 100000 in
set_option maxHeartbeats 4000000 in
theorem sndRoutes (c : Cfg) (C : Nat → Nat) (pv qv rv : Value) (w : World) (hq : Rd w C qv 6 c.ports.length (c.ports.flatMap Port.cells)) (hl : Rd w C rv 2 c.routes.length (c.routes.flatMap Route.cells)) (hg : Good c) :
    Calls Try.prog 54 #[c.v pv qv rv] w fun e w' => e = .returned (.int .i64 (idxI (firstIdx c.routes.length (routeBad c)))) ∧ Below w.heap.size w w' := by
  obtain ⟨qa, qc, rfl, q1, q2, q3, q4⟩ := id hq
  obtain ⟨ra, rc, rfl, r1, r2, r3, r4⟩ := id hl
  unfold maxLen at q2 r2
  have nq := hg.nq
  have nr := hg.nr
  have HP := hid_ hg.routes
  clear q3 q4 r3 r4
  unfold Cfg.v
  go_enter Try.func54, Try.ntmps54
  go_upto_region 1 with (fail)
  refine gen_world (fun W => Below w.heap.size w W ∧ Bk W w.heap.size 28 (c.cells pv (.slice qa c.ports.length qc) (.slice ra c.routes.length rc))) ⟨(Below.refl w.heap.size w).alloc (Nat.le_refl _) _, Bk.new _ _ _⟩ ?_
  rintro W ⟨hW, hB⟩
  have b9 := hB.cell_ 9 rfl
  have b10 := hB.cell_ 10 rfl
  go_wp2
  go_loopw [12] (fun iv wr => ∃ i : Nat, i ≤ c.routes.length ∧ iv = .int .i64 i ∧ Below W.heap.size W wr ∧ ∀ j, j < i → routeBad c j = false) (fun iv _ => c.routes.length - (intOf iv).toNat)
  case atStart => exact ⟨0, Nat.zero_le _, rfl, Below.refl _ _, fun j hj => absurd hj (by omega)⟩
  case round =>
    obtain ⟨i, hi, rfl, hwr, hgood⟩ := hrel
    by_cases hlt : i < c.routes.length
    · obtain ⟨bb, off, rfl, _, hcell⟩ := hl.row (fun _ => rfl) hlt
      have hin := HP.out i hlt
      simp only [routeIn, inb, Bool.and_eq_true, decide_eq_true_eq] at hin
      obtain ⟨⟨x0, x1⟩, y0, y1⟩ := hin
      obtain ⟨s, hs⟩ := Int.eq_ofNat_of_zero_le x0
      obtain ⟨d, hd⟩ := Int.eq_ofNat_of_zero_le y0
      have hsl : s < c.ports.length := by omega
      have hdl : d < c.ports.length := by omega
      obtain ⟨qb, qo, rfl, _, hcs⟩ := hq.row (fun _ => rfl) hsl
      obtain ⟨qb', qo', hqq, _, hcd⟩ := hq.row (fun _ => rfl) hdl
      simp only [Option.some.injEq, Addr.mk.injEq, and_true] at hqq
      obtain ⟨rfl, rfl⟩ := hqq
      have hce : ∀ j v, (Route.cells (c.route i))[j]? = some v → wr.cell? ⟨bb, off + i * 2 + j, none⟩ = some v := fun j v hv => grown_cell hwr (grown_cell hW (hcell j v hv))
      have e0 := hce 0 _ rfl
      have e1 := hce 1 _ rfl
      simp only [Nat.add_zero] at e0
      rw [hs] at e0 x0 x1
      rw [hd] at e1 y0 y1
      clear hcell hce
      have HG := hid_ hgood
      have HS := hid_ hs
      have HD := hid_ hd
      clear hgood hs hd
      go_upto_region 4 with (fail)
      refine gen_world (fun w1 => Below wr.heap.size wr w1 ∧ Bk w1 wr.heap.size 79 [.int .i64 (s : Int), .int .i64 (d : Int)]) ⟨(Below.refl _ _).alloc (Nat.le_refl _) _, Bk.new _ _ _⟩ ?_
      rintro w1 ⟨hw1, hX⟩
      have hww := below_then hwr hw1
      have g9 := grown_cell hww b9
      have g10 := grown_cell hww b10
      have t0 := hX.cell_ 0 rfl
      have t1 := hX.cell_ 1 rfl
      have hps : c.port s = c.ports.getD s default := rfl
      have hpd : c.port d = c.ports.getD d default := rfl
      have hsc : ∀ j v, (Port.cells (c.port s))[j]? = some v → w1.cell? ⟨qb, qo + s * 6 + j, none⟩ = some v := fun j v hv => grown_cell hww (grown_cell hW (hcs j v hv))
      have hdc : ∀ j v, (Port.cells (c.port d))[j]? = some v → w1.cell? ⟨qb, qo + d * 6 + j, none⟩ = some v := fun j v hv => grown_cell hww (grown_cell hW (hcd j v hv))
      have s0 := hsc 0 _ rfl
      have s1 := hsc 1 _ rfl
      have s2 := hsc 2 _ rfl
      have s3 := hsc 3 _ rfl
      have s4 := hsc 4 _ rfl
      have s5 := hsc 5 _ rfl
      have d0 := hdc 0 _ rfl
      have d1 := hdc 1 _ rfl
      have d2 := hdc 2 _ rfl
      have d3 := hdc 3 _ rfl
      have d4 := hdc 4 _ rfl
      have d5 := hdc 5 _ rfl
      simp only [Nat.add_zero] at s0 d0
      have kp : ∀ (W : World) (o : Obj) (b k : Nat) (v : Value), W.cell? ⟨b, k, none⟩ = some v → (W.alloc o).cell? ⟨b, k, none⟩ = some v := fun W o b k v h => cell_alloc_keep o h
      clear e0 e1 hsc hdc hcs hcd hps hpd
      go_cut [5, 6] (fun u5 u6 wx => ∃ g h : Nat, u5 = .pointer (some ⟨g, 0, none⟩) ∧ u6 = .pointer (some ⟨h, 0, none⟩) ∧ Below w1.heap.size w1 wx ∧ Bk wx g 33 (c.port s).cells ∧ Bk wx h 33 (c.port d).cells)
      case first =>
        go_region
        all_goals go_wp2_with fail
        all_goals go_meet
        all_goals first
          | exact ⟨w1.heap.size, w1.heap.size + 1, rfl, rfl, (two_new w1 33 (c.port s).cells (c.port d).cells).1, (two_new w1 33 (c.port s).cells (c.port d).cells).2.1, (two_new w1 33 (c.port s).cells (c.port d).cells).2.2⟩
          | exact ⟨w1.heap.size + 1, w1.heap.size, rfl, rfl, (two_new w1 33 (c.port d).cells (c.port s).cells).1, (two_new w1 33 (c.port d).cells (c.port s).cells).2.2, (two_new w1 33 (c.port d).cells (c.port s).cells).2.1⟩
      case rest =>
        obtain ⟨g, h, rfl, rfl, hwx, hG, hH⟩ := hcut
        have j1 := hG.cell_ 1 rfl
        have j2 := hG.cell_ 2 rfl
        have j3 := hG.cell_ 3 rfl
        have l1 := hH.cell_ 1 rfl
        have l2 := hH.cell_ 2 rfl
        have l3 := hH.cell_ 3 rfl
        have m10 := grown_cell hwx g10
        have m0 := grown_cell hwx t1
        clear s0 s1 s2 s3 s4 s5 d0 d1 d2 d3 d4 d5 kp t0 t1
        cases ho : (c.port s).out with
        | false =>
          rw [ho] at j2
          have HR := hid_ (show firstIdx c.routes.length (routeBad c) = some i from firstIdx_some hlt HG.out (by simp [routeBad, HS.out, HD.out, ho]))
          clear ho
          go_wp2
          go_ret
          exact ⟨by rw [HR.out]; rfl, below_then hW (below_then hww hwx)⟩
        | true =>
          rw [ho] at j2
          cases hp : (c.port d).out with
          | true =>
            rw [hp] at l2
            have HR := hid_ (show firstIdx c.routes.length (routeBad c) = some i from firstIdx_some hlt HG.out (by simp [routeBad, HS.out, HD.out, hp]))
            clear ho hp
            go_wp2
            go_ret
            exact ⟨by rw [HR.out]; rfl, below_then hW (below_then hww hwx)⟩
          | false =>
            rw [hp] at l2
            by_cases hk : (c.port s).kind = (c.port d).kind
            · have nk : ((c.port s).kind != (c.port d).kind) = false := by simp [hk]
              have HK := hid_ hk
              by_cases hz : (c.port d).size < (c.port s).size
              · have HR := hid_ (show firstIdx c.routes.length (routeBad c) = some i from firstIdx_some hlt HG.out (by simp [routeBad, HS.out, HD.out, hz]))
                clear hk ho hp
                go_wp2
                go_ret
                exact ⟨by rw [HR.out]; rfl, below_then hW (below_then hww hwx)⟩
              · have HO := hid_ ho
                have HPO := hid_ hp
                have HZ := hid_ hz
                clear hk ho hp
                obtain ⟨wo, rfl⟩ : ∃ wo : World, wo = wr := ⟨_, rfl⟩
                have hwwx := below_then hww hwx
                go_wp2
                go_loopw [56] (fun kv wr => ∃ k : Nat, k ≤ i ∧ kv = .int .i64 k ∧ Below wc.heap.size wc wr ∧ ∀ j, j < k → ((c.route j).dst == (d : Int)) = false) (fun kv _ => i - (intOf kv).toNat)
                case atStart => exact ⟨0, Nat.zero_le _, rfl, Below.refl _ _, fun j hj => absurd hj (by omega)⟩
                case round =>
                  obtain ⟨k, hk, rfl, hwk, hno⟩ := hrel
                  by_cases hki : k < i
                  · have hkl : k < c.routes.length := by omega
                    obtain ⟨bb2, off2, hbb, _, hcell2⟩ := hl.row (fun _ => rfl) hkl
                    simp only [Option.some.injEq, Addr.mk.injEq, and_true] at hbb
                    obtain ⟨rfl, rfl⟩ := hbb
                    have hwk' := below_then hwwx hwk
                    have hce : ∀ j v, (Route.cells (c.route k))[j]? = some v → wr.cell? ⟨bb, off + k * 2 + j, none⟩ = some v := fun j v hv => grown_cell hwk' (grown_cell hW (hcell2 j v hv))
                    have e0 := hce 0 _ rfl
                    have e1 := hce 1 _ rfl
                    have f0 := fun o => grown_cell (hwk.alloc hwk.size o) m0
                    have hwa2 := fun o => hwk.alloc hwk.size o
                    simp only [Nat.add_zero] at e0
                    clear hcell2 hce
                    have HN := hid_ hno
                    clear hno
                    cases hm : (c.route k).dst == (d : Int) with
                    | true =>
                      have HR := hid_ (show firstIdx c.routes.length (routeBad c) = some i from firstIdx_some hlt HG.out (by
                        simp only [routeBad, Bool.or_eq_true, List.any_eq_true]
                        exact .inr ⟨k, by simpa using hki, by rw [HD.out]; simpa using hm⟩))
                      go_wp2
                      go_ret
                      exact ⟨by rw [HR.out]; rfl, below_then hW (below_then hwwx (hwa2 _))⟩
                    | false =>
                      go_wp2
                      go_roundw
                      case rel => exact ⟨k + 1, by omega, by go_num, hwa2 _, fun j hj => by
                        rcases Nat.lt_succ_iff_lt_or_eq.1 hj with h | rfl
                        · exact HN.out j h
                        · exact hm⟩
                      case measure => simp [intOf]; omega
                  · have HB := hid_ (show routeBad c i = false by
                      have h1 := HK.out
                      have h2 := HZ.out
                      simp only [routeBad, HS.out, HD.out, Int.toNat_natCast, HO.out, HPO.out, h1, Bool.or_eq_false_iff, List.any_eq_false]
                      refine ⟨⟨by simp, by simpa using h2⟩, fun j hj => ?_⟩
                      have : j < i := by simpa using hj
                      have := hno j (by omega)
                      simpa using this)
                    clear hno
                    go_wp2
                    go_roundw
                    case rel => exact ⟨i + 1, by omega, by go_num, below_then hwwx hwk, fun j hj => by
                      rcases Nat.lt_succ_iff_lt_or_eq.1 hj with h | rfl
                      · exact HG.out j h
                      · exact HB.out⟩
                    case measure => simp [intOf]; omega
            · have nk : ((c.port s).kind != (c.port d).kind) = true := by simpa using hk
              have HR := hid_ (show firstIdx c.routes.length (routeBad c) = some i from firstIdx_some hlt HG.out (by simp [routeBad, HS.out, HD.out, hk]))
              clear hk ho hp
              go_wp2
              go_ret
              exact ⟨by rw [HR.out]; rfl, below_then hW (below_then hww hwx)⟩
    · have HR := hid_ (show firstIdx c.routes.length (routeBad c) = none from firstIdx_none (fun j hj => hgood j (by omega)))
      clear hgood
      go_wp2
      go_ret
      exact ⟨by rw [HR.out]; rfl, below_then hW hwr⟩
end Go.Proofs.Ytogfbeibpfdleaa
