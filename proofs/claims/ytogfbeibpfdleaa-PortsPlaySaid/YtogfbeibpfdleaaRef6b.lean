/- The document's check of tables: escapementref06.Check tells sndE as a text. No condition but the tables' own ranges. -/
import Derived.Test.YtogfbeibpfdleaaRef6
import Derived.Test.YtogfbeibpfdleaaReg3
set_option linter.unusedSimpArgs false
set_option linter.unusedVariables false
namespace Go.Proofs.Ytogfbeibpfdleaa
open Go.RowKit Go.Maps

def winAt (c : Cfg) (i k : Nat) : Bool := decide (c.nodes * c.slot < (c.part i).start + (c.part i).length) || (List.range k).any fun j => meets (c.part i) (c.part j)
theorem winAt_zero (c : Cfg) (i : Nat) : winAt c i 0 = decide (c.nodes * c.slot < (c.part i).start + (c.part i).length) := by simp [winAt]
theorem winAt_succ (c : Cfg) (i k : Nat) : winAt c i (k + 1) = (winAt c i k || meets (c.part i) (c.part k)) := by simp [winAt, List.range_succ, Bool.or_assoc]
theorem winAt_end (c : Cfg) (i : Nat) : winAt c i i = winBad c i := rfl
def route4 (p q : Port) : Bool := !p.out || q.out || decide (p.kind ≠ q.kind) || decide (q.size < p.size)
def routeAt (c : Cfg) (i s d k : Nat) : Bool := route4 (c.port s) (c.port d) || (List.range k).any fun j => decide ((c.route j).dst = (d : Int))
theorem routeAt_zero (c : Cfg) (i s d : Nat) : routeAt c i s d 0 = route4 (c.port s) (c.port d) := by simp [routeAt]
theorem routeAt_succ (c : Cfg) (i s d k : Nat) : routeAt c i s d (k + 1) = (routeAt c i s d k || decide ((c.route k).dst = (d : Int))) := by simp [routeAt, List.range_succ, Bool.or_assoc]
theorem routeAt_end (c : Cfg) (i s d : Nat) (hs : (c.route i).src = (s : Int)) (hd : (c.route i).dst = (d : Int)) : routeAt c i s d i = routeBad c i := by
  unfold routeAt routeBad route4
  rw [hs, hd]
  simp only [Int.toNat_natCast]

theorem numN_ne (n : Nat) : numN n ≠ [] := by
  rw [numN]
  split <;> simp
theorem num_ne (n : Int) : num n ≠ [] := by
  unfold num
  split
  · simp
  · exact numN_ne _
theorem refT_ne (x : Int × Int) : refT (some x) ≠ [] := by
  obtain ⟨c, a⟩ := x
  simp [refT, atT]
theorem ne_empty {l : List UInt8} (h : l ≠ []) : l.isEmpty = false := by
  cases l with
  | nil => exact absurd rfl h
  | cons a l => rfl

set_option maxRecDepth 100000 in
set_option maxHeartbeats 8000000 in
theorem refCheck6 (c : Cfg) (hok : c.ok) (C : Nat → Nat) (pv qv rv : Value) (w : World) (hl : Lists w C c pv qv rv) (hf : Fin C w) :
    Calls Try.prog 27 #[c.v pv qv rv] w fun e w' => e = .returned (.string ⟨(refT (sndE c)).toArray⟩) ∧ Below w.heap.size w w' := by
  unfold Cfg.v
  go_enter Try.func27, Try.ntmps27
  go_upto_region 1 with (fail)
  refine gen_world (fun W => Below w.heap.size w W ∧ Bk W w.heap.size 28 (c.cells pv qv rv)) ⟨(Below.refl w.heap.size w).alloc (Nat.le_refl _) _, Bk.new _ _ _⟩ ?_
  rintro W ⟨hW, hB⟩
  have dc := hB.cfg0
  have hlW : Lists W C c pv qv rv := hl.fr (Fr.of_below hW (fun _ => False)) (fun h => h)
  go_wp2_with fail
  refine (refCheck5 c hok C pv qv rv W hlW).mono ?_
  cases ht : tabE c with
  | some x =>
    rintro e w1 ⟨rfl, hw1⟩
    have hw1' := below_then hW hw1
    have hfin := hid_ (show sndE c = some x by unfold sndE; rw [if_pos (by rw [ht]; rfl), ht])
    have hne := ne_empty (refT_ne x)
    clear dc ht
    go_wp2
    go_ret
    exact ⟨by rw [hfin.out]; rfl, hw1'⟩
  | none =>
    rintro e w1 ⟨rfl, hw1⟩
    have hw1' := below_then hW hw1
    have hg := Good.of ht
    have hS : sndE c = if c.nodes < 3 * c.faulty + 1 then some (70, -1) else if c.margin < c.prec + (c.dmax - c.dmin) + c.drift then some (74, -1) else if c.slot < 2 * c.margin + c.dmax + c.prec then some (73, -1)
        else if c.gap < 2 * (c.margin + c.prec) then some (75, -1) else
        atE 71 c.parts.length (winBad c) (atE 72 c.routes.length (routeBad c) none) := by
      unfold sndE
      rw [if_neg (by rw [ht]; simp)]
    have HS := hid_ hS
    obtain ⟨n0, n1, f0, f1, s0, s1, g0, g1, r0, r1, x0, x1, d0, d1, m0, m1⟩ := id hg.rg
    obtain ⟨p0, p1⟩ := hg.rg.prec
    obtain ⟨t0, t1⟩ := hg.rg.drift
    clear hS dc hlW ht
    unfold refT
    have hB1 : Bk w1 w.heap.size 28 (c.cells pv qv rv) := hB.same (hw1.block _ hB.lt)
    have dc1 := hB1.cfg0
    go_wp2_with fail
    refine (ref6Prec c pv qv rv hg.rg _).mono ?_
    rintro e w2 ⟨rfl, hn⟩
    have hw2 := below_then hw1' hn
    have hB2 : Bk w2 w.heap.size 28 (c.cells pv qv rv) := hB1.same (hn.block _ hB1.lt)
    clear dc1
    have dc2 := hB2.cfg0
    have dc3 : ∀ n : Aft w2, _ := fun n => Bk.cfg hB2 n
    by_cases c1 : c.nodes < 3 * c.faulty + 1
    · have HE : Hid (sndE c = some (70, -1)) := by show _ = _; rw [HS.out, if_pos c1]
      clear dc3
      go_wp2_with fail
      refine (refAt_ 70 (-1) (by omega) (by omega) _).mono ?_
      rintro e w9 ⟨rfl, hw9⟩
      go_wp2
      go_ret
      exact ⟨by rw [HE.out]; rfl, below_then hw2 hw9⟩
    · have HS1 := hid_ (HS.out.trans (if_neg c1))
      clear HS
      go_upto_region 7 with (fail)
      refine wp_region_aft (by kernel_rfl) (by kernel_rfl) ?_
      repeat (go_big_quiet_step (exact Aft.calls _ (ref6Drift c pv qv rv hg.rg _)))
      refine wpQuiet_nil ?_
      rintro _ ⟨n, rfl⟩
      have hw3 := below_then hw2 n.h
      have hB3 : Bk n.W w.heap.size 28 (c.cells pv qv rv) := hB2.same (n.h.block _ hB2.lt)
      generalize n.W = w3 at *
      clear dc2 dc3
      have dc4 := hB3.cfg0
      by_cases c2 : c.margin < c.prec + (c.dmax - c.dmin) + c.drift
      · have HE := hid_ (HS1.out.trans (if_pos c2))
        go_wp2_with fail
        refine (refAt_ 74 (-1) (by omega) (by omega) _).mono ?_
        rintro e w9 ⟨rfl, hw9⟩
        go_wp2
        go_ret
        exact ⟨by rw [HE.out]; rfl, below_then hw3 hw9⟩
      · have HS2 := hid_ (HS1.out.trans (if_neg c2))
        by_cases c3 : c.slot < 2 * c.margin + c.dmax + c.prec
        · have HE := hid_ (HS2.out.trans (if_pos c3))
          go_wp2_with fail
          refine (refAt_ 73 (-1) (by omega) (by omega) _).mono ?_
          rintro e w9 ⟨rfl, hw9⟩
          go_wp2
          go_ret
          exact ⟨by rw [HE.out]; rfl, below_then hw3 hw9⟩
        · have HS3 := hid_ (HS2.out.trans (if_neg c3))
          by_cases c4 : c.gap < 2 * (c.margin + c.prec)
          · have HE := hid_ (HS3.out.trans (if_pos c4))
            go_wp2_with fail
            refine (refAt_ 75 (-1) (by omega) (by omega) _).mono ?_
            rintro e w9 ⟨rfl, hw9⟩
            go_wp2
            go_ret
            exact ⟨by rw [HE.out]; rfl, below_then hw3 hw9⟩
          · have HE := hid_ (HS3.out.trans (if_neg c4))
            have hl3 : Lists w3 C c pv qv rv := hl.fr (Fr.of_below hw3 (fun _ => False)) (fun h => h)
            obtain ⟨⟨pa, pc, rfl, P1, P2, P3, P4⟩, ⟨qa, qc, rfl, Q1, Q2, Q3, Q4⟩, ⟨ra, rc, rfl, R1, R2, R3, R4⟩⟩ := id hl3
            have h1 := hl3.parts
            have h2 := hl3.ports
            have h3 := hl3.routes
            unfold maxLen at P2 Q2 R2
            have np := hg.np
            have nq := hg.nq
            have nr := hg.nr
            obtain ⟨ns0, ns1⟩ := hg.rg.ns
            have HP := hid_ (fun i hi => partOk_rng (hg.parts i hi))
            have HPR := hid_ hg.routes
            have b0 := hB3.cell_ 0 rfl
            have b2 := hB3.cell_ 2 rfl
            have b8 := hB3.cell_ 8 rfl
            have b9 := hB3.cell_ 9 rfl
            have b10 := hB3.cell_ 10 rfl
            clear P3 P4 Q3 Q4 R3 R4 HS1 HS2 HS3 hl hl3 hg
            go_wp2
            clear dc4
            go_loopw [5] (fun iv wr => ∃ i : Nat, i ≤ c.parts.length ∧ iv = .int .i64 i ∧ Below w3.heap.size w3 wr ∧ ∀ j, j < i → winBad c j = false) (fun iv _ => c.parts.length - (intOf iv).toNat)
            case atStart => exact ⟨0, Nat.zero_le _, rfl, Below.refl _ _, fun j hj => absurd hj (by omega)⟩
            case round =>
              obtain ⟨i, hi, rfl, hwr, hgood⟩ := hrel
              by_cases hlt : i < c.parts.length
              · obtain ⟨bb, off, rfl, _, hcell⟩ := h1.row (fun _ => rfl) hlt
                obtain ⟨x0, x1, y0, y1, z0, z1, _⟩ := HP.out i hlt
                have hce : ∀ j v, (Part.cells (c.part i))[j]? = some v → wr.cell? ⟨bb, off + i * 9 + j, none⟩ = some v := fun j v hv => grown_cell hwr (hcell j v hv)
                have e0 := hce 0 _ rfl
                have e1 := hce 1 _ rfl
                have e2 := hce 2 _ rfl
                have e3 := hce 3 _ rfl
                have e4 := hce 4 _ rfl
                have e5 := hce 5 _ rfl
                have e6 := hce 6 _ rfl
                have e7 := hce 7 _ rfl
                have e8 := hce 8 _ rfl
                have f8 := grown_cell hwr b8
                simp only [Nat.add_zero] at e0
                clear hcell hce
                have HG := hid_ hgood
                clear hgood
                go_upto_region 17 with (fail)
                refine gen_world (fun w4 => Below wr.heap.size wr w4 ∧ Bk w4 wr.heap.size 77 (c.part i).cells) ⟨(Below.refl _ _).alloc (Nat.le_refl _) _, Bk.new _ _ _⟩ ?_
                rintro w4 ⟨hw4, hP⟩
                have hww := below_then hwr hw4
                have g0 := grown_cell hww b0
                have g2 := grown_cell hww b2
                have g8 := grown_cell hww b8
                have q0 := hP.cell_ 0 rfl
                have q1 := hP.cell_ 1 rfl
                have q2 := hP.cell_ 2 rfl
                clear e0 e1 e2 e3 e4 e5 e6 e7 e8 f8
                go_upto_region 18 with (fail)
                have HW0 := (winAt_zero c i).symm
                have hA : (decide (c.nodes * c.slot < (c.part i).start + (c.part i).length)) = winAt c i 0 := HW0
                rw [hA]
                obtain ⟨wo, rfl⟩ : ∃ wo : World, wo = wr := ⟨_, rfl⟩
                go_wp2
                go_loopw [8, 7] (fun kv ov wr => ∃ k : Nat, k ≤ i ∧ kv = .int .i64 k ∧ ov = .bool (winAt c i k) ∧ Below w4.heap.size w4 wr) (fun kv _ _ => i - (intOf kv).toNat)
                case atStart => exact ⟨0, Nat.zero_le _, rfl, rfl, Below.refl _ _⟩
                case round =>
                  obtain ⟨k, hk, rfl, rfl, hwk⟩ := hrel
                  by_cases hki : k < i
                  · have hkl : k < c.parts.length := by omega
                    obtain ⟨bb2, off2, hbb, _, hcell2⟩ := h1.row (fun _ => rfl) hkl
                    simp only [Option.some.injEq, Addr.mk.injEq, and_true] at hbb
                    obtain ⟨rfl, rfl⟩ := hbb
                    obtain ⟨x0', x1', y0', y1', z0', z1', _⟩ := HP.out k hkl
                    have hwk' := below_then hww hwk
                    have hce : ∀ j v, (Part.cells (c.part k))[j]? = some v → wr.cell? ⟨bb, off + k * 9 + j, none⟩ = some v := fun j v hv => grown_cell hwk' (hcell2 j v hv)
                    have e0 := hce 0 _ rfl
                    have e1 := hce 1 _ rfl
                    have e2 := hce 2 _ rfl
                    have e3 := hce 3 _ rfl
                    have e4 := hce 4 _ rfl
                    have e5 := hce 5 _ rfl
                    have e6 := hce 6 _ rfl
                    have e7 := hce 7 _ rfl
                    have e8 := hce 8 _ rfl
                    have l8 := grown_cell hwk g8
                    have f0 := fun o => grown_cell (hwk.alloc hwk.size o) q0
                    have f1 := fun o => grown_cell (hwk.alloc hwk.size o) q1
                    have f2 := fun o => grown_cell (hwk.alloc hwk.size o) q2
                    have hwa2 := fun o => hwk.alloc hwk.size o
                    simp only [Nat.add_zero] at e0
                    clear hcell2 hce hA HW0
                    have HS := hid_ (winAt_succ c i k)
                    cases hm : meets (c.part i) (c.part k) with
                    | true =>
                      have HT := hid_ (show winAt c i (k + 1) = true by rw [HS.out, hm, Bool.or_true])
                      simp only [meets, Bool.and_eq_true, decide_eq_true_eq] at hm
                      obtain ⟨⟨m0', m1'⟩, m2'⟩ := hm
                      have t0' : ((c.part k).node == (c.part i).node) = true := by simpa using m0'
                      have d1' : decide ((c.part k).start + (c.part k).length ≤ (c.part i).start) = false := decide_eq_false (by omega)
                      have d2' : decide ((c.part i).start + (c.part i).length ≤ (c.part k).start) = false := decide_eq_false (by omega)
                      clear m0' m1' m2'
                      go_wp2
                      go_roundw
                      case rel => exact ⟨k + 1, by omega, by go_num, by rw [HT.out], hwa2 _⟩
                      case measure => simp [intOf]; omega
                    | false =>
                      have HT := hid_ (show winAt c i (k + 1) = winAt c i k by rw [HS.out, hm, Bool.or_false])
                      by_cases m0' : (c.part k).node = (c.part i).node
                      · have t0' : ((c.part k).node == (c.part i).node) = true := by simpa using m0'
                        by_cases m1' : (c.part i).start < (c.part k).start + (c.part k).length
                        · have m2' : ¬ (c.part k).start < (c.part i).start + (c.part i).length := by
                            intro m2'
                            simp [meets, m0', m1', m2'] at hm
                          have d1' : decide ((c.part k).start + (c.part k).length ≤ (c.part i).start) = false := decide_eq_false (by omega)
                          have d2' : decide ((c.part i).start + (c.part i).length ≤ (c.part k).start) = true := decide_eq_true (by omega)
                          clear hm m0' m1' m2'
                          go_wp2
                          go_roundw
                          case rel => exact ⟨k + 1, by omega, by go_num, by rw [HT.out], hwa2 _⟩
                          case measure => simp [intOf]; omega
                        · have d1' : decide ((c.part k).start + (c.part k).length ≤ (c.part i).start) = true := decide_eq_true (by omega)
                          clear hm m0' m1'
                          go_wp2
                          go_roundw
                          case rel => exact ⟨k + 1, by omega, by go_num, by rw [HT.out], hwa2 _⟩
                          case measure => simp [intOf]; omega
                      · have t0' : ((c.part k).node == (c.part i).node) = false := by simpa using m0'
                        clear hm m0'
                        go_wp2
                        go_roundw
                        case rel => exact ⟨k + 1, by omega, by go_num, by rw [HT.out], hwa2 _⟩
                        case measure => simp [intOf]; omega
                  · obtain rfl : k = i := by omega
                    have HB := hid_ (winAt_end c k)
                    clear hA HW0
                    rw [HB.out]
                    cases hwb : winBad c k with
                    | true =>
                      have HX := hid_ hwb
                      clear hwb
                      go_wp2_with fail
                      refine (refAt_ 71 k (by omega) (by omega) _).mono ?_
                      rintro e w9 ⟨rfl, hw9⟩
                      go_wp2
                      go_ret
                      refine ⟨?_, below_then hw3 (below_then hww (below_then hwk hw9))⟩
                      rw [HE.out, atE_some hlt HG.out HX.out]
                      rfl
                    | false =>
                      have HX := hid_ hwb
                      clear hwb
                      go_wp2
                      go_roundw
                      case rel => exact ⟨k + 1, by omega, by go_num, below_then hww hwk, fun j hj => by
                        rcases Nat.lt_succ_iff_lt_or_eq.1 hj with h | rfl
                        · exact HG.out j h
                        · exact HX.out⟩
                      case measure => simp [intOf]; omega
              · have HG1 := hid_ (show ∀ j, j < c.parts.length → winBad c j = false from fun j hj => hgood j (by omega))
                clear hgood
                obtain ⟨w5, rfl⟩ : ∃ w5 : World, w5 = wr := ⟨_, rfl⟩
                have i8 := grown_cell hwr b8
                have i9 := grown_cell hwr b9
                have i10 := grown_cell hwr b10
                have hw5 := below_then hw3 hwr
                have h2 := h2.fr (Fr.of_below hwr (fun _ => False)) (fun h => h)
                have h3 := h3.fr (Fr.of_below hwr (fun _ => False)) (fun h => h)
                clear b0 b2 b8 b9 b10
                go_wp2
                clear i8
                go_loopw [10] (fun iv wr => ∃ i : Nat, i ≤ c.routes.length ∧ iv = .int .i64 i ∧ Below w5.heap.size w5 wr ∧ ∀ j, j < i → routeBad c j = false) (fun iv _ => c.routes.length - (intOf iv).toNat)
                case atStart => exact ⟨0, Nat.zero_le _, rfl, Below.refl _ _, fun j hj => absurd hj (by omega)⟩
                case round =>
                  obtain ⟨i, hi, rfl, hwr, hgood⟩ := hrel
                  by_cases hlt : i < c.routes.length
                  · obtain ⟨bb, off, rfl, _, hcell⟩ := h3.row (fun _ => rfl) hlt
                    have hin := HPR.out i hlt
                    simp only [routeIn, inb, Bool.and_eq_true, decide_eq_true_eq] at hin
                    obtain ⟨⟨x0, x1⟩, y0, y1⟩ := hin
                    obtain ⟨s, hs⟩ := Int.eq_ofNat_of_zero_le x0
                    obtain ⟨d, hd⟩ := Int.eq_ofNat_of_zero_le y0
                    have hsl : s < c.ports.length := by omega
                    have hdl : d < c.ports.length := by omega
                    obtain ⟨qb, qo, rfl, _, hcs⟩ := h2.row (fun _ => rfl) hsl
                    obtain ⟨qb', qo', hqq, _, hcd⟩ := h2.row (fun _ => rfl) hdl
                    simp only [Option.some.injEq, Addr.mk.injEq, and_true] at hqq
                    obtain ⟨rfl, rfl⟩ := hqq
                    have hce : ∀ j v, (Route.cells (c.route i))[j]? = some v → wr.cell? ⟨bb, off + i * 2 + j, none⟩ = some v := fun j v hv => grown_cell hwr (hcell j v hv)
                    have e0 := hce 0 _ rfl
                    have e1 := hce 1 _ rfl
                    simp only [Nat.add_zero] at e0
                    have HEnd := hid_ (routeAt_end c i s d hs hd)
                    rw [hs] at e0 x0 x1
                    rw [hd] at e1 y0 y1
                    clear hcell hce hs hd
                    have HG := hid_ hgood
                    clear hgood
                    have l9 := grown_cell hwr i9
                    have l10 := grown_cell hwr i10
                    go_upto_region 29 with (fail)
                    have hsc : ∀ j v, (Port.cells (c.port s))[j]? = some v → wr.cell? ⟨qb, qo + s * 6 + j, none⟩ = some v := fun j v hv => grown_cell hwr (hcs j v hv)
                    have hdc : ∀ j v, (Port.cells (c.port d))[j]? = some v → wr.cell? ⟨qb, qo + d * 6 + j, none⟩ = some v := fun j v hv => grown_cell hwr (hcd j v hv)
                    have s0' := hsc 0 _ rfl
                    have s1' := hsc 1 _ rfl
                    have s2' := hsc 2 _ rfl
                    have s3' := hsc 3 _ rfl
                    have s4' := hsc 4 _ rfl
                    have s5' := hsc 5 _ rfl
                    have d0' := hdc 0 _ rfl
                    have d1' := hdc 1 _ rfl
                    have d2' := hdc 2 _ rfl
                    have d3' := hdc 3 _ rfl
                    have d4' := hdc 4 _ rfl
                    have d5' := hdc 5 _ rfl
                    simp only [Nat.add_zero] at s0' d0'
                    have kp : ∀ (W : World) (o : Obj) (b k : Nat) (v : Value), W.cell? ⟨b, k, none⟩ = some v → (W.alloc o).cell? ⟨b, k, none⟩ = some v := fun W o b k v h => cell_alloc_keep o h
                    clear hsc hdc hcs hcd
                    clear kp
                    go_cut [11, 12] (fun u5 u6 wx => ∃ g h : Nat, u5 = .pointer (some ⟨g, 0, none⟩) ∧ u6 = .pointer (some ⟨h, 0, none⟩) ∧ Below wr.heap.size wr wx ∧ Bk wx g 33 (c.port s).cells ∧ Bk wx h 33 (c.port d).cells)
                    case first =>
                      have n0' := fun n : Aft wr => n.cell e0
                      have n1' := fun n : Aft wr => n.cell e1
                      have n2' := fun n : Aft wr => n.cell l9
                      have n3' := fun n : Aft wr => n.cell l10
                      have a0' := fun n : Aft wr => n.cell s0'
                      have a1' := fun n : Aft wr => n.cell s1'
                      have a2' := fun n : Aft wr => n.cell s2'
                      have a3' := fun n : Aft wr => n.cell s3'
                      have a4' := fun n : Aft wr => n.cell s4'
                      have a5' := fun n : Aft wr => n.cell s5'
                      have c0' := fun n : Aft wr => n.cell d0'
                      have c1' := fun n : Aft wr => n.cell d1'
                      have c2' := fun n : Aft wr => n.cell d2'
                      have c3' := fun n : Aft wr => n.cell d3'
                      have c4' := fun n : Aft wr => n.cell d4'
                      have c5' := fun n : Aft wr => n.cell d5'
                      have ha : ∀ w : World, (Instr.alloc 33 true (.tuple #[])).run Try.prog w = .ok (.pointer (some ⟨w.heap.size, 0, none⟩)) (w.alloc (.cells [.int .i64 0, .int .u8 0, .bool false, .int .i64 0, .int .i64 0, .int .i64 0].toArray 33)) := fun w => by kernel_rfl
                      clear e0 e1 l9 l10 s0' s1' s2' s3' s4' s5' d0' d1' d2' d3' d4' d5'
                      clear ha
                      have hb1 : ∀ o, Below wr.heap.size wr (wr.alloc o).drew := fun o => ((Below.refl _ _).alloc (Nat.le_refl _) o).drew
                      have hb2 : ∀ o o', Below wr.heap.size wr ((wr.alloc o).alloc o').drew := fun o o' => (((Below.refl _ _).alloc (Nat.le_refl _) o).alloc (by simp) o').drew
                      refine wp_region_four (C := fun w' => ∃ n : Aft wr, w' = n.W) 20 (by kernel_rfl) (by kernel_rfl) (by kernel_rfl) ⟨⟨_, below_drew wr⟩, rfl⟩ rfl rfl rfl rfl (by kernel_rfl) ?_
                      dsimp only [List.take]
                      repeat (go_big_quiet_step (fail))
                      refine wpQuiet_nil ?_
                      clear n0' n1' n2' n3' a0' a1' a2' a3' a4' a5' c0' c1' c2' c3' c4' c5'
                      refine ⟨?_, ?_⟩
                      · unfold step1
                        go_wp2
                        refine ⟨⟨⟨_, hb1 _⟩, rfl⟩, ?_⟩
                        go_wp2
                        refine ⟨⟨⟨_, hb2 _ _⟩, rfl⟩, ?_⟩
                        go_wp2
                        refine ⟨⟨⟨_, hb2 _ _⟩, rfl⟩, ?_⟩
                        go_wp2
                        go_meet
                        exact ⟨wr.heap.size, wr.heap.size + 1, rfl, rfl, (two_new wr 33 (c.port s).cells (c.port d).cells).1, (two_new wr 33 (c.port s).cells (c.port d).cells).2.1, (two_new wr 33 (c.port s).cells (c.port d).cells).2.2⟩
                      · unfold step1
                        go_wp2
                        refine ⟨⟨⟨_, hb1 _⟩, rfl⟩, ?_⟩
                        go_wp2
                        refine ⟨⟨⟨_, hb2 _ _⟩, rfl⟩, ?_⟩
                        go_wp2
                        refine ⟨⟨⟨_, hb2 _ _⟩, rfl⟩, ?_⟩
                        go_wp2
                        go_meet
                        exact ⟨wr.heap.size + 1, wr.heap.size, rfl, rfl, (two_new wr 33 (c.port d).cells (c.port s).cells).1, (two_new wr 33 (c.port d).cells (c.port s).cells).2.2, (two_new wr 33 (c.port d).cells (c.port s).cells).2.1⟩
                    case rest =>
                      obtain ⟨g, h, rfl, rfl, hwx, hG, hH⟩ := hcut
                      have hwwx := below_then hwr hwx
                      have j1 := hG.cell_ 1 rfl
                      have j2 := hG.cell_ 2 rfl
                      have j3 := hG.cell_ 3 rfl
                      have z1 := hH.cell_ 1 rfl
                      have z2 := hH.cell_ 2 rfl
                      have z3 := hH.cell_ 3 rfl
                      have v10 := grown_cell hwx l10
                      clear s0' s1' s2' s3' s4' s5' d0' d1' d2' d3' d4' d5'
                      obtain ⟨w6, rfl⟩ : ∃ w6 : World, w6 = wc := ⟨_, rfl⟩
                      go_upto_region 30 with (fail)
                      go_cut [13] (fun u wx => u = .bool (route4 (c.port s) (c.port d)) ∧ wx = w6)
                      case first =>
                        cases ho : (c.port s).out with
                        | false =>
                          rw [ho] at j2
                          have HR := hid_ (show route4 (c.port s) (c.port d) = true by simp [route4, ho])
                          clear ho
                          go_wp2
                          go_meet
                          exact ⟨by rw [HR.out], rfl⟩
                        | true =>
                          rw [ho] at j2
                          cases hp : (c.port d).out with
                          | true =>
                            rw [hp] at z2
                            have HR := hid_ (show route4 (c.port s) (c.port d) = true by simp [route4, hp])
                            clear ho hp
                            go_wp2
                            go_meet
                            exact ⟨by rw [HR.out], rfl⟩
                          | false =>
                            rw [hp] at z2
                            by_cases hk : (c.port s).kind = (c.port d).kind
                            · have nk : ((c.port s).kind != (c.port d).kind) = false := by simp [hk]
                              have HR := hid_ (show route4 (c.port s) (c.port d) = decide ((c.port d).size < (c.port s).size) by simp [route4, ho, hp, hk])
                              clear hk ho hp
                              go_wp2
                              go_meet
                              exact ⟨by rw [HR.out], rfl⟩
                            · have nk : ((c.port s).kind != (c.port d).kind) = true := by simpa using hk
                              have HR := hid_ (show route4 (c.port s) (c.port d) = true by simp [route4, hk])
                              clear hk ho hp
                              go_wp2
                              go_meet
                              exact ⟨by rw [HR.out], rfl⟩
                      case rest =>
                        obtain ⟨rfl, rfl⟩ := hcut
                        rw [← routeAt_zero c i s d]
                        obtain ⟨wo, rfl⟩ : ∃ wo : World, wo = wr := ⟨_, rfl⟩
                        clear j1 j2 j3 z1 z2 z3 l9
                        obtain ⟨w7, rfl⟩ : ∃ w7 : World, w7 = wc := ⟨_, rfl⟩
                        go_wp2
                        go_loopw [14, 13] (fun kv ov wr => ∃ k : Nat, k ≤ i ∧ kv = .int .i64 k ∧ ov = .bool (routeAt c i s d k) ∧ Below w7.heap.size w7 wr) (fun kv _ _ => i - (intOf kv).toNat)
                        case atStart => exact ⟨0, Nat.zero_le _, rfl, rfl, Below.refl _ _⟩
                        case round =>
                          obtain ⟨k, hk, rfl, rfl, hwk⟩ := hrel
                          by_cases hki : k < i
                          · have hkl : k < c.routes.length := by omega
                            obtain ⟨bb2, off2, hbb, _, hcell2⟩ := h3.row (fun _ => rfl) hkl
                            simp only [Option.some.injEq, Addr.mk.injEq, and_true] at hbb
                            obtain ⟨rfl, rfl⟩ := hbb
                            have hwk' := below_then hwwx hwk
                            have ek' : wr.cell? ⟨bb, off + k * 2 + 1, none⟩ = some (.int .i64 (c.route k).dst) := grown_cell hwk' (hcell2 1 _ rfl)
                            have ei' := grown_cell hwk (grown_cell hwx e1)
                            have l10' := grown_cell hwk v10
                            have HS := hid_ (routeAt_succ c i s d k)
                            clear hcell2 v10
                            go_upto_region 34 with (fail)
                            have ek := fun n : Aft wr => n.cell ek'
                            have ei := fun n : Aft wr => n.cell ei'
                            have l10n := fun n : Aft wr => n.cell l10'
                            clear ek' ei' l10'
                            cases hro : routeAt c i s d k with
                            | true =>
                              have HT := hid_ (show routeAt c i s d (k + 1) = true by rw [HS.out, hro]; rfl)
                              clear hro
                              refine wp_region_aft (by kernel_rfl) (by kernel_rfl) ?_
                              repeat (go_big_quiet_step (fail))
                              refine wpQuiet_nil ?_
                              rintro _ ⟨n, rfl⟩
                              go_wp2
                              go_roundw
                              case rel => exact ⟨k + 1, by omega, by go_num, by rw [HT.out], below_then hwk n.h⟩
                              case measure => simp [intOf]; omega
                            | false =>
                              have HT := hid_ (show routeAt c i s d (k + 1) = ((c.route k).dst == (d : Int)) by rw [HS.out, hro, Bool.false_or]; rfl)
                              clear hro
                              refine wp_region_aft (by kernel_rfl) (by kernel_rfl) ?_
                              repeat (go_big_quiet_step (fail))
                              refine wpQuiet_nil ?_
                              rintro _ ⟨n, rfl⟩
                              go_wp2
                              go_roundw
                              case rel => exact ⟨k + 1, by omega, by go_num, by rw [HT.out], below_then hwk n.h⟩
                              case measure => simp [intOf]; omega
                          · obtain rfl : k = i := by omega
                            rw [HEnd.out]
                            cases hrb : routeBad c k with
                            | true =>
                              have HX := hid_ hrb
                              clear hrb
                              go_wp2_with fail
                              refine (refAt_ 72 k (by omega) (by omega) _).mono ?_
                              rintro e w9 ⟨rfl, hw9⟩
                              go_wp2
                              go_ret
                              refine ⟨?_, below_then hw5 (below_then hwwx (below_then hwk hw9))⟩
                              rw [HE.out, atE_none HG1.out, atE_some hlt HG.out HX.out]
                              rfl
                            | false =>
                              have HX := hid_ hrb
                              clear hrb
                              go_wp2
                              go_roundw
                              case rel => exact ⟨k + 1, by omega, by go_num, below_then hwwx hwk, fun j hj => by
                                rcases Nat.lt_succ_iff_lt_or_eq.1 hj with h | rfl
                                · exact HG.out j h
                                · exact HX.out⟩
                              case measure => simp [intOf]; omega
                  · have HG2 := hid_ (show ∀ j, j < c.routes.length → routeBad c j = false from fun j hj => hgood j (by omega))
                    clear hgood
                    have l10 := grown_cell hwr i10
                    go_wp2
                    go_ret
                    refine ⟨?_, below_then hw5 hwr⟩
                    rw [HE.out, atE_none HG1.out, atE_none HG2.out]
                    rfl
end Go.Proofs.Ytogfbeibpfdleaa
