/- GuardPlays' walk. No condition but the tables' own ranges. -/
import Derived.Test.YtbdcbfjpalefjaaPlays
set_option linter.unusedSimpArgs false
set_option linter.unusedVariables false
namespace Go.Proofs.Ytbdcbfjpalefjaa
open Go.RowKit Go.Maps

theorem comeV_out (c : Cfg) (seen : List Bool) (i a : Int) (h : i < 0 ∨ c.nodes ≤ i) : comeV c seen i a = (5, seen) := by
  unfold comeV
  rw [if_pos h]
theorem comeV_early (c : Cfg) (seen : List Bool) (j : Nat) (o : Int) (hj : (j : Int) < c.nodes) (h : o < -c.margin) : comeV c seen j (due c j + o) = (2, seen) := by
  unfold comeV
  rw [if_neg (by omega), if_pos (by omega)]
theorem comeV_late (c : Cfg) (seen : List Bool) (j : Nat) (o : Int) (hj : (j : Int) < c.nodes) (h0 : 0 ≤ c.margin) (h : c.margin < o) : comeV c seen j (due c j + o) = (3, seen) := by
  unfold comeV
  rw [if_neg (by omega), if_neg (by omega), if_pos (by omega)]
theorem plays_off (x : Int) : ∃ o : Int, -1073741824 < o ∧ o < 1073741824 ∧ x.tmod 1073741824 = o :=
  ⟨_, Int.lt_tmod_of_pos x (by omega), Int.tmod_lt_of_pos x (by omega), rfl⟩

set_option maxRecDepth 100000 in
set_option maxHeartbeats 1600000 in
theorem plays_walk (c : Cfg) (hok : c.ok) (l : List Call) (hlk : ∀ x ∈ l, x.ok) (pv qv rv lv : Value) (w : World) (hl : Lists w (fun _ => 0) c pv qv rv) (hv : Rd w (fun _ => 0) lv 2 l.length (l.flatMap Call.cells)) :
    Calls Try.prog 3 #[c.v pv qv rv, lv] w fun e w' => e = .returned (.bool true) ∧ Below w.heap.size w w' := by
  obtain ⟨a, cap, rfl, hcap, hmax, -⟩ := id hv
  unfold maxLen at hmax
  unfold Cfg.v
  go_enter Try.func3, Try.ntmps3
  go_upto_region 1 with (fail)
  refine gen_world (fun W => Below w.heap.size w W ∧ Bk W w.heap.size 26 (c.cells pv qv rv)) ⟨(Below.refl w.heap.size w).alloc (Nat.le_refl _) _, Bk.new _ _ _⟩ ?_
  rintro W ⟨hW, hB⟩
  go_wp2_with fail
  refine (awake09 _).mono ?_
  rintro e w1 ⟨rfl, hw1⟩
  have hB1 : Bk w1 w.heap.size 26 (c.cells pv qv rv) := hB.same (hw1.block _ hB.lt)
  have hw1' := below_then hW hw1
  have hl1 : Lists w1 (fun _ => 0) c pv qv rv := hl.fr (Fr.of_below hw1' (fun _ => False)) (fun h => h)
  have dc := hB1.cfg0
  go_wp2_with fail
  refine (law6Long c _ pv qv rv w1 hl1).mono ?_
  cases hL : longB c with
  | true =>
    rintro e w2 ⟨rfl, hw2⟩
    clear dc hL
    go_wp2
    go_ret
    exact ⟨rfl, below_then hw1' hw2⟩
  | false =>
    rintro e w2 ⟨rfl, hw2⟩
    have hw2' := below_then hw1' hw2
    have hB2 : Bk w2 w.heap.size 26 (c.cells pv qv rv) := hB1.same (hw2.block _ hB1.lt)
    have hl2 : Lists w2 (fun _ => 0) c pv qv rv := hl.fr (Fr.of_below hw2' (fun _ => False)) (fun h => h)
    have HL := hid_ hL
    clear dc hL
    have dc := hB2.cfg0
    go_wp2_with fail
    refine (refCopied c _ pv qv rv w2 hl2 (fun _ _ => rfl) HL.out).mono ?_
    rintro e w3 ⟨pv', qv', rv', rfl, hw3, hl3⟩
    have hw3' := below_then hw2' hw3
    have hB3 : Bk w3 w.heap.size 26 (c.cells pv qv rv) := hB2.same (hw3.block _ hB2.lt)
    clear dc
    go_wp2_with fail
    refine (guardNew c hok _ pv' qv' rv' w3 hl3 (fun _ _ => rfl)).mono ?_
    have HO := hid_ (sndE_ok HL.out)
    cases hs : sndE c with
    | some x =>
      have HS := hid_ hs
      have hx := HO.out x hs
      clear hs
      rintro e w4 ⟨hw4, ev, rfl, hE⟩
      obtain ⟨xc, xa⟩ := x
      obtain ⟨b, rfl, hbb, hbF⟩ := hE
      have hw4' := below_then hw3' hw4
      have hB4 : Bk w4 w.heap.size 26 (c.cells pv qv rv) := hB3.same (hw4.block _ hB3.lt)
      have hl4 : Lists w4 (fun _ => 0) c pv qv rv := hl.fr (Fr.of_below hw4' (fun _ => False)) (fun h => h)
      have dc := hB4.cfg0
      go_wp2_with fail
      refine (refCheck6 c hok _ pv qv rv w4 hl4 (fun _ _ => rfl)).mono ?_
      rw [HS.out]
      rintro e w5 ⟨rfl, hw5⟩
      have hw5' := below_then hw4' hw5
      clear dc
      go_wp2_with fail
      refine (read_fault (xc, xa) hx b w5 (hbF.same (hw5.block _ hbF.lt))).mono ?_
      rintro e w6 ⟨rfl, hw6⟩
      have hne := ne_empty (refT_ne (xc, xa))
      generalize refT (some (xc, xa)) = T at *
      have hw6' := below_then hw5' hw6
      go_wp2_with fail
      refine (guardDue_nil 0 _).mono ?_
      rintro e w7 ⟨rfl, rfl⟩
      go_wp2_with fail
      refine (guardCome_nil 0 0 _).mono ?_
      rintro e w7 ⟨rfl, rfl⟩
      go_wp2
      go_ret
      exact ⟨rfl, hw6'⟩
    | none =>
      rintro e w4 ⟨hw4, b, g, rfl, hbb, hgg, hG⟩
      have hR := (sndE_good hs).rg
      have HS := hid_ hs
      clear hs
      have hw4' := below_then hw3' hw4
      have hB4 : Bk w4 w.heap.size 26 (c.cells pv qv rv) := hB3.same (hw4.block _ hB3.lt)
      have hl4 : Lists w4 (fun _ => 0) c pv qv rv := hl.fr (Fr.of_below hw4' (fun _ => False)) (fun h => h)
      have dc := hB4.cfg0
      go_wp2_with fail
      refine (refCheck6 c hok _ pv qv rv w4 hl4 (fun _ _ => rfl)).mono ?_
      rw [HS.out]
      rintro e w5 ⟨rfl, hw5⟩
      have hw5' := below_then hw4' hw5
      clear dc
      go_wp2_with fail
      refine (read_nil w5).mono ?_
      rintro e w6 ⟨rfl, hw6⟩
      have hw56 := below_then hw5 hw6
      have hw6' := below_then hw4' hw56
      have hG6 := hG.below hw56
      have hB6 : Bk w6 w.heap.size 26 (c.cells pv qv rv) := hB4.same (hw56.block _ hB4.lt)
      have hw36 : Below w3.heap.size w3 w6 := below_then hw4 hw56
      clear hG hw5 hw6 hw56 hw5' hB1 hB4 hB hl1 hl2 hl4
      have n0 := hR.n0
      have n1 := hR.n1
      obtain ⟨k, hk⟩ := Int.eq_ofNat_of_zero_le (show 0 ≤ c.nodes by omega)
      have b0 := hB6.cell_ 0 rfl
      have hmk := make_marks k (by omega)
      have HK := hid_ hk
      rw [hk] at b0 n0 n1
      clear hk
      unfold refT
      go_wp2
      have hsz := hw36.size
      refine gen_world (fun W => Below w3.heap.size w3 W ∧ IsGuard W b g c pv' qv' rv' (List.replicate k false) ∧ Bk W w6.heap.size 4 ((List.replicate k false).map Value.bool)) ⟨hw36.alloc hsz _, ?_, ?_⟩ ?_
      · have h := hG6.below ((Below.refl w6.heap.size w6).alloc (Nat.le_refl _) (.cells (List.replicate k (Value.bool false)).toArray 4))
        rw [HK.out, Int.toNat_natCast] at h
        simpa using h
      · have h := Bk.new w6 4 (List.replicate k (Value.bool false))
        rw [List.map_replicate]
        simpa using h
      have hpsg : g ≠ w6.heap.size := by have := hG6.marks.lt; omega
      clear b0 hmk hG6
      rintro W3 ⟨hW3, hG, hP⟩
      generalize w6.heap.size = ps at *
      go_loopw [9] (fun iv wr => ∃ (i : Nat) (seen : List Bool), i ≤ l.length ∧ iv = .int .i64 i ∧ seen.length = k ∧ Below w3.heap.size w3 wr ∧ IsGuard wr b g c pv' qv' rv' seen ∧ Bk wr ps 4 (seen.map Value.bool)) (fun iv _ => l.length - (intOf iv).toNat)
      case atStart => exact ⟨0, _, Nat.zero_le _, rfl, by simp, hW3, hG, hP⟩
      case round =>
        clear hG hP hW3
        obtain ⟨i, seen, hi, rfl, hsl, hwr, hG, hP⟩ := hrel
        have HSL := hid_ hsl
        clear hsl
        by_cases hlt : i < l.length
        · by_cases h200 : i < 200
          · obtain ⟨bb, off, rfl, _, hcell⟩ := hv.row (fun _ => rfl) hlt
            have hxo : (l.getD i default).ok := hlk _ (by rw [List.getD_eq_getElem?_getD, List.getElem?_eq_getElem hlt]; exact List.getElem_mem hlt)
            generalize l.getD i default = x at *
            have hce : ∀ j v, x.cells[j]? = some v → wr.cell? ⟨bb, off + i * 2 + j, none⟩ = some v := fun j v hv => grown_cell (below_then hw3' hwr) (hcell j v hv)
            have e0 := hce 0 _ rfl
            have e1 := hce 1 _ rfl
            simp only [Nat.add_zero] at e0
            have hBr : Bk wr w.heap.size 26 (c.cells pv qv rv) := hB3.same (hwr.block _ hB3.lt)
            have d0 := hBr.cell_ 0 rfl
            have d7 := hBr.cell_ 7 rfl
            rw [HK.out] at d0
            have i0 : (0 : Int) ≤ (i : Int) := Int.natCast_nonneg _
            have i1 : (i : Int) < (l.length : Int) := by omega
            have m0 := hR.m0
            have m1 := hR.m1
            obtain ⟨⟨x0, x1⟩, ⟨y0, y1⟩⟩ := hxo
            obtain ⟨o, o0, o1, ho⟩ := plays_off x.off
            clear hcell hce
            by_cases hout : x.node < 0 ∨ (k : Int) ≤ x.node
            · have HC := hid_ (comeV_out c seen x.node o (by rw [HK.out]; exact hout))
              rcases hout with hout | hout
              all_goals
                go_wp2
                go_quiet (fail)
                go_wp2_with fail
                clear ho e0 e1 d0 d7
                refine (guardCome c pv' qv' rv' b g seen hR (by rw [HSL.out, HK.out]) x.node o _ (by exact ⟨hG.own, hG.marks⟩) (mark g)).mono ?_
                rw [HC.out]
                rintro e w7 ⟨rfl, f7, hG7⟩
                have hw7 := mark_below (w2 := wr) hwr hgg hG.marks.lt ⟨f7.os, f7.tape, f7.output, f7.size, f7.block, f7.fin⟩
                have hP7 := hP.same (f7.block ps hP.lt (by simp [mark]; exact fun h => hpsg h.symm)).1
                clear f7
                go_wp2
                go_roundw
                case rel => exact ⟨i + 1, seen, by omega, by go_num, HSL.out, hw7, hG7, hP7⟩
                case measure => simp [intOf]; omega
            · obtain ⟨j, hj⟩ := Int.eq_ofNat_of_zero_le (show 0 ≤ x.node by omega)
              rw [hj] at e0 hout
              have hjk : j < k := by omega
              have j0 : (0 : Int) ≤ (j : Int) := Int.natCast_nonneg _
              have j1 : (j : Int) < (k : Int) := by omega
              clear hj hout x0 x1
              go_wp2
              go_quiet (fail)
              go_upto_region 18 with (fail)
              clear ho e0 e1 d0 d7
              refine gen_world (fun W => Below w3.heap.size w3 W ∧ IsGuard W b g c pv' qv' rv' seen ∧ Bk W ps 4 (seen.map Value.bool)) ⟨⟨hwr.os, hwr.tape, hwr.output, hwr.size, hwr.block⟩, ⟨hG.own, hG.marks⟩, hP⟩ ?_
              clear hG hP hwr hBr
              rintro W4 ⟨hwr, hG, hP⟩
              have hB4 : Bk W4 w.heap.size 26 (c.cells pv qv rv) := hB3.same (hwr.block _ hB3.lt)
              have dcn : ∀ n : Aft W4, _ := fun n => Bk.cfg hB4 n
              obtain ⟨s0, s1⟩ := hR.send j (by omega)
              obtain ⟨q0, q1⟩ := hR.mean
              refine wp_region_aft (by kernel_rfl) (by kernel_rfl) ?_
              repeat (go_big_quiet_step (first | exact Aft.calls _ (ref6Send c pv qv rv hR j (by omega) _) | exact Aft.calls _ (ref6Mean c pv qv rv hR _)))
              refine wpQuiet_nil ?_
              rintro _ ⟨n, rfl⟩
              have hG5 := hG.below n.h
              have hP5 := hP.same (n.h.block _ hP.lt)
              have hB5 := hB4.same (n.h.block _ hB4.lt)
              have hw5 := below_then hwr n.h
              have d7 := hB5.cell_ 7 rfl
              clear dcn hB4 hG hP hwr
              obtain ⟨W5, hE5⟩ : ∃ W5 : World, W5 = n.W := ⟨_, rfl⟩
              rw [← hE5] at hG5 hP5 hB5 hw5 d7 ⊢
              clear hE5 n
              rw [show c.send (j : Int) + c.mean = due c j from rfl]
              have d0 : -150994944 ≤ due c j := by unfold due; omega
              have d1 : due c j ≤ 180000000 := by unfold due; omega
              have hjs : j < seen.length := by rw [HSL.out]; exact hjk
              have hbool : (seen.map Value.bool)[j]? = some (.bool (seen.getD j false)) := by rw [List.getElem?_map, List.getElem?_eq_getElem hjs, List.getD_eq_getElem?_getD, List.getElem?_eq_getElem hjs]; rfl
              have p0 := hP5.cell_ j hbool
              have pf := hP5.frozen j
              clear hbool
              by_cases c1 : o < -c.margin
              · have HC := hid_ (comeV_early c seen j o (by rw [HK.out]; exact j1) c1)
                clear p0
                go_wp2_with fail
                refine (guardDue c pv' qv' rv' b g seen hR j (by omega) W5 hG5).mono ?_
                rw [show c.send (j : Int) + c.mean = due c j from rfl]
                rintro e w6 ⟨rfl, hw6⟩
                have hG6 := hG5.below hw6
                have hP6 := hP5.same (hw6.block _ hP5.lt)
                have hw6' := below_then hw5 hw6
                clear d7 hB5
                go_wp2_with fail
                refine (guardCome c pv' qv' rv' b g seen hR (by rw [HSL.out, HK.out]) j (due c j + o) _ hG6 (mark g)).mono ?_
                rw [HC.out]
                rintro e w7 ⟨rfl, f7, hG7⟩
                have hw7 := mark_below hw6' hgg hG6.marks.lt f7
                have hP7 := hP6.same (f7.block ps hP6.lt (by simp [mark]; exact fun h => hpsg h.symm)).1
                clear f7 hG6 hP6 hG5 hP5
                go_wp2
                go_roundw
                case rel => exact ⟨i + 1, seen, by omega, by go_num, HSL.out, hw7, hG7, hP7⟩
                case measure => simp [intOf]; omega
              by_cases c1 : c.margin < o
              · have HC := hid_ (comeV_late c seen j o (by rw [HK.out]; exact j1) m0 c1)
                clear p0
                go_wp2_with fail
                refine (guardDue c pv' qv' rv' b g seen hR j (by omega) W5 hG5).mono ?_
                rw [show c.send (j : Int) + c.mean = due c j from rfl]
                rintro e w6 ⟨rfl, hw6⟩
                have hG6 := hG5.below hw6
                have hP6 := hP5.same (hw6.block _ hP5.lt)
                have hw6' := below_then hw5 hw6
                clear d7 hB5
                go_wp2_with fail
                refine (guardCome c pv' qv' rv' b g seen hR (by rw [HSL.out, HK.out]) j (due c j + o) _ hG6 (mark g)).mono ?_
                rw [HC.out]
                rintro e w7 ⟨rfl, f7, hG7⟩
                have hw7 := mark_below hw6' hgg hG6.marks.lt f7
                have hP7 := hP6.same (f7.block ps hP6.lt (by simp [mark]; exact fun h => hpsg h.symm)).1
                clear f7 hG6 hP6 hG5 hP5
                go_wp2
                go_roundw
                case rel => exact ⟨i + 1, seen, by omega, by go_num, HSL.out, hw7, hG7, hP7⟩
                case measure => simp [intOf]; omega
              have HC := hid_ (comeV_in c seen j o (by rw [HK.out]; exact j1) (by omega) (by omega))
              cases hs : seen.getD j false with
              | true =>
                rw [hs] at HC p0
                simp only [if_true] at HC
                clear hs
                go_wp2_with fail
                refine (guardDue c pv' qv' rv' b g seen hR j (by omega) W5 hG5).mono ?_
                rw [show c.send (j : Int) + c.mean = due c j from rfl]
                rintro e w6 ⟨rfl, hw6⟩
                have hG6 := hG5.below hw6
                have hP6 := hP5.same (hw6.block _ hP5.lt)
                have hw6' := below_then hw5 hw6
                clear d7 hB5 p0
                go_wp2_with fail
                refine (guardCome c pv' qv' rv' b g seen hR (by rw [HSL.out, HK.out]) j (due c j + o) _ hG6 (mark g)).mono ?_
                rw [HC.out]
                rintro e w7 ⟨rfl, f7, hG7⟩
                have hw7 := mark_below hw6' hgg hG6.marks.lt f7
                have hP7 := hP6.same (f7.block ps hP6.lt (by simp [mark]; exact fun h => hpsg h.symm)).1
                clear f7 hG6 hP6 hG5 hP5
                go_wp2
                go_roundw
                case rel => exact ⟨i + 1, seen, by omega, by go_num, HSL.out, hw7, hG7, hP7⟩
                case measure => simp [intOf]; omega
              | false =>
                rw [hs] at HC p0
                simp only [Bool.false_eq_true, if_false] at HC
                clear hs
                go_wp2_with fail
                have hps := hid_ (show w3.heap.size ≤ ps from hsz)
                have hP5' := hP5.set j (.bool true)
                have hG5' : IsGuard (W5.setCell ⟨ps, j, none⟩ (.bool true)) b g c pv' qv' rv' seen :=
                  ⟨hG5.own.far (a := ⟨ps, j, none⟩) (hG5.own.ne hP5 (by decide)) _, hG5.marks.far (a := ⟨ps, j, none⟩) hpsg _⟩
                have hw5' := hw5.setCell (p := ⟨ps, j, none⟩) hps.out (.bool true)
                rw [show (seen.map Value.bool).set j (.bool true) = (seen.set j true).map Value.bool by rw [List.map_set]] at hP5'
                refine (guardDue c pv' qv' rv' b g seen hR j (by omega) _ hG5').mono ?_
                rw [show c.send (j : Int) + c.mean = due c j from rfl]
                rintro e w6 ⟨rfl, hw6⟩
                have hG6 := hG5'.below hw6
                have hP6 := hP5'.same (hw6.block _ hP5'.lt)
                have hw6' := below_then hw5' hw6
                clear d7 hB5 p0
                go_wp2_with fail
                refine (guardCome c pv' qv' rv' b g seen hR (by rw [HSL.out, HK.out]) j (due c j + o) _ hG6 (mark g)).mono ?_
                rw [HC.out]
                rintro e w7 ⟨rfl, f7, hG7⟩
                have hw7 := mark_below hw6' hgg hG6.marks.lt f7
                have hP7 := hP6.same (f7.block ps hP6.lt (by simp [mark]; exact fun h => hpsg h.symm)).1
                clear f7 hG6 hP6 hG5 hP5 hG5' hP5'
                go_wp2
                go_roundw
                case rel => exact ⟨i + 1, seen.set j true, by omega, by go_num, by rw [List.length_set]; exact HSL.out, hw7, hG7, hP7⟩
                case measure => simp [intOf]; omega
          · go_wp2
            go_ret
            exact ⟨rfl, below_then hw3' hwr⟩
        · go_wp2
          go_ret
          exact ⟨rfl, below_then hw3' hwr⟩
end Go.Proofs.Ytbdcbfjpalefjaa
