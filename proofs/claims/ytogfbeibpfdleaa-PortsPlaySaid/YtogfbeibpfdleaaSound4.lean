/- The walk of sound.Check: it tells sndE. No condition but the tables' own ranges. -/
import Derived.Test.YtogfbeibpfdleaaSound3
set_option linter.unusedSimpArgs false
set_option linter.unusedVariables false
namespace Go.Proofs.Ytogfbeibpfdleaa
open Go.RowKit Go.Maps

theorem ErrO.mono {w w0 w' : World} {ev : Value} {o : Option (Int × Int)} (h : ErrO w w' ev o) (hs : w0.heap.size ≤ w.heap.size) : ErrO w0 w' ev o := by
  cases o with
  | none => exact h
  | some e =>
    obtain ⟨b, h1, h2, h3⟩ := h
    exact ⟨b, h1, by omega, h3⟩

set_option maxRecDepth 100000 in
set_option maxHeartbeats 4000000 in
theorem sndCheck (c : Cfg) (hok : c.ok) (C : Nat → Nat) (pv qv rv : Value) (w : World) (hl : Lists w C c pv qv rv) (hf : Fin C w) :
    Calls Try.prog 37 #[c.v pv qv rv] w fun e w' => ∃ ev, e = .returned ev ∧ Below w.heap.size w w' ∧ ErrO w w' ev (sndE c) := by
  unfold Cfg.v
  go_enter Try.func37, Try.ntmps37
  go_upto_region 1 with (fail)
  refine gen_world (fun W => Below w.heap.size w W ∧ Bk W w.heap.size 28 (c.cells pv qv rv)) ⟨(Below.refl w.heap.size w).alloc (Nat.le_refl _) _, Bk.new _ _ _⟩ ?_
  rintro W ⟨hW, hB⟩
  have dc := hB.cfg0
  have hlW : Lists W C c pv qv rv := hl.fr (Fr.of_below hW (fun _ => False)) (fun h => h)
  go_wp2_with fail
  refine (tabCheck c hok C pv qv rv W hlW).mono ?_
  rintro e w1 ⟨ev, rfl, hw1, hE⟩
  have hw1' := below_then hW hw1
  cases ht : tabE c with
  | some x =>
    obtain ⟨cc, aa⟩ := x
    rw [ht] at hE
    have hfin : ErrO w w1 ev (sndE c) := by
      unfold sndE
      rw [if_pos (by rw [ht]; rfl), ht]
      exact ErrO.mono hE hW.size
    obtain ⟨b, rfl, _, _⟩ := hE
    have HF := hid_ hfin
    clear hfin dc ht
    unfold faultV
    go_wp2
    go_ret
    exact ⟨_, rfl, hw1', HF.out⟩
  | none =>
    rw [ht] at hE
    have hE' : ev = .nilIface := hE
    subst hE'
    have hg := Good.of ht
    have hS : sndE c = if c.nodes < 3 * c.faulty + 1 then some (70, -1) else if c.margin < c.prec + (c.dmax - c.dmin) + c.drift then some (74, -1) else if c.slot < 2 * c.margin + c.dmax + c.prec then some (73, -1)
        else if c.gap < 2 * (c.margin + c.prec) then some (75, -1) else
        atE 71 c.parts.length (winBad c) (atE 72 c.routes.length (routeBad c) none) := by
      unfold sndE
      rw [if_neg (by rw [ht]; simp)]
    have HS := hid_ hS
    obtain ⟨n0, n1, f0, f1, s0, s1, g0, g1, r0, r1, x0, x1, d0, d1, m0, m1⟩ := id hg.rg
    obtain ⟨p0, p1⟩ := hg.rg.prec
    obtain ⟨t0, t1⟩ := hg.rg.drift
    clear hS dc hlW
    have dc1 : ∀ n : Aft w1, _ := fun n => Bk.cfg (hB.same (hw1.block _ hB.lt)) n
    go_upto_region 4 with (fail)
    refine wp_region_aft (by kernel_rfl) (by kernel_rfl) ?_
    repeat (go_big_quiet_step (exact Aft.calls _ (sndPrec c pv qv rv hg.rg _)))
    refine wpQuiet_nil ?_
    rintro _ ⟨n, rfl⟩
    have hw2 := below_then hw1' n.h
    have hB2 : Bk n.W w.heap.size 28 (c.cells pv qv rv) := (hB.same (hw1.block _ hB.lt)).same (n.h.block _ (hB.same (hw1.block _ hB.lt)).lt)
    generalize n.W = w2 at *
    clear dc1
    have dc2 := hB2.cfg0
    have dc3 : ∀ n : Aft w2, _ := fun n => Bk.cfg hB2 n
    by_cases c1 : c.nodes < 3 * c.faulty + 1
    · have HE : Hid (sndE c = some (70, -1)) := by show _ = _; rw [HS.out, if_pos c1]
      clear dc3
      go_wp2_with fail
      refine (faultNew 70 (-1) _ (by decide)).mono ?_
      rintro e w9 ⟨b, rfl, hw9, hlt9, hB9⟩
      go_wp2
      go_ret
      exact ⟨_, rfl, below_then hw2 hw9, by rw [HE.out]; exact ErrO.of _ _ _ _ _ (by have := hw2.size; omega) hB9 (by omega)⟩
    · have HS1 := hid_ (HS.out.trans (if_neg c1))
      clear HS
      go_upto_region 7 with (fail)
      refine wp_region_aft (by kernel_rfl) (by kernel_rfl) ?_
      repeat (go_big_quiet_step (exact Aft.calls _ (sndDrift c pv qv rv hg.rg _)))
      refine wpQuiet_nil ?_
      rintro _ ⟨n, rfl⟩
      have hw3 := below_then hw2 n.h
      have hB3 : Bk n.W w.heap.size 28 (c.cells pv qv rv) := hB2.same (n.h.block _ hB2.lt)
      generalize n.W = w3 at *
      clear dc2 dc3
      have dc4 := hB3.cfg0
      by_cases c2 : c.margin < c.prec + (c.dmax - c.dmin) + c.drift
      · have HE := hid_ (HS1.out.trans (if_pos c2))
        go_wp2_with fail
        refine (faultNew 74 (-1) _ (by decide)).mono ?_
        rintro e w9 ⟨b, rfl, hw9, hlt9, hB9⟩
        go_wp2
        go_ret
        exact ⟨_, rfl, below_then hw3 hw9, by rw [HE.out]; exact ErrO.of _ _ _ _ _ (by have := hw3.size; omega) hB9 (by omega)⟩
      · have HS2 := hid_ (HS1.out.trans (if_neg c2))
        by_cases c3 : c.slot < 2 * c.margin + c.dmax + c.prec
        · have HE := hid_ (HS2.out.trans (if_pos c3))
          go_wp2_with fail
          refine (faultNew 73 (-1) _ (by decide)).mono ?_
          rintro e w9 ⟨b, rfl, hw9, hlt9, hB9⟩
          go_wp2
          go_ret
          exact ⟨_, rfl, below_then hw3 hw9, by rw [HE.out]; exact ErrO.of _ _ _ _ _ (by have := hw3.size; omega) hB9 (by omega)⟩
        · have HS3 := hid_ (HS2.out.trans (if_neg c3))
          by_cases c4 : c.gap < 2 * (c.margin + c.prec)
          · have HE := hid_ (HS3.out.trans (if_pos c4))
            go_wp2_with fail
            refine (faultNew 75 (-1) _ (by decide)).mono ?_
            rintro e w9 ⟨b, rfl, hw9, hlt9, hB9⟩
            go_wp2
            go_ret
            exact ⟨_, rfl, below_then hw3 hw9, by rw [HE.out]; exact ErrO.of _ _ _ _ _ (by have := hw3.size; omega) hB9 (by omega)⟩
          · have HS4 := hid_ (HS3.out.trans (if_neg c4))
            have hl3 : Lists w3 C c pv qv rv := hl.fr (Fr.of_below hw3 (fun _ => False)) (fun h => h)
            have hnp := hg.np
            have hnr := hg.nr
            go_wp2_with fail
            refine (sndWindows c C pv qv rv w3 hl3.parts hg).mono ?_
            cases hwin : firstIdx c.parts.length (winBad c) with
            | some i =>
              rintro e w4 ⟨rfl, hw4⟩
              have hi : i < c.parts.length := by
                unfold firstIdx at hwin
                simpa using List.mem_of_find?_eq_some hwin
              have HE := hid_ (HS4.out.trans (show atE 71 c.parts.length (winBad c) (atE 72 c.routes.length (routeBad c) none) = some (71, (i : Int)) by unfold atE; rw [hwin]))
              clear hwin
              unfold idxI
              go_wp2_with fail
              refine (faultNew 71 i _ (by decide)).mono ?_
              rintro e w9 ⟨b, rfl, hw9, hlt9, hB9⟩
              go_wp2
              go_ret
              exact ⟨_, rfl, below_then hw3 (below_then hw4 hw9), by rw [HE.out]; exact ErrO.of _ _ _ _ _ (by have := hw3.size; have := hw4.size; omega) hB9 (by omega)⟩
            | none =>
              rintro e w4 ⟨rfl, hw4⟩
              have HS5 := hid_ (HS4.out.trans (show atE 71 c.parts.length (winBad c) (atE 72 c.routes.length (routeBad c) none) = atE 72 c.routes.length (routeBad c) none by unfold atE; rw [hwin]))
              clear hwin dc4
              have hB4 : Bk w4 w.heap.size 28 (c.cells pv qv rv) := hB3.same (hw4.block _ hB3.lt)
              have dc5 := hB4.cfg0
              have hl4 : Lists w4 C c pv qv rv := hl3.fr (Fr.of_below hw4 (fun _ => False)) (fun h => h)
              unfold idxI
              go_wp2_with fail
              refine (sndRoutes c C pv qv rv w4 hl4.ports hl4.routes hg).mono ?_
              cases hro : firstIdx c.routes.length (routeBad c) with
              | some i =>
                rintro e w5 ⟨rfl, hw5⟩
                have hi : i < c.routes.length := by
                  unfold firstIdx at hro
                  simpa using List.mem_of_find?_eq_some hro
                have HE := hid_ (HS5.out.trans (show atE 72 c.routes.length (routeBad c) none = some (72, (i : Int)) by unfold atE; rw [hro]))
                clear hro
                unfold idxI
                go_wp2_with fail
                refine (faultNew 72 i _ (by decide)).mono ?_
                rintro e w9 ⟨b, rfl, hw9, hlt9, hB9⟩
                go_wp2
                go_ret
                exact ⟨_, rfl, below_then hw3 (below_then hw4 (below_then hw5 hw9)), by rw [HE.out]; exact ErrO.of _ _ _ _ _ (by have := hw3.size; have := hw4.size; have := hw5.size; omega) hB9 (by omega)⟩
              | none =>
                rintro e w5 ⟨rfl, hw5⟩
                have HE := hid_ (HS5.out.trans (show atE 72 c.routes.length (routeBad c) none = none by unfold atE; rw [hro]))
                clear hro
                unfold idxI
                go_wp2
                go_ret
                exact ⟨_, rfl, below_then hw3 (below_then hw4 hw5), by rw [HE.out]; rfl⟩
end Go.Proofs.Ytogfbeibpfdleaa
