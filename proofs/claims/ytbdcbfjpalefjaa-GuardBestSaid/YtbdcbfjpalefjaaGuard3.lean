/- Package guard's Due, Come. No condition but the tables' own ranges. -/
import Derived.Test.YtbdcbfjpalefjaaGuard2
set_option linter.unusedSimpArgs false
set_option linter.unusedVariables false
namespace Go.Proofs.Ytbdcbfjpalefjaa
open Go.RowKit Go.Maps

theorem IsGuard.cells {w : World} {b g : Nat} {c : Cfg} {pv qv rv : Value} {seen : List Bool} (h : IsGuard w b g c pv qv rv seen) (n : Aft w) :
    n.W.cell? ⟨b, 0, none⟩ = some (.int .i64 c.nodes) ∧ n.W.cell? ⟨b, 1, none⟩ = some (.int .i64 c.faulty) ∧ n.W.cell? ⟨b, 2, none⟩ = some (.int .i64 c.slot) ∧ n.W.cell? ⟨b, 3, none⟩ = some (.int .i64 c.gap) ∧ n.W.cell? ⟨b, 4, none⟩ = some (.int .i64 c.rho) ∧ n.W.cell? ⟨b, 5, none⟩ = some (.int .i64 c.dmin) ∧ n.W.cell? ⟨b, 6, none⟩ = some (.int .i64 c.dmax) ∧ n.W.cell? ⟨b, 7, none⟩ = some (.int .i64 c.margin) ∧ n.W.cell? ⟨b, 8, none⟩ = some (pv) ∧ n.W.cell? ⟨b, 9, none⟩ = some (qv) ∧ n.W.cell? ⟨b, 10, none⟩ = some (rv) :=
  ⟨n.cell (h.own.cell_ 0 rfl), n.cell (h.own.cell_ 1 rfl), n.cell (h.own.cell_ 2 rfl), n.cell (h.own.cell_ 3 rfl), n.cell (h.own.cell_ 4 rfl), n.cell (h.own.cell_ 5 rfl), n.cell (h.own.cell_ 6 rfl), n.cell (h.own.cell_ 7 rfl), n.cell (h.own.cell_ 8 rfl), n.cell (h.own.cell_ 9 rfl), n.cell (h.own.cell_ 10 rfl)⟩
theorem IsGuard.below {w w' : World} {b g : Nat} {c : Cfg} {pv qv rv : Value} {seen : List Bool} (h : IsGuard w b g c pv qv rv seen) (hw : Below w.heap.size w w') : IsGuard w' b g c pv qv rv seen :=
  ⟨h.own.same (hw.block _ h.own.lt), h.marks.same (hw.block _ h.marks.lt)⟩

theorem Ranges.mean {c : Cfg} (h : Ranges c) : 0 ≤ c.mean ∧ c.mean ≤ 1048576 := by
  have := h.d0
  have := h.d1
  have := h.x1
  unfold Cfg.mean
  omega
theorem Ranges.send {c : Cfg} (h : Ranges c) (i : Int) (hi : -9 ≤ i ∧ i ≤ 9) : -150994944 ≤ c.send i ∧ c.send i ≤ 167772160 := by
  have s0 := h.s0
  have s1 := h.s1
  have m0 := h.m0
  have m1 := h.m1
  unfold Cfg.send
  rcases (by omega : i = -9 ∨ i = -8 ∨ i = -7 ∨ i = -6 ∨ i = -5 ∨ i = -4 ∨ i = -3 ∨ i = -2 ∨ i = -1 ∨ i = 0 ∨ i = 1 ∨ i = 2 ∨ i = 3 ∨ i = 4 ∨ i = 5 ∨ i = 6 ∨ i = 7 ∨ i = 8 ∨ i = 9) with rfl | rfl | rfl | rfl | rfl | rfl | rfl | rfl | rfl | rfl | rfl | rfl | rfl | rfl | rfl | rfl | rfl | rfl | rfl <;> omega

set_option maxRecDepth 100000 in
theorem guardDue (c : Cfg) (pv qv rv : Value) (b g : Nat) (seen : List Bool) (h : Ranges c) (i : Int) (hi : -9 ≤ i ∧ i ≤ 9) (w : World) (hG : IsGuard w b g c pv qv rv seen) :
    Calls Try.prog 13 #[.pointer (some ⟨b, 0, none⟩), .int .i64 i] w fun e w' => e = .returned (.int .i64 (c.send i + c.mean)) ∧ Below w.heap.size w w' := by
  have dc := fun n : Aft w => hG.cells n
  obtain ⟨s0, s1⟩ := h.send i hi
  obtain ⟨m0, m1⟩ := h.mean
  go_enter Try.func13, Try.ntmps13
  go_upto_region 3 with (fail)
  refine wp_region_aft (by kernel_rfl) (by kernel_rfl) ?_
  repeat (go_big_quiet_step (first | exact Aft.calls _ (sndSend c pv qv rv h i hi _) | exact Aft.calls _ (sndMean c pv qv rv h _)))
  refine wpQuiet_nil ?_
  rintro _ ⟨n, rfl⟩
  go_wp2
  go_ret
  exact ⟨rfl, n.h⟩

/-- What the guardian says, and its marks behind it. -/
def due (c : Cfg) (i : Int) : Int := c.send i + c.mean
def comeV (c : Cfg) (seen : List Bool) (i at_ : Int) : Int × List Bool :=
  if i < 0 ∨ c.nodes ≤ i then (5, seen) else if at_ < due c i - c.margin then (2, seen) else if due c i + c.margin < at_ then (3, seen) else
    if seen.getD i.toNat false = true then (4, seen) else (1, seen.set i.toNat true)

set_option maxRecDepth 100000 in
set_option maxHeartbeats 4000000 in
theorem guardCome (c : Cfg) (pv qv rv : Value) (b g : Nat) (seen : List Bool) (h : Ranges c) (hn : (seen.length : Int) = c.nodes) (i at_ : Int) (w : World) (hG : IsGuard w b g c pv qv rv seen) (C : Nat → Nat) :
    Calls Try.prog 14 #[.pointer (some ⟨b, 0, none⟩), .int .i64 i, .int .i64 at_] w fun e w' => e = .returned (.int .i64 (comeV c seen i at_).1) ∧ Fr (· = C g) C C w w' ∧ IsGuard w' b g c pv qv rv (comeV c seen i at_).2 := by
  have dc := hG.cells ⟨w, Below.refl _ _⟩
  have hF : ∀ w', Below w.heap.size w w' → Fr (· = C g) C C w w' := fun w' h => Fr.of_below h _
  have n0 := h.n0
  have n1 := h.n1
  by_cases h1 : i < 0
  · have HV := hid_ (show comeV c seen i at_ = (5, seen) by unfold comeV; rw [if_pos (.inl h1)])
    clear hn
    go_enter Try.func14, Try.ntmps14
    go_wp2
    go_ret
    rw [HV.out]
    exact ⟨rfl, hF _ (Below.refl _ _), hG⟩
  · by_cases h2 : c.nodes ≤ i
    · have HV := hid_ (show comeV c seen i at_ = (5, seen) by unfold comeV; rw [if_pos (.inr h2)])
      clear hn
      go_enter Try.func14, Try.ntmps14
      go_wp2
      go_ret
      rw [HV.out]
      exact ⟨rfl, hF _ (Below.refl _ _), hG⟩
    · obtain ⟨s0, s1⟩ := h.send i (by omega)
      obtain ⟨m0, m1⟩ := h.mean
      have x0 := h.m0
      have x1 := h.m1
      have HV0 : comeV c seen i at_ = if at_ < due c i - c.margin then (2, seen) else if due c i + c.margin < at_ then (3, seen) else
          if seen.getD i.toNat false = true then (4, seen) else (1, seen.set i.toNat true) := by
        unfold comeV
        rw [if_neg (by omega)]
      have HV := hid_ HV0
      have hdue := guardDue c pv qv rv b g seen h i (by omega) w hG
      rw [show c.send i + c.mean = due c i from rfl] at hdue
      have d0 : -150994944 ≤ due c i := by unfold due; omega
      have d1 : due c i ≤ 180000000 := by unfold due; omega
      have HN := hid_ hn
      have HD := hid_ hdue
      clear hn HV0 hdue
      go_enter Try.func14, Try.ntmps14
      go_wp2_with fail
      refine HD.out.mono ?_
      rintro e w1 ⟨rfl, hw1⟩
      have hG1 := hG.below hw1
      clear dc
      have dc := hG1.cells ⟨w1, Below.refl _ _⟩
      by_cases c1 : at_ < due c i - c.margin
      · have HV1 := hid_ (HV.out.trans (if_pos c1))
        go_wp2
        go_ret
        rw [HV1.out]
        exact ⟨rfl, hF _ hw1, hG1⟩
      · have HV1 := hid_ (HV.out.trans (if_neg c1))
        by_cases c2 : due c i + c.margin < at_
        · have HV2 := hid_ (HV1.out.trans (if_pos c2))
          go_wp2
          go_ret
          rw [HV2.out]
          exact ⟨rfl, hF _ hw1, hG1⟩
        · have HV2 := hid_ (HV1.out.trans (if_neg c2))
          obtain ⟨k, rfl⟩ := Int.eq_ofNat_of_zero_le (show 0 ≤ i by omega)
          have hk : k < seen.length := by have := HN.out; omega
          have hsl := hG1.own.cell_ 11 rfl
          have hmk := hG1.marks.cell_ k (v := .bool (seen.getD k false)) (by rw [List.getElem?_map, List.getElem?_eq_getElem hk, List.getD_eq_getElem?_getD, List.getElem?_eq_getElem hk]; rfl)
          have hfz := hG1.marks.frozen k
          have hlen : (seen.length : Int) = c.nodes := HN.out
          have hlen7 : seen.length ≤ 7 := by omega
          clear hlen
          cases hs : seen.getD k false with
          | true =>
            have HV3 := hid_ (HV2.out.trans (if_pos (by rw [Int.toNat_natCast]; exact hs)))
            rw [hs] at hmk
            clear hs
            go_wp2
            go_ret
            rw [HV3.out]
            exact ⟨rfl, hF _ hw1, hG1⟩
          | false =>
            have HV3 := hid_ (HV2.out.trans (if_neg (by rw [Int.toNat_natCast, hs]; simp)))
            rw [hs] at hmk
            clear hs
            go_wp2
            go_ret
            rw [HV3.out, Int.toNat_natCast]
            have hbg : b ≠ g := hG1.own.ne hG1.marks (by decide)
            refine ⟨rfl, (hF _ hw1).setCell (.inr rfl) _, ⟨?_, ?_⟩⟩
            · have := hG1.own.far (a := ⟨g, k, none⟩) hbg (.bool true)
              rw [List.length_set]
              simpa using this
            · have := hG1.marks.set k (.bool true)
              rw [List.map_set]
              simpa using this
end Go.Proofs.Ytbdcbfjpalefjaa
