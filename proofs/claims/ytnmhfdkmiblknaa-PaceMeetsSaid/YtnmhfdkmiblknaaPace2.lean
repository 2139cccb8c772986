/- Package pace: Hear where a coming counts; Turn; Next. No condition but that the tables work and moderate times. -/
import Derived.Test.YtnmhfdkmiblknaaPace
import Derived.Test.YtnmhfdkmiblknaaTail
import Derived.BigQuiet
import Derived.Deep.QuietTactic
set_option linter.unusedSimpArgs false
set_option linter.unusedVariables false
namespace Go.Proofs.Ytnmhfdkmiblknaa
open Go.RowKit Go.Maps

section
variable {w w' : World} {C C' : Nat → Nat} {k pb kb db hb : Nat} {c : Cfg} {pv qv rv : Value} {me since rate : Int} {cold : Bool} {devs : List Int} {has : List Bool}
theorem IsPace.cfg2 (h : IsPace w C k pb kb db hb c pv qv rv me cold since rate devs has) :
    w.cell? ⟨pb, 0, none⟩ = some (.int .i64 c.nodes) ∧ w.cell? ⟨pb, 1, none⟩ = some (.int .i64 c.faulty) ∧ w.cell? ⟨pb, 2, none⟩ = some (.int .i64 c.slot) ∧ w.cell? ⟨pb, 3, none⟩ = some (.int .i64 c.gap) ∧ w.cell? ⟨pb, 4, none⟩ = some (.int .i64 c.rho) ∧ w.cell? ⟨pb, 5, none⟩ = some (.int .i64 c.dmin) ∧ w.cell? ⟨pb, 6, none⟩ = some (.int .i64 c.dmax) ∧ w.cell? ⟨pb, 7, none⟩ = some (.int .i64 c.margin) ∧ w.cell? ⟨pb, 8, none⟩ = some pv ∧ w.cell? ⟨pb, 9, none⟩ = some qv ∧ w.cell? ⟨pb, 10, none⟩ = some rv ∧
      w.cell? ⟨pb, 13, none⟩ = some (.pointer (some ⟨kb, 0, none⟩)) ∧ w.cell? ⟨pb, 14, none⟩ = some (.slice (some ⟨db, 0, none⟩) devs.length devs.length) :=
  ⟨h.head.cell_ 0 rfl, h.head.cell_ 1 rfl, h.head.cell_ 2 rfl, h.head.cell_ 3 rfl, h.head.cell_ 4 rfl, h.head.cell_ 5 rfl, h.head.cell_ 6 rfl, h.head.cell_ 7 rfl, h.head.cell_ 8 rfl, h.head.cell_ 9 rfl, h.head.cell_ 10 rfl, h.head.cell_ 13 rfl, h.head.cell_ 14 rfl⟩
end

set_option maxRecDepth 100000 in
set_option maxHeartbeats 8000000 in
theorem paceHear_yes (C : Nat → Nat) (k pb kb db hb : Nat) (c : Cfg) (pv qv rv : Value) (me : Int) (cold : Bool) (since rate : Int) (devs : List Int) (has : List Bool) (node real : Int) (hg : Ranges c) (hr : -200 ≤ rate ∧ rate ≤ 200) (hx : -1000000000000 ≤ real - since ∧ real - since ≤ 1000000000000) (w : World)
    (h : IsPace w C k pb kb db hb c pv qv rv me cold since rate devs has) (hN : hearB c.nodes me cold has node = true) :
    Calls Try.prog 13 #[.pointer (some ⟨pb, 0, none⟩), .int .i64 node, .int .i64 real] w fun e w' => e = .returned (.bool true) ∧ Fr (· = k) C C w w' ∧ IsPace w' C k pb kb db hb c pv qv rv me cold since rate (devs.set node.toNat (devOf c since rate node real)) (has.set node.toNat true) := by
  obtain ⟨c0, -, -, -, -, -, -, -, -, -, -, c11, c12, -, -, c15⟩ := h.cfg
  have hlh := h.lh
  have hld := h.ld
  have n1 := hg.n1
  have HH := hid_ h
  clear h
  have hN' : ¬ node < 0 ∧ ¬ c.nodes ≤ node ∧ ¬ (node = me ∧ cold = false) ∧ has.getD node.toNat false = false := by
    unfold hearB at hN
    simp only [Bool.not_eq_true', Bool.or_eq_false_iff, decide_eq_false_iff_not, Bool.and_eq_false_imp, decide_eq_true_eq, Bool.not_eq_false'] at hN
    obtain ⟨⟨⟨a, b⟩, c⟩, d⟩ := hN
    exact ⟨a, b, fun ⟨h1, h2⟩ => by have := c h1; rw [h2] at this; simp at this, d⟩
  obtain ⟨h1, h2, h3, h4⟩ := hN'
  clear hN
  obtain ⟨i, rfl⟩ := Int.eq_ofNat_of_zero_le (show 0 ≤ node by omega)
  rw [Int.toNat_natCast] at h4 ⊢
  have hi : i < has.length := by omega
  have hid : i < devs.length := by omega
  have j0 : (0 : Int) ≤ (i : Int) := Int.natCast_nonneg _
  have j1 : (i : Int) < (has.length : Int) := by omega
  have j2 : (i : Int) < (devs.length : Int) := by omega
  have hi7 : (i : Int) ≤ 7 := by omega
  have x0 := HH.out.hasAt hi
  rw [h4] at x0
  have xf := HH.out.hs.frozen i
  obtain ⟨P1, F1⟩ := HH.out.mark i
  have HP1 := hid_ P1
  have HF1 := hid_ F1
  have hl1 := lclk_rng since rate real hr hx
  have hs1 := send_rng hg (i : Int) ⟨j0, hi7⟩
  have hm1 := mean_rng hg
  obtain ⟨V, hV⟩ : ∃ V, devOf c since rate (i : Int) real = V := ⟨_, rfl⟩
  rw [hV]
  unfold devOf at hV
  obtain ⟨lv, hlv⟩ : ∃ v, lclk since rate real = v := ⟨_, rfl⟩
  obtain ⟨sv, hsv⟩ : ∃ v, c.send (i : Int) = v := ⟨_, rfl⟩
  obtain ⟨mv, hmv⟩ : ∃ v, c.mean = v := ⟨_, rfl⟩
  rw [hlv] at hl1
  rw [hsv] at hs1
  rw [hmv] at hm1
  rw [hlv, hsv, hmv] at hV
  obtain ⟨l0, l1⟩ := hl1
  obtain ⟨s0, s1⟩ := hs1
  obtain ⟨m0, m1⟩ := hm1
  have q1 : wrap64 (lv - sv) = lv - sv := by unfold wrap64; omega
  have q2 : wrap64 (lv - sv - mv) = V := by unfold wrap64; omega
  have q3 : IntKind.i64.wrap (lv - sv) = lv - sv := IntWalk.i64_in _ (by omega)
  have q4 : IntKind.i64.wrap (lv - sv - mv) = V := by rw [IntWalk.i64_in _ (by omega)]; exact hV
  clear P1 F1 hV
  have HSTEP : ∀ (W0 : World) (P : IsPace W0 C k pb kb db hb c pv qv rv me cold since rate devs (has.set i true)),
      (∀ n : Aft W0, Calls Try.prog 33 #[.pointer (some ⟨kb, 0, none⟩), .int .i64 real] n.W fun e w' => e = .returned (.int .i64 lv) ∧ Below n.W.heap.size n.W w') ∧
      (∀ n : Aft W0, Calls Try.prog 34 #[.agg #[.int .i64 c.nodes, .int .i64 c.faulty, .int .i64 c.slot, .int .i64 c.gap, .int .i64 c.rho, .int .i64 c.dmin, .int .i64 c.dmax, .int .i64 c.margin, pv, qv, rv], .int .i64 (i : Int)] n.W fun e w' => e = .returned (.int .i64 sv) ∧ Below n.W.heap.size n.W w') ∧
      (∀ n : Aft W0, Calls Try.prog 35 #[.agg #[.int .i64 c.nodes, .int .i64 c.faulty, .int .i64 c.slot, .int .i64 c.gap, .int .i64 c.rho, .int .i64 c.dmin, .int .i64 c.dmax, .int .i64 c.margin, pv, qv, rv]] n.W fun e w' => e = .returned (.int .i64 mv) ∧ Below n.W.heap.size n.W w') := by
    intro W0 P
    refine ⟨fun n => (clkLocal kb since rate real hr hx n.W (P.below n.h).clk).mono ?_, fun n => (sndSend c pv qv rv hg (i : Int) ⟨by omega, by omega⟩ n.W).mono ?_, fun n => (sndMean c pv qv rv hg n.W).mono ?_⟩
    · rintro e w' ⟨rfl, m, rfl⟩
      exact ⟨by rw [hlv], below_drewN n.W m⟩
    · rintro e w' ⟨rfl, V⟩
      exact ⟨by rw [hsv], V⟩
    · rintro e w' ⟨rfl, V⟩
      exact ⟨by rw [hmv], V⟩
  have HS := hid_ HSTEP
  clear HSTEP hlv hsv hmv hx hr hlh hld
  rcases (by by_cases hs : (i : Int) = me; exact .inl hs; exact .inr hs : (i : Int) = me ∨ ¬ (i : Int) = me) with hs | hs
  · have hc : cold = true := by cases cold with | true => rfl | false => exact absurd ⟨hs, rfl⟩ h3
    subst hc
    have sb : ((i : Int) == me) = true := by simpa using hs
    clear hs h3 h4
    go_enter Try.func13, Try.ntmps13
    go_upto_region 4 with fail
    refine gen_world (fun W => Fr (· = k) C C w W ∧ IsPace W C k pb kb db hb c pv qv rv me true since rate devs (has.set i true)) ⟨HF1.out, HP1.out⟩ ?_
    rintro W ⟨F, P⟩
    obtain ⟨H1, H2, H3⟩ := HS.out W P
    have HLC := hid_ H1
    have HSD := hid_ H2
    have HMN := hid_ H3
    have HP := hid_ P
    have HF := hid_ F
    have dc := fun n : Aft W => (P.below n.h).cfg2
    clear H1 H2 H3 F P c0 c11 c12 c15 x0 xf HF1 HP1 HH HS
    refine wp_aft_tail 25 (by kernel_rfl) (by kernel_rfl) ?_
    simp only [List.take_succ_cons, List.take_zero, List.drop_succ_cons, List.drop_zero]
    repeat (go_big_quiet_step (first | exact Aft.calls _ (HLC.out _) | exact Aft.calls _ (HSD.out _) | exact Aft.calls _ (HMN.out _)))
    refine wpQuiet_nil ?_
    rintro _ ⟨m, rfl⟩
    have PM := HP.out.below m.h
    have fm := PM.dv.frozen i
    have em := PM.devAt hid
    obtain ⟨S1, S2⟩ := PM.set i V
    have HS1 := hid_ S1
    have HS2 := hid_ ((HF.out.trans (Fr.of_below m.h _)).trans S2)
    clear S1 S2 PM dc
    go_wp2
    go_ret
    exact ⟨rfl, HS2.out, HS1.out⟩
  · have sb : ((i : Int) == me) = false := by simpa using hs
    clear hs h3 h4
    go_enter Try.func13, Try.ntmps13
    go_upto_region 4 with fail
    refine gen_world (fun W => Fr (· = k) C C w W ∧ IsPace W C k pb kb db hb c pv qv rv me cold since rate devs (has.set i true)) ⟨HF1.out, HP1.out⟩ ?_
    rintro W ⟨F, P⟩
    obtain ⟨H1, H2, H3⟩ := HS.out W P
    have HLC := hid_ H1
    have HSD := hid_ H2
    have HMN := hid_ H3
    have HP := hid_ P
    have HF := hid_ F
    have dc := fun n : Aft W => (P.below n.h).cfg2
    clear H1 H2 H3 F P c0 c11 c12 c15 x0 xf HF1 HP1 HH HS
    refine wp_aft_tail 25 (by kernel_rfl) (by kernel_rfl) ?_
    simp only [List.take_succ_cons, List.take_zero, List.drop_succ_cons, List.drop_zero]
    repeat (go_big_quiet_step (first | exact Aft.calls _ (HLC.out _) | exact Aft.calls _ (HSD.out _) | exact Aft.calls _ (HMN.out _)))
    refine wpQuiet_nil ?_
    rintro _ ⟨m, rfl⟩
    have PM := HP.out.below m.h
    have fm := PM.dv.frozen i
    have em := PM.devAt hid
    obtain ⟨S1, S2⟩ := PM.set i V
    have HS1 := hid_ S1
    have HS2 := hid_ ((HF.out.trans (Fr.of_below m.h _)).trans S2)
    clear S1 S2 PM dc
    go_wp2
    go_ret
    exact ⟨rfl, HS2.out, HS1.out⟩
end Go.Proofs.Ytnmhfdkmiblknaa
