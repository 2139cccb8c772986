/- Package pace: New, Next. No condition but that the tables work and moderate times. -/
import Derived.Test.YtnmhfdkmiblknaaPace3
import Derived.Test.YtnmhfdkmiblknaaTail
set_option linter.unusedSimpArgs false
set_option linter.unusedVariables false
namespace Go.Proofs.Ytnmhfdkmiblknaa
open Go.RowKit Go.Maps

def nextV (c : Cfg) (since rate : Int) (L : List Int) (f : Nat) : Int := if midE L f = none then rclk since rate (c.round + midV L f) else 0
set_option maxRecDepth 100000 in
set_option maxHeartbeats 4000000 in
theorem paceNext (C : Nat → Nat) (k pb kb db hb : Nat) (hk : k ≠ 1) (c : Cfg) (pv qv rv : Value) (me : Int) (cold : Bool) (since rate : Int) (devs : List Int) (has : List Bool) (f : Nat) (hg : Ranges c) (hr : -200 ≤ rate ∧ rate ≤ 200) (hs : 0 ≤ since ∧ since ≤ 1125899906842624) (hcf : c.faulty = (f : Int)) (hz : ∀ x ∈ devs, Z64 x)
    (ht : -900000000000 ≤ midV (turnL cold me devs has) f ∧ midV (turnL cold me devs has) f ≤ 900000000000) (w : World)
    (h : IsPace w C k pb kb db hb c pv qv rv me cold since rate devs has) :
    Calls Try.prog 14 #[.pointer (some ⟨pb, 0, none⟩)] w fun e w' => e = .returned (.tuple #[.int .i64 (nextV c since rate (turnL cold me devs has) f), errN (midE (turnL cold me devs has) f)]) ∧ Below w.heap.size w w' := by
  have n1 := hg.n1
  have hlh := h.lh
  have HT := hid_ (paceTurn C k pb kb db hb hk c pv qv rv me cold since rate devs has f hcf (by omega) hz w h)
  have HH := hid_ h
  obtain ⟨L, hL⟩ : ∃ L, turnL cold me devs has = L := ⟨_, rfl⟩
  rw [hL] at HT ht ⊢
  obtain ⟨b0, b1⟩ := hg.round
  obtain ⟨t, hT⟩ : ∃ t, midV L f = t := ⟨_, rfl⟩
  rw [hT] at HT ht
  unfold nextV
  rw [hT]
  obtain ⟨t0, t1⟩ := ht
  obtain ⟨r0, hr0⟩ : ∃ r, c.round = r := ⟨_, rfl⟩
  rw [hr0] at b0 b1 ⊢
  obtain ⟨x0, hx0⟩ : ∃ r, rclk since rate (r0 + t) = r := ⟨_, rfl⟩
  rw [hx0]
  obtain ⟨NV, hNV⟩ : ∃ v, (if midE L f = none then x0 else 0) = v := ⟨_, rfl⟩
  obtain ⟨EV, hEV⟩ : ∃ v, errN (midE L f) = v := ⟨_, rfl⟩
  rw [hNV, hEV]
  have HNV := hid_ hNV
  have HEV := hid_ hEV
  clear hNV hEV
  have HR0 := hid_ hr0
  have HX0 := hid_ hx0
  clear h hL hlh hz hcf hT n1 hr0 hx0
  go_enter Try.func14, Try.ntmps14
  go_wp2_with fail
  refine HT.out.mono ?_
  rintro e w1 ⟨rfl, V1⟩
  have P1 := HH.out.below V1
  have HV1 := hid_ V1
  have HSTEP : (∀ n : Aft w1, Calls Try.prog 37 #[.agg #[.int .i64 c.nodes, .int .i64 c.faulty, .int .i64 c.slot, .int .i64 c.gap, .int .i64 c.rho, .int .i64 c.dmin, .int .i64 c.dmax, .int .i64 c.margin, pv, qv, rv]] n.W fun e w' => e = .returned (.int .i64 c.round) ∧ Below n.W.heap.size n.W w') ∧
      (∀ n : Aft w1, Calls Try.prog 36 #[.pointer (some ⟨kb, 0, none⟩), .int .i64 (c.round + t)] n.W fun e w' => e = .returned (.int .i64 (rclk since rate (c.round + t))) ∧ Below n.W.heap.size n.W w') := by
    refine ⟨fun n => sndRound c pv qv rv hg n.W, fun n => (clkReal kb since rate (c.round + t) hr hs (by rw [HR0.out]; omega) n.W (P1.below n.h).clk).mono ?_⟩
    rintro e w' ⟨rfl, m, rfl⟩
    exact ⟨rfl, below_drewN n.W m⟩
  obtain ⟨H1, H2⟩ := HSTEP
  have HRD := hid_ H1
  have HRL := hid_ H2
  have dc := fun n : Aft w1 => (P1.below n.h).cfg
  rw [HR0.out] at HRD HRL
  rw [HX0.out] at HRL
  have q1 : wrap64 (r0 + t) = r0 + t := by unfold wrap64; omega
  have q2 : IntKind.i64.wrap (r0 + t) = r0 + t := IntWalk.i64_in _ (by omega)
  clear H1 H2 V1 HT hr hs
  cases ho : midE L f with
  | some n =>
    rw [ho] at HNV HEV
    clear ho
    rw [show errN (some n) = .iface 63 (.int .i64 n) from rfl]
    go_wp2
    go_ret2
    exact ⟨by rw [← HNV.out, ← HEV.out]; rfl, HV1.out⟩
  | none =>
    rw [ho] at HNV HEV
    clear ho
    rw [show errN none = .nilIface from rfl]
    go_wp2_with fail
    refine wp_region_aft (by kernel_rfl) (by kernel_rfl) ?_
    repeat (go_big_quiet_step (first | exact Aft.calls _ (HRD.out _) | exact Aft.calls _ (HRL.out _)))
    refine wpQuiet_nil ?_
    rintro _ ⟨m, rfl⟩
    have HE := hid_ (below_then HV1.out m.h)
    clear dc P1
    go_wp2
    go_ret2
    exact ⟨by rw [← HNV.out, ← HEV.out]; rfl, HE.out⟩

end Go.Proofs.Ytnmhfdkmiblknaa
