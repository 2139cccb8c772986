/- escapementref07's clock. No condition but moderate numbers. -/
import Derived.Test.YtnmhfdkmiblknaaClk
import Derived.BigQuiet
import Derived.Deep.QuietTactic
set_option linter.unusedSimpArgs false
set_option linter.unusedVariables false
namespace Go.Proofs.Ytnmhfdkmiblknaa
open Go.RowKit Go.Maps

set_option maxRecDepth 100000 in
theorem rDown (a b : Int) (hb : 0 < b) (hb9 : b ≤ 1000000000000) (h0 : -2305843009213693952 ≤ a) (h1 : a ≤ 2305843009213693952) (w : World) :
    Calls Try.prog 42 #[.int .i64 a, .int .i64 b] w fun e w' => e = .returned (.int .i64 (a / b)) ∧ w' = w := by
  have hf := down_floor a b hb
  obtain ⟨m0, m1⟩ : -b < a.tmod b ∧ a.tmod b < b := ⟨Int.lt_tmod_of_pos a hb, Int.tmod_lt_of_pos a hb⟩
  have hz : (b == 0) = false := by simp; omega
  have hz2 : b ≠ 0 := by omega
  obtain ⟨r, hr⟩ : ∃ r, a.tmod b = r := ⟨_, rfl⟩
  obtain ⟨v, hv⟩ : ∃ v, a / b = v := ⟨_, rfl⟩
  rw [hr] at m0 m1
  rw [hr, hv] at hf
  have HV := hid_ hv
  rw [hv]
  clear hv
  have e2 : wrap64 r = r := by unfold wrap64; omega
  have e4 : IntKind.i64.wrap r = r := IntWalk.i64_in _ (by omega)
  by_cases hn : r < 0
  · rw [if_pos hn] at hf
    obtain ⟨d0, d1⟩ := tdiv_small (a - (r + b)) b hb (by omega) (by omega)
    rw [hf] at d0 d1
    have e5 : wrap64 (r + b) = r + b := by unfold wrap64; omega
    have e6 : IntKind.i64.wrap (r + b) = r + b := IntWalk.i64_in _ (by omega)
    have e7 : wrap64 (a - (r + b)) = a - (r + b) := by unfold wrap64; omega
    have e8 : IntKind.i64.wrap (a - (r + b)) = a - (r + b) := IntWalk.i64_in _ (by omega)
    have e9 : wrap64 v = v := by unfold wrap64; omega
    have e10 : IntKind.i64.wrap v = v := IntWalk.i64_in _ (by omega)
    go_enter Try.func42, Try.ntmps42
    go_wp2
    go_ret
    exact ⟨rfl, rfl⟩
  · rw [if_neg hn] at hf
    obtain ⟨d0, d1⟩ := tdiv_small (a - r) b hb (by omega) (by omega)
    rw [hf] at d0 d1
    have e7 : wrap64 (a - r) = a - r := by unfold wrap64; omega
    have e8 : IntKind.i64.wrap (a - r) = a - r := IntWalk.i64_in _ (by omega)
    have e9 : wrap64 v = v := by unfold wrap64; omega
    have e10 : IntKind.i64.wrap v = v := IntWalk.i64_in _ (by omega)
    go_enter Try.func42, Try.ntmps42
    go_wp2
    go_ret
    exact ⟨rfl, rfl⟩

set_option maxRecDepth 100000 in
theorem rLocal (since rate real : Int) (hr : -200 ≤ rate ∧ rate ≤ 200) (hx : -1000000000000 ≤ real - since ∧ real - since ≤ 1000000000000) (w : World) :
    Calls Try.prog 25 #[.int .i64 since, .int .i64 rate, .int .i64 real] w fun e w' => e = .returned (.int .i64 (lclk since rate real)) ∧ w' = w := by
  obtain ⟨p0, p1⟩ := mul_rate _ rate hr hx
  obtain ⟨x0, x1⟩ := hx
  obtain ⟨r0, r1⟩ := hr
  unfold lclk
  have HFL := hid_ (fun W => rDown ((real - since) * (1000000 + rate)) 1000000 (by omega) (by omega) (by omega) (by omega) W)
  have w1 : wrap64 (real - since) = real - since := by unfold wrap64; omega
  have w2 : wrap64 (1000000 + rate) = 1000000 + rate := by unfold wrap64; omega
  have w3 : wrap64 ((real - since) * (1000000 + rate)) = (real - since) * (1000000 + rate) := by unfold wrap64; omega
  have v1 : IntKind.i64.wrap (real - since) = real - since := IntWalk.i64_in _ (by omega)
  have v2 : IntKind.i64.wrap (1000000 + rate) = 1000000 + rate := IntWalk.i64_in _ (by omega)
  have v3 : IntKind.i64.wrap ((real - since) * (1000000 + rate)) = (real - since) * (1000000 + rate) := IntWalk.i64_in _ (by omega)
  go_enter Try.func25, Try.ntmps25
  go_wp2_with fail
  refine (HFL.out _).mono ?_
  rintro e w' ⟨rfl, rfl⟩
  go_wp2
  go_ret
  exact ⟨rfl, rfl⟩
set_option maxRecDepth 100000 in
theorem rReal (since rate lo : Int) (hr : -200 ≤ rate ∧ rate ≤ 200) (hs : 0 ≤ since ∧ since ≤ 1125899906842624) (hx : -1000000000000 ≤ lo ∧ lo ≤ 1000000000000) (w : World) :
    Calls Try.prog 44 #[.int .i64 since, .int .i64 rate, .int .i64 lo] w fun e w' => e = .returned (.int .i64 (rclk since rate lo)) ∧ w' = w := by
  obtain ⟨x0, x1⟩ := hx
  obtain ⟨r0, r1⟩ := hr
  obtain ⟨s0, s1⟩ := hs
  unfold rclk
  have hneg : -(lo * 1000000) = -lo * 1000000 := by omega
  have HFL := hid_ (fun W => rDown (-lo * 1000000) (1000000 + rate) (by omega) (by omega) (by omega) (by omega) W)
  obtain ⟨q, hq⟩ : ∃ q, -lo * 1000000 / (1000000 + rate) = q := ⟨_, rfl⟩
  have hqr : -2000000000000 ≤ q ∧ q ≤ 2000000000000 := by
    have h1 := Int.mul_ediv_add_emod (-lo * 1000000) (1000000 + rate)
    have h2 := Int.emod_nonneg (-lo * 1000000) (show 1000000 + rate ≠ 0 by omega)
    have h3 := Int.emod_lt_of_pos (-lo * 1000000) (show 0 < 1000000 + rate by omega)
    rw [hq] at h1
    constructor
    · rcases Int.lt_or_le q (-2000000000000) with h | h
      · have := Int.mul_le_mul (a := 999800) (b := -q) (c := 1000000 + rate) (d := -q) (by omega) (by omega) (by omega) (by omega)
        simp only [Int.mul_neg] at this
        omega
      · exact h
    · rcases Int.lt_or_le 2000000000000 q with h | h
      · have := Int.mul_le_mul (a := 999800) (b := q) (c := 1000000 + rate) (d := q) (by omega) (by omega) (by omega) (by omega)
        omega
      · exact h
  rw [hq] at HFL ⊢
  rw [← hneg] at HFL
  obtain ⟨q0, q1⟩ := hqr
  have w1 : wrap64 (lo * 1000000) = lo * 1000000 := by unfold wrap64; omega
  have w0 : wrap64 (-(lo * 1000000)) = -(lo * 1000000) := by unfold wrap64; omega
  have w2 : wrap64 (1000000 + rate) = 1000000 + rate := by unfold wrap64; omega
  have w3 : wrap64 (since - q) = since - q := by unfold wrap64; omega
  have v0 : IntKind.i64.wrap (-(lo * 1000000)) = -(lo * 1000000) := IntWalk.i64_in _ (by omega)
  have v1 : IntKind.i64.wrap (lo * 1000000) = lo * 1000000 := IntWalk.i64_in _ (by omega)
  have v2 : IntKind.i64.wrap (1000000 + rate) = 1000000 + rate := IntWalk.i64_in _ (by omega)
  have v3 : IntKind.i64.wrap (since - q) = since - q := IntWalk.i64_in _ (by omega)
  clear hq hneg
  go_enter Try.func44, Try.ntmps44
  go_wp2_with fail
  refine (HFL.out _).mono ?_
  rintro e w' ⟨rfl, rfl⟩
  go_wp2
  go_ret
  exact ⟨rfl, rfl⟩
end Go.Proofs.Ytnmhfdkmiblknaa
