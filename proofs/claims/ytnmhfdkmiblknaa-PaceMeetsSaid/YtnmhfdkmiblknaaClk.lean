/- Package clock, and the document's clock: what a clock shows, and when. No condition but moderate numbers. -/
import Derived.Test.YtnmhfdkmiblknaaBase
import Derived.Test.YtnmhfdkmiblknaaProg
set_option linter.unusedSimpArgs false
set_option linter.unusedVariables false
namespace Go.Proofs.Ytnmhfdkmiblknaa
open Go.RowKit Go.Maps

theorem tdiv_floor (a b : Int) (hb : 0 < b) : a.tdiv b - (if a.tmod b ≠ 0 ∧ a < 0 then 1 else 0) = a / b := by
  by_cases ha : 0 ≤ a
  · rw [if_neg (by omega), Int.tdiv_eq_ediv_of_nonneg ha]; omega
  · obtain ⟨m, rfl⟩ : ∃ m, a = -m := ⟨-a, by omega⟩
    have hm : 0 ≤ m := by omega
    rw [Int.neg_tdiv, Int.neg_tmod, Int.tdiv_eq_ediv_of_nonneg hm, Int.tmod_eq_emod_of_nonneg hm]
    have h1 := Int.mul_ediv_add_emod m b
    have h2 := Int.emod_nonneg m (show b ≠ 0 by omega)
    have h3 := Int.emod_lt_of_pos m hb
    obtain ⟨q, hq⟩ : ∃ q, m / b = q := ⟨_, rfl⟩
    obtain ⟨r, hr⟩ : ∃ r, m % b = r := ⟨_, rfl⟩
    rw [hq, hr] at h1
    rw [hr] at h2 h3
    rw [hq, hr]
    by_cases h0 : r = 0
    · rw [if_neg (by omega)]
      have := (Int.ediv_emod_unique (a := -m) (r := 0) (q := -q) hb).2 ⟨by rw [Int.mul_neg]; omega, by omega, hb⟩
      omega
    · rw [if_pos (by omega)]
      have := (Int.ediv_emod_unique (a := -m) (r := b - r) (q := -q - 1) hb).2 ⟨by rw [Int.mul_sub, Int.mul_neg]; omega, by omega, by omega⟩
      omega
theorem tdiv_small (a b : Int) (hb : 0 < b) (h0 : -4611686018427387904 ≤ a) (h1 : a ≤ 4611686018427387904) : -4611686018427387904 ≤ a.tdiv b ∧ a.tdiv b ≤ 4611686018427387904 := by
  have h := Int.natAbs_tdiv_le_natAbs a b
  omega
theorem tmod_small (a b : Int) (hb : 0 < b) (h9 : b ≤ 4611686018427387904) : -4611686018427387904 ≤ a.tmod b ∧ a.tmod b ≤ 4611686018427387904 := by
  have h1 := Int.tmod_lt_of_pos a hb
  have h2 := Int.lt_tmod_of_pos a hb
  omega

set_option maxRecDepth 100000 in
theorem clkFloor (a b : Int) (hb : 0 < b) (hb9 : b ≤ 4611686018427387904) (h0 : -4611686018427387904 ≤ a) (h1 : a ≤ 4611686018427387904) (w : World) :
    Calls Try.prog 51 #[.int .i64 a, .int .i64 b] w fun e w' => e = .returned (.int .i64 (a / b)) ∧ w' = w := by
  have hf := tdiv_floor a b hb
  obtain ⟨d0, d1⟩ := tdiv_small a b hb h0 h1
  obtain ⟨m0, m1⟩ := tmod_small a b hb hb9
  have hz : (b == 0) = false := by simp; omega
  have hz2 : b ≠ 0 := by omega
  have e1 : wrap64 (a.tdiv b) = a.tdiv b := by unfold wrap64; omega
  have e2 : wrap64 (a.tmod b) = a.tmod b := by unfold wrap64; omega
  have e3 : IntKind.i64.wrap (a.tdiv b) = a.tdiv b := IntWalk.i64_in _ (by omega)
  have e4 : IntKind.i64.wrap (a.tmod b) = a.tmod b := IntWalk.i64_in _ (by omega)
  obtain ⟨q, hq⟩ : ∃ q, a.tdiv b = q := ⟨_, rfl⟩
  obtain ⟨r, hr⟩ : ∃ r, a.tmod b = r := ⟨_, rfl⟩
  obtain ⟨v, hv⟩ : ∃ v, a / b = v := ⟨_, rfl⟩
  rw [hq, hr, hv] at hf
  rw [hq] at d0 d1
  have HV := hid_ hv
  rw [hv]
  clear hv
  by_cases hr0 : r = 0
  · rw [if_neg (by omega)] at hf
    have HF := hid_ hf
    have hb1 : (r != 0) = false := by simpa using hr0
    clear hf
    go_enter Try.func51, Try.ntmps51
    go_wp2
    go_ret
    exact ⟨by rw [← HF.out]; simp, rfl⟩
  · have hb1 : (r != 0) = true := by simpa using hr0
    by_cases ha : a < 0
    · rw [if_pos ⟨hr0, ha⟩] at hf
      have HF := hid_ hf
      clear hf
      go_enter Try.func51, Try.ntmps51
      go_wp2
      go_ret
      exact ⟨by rw [← HF.out]; rfl, rfl⟩
    · rw [if_neg (by omega)] at hf
      have HF := hid_ hf
      clear hf
      go_enter Try.func51, Try.ntmps51
      go_wp2
      go_ret
      exact ⟨by rw [← HF.out]; simp, rfl⟩

/-- What a clock shows; when it shows so much. -/
def lclk (since rate real : Int) : Int := (real - since) * (1000000 + rate) / 1000000
def rclk (since rate lo : Int) : Int := since - (-lo * 1000000) / (1000000 + rate)

theorem mul_rate (x rate : Int) (hr : -200 ≤ rate ∧ rate ≤ 200) (hx : -1000000000000 ≤ x ∧ x ≤ 1000000000000) : -1000200000000000000 ≤ x * (1000000 + rate) ∧ x * (1000000 + rate) ≤ 1000200000000000000 := by
  rcases (by omega : 0 ≤ x ∨ x < 0) with h | h
  · have h1 := Int.mul_le_mul (a := x) (b := 1000000 + rate) (c := 1000000000000) (d := 1000200) (by omega) (by omega) (by omega) (by omega)
    have h2 := Int.mul_nonneg (a := x) (b := 1000000 + rate) h (by omega)
    omega
  · obtain ⟨y, rfl⟩ : ∃ y, x = -y := ⟨-x, by omega⟩
    have h1 := Int.mul_le_mul (a := y) (b := 1000000 + rate) (c := 1000000000000) (d := 1000200) (by omega) (by omega) (by omega) (by omega)
    have h2 := Int.mul_nonneg (a := y) (b := 1000000 + rate) (by omega) (by omega)
    rw [Int.neg_mul]
    omega

def clkBad (since rate : Int) : Prop := since < 0 ∨ 1125899906842624 < since ∨ rate < -200 ∨ 200 < rate
set_option maxRecDepth 100000 in
theorem clkNew_bad (since rate : Int) (hb : clkBad since rate) (w : World) :
    Calls Try.prog 32 #[.int .i64 since, .int .i64 rate] w fun e w' => e = .returned (.tuple #[.pointer none, .iface 63 (.int .i64 2)]) ∧ w' = w := by
  unfold clkBad at hb
  rcases (by omega : since < 0 ∨ (¬ since < 0 ∧ 1125899906842624 < since) ∨ (¬ since < 0 ∧ ¬ 1125899906842624 < since ∧ rate < -200) ∨ (¬ since < 0 ∧ ¬ 1125899906842624 < since ∧ ¬ rate < -200 ∧ 200 < rate)) with h1 | ⟨h1, h2⟩ | ⟨h1, h2, h3⟩ | ⟨h1, h2, h3, h4⟩
  all_goals
    clear hb
    go_enter Try.func32, Try.ntmps32
    go_wp2
    go_ret2
    exact ⟨rfl, rfl⟩
set_option maxRecDepth 100000 in
theorem clkNew_ok (since rate : Int) (hb : ¬ clkBad since rate) (w : World) :
    Calls Try.prog 32 #[.int .i64 since, .int .i64 rate] w fun e w' => e = .returned (.tuple #[.pointer (some ⟨w.heap.size, 0, none⟩), .nilIface]) ∧ w' = w.alloc (.cells #[.int .i64 since, .int .i64 rate] 90) := by
  unfold clkBad at hb
  obtain ⟨h1, h2, h3, h4⟩ : ¬ since < 0 ∧ ¬ 1125899906842624 < since ∧ ¬ rate < -200 ∧ ¬ 200 < rate := by omega
  clear hb
  go_enter Try.func32, Try.ntmps32
  go_wp2
  go_ret2
  exact ⟨rfl, rfl⟩

set_option maxRecDepth 100000 in
theorem clkLocal (kb : Nat) (since rate real : Int) (hr : -200 ≤ rate ∧ rate ≤ 200) (hx : -1000000000000 ≤ real - since ∧ real - since ≤ 1000000000000) (w : World) (h : Bk w kb 90 [.int .i64 since, .int .i64 rate]) :
    Calls Try.prog 33 #[.pointer (some ⟨kb, 0, none⟩), .int .i64 real] w fun e w' => e = .returned (.int .i64 (lclk since rate real)) ∧ ∃ n, w' = w.drewN n := by
  have c0 := h.cell_ 0 rfl
  have c1 := h.cell_ 1 rfl
  obtain ⟨p0, p1⟩ := mul_rate _ rate hr hx
  obtain ⟨x0, x1⟩ := hx
  obtain ⟨r0, r1⟩ := hr
  unfold lclk
  have HFL := hid_ (fun W => clkFloor ((real - since) * (1000000 + rate)) 1000000 (by omega) (by omega) (by omega) (by omega) W)
  have w1 : wrap64 (real - since) = real - since := by unfold wrap64; omega
  have w2 : wrap64 (1000000 + rate) = 1000000 + rate := by unfold wrap64; omega
  have w3 : wrap64 ((real - since) * (1000000 + rate)) = (real - since) * (1000000 + rate) := by unfold wrap64; omega
  have v1 : IntKind.i64.wrap (real - since) = real - since := IntWalk.i64_in _ (by omega)
  have v2 : IntKind.i64.wrap (1000000 + rate) = 1000000 + rate := IntWalk.i64_in _ (by omega)
  have v3 : IntKind.i64.wrap ((real - since) * (1000000 + rate)) = (real - since) * (1000000 + rate) := IntWalk.i64_in _ (by omega)
  go_enter Try.func33, Try.ntmps33
  go_wp2_with fail
  go_quiet (first | (go_at_call 51; refine Calls.quiet_of_same (HFL.out _)))
  go_wp2
  go_ret
  exact ⟨rfl, _, rfl⟩
set_option maxRecDepth 100000 in
theorem clkReal (kb : Nat) (since rate lo : Int) (hr : -200 ≤ rate ∧ rate ≤ 200) (hs : 0 ≤ since ∧ since ≤ 1125899906842624) (hx : -1000000000000 ≤ lo ∧ lo ≤ 1000000000000) (w : World) (h : Bk w kb 90 [.int .i64 since, .int .i64 rate]) :
    Calls Try.prog 36 #[.pointer (some ⟨kb, 0, none⟩), .int .i64 lo] w fun e w' => e = .returned (.int .i64 (rclk since rate lo)) ∧ ∃ n, w' = w.drewN n := by
  have c0 := h.cell_ 0 rfl
  have c1 := h.cell_ 1 rfl
  obtain ⟨x0, x1⟩ := hx
  obtain ⟨r0, r1⟩ := hr
  obtain ⟨s0, s1⟩ := hs
  unfold rclk
  have HFL := hid_ (fun W => clkFloor (-lo * 1000000) (1000000 + rate) (by omega) (by omega) (by omega) (by omega) W)
  obtain ⟨q, hq⟩ : ∃ q, -lo * 1000000 / (1000000 + rate) = q := ⟨_, rfl⟩
  have hqr : -2000000000000 ≤ q ∧ q ≤ 2000000000000 := by
    have h1 := Int.mul_ediv_add_emod (-lo * 1000000) (1000000 + rate)
    have h2 := Int.emod_nonneg (-lo * 1000000) (show 1000000 + rate ≠ 0 by omega)
    have h3 := Int.emod_lt_of_pos (-lo * 1000000) (show 0 < 1000000 + rate by omega)
    rw [hq] at h1
    constructor
    · rcases Int.lt_or_le q (-2000000000000) with h | h
      · have := Int.mul_le_mul (a := 999800) (b := -q) (c := 1000000 + rate) (d := -q) (by omega) (by omega) (by omega) (by omega)
        simp only [Int.mul_neg] at this
        omega
      · exact h
    · rcases Int.lt_or_le 2000000000000 q with h | h
      · have := Int.mul_le_mul (a := 999800) (b := q) (c := 1000000 + rate) (d := q) (by omega) (by omega) (by omega) (by omega)
        omega
      · exact h
  rw [hq] at HFL ⊢
  obtain ⟨q0, q1⟩ := hqr
  have w0 : wrap64 (-lo) = -lo := by unfold wrap64; omega
  have w1 : wrap64 (-lo * 1000000) = -lo * 1000000 := by unfold wrap64; omega
  have w2 : wrap64 (1000000 + rate) = 1000000 + rate := by unfold wrap64; omega
  have w3 : wrap64 (since - q) = since - q := by unfold wrap64; omega
  have v0 : IntKind.i64.wrap (-lo) = -lo := IntWalk.i64_in _ (by omega)
  have v1 : IntKind.i64.wrap (-lo * 1000000) = -lo * 1000000 := IntWalk.i64_in _ (by omega)
  have v2 : IntKind.i64.wrap (1000000 + rate) = 1000000 + rate := IntWalk.i64_in _ (by omega)
  have v3 : IntKind.i64.wrap (since - q) = since - q := IntWalk.i64_in _ (by omega)
  clear hq
  go_enter Try.func36, Try.ntmps36
  go_wp2_with fail
  go_quiet (first | (go_at_call 51; refine Calls.quiet_of_same (HFL.out _)))
  go_wp2
  go_ret
  exact ⟨rfl, _, rfl⟩
/-- The document's clock. -/
theorem down_floor (a b : Int) (hb : 0 < b) : (a - (if a.tmod b < 0 then a.tmod b + b else a.tmod b)).tdiv b = a / b := by
  have h1 := Int.mul_tdiv_add_tmod a b
  have h2 := tdiv_floor a b hb
  have h3 := Int.tmod_lt_of_pos a hb
  have h4 := Int.lt_tmod_of_pos a hb
  obtain ⟨q, hq⟩ : ∃ q, a.tdiv b = q := ⟨_, rfl⟩
  obtain ⟨r, hr⟩ : ∃ r, a.tmod b = r := ⟨_, rfl⟩
  rw [hq, hr] at h1 h2
  rw [hr] at h3 h4 ⊢
  have key : ∀ z, (b * z).tdiv b = z := fun z => by rw [Int.mul_comm]; exact Int.mul_tdiv_cancel z (by omega)
  by_cases h : r < 0
  · rw [if_pos h]
    have ha : a < 0 := by
      rcases Int.lt_or_le a 0 with h5 | h5
      · exact h5
      · have := Int.tmod_nonneg b h5
        omega
    rw [if_pos ⟨by omega, ha⟩] at h2
    rw [show a - (r + b) = b * (q - 1) by rw [Int.mul_sub]; omega, key, h2]
  · rw [if_neg h]
    have h6 : ¬ (r ≠ 0 ∧ a < 0) := by
      rintro ⟨h7, h8⟩
      have : r ≤ 0 := by
        rw [← hr]
        obtain ⟨m, rfl⟩ : ∃ m, a = -m := ⟨-a, by omega⟩
        rw [Int.neg_tmod]
        have := Int.tmod_nonneg b (show 0 ≤ m by omega)
        omega
      omega
    rw [if_neg h6] at h2
    rw [show a - r = b * q by omega, key]
    omega
end Go.Proofs.Ytnmhfdkmiblknaa
