/- PaceLies' plain law; chapter 11's fixed facts. No condition. -/
import Derived.Test.YtnmhfdkmiblknaaPace2
import Derived.Test.YtnmhfdkmiblknaaPace4
import Derived.Test.YtnmhfdkmiblknaaPaceN
import Derived.Test.YtnmhfdkmiblknaaGuardC
import Derived.Test.YtnmhfdkmiblknaaRef6S
set_option linter.unusedSimpArgs false
set_option linter.unusedVariables false
namespace Go.Proofs.Ytnmhfdkmiblknaa
open Go.RowKit Go.Maps

def outB (lo hi : Int) (x : Int) : Bool := decide (x < lo) || decide (hi < x)
theorem mid_count (l : List Int) (f : Nat) (lo hi : Int) (hf : 2 * f < l.length) (hc : l.countP (outB lo hi) ≤ f) : lo ≤ midz l f ∧ midz l f ≤ hi := by
  have h1 : l.countP (fun y => decide (y < lo)) ≤ f := Nat.le_trans (List.countP_mono_left (fun x _ h => by unfold outB; simp at h ⊢; exact .inl h)) hc
  have h2 : l.countP (fun y => decide (hi < y)) ≤ f := Nat.le_trans (List.countP_mono_left (fun x _ h => by unfold outB; simp at h ⊢; exact .inr h)) hc
  have h3 := srt_lt l lo (k := f) (by omega)
  have h4 := srt_le l hi (k := l.length - 1 - f) (by omega)
  have h5 := countP_not_le l hi
  have h6 := srt_mono l (i := f) (j := l.length - 1 - f) (by omega) (by omega)
  have h7 : lo ≤ (srt l).getD f 0 := by
    rcases Int.lt_or_le ((srt l).getD f 0) lo with h | h
    · have := h3.1 h; omega
    · exact h
  have h8 : (srt l).getD (l.length - 1 - f) 0 ≤ hi := h4.2 (by omega)
  unfold midz
  omega
theorem count_wide (l : List Int) (lo hi lo' hi' : Int) (h1 : lo' ≤ lo) (h2 : hi ≤ hi') : l.countP (outB lo' hi') ≤ l.countP (outB lo hi) :=
  List.countP_mono_left (fun x _ h => by unfold outB at *; simp at h ⊢; omega)
theorem count_set_in (l : List Int) (lo hi : Int) (i : Nat) (x : Int) (hx : lo ≤ x ∧ x ≤ hi) : (l.set i x).countP (outB lo hi) ≤ l.countP (outB lo hi) := by
  by_cases hi' : i < l.length
  · rw [List.countP_set hi']
    have : outB lo hi x = false := by unfold outB; simp; omega
    rw [this]
    simp
  · rw [List.set_eq_of_length_le (by omega)]
    exact Nat.le_refl _
theorem count_set_any (l : List Int) (lo hi : Int) (i : Nat) (x : Int) : (l.set i x).countP (outB lo hi) ≤ l.countP (outB lo hi) + 1 := by
  by_cases hi' : i < l.length
  · rw [List.countP_set hi']
    split <;> split <;> omega
  · rw [List.set_eq_of_length_le (by omega)]
    omega
theorem rclk_rng (since rate lo : Int) (hr : -200 ≤ rate ∧ rate ≤ 200) (hx : -1000000000 ≤ lo ∧ lo ≤ 1000000000) : -2000000000 ≤ rclk since rate lo - since ∧ rclk since rate lo - since ≤ 2000000000 := by
  unfold rclk
  obtain ⟨q, hq⟩ : ∃ q, -lo * 1000000 / (1000000 + rate) = q := ⟨_, rfl⟩
  have h1 := Int.mul_ediv_add_emod (-lo * 1000000) (1000000 + rate)
  have h2 := Int.emod_nonneg (-lo * 1000000) (show 1000000 + rate ≠ 0 by omega)
  have h3 := Int.emod_lt_of_pos (-lo * 1000000) (show 0 < 1000000 + rate by omega)
  rw [hq] at h1 ⊢
  have q0 : -2000000000 ≤ q := by
    rcases Int.lt_or_le q (-2000000000) with h | h
    · have := Int.mul_le_mul (a := 999800) (b := -q) (c := 1000000 + rate) (d := -q) (by omega) (by omega) (by omega) (by omega)
      simp only [Int.mul_neg] at this
      omega
    · exact h
  have q1 : q ≤ 2000000000 := by
    rcases Int.lt_or_le 2000000000 q with h | h
    · have := Int.mul_le_mul (a := 999800) (b := q) (c := 1000000 + rate) (d := q) (by omega) (by omega) (by omega) (by omega)
      omega
    · exact h
  omega

def oneC : Cfg := ⟨1, 0, 1000, 500, 0, 0, 0, 98, [], [], []⟩
theorem one_snd : sndE oneC = none := by decide +kernel
theorem one_good : Good oneC := sndE_good one_snd
theorem one_ok : oneC.ok := by
  refine ⟨?_, ?_, ?_, ?_, ?_, ?_, ?_, ?_, ?_, ?_, ?_⟩ <;> first
    | (unfold I64 oneC; simp)
    | (intro p hp; cases hp)
theorem mid_zero : midV [0] 0 = 0 ∧ midE [0] 0 = none := by
  have hn : ¬ CutNo [0] ((0 : Nat) : Int) := by unfold CutNo; simp
  have hs : srt [0] = [0] := List.perm_singleton.1 (srt_perm [0])
  unfold midV midE
  rw [if_neg hn, if_neg hn]
  refine ⟨?_, rfl⟩
  unfold midz
  rw [hs]
  rfl
set_option maxRecDepth 100000 in
theorem law6One (w : World) : Calls Try.prog 29 #[] w fun e w' => e = .returned (oneC.v (.slice none 0 0) (.slice none 0 0) (.slice none 0 0)) ∧ Below w.heap.size w w' := by
  have hb := fun o => (Below.refl w.heap.size w).alloc (Nat.le_refl _) o
  go_enter Try.func29, Try.ntmps29
  go_wp2
  have dc := (Bk.new w 26 (oneC.cells (.slice none 0 0) (.slice none 0 0) (.slice none 0 0))).cfg0
  refine bodyPost_ret (v := oneC.v (.slice none 0 0) (.slice none 0 0) (.slice none 0 0)) ((results_cell1 rfl _ _ _).trans ?_) rfl ⟨rfl, hb _⟩
  unfold oneC Cfg.cells at dc
  unfold oneC Cfg.v
  go_simp

set_option maxRecDepth 100000 in
set_option maxHeartbeats 2000000 in
theorem awake11 (w : World) : Calls Try.prog 6 #[] w fun e w' => e = .returned (.bool true) ∧ Below w.heap.size w w' := by
  go_enter Try.func6, Try.ntmps6
  go_wp2_with fail
  refine (law6One w).mono ?_
  rintro e w1 ⟨rfl, V1⟩
  go_wp2_with fail
  refine (paceNew (fun _ => 0) 600 oneC one_ok (.slice none 0 0) (.slice none 0 0) (.slice none 0 0) 0 false 700 0 1 one_snd one_good rfl ⟨by omega, by show ¬ (1 : Int) ≤ 0; omega⟩ (by unfold clkBad; omega) w1 ⟨rd_nil _ _ _, rd_nil _ _ _, rd_nil _ _ _⟩ (fun _ _ => rfl)).mono ?_
  rintro e w2 ⟨pb, kb, db, hb, C2, rfl, F2, P2⟩
  have P2 : IsPace w2 C2 600 pb kb db hb oneC (.slice none 0 0) (.slice none 0 0) (.slice none 0 0) 0 false 700 0 [0] [false] := P2
  have HV2 := hid_ (below_then V1 (F2.below (fun _ _ h => h)))
  have hz : ∀ x ∈ [(0 : Int)], Z64 x := fun x hx => by simp at hx; subst hx; unfold Z64; omega
  have HN := hid_ (paceNext C2 600 pb kb db hb (by decide) oneC _ _ _ 0 false 700 0 [0] [false] 0 one_good.rg ⟨by omega, by omega⟩ ⟨by omega, by omega⟩ rfl hz (by rw [show turnL false 0 [0] [false] = [0] from rfl, mid_zero.1]; omega) w2 P2)
  have hnv : nextV oneC 700 0 (turnL false 0 [0] [false]) 0 = 2200 := by
    rw [show turnL false 0 [0] [false] = [0] from rfl]
    unfold nextV
    rw [if_pos mid_zero.2, mid_zero.1]
    decide
  have hev : errN (midE (turnL false 0 [0] [false]) 0) = .nilIface := by
    rw [show turnL false 0 [0] [false] = [0] from rfl, mid_zero.2]
    rfl
  rw [hnv, hev] at HN
  have HP2 := hid_ P2
  clear hnv hev hz P2 F2 V1
  go_wp2_with fail
  refine HN.out.mono ?_
  rintro e w3 ⟨rfl, V3⟩
  have HR := hid_ (paceReal C2 600 pb kb db hb oneC _ _ _ 0 false 700 0 [0] [false] 5 ⟨by omega, by omega⟩ ⟨by omega, by omega⟩ ⟨by omega, by omega⟩ w3 (HP2.out.below V3))
  rw [show rclk 700 0 5 = 705 by decide] at HR
  have HV3 := hid_ (below_then HV2.out V3)
  clear V3
  go_wp2_with fail
  refine HR.out.mono ?_
  rintro e w4 ⟨rfl, V4⟩
  have HE := hid_ (below_then HV3.out V4)
  clear V4
  go_wp2
  go_ret
  exact ⟨rfl, HE.out⟩
end Go.Proofs.Ytnmhfdkmiblknaa
