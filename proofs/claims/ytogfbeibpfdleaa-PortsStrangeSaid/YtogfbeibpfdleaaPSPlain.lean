/- Chapter 13's PortsStrange: what its calls do, in plain lists. No condition. -/
import Derived.Test.YtogfbeibpfdleaaPUse
import Derived.Test.YtogfbeibpfdleaaPDeliver
set_option linter.unusedSimpArgs false
set_option linter.unusedVariables false
namespace Go.Proofs.Ytogfbeibpfdleaa
open Go.RowKit Go.Maps

/-- The law's own count: whether the queue is full, and how many came. -/
def strC (src : Int) (ms : List Msg) : Nat → Bool × Nat
  | 0 => (false, 0)
  | n + 1 =>
    if src ≠ 0 then strC src ms n
    else if (ms.getD n default).port = 0 ∧ (ms.getD n default).d.length ≤ 1 ∧ (strC src ms n).1 = false then (true, (strC src ms n).2 + 1)
    else if (ms.getD n default).port = 2 ∧ (ms.getD n default).d.length ≤ 4 then ((strC src ms n).1, (strC src ms n).2 + 1) else strC src ms n
theorem strC_le (src : Int) (ms : List Msg) : ∀ n, (strC src ms n).2 ≤ n
  | 0 => Nat.le_refl _
  | n + 1 => by
    have := strC_le src ms n
    unfold strC
    split
    · omega
    · split
      · simp only; omega
      · split
        · simp only; omega
        · omega
theorem msgW (src : Int) (m : Msg) : msgB wiredC src m = decide (src = 0 ∧ (m.port = 0 ∧ m.d.length ≤ 1 ∨ m.port = 2 ∧ m.d.length ≤ 4)) := by
  obtain ⟨p, d⟩ := m
  rw [Bool.eq_iff_iff]
  by_cases h : 0 ≤ p ∧ p < 4
  · rcases (by omega : p = 0 ∨ p = 1 ∨ p = 2 ∨ p = 3) with rfl | rfl | rfl | rfl
    all_goals
      simp [msgB, wiredC, Cfg.port, Cfg.part]
      try omega
  · have h1 : ¬ (p = 0 ∧ d.length ≤ 1 ∨ p = 2 ∧ d.length ≤ 4) := by omega
    have h2 : msgB wiredC src ⟨p, d⟩ = false := by
      unfold msgB
      simp only [show wiredC.ports.length = 4 from rfl]
      by_cases h0 : 0 ≤ p
      · have h3 : ¬ (p < ((4 : Nat) : Int)) := by omega
        simp [h3]
        intro _ h4
        omega
      · simp [h0]
    rw [h2]
    simp [h1]
theorem viaW0 (st : List PSt) (hl : st.length = 4) (d : List UInt8) : viaR wiredC 1 st 0 d 2 = if (st.getD 1 default).q = [] then (st.set 1 { st.getD 1 default with q := [d] }, 1) else (st, 0) := by
  have r0 : wiredC.route 0 = ⟨0, 1⟩ := rfl
  have r1 : wiredC.route 1 = ⟨2, 3⟩ := rfl
  have m1 : mineB wiredC 1 1 = true := rfl
  have hp : putB wiredC st 1 = decide ((st.getD 1 default).q = []) := by
    unfold putB
    rw [show (wiredC.port 1).kind = 2 from rfl, show (wiredC.port 1).depth = 1 from rfl]
    cases (st.getD 1 default).q with
    | nil => simp
    | cons a l => simp; omega
  by_cases h : (st.getD 1 default).q = []
  · have hp1 : putB wiredC st 1 = true := by rw [hp]; simpa using h
    have hs : putS wiredC st 1 d = st.set 1 { st.getD 1 default with q := [d] } := by
      unfold putS
      rw [if_pos hp1]
      unfold putIn
      rw [if_neg (show ¬ (wiredC.port 1).kind = 1 from (show ¬ ((2 : Int) = 1) by decide)), h]
      rfl
    rw [if_pos h]
    simp [viaR, r0, r1, m1, hs, hp1]
  · have hp1 : putB wiredC st 1 = false := by rw [hp]; simpa using h
    have hs : putS wiredC st 1 d = st := by
      unfold putS
      rw [if_neg (by rw [hp1]; simp)]
    rw [if_neg h]
    simp [viaR, r0, r1, m1, hs, hp1]
theorem viaW2 (st : List PSt) (d : List UInt8) : viaR wiredC 1 st 2 d 2 = (st.set 3 ⟨[d], 0⟩, 1) := by
  have r0 : wiredC.route 0 = ⟨0, 1⟩ := rfl
  have r1 : wiredC.route 1 = ⟨2, 3⟩ := rfl
  have m1 : mineB wiredC 1 3 = true := rfl
  have hp1 : putB wiredC st 3 = true := by
    unfold putB
    rw [show (wiredC.port 3).kind = 1 from rfl]
    simp
  have hs : putS wiredC st 3 d = st.set 3 ⟨[d], 0⟩ := by
    unfold putS
    rw [if_pos hp1]
    unfold putIn
    rw [if_pos (show (wiredC.port 3).kind = 1 from rfl)]
  simp [viaR, r0, r1, m1, hs, hp1]
theorem strange_count (src : Int) (ms : List Msg) : ∀ n, (delivR wiredC 1 src (st0 4) ms n).2 = (strC src ms n).2 ∧ (((delivR wiredC 1 src (st0 4) ms n).1.getD 1 default).q = [] ↔ (strC src ms n).1 = false)
  | 0 => by simp [delivR, strC, st0]
  | n + 1 => by
    obtain ⟨ih1, ih2⟩ := strange_count src ms n
    have hl := (delivR_len wiredC 1 src (st0 4) ms n).1
    rw [show (st0 4).length = 4 from rfl] at hl
    unfold delivR strC
    simp only [msgW, show wiredC.routes.length = 2 from rfl]
    generalize ms.getD n default = m
    generalize delivR wiredC 1 src (st0 4) ms n = s at *
    generalize strC src ms n = t at *
    by_cases h0 : src = 0
    · rw [if_neg (show ¬ src ≠ 0 from fun h => h h0)]
      by_cases hp : m.port = 0
      · by_cases hlen : m.d.length ≤ 1
        · rw [if_pos (by simp [h0, hp, hlen]), hp, show (0 : Int).toNat = 0 from rfl, viaW0 s.1 hl]
          by_cases hf : t.1 = false
          · rw [if_pos (ih2.2 hf), if_pos ⟨rfl, hlen, hf⟩]
            simp [hl, ih1]
          · rw [if_neg (fun h => hf (ih2.1 h)), if_neg (fun h => hf h.2.2), if_neg (by omega)]
            exact ⟨by rw [ih1]; rfl, ih2⟩
        · rw [if_neg (by simp [hp]; omega), if_neg (fun h => hlen h.2.1), if_neg (by omega)]
          exact ⟨ih1, ih2⟩
      · rw [if_neg (show ¬ (m.port = 0 ∧ m.d.length ≤ 1 ∧ t.1 = false) from fun h => hp h.1)]
        by_cases hq : m.port = 2 ∧ m.d.length ≤ 4
        · rw [if_pos (by simp [h0, hq.1, hq.2]), hq.1, show (2 : Int).toNat = 2 from rfl, viaW2, if_pos ⟨rfl, hq.2⟩]
          exact ⟨by simp only [ih1], by rw [← ih2]; simp⟩
        · rw [if_neg (by simp [h0, hp]; omega), if_neg hq]
          exact ⟨ih1, ih2⟩
    · rw [if_neg (by simp [h0]), if_pos h0]
      exact ⟨ih1, ih2⟩
theorem strange_own (st : List PSt) (ms : List Msg) : ∀ n, delivR wiredC 1 1 st ms n = (st, 0)
  | 0 => rfl
  | n + 1 => by
    unfold delivR
    simp only [strange_own st ms n, msgW]
    rw [if_neg (by simp)]
end Go.Proofs.Ytogfbeibpfdleaa
