/- Chapter 13's PortsQueue: what its calls do to the ports, in plain lists. No condition. -/
import Derived.Test.YtogfbeibpfdleaaPCfgs
import Derived.Test.YtogfbeibpfdleaaAwake13
import Derived.Test.YtogfbeibpfdleaaPWriteS
import Derived.Test.YtogfbeibpfdleaaPFresh
set_option linter.unusedSimpArgs false
set_option linter.unusedVariables false
namespace Go.Proofs.Ytogfbeibpfdleaa
open Go.RowKit Go.Maps

def stQ (q : List (List UInt8)) : List PSt := [⟨q, 0⟩, ⟨[], 0⟩, ⟨[], 0⟩, ⟨[], 0⟩]
def stB (q : List (List UInt8)) : List PSt := [⟨[], 0⟩, ⟨q, 0⟩, ⟨[], 0⟩, ⟨[], 0⟩]
theorem putQ (D : Int) (q : List (List UInt8)) (x : List UInt8) : putSt (queueC D) (stQ q) 0 x = stQ (q ++ [x]) := by
  unfold putSt
  rw [if_neg (show ¬ ((queueC D).port 0).kind = 1 from (show ¬ ((2 : Int) = 1) by decide))]
  rfl
theorem sealQ (D : Int) (q : List (List UInt8)) : sealMs (queueC D) 0 (stQ q) 4 = q.map (fun d => ⟨0, d⟩) := by
  have s0 : sealB (queueC D) 0 0 = true := rfl
  have s1 : sealB (queueC D) 0 1 = false := rfl
  have s2 : sealB (queueC D) 0 2 = true := rfl
  have s3 : sealB (queueC D) 0 3 = false := rfl
  simp only [sealMs, s0, s1, s2, s3, stQ]
  simp
theorem sealQ2 (D : Int) (q : List (List UInt8)) : sealSt (queueC D) 0 (stQ q) 4 = stQ [] := by
  have s0 : sealB (queueC D) 0 0 = true := rfl
  have s1 : sealB (queueC D) 0 1 = false := rfl
  have s2 : sealB (queueC D) 0 2 = true := rfl
  have s3 : sealB (queueC D) 0 3 = false := rfl
  simp only [sealSt, s0, s1, s2, s3, stQ]
  simp
theorem viaQ (D : Nat) (q : List (List UInt8)) (x : List UInt8) : viaR (queueC D) 1 (stB q) 0 x 2 = if q.length < D then (stB (q ++ [x]), 1) else (stB q, 0) := by
  have r0 : (queueC D).route 0 = ⟨0, 1⟩ := rfl
  have r1 : (queueC D).route 1 = ⟨2, 3⟩ := rfl
  have m1 : mineB (queueC D) 1 1 = true := rfl
  have hp : putB (queueC D) (stB q) 1 = decide (q.length < D) := by
    unfold putB
    rw [show ((queueC D).port 1).kind = 2 from rfl, show ((queueC D).port 1).depth = (D : Int) from rfl, show ((stB q).getD 1 default).q = q from rfl]
    simp
  by_cases h : q.length < D
  · have hp1 : putB (queueC D) (stB q) 1 = true := by rw [hp]; simpa using h
    have hs : putS (queueC D) (stB q) 1 x = stB (q ++ [x]) := by
      unfold putS
      rw [if_pos hp1]
      unfold putIn
      rw [if_neg (show ¬ ((queueC D).port 1).kind = 1 from (show ¬ ((2 : Int) = 1) by decide))]
      rfl
    rw [if_pos h]
    simp [viaR, r0, r1, m1, hs, hp1]
  · have hp1 : putB (queueC D) (stB q) 1 = false := by rw [hp]; simpa using h
    have hs : putS (queueC D) (stB q) 1 x = stB q := by
      unfold putS
      rw [if_neg (by rw [hp1]; simp)]
    rw [if_neg h]
    simp [viaR, r0, r1, m1, hs, hp1]
theorem delivQ (D : Nat) (q : List (List UInt8)) (hq : ∀ x ∈ q, x.length ≤ 16) : ∀ n, n ≤ q.length → delivR (queueC D) 1 0 (stB []) (q.map (fun d => ⟨0, d⟩)) n = (stB (q.take (min n D)), min n D)
  | 0, _ => by simp [delivR]
  | n + 1, h => by
    have ih := delivQ D q hq n (by omega)
    have hm : (q.map (fun d => (⟨0, d⟩ : Msg))).getD n default = ⟨0, q[n]⟩ := by
      rw [List.getD_eq_getElem?_getD, List.getElem?_map, List.getElem?_eq_getElem (by omega)]
      rfl
    have hx := hq q[n] (List.getElem_mem _)
    have hmsg : msgB (queueC D) 0 ⟨0, q[n]⟩ = true := by
      unfold msgB
      simp [queueC, wiredC, Cfg.port, Cfg.part]
      omega
    unfold delivR
    simp only [hm, ih, hmsg, if_true]
    rw [show (queueC (D : Int)).routes.length = 2 from rfl, show (0 : Int).toNat = 0 from rfl, viaQ]
    have hl : (q.take (min n D)).length = min n D := by rw [List.length_take]; omega
    rw [hl]
    by_cases hD : n < D
    · rw [if_pos (by omega), show min n D = n by omega, show min (n + 1) D = n + 1 by omega, List.take_succ_eq_append_getElem (by omega)]
    · rw [if_neg (by omega), show min n D = D by omega, show min (n + 1) D = D by omega]
      rfl
end Go.Proofs.Ytogfbeibpfdleaa
