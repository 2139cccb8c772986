/- Chapter 13's tables, turned: another freshness, other depths and sizes. No condition. -/
import Derived.Test.YtogfbeibpfdleaaPUse
set_option linter.unusedSimpArgs false
set_option linter.unusedVariables false
namespace Go.Proofs.Ytogfbeibpfdleaa
open Go.RowKit Go.Maps

/-- Wired, with the in port's freshness f. -/
def freshC (f : Int) : Cfg := { wiredC with ports := [⟨0, 2, true, 1, 2, 0⟩, ⟨1, 2, false, 1, 1, 0⟩, ⟨0, 1, true, 4, 0, 0⟩, ⟨1, 1, false, 4, 0, f⟩] }
theorem fresh_snd (f : Int) (h : 0 ≤ f ∧ f ≤ 8) : sndE (freshC f) = none := by
  rcases (by omega : f = 0 ∨ f = 1 ∨ f = 2 ∨ f = 3 ∨ f = 4 ∨ f = 5 ∨ f = 6 ∨ f = 7 ∨ f = 8) with rfl | rfl | rfl | rfl | rfl | rfl | rfl | rfl | rfl <;> decide +kernel
theorem fresh_good (f : Int) (h : 0 ≤ f ∧ f ≤ 8) : Good (freshC f) := sndE_good (fresh_snd f h)
theorem fresh_ok (f : Int) (h : 0 ≤ f ∧ f ≤ 8) : (freshC f).ok := by
  rcases (by omega : f = 0 ∨ f = 1 ∨ f = 2 ∨ f = 3 ∨ f = 4 ∨ f = 5 ∨ f = 6 ∨ f = 7 ∨ f = 8) with rfl | rfl | rfl | rfl | rfl | rfl | rfl | rfl | rfl <;> constructor <;> first
    | (unfold I64 freshC wiredC; simp)
    | (intro p hp; simp only [freshC, wiredC, List.mem_cons, List.not_mem_nil, or_false] at hp; rcases hp with rfl | rfl | rfl | rfl <;> (constructor <;> (first | (unfold I64; simp) | (unfold U8; simp))))
    | (intro p hp; simp only [freshC, wiredC, List.mem_cons, List.not_mem_nil, or_false] at hp; rcases hp with rfl | rfl <;> (constructor <;> (first | (unfold I64; simp) | (unfold U8; simp))))

/-- Wired, with the queuing ports' depths four and d, and sixteen bytes each. -/
def queueC (d : Int) : Cfg := { wiredC with ports := [⟨0, 2, true, 16, 4, 0⟩, ⟨1, 2, false, 16, d, 0⟩, ⟨0, 1, true, 4, 0, 0⟩, ⟨1, 1, false, 4, 0, 1⟩] }
theorem queue_snd (d : Int) (h : 1 ≤ d ∧ d ≤ 4) : sndE (queueC d) = none := by
  rcases (by omega : d = 1 ∨ d = 2 ∨ d = 3 ∨ d = 4) with rfl | rfl | rfl | rfl <;> decide +kernel
theorem queue_good (d : Int) (h : 1 ≤ d ∧ d ≤ 4) : Good (queueC d) := sndE_good (queue_snd d h)
theorem queue_ok (d : Int) (h : 1 ≤ d ∧ d ≤ 4) : (queueC d).ok := by
  rcases (by omega : d = 1 ∨ d = 2 ∨ d = 3 ∨ d = 4) with rfl | rfl | rfl | rfl <;> constructor <;> first
    | (unfold I64 queueC wiredC; simp)
    | (intro p hp; simp only [queueC, wiredC, List.mem_cons, List.not_mem_nil, or_false] at hp; rcases hp with rfl | rfl | rfl | rfl <;> (constructor <;> (first | (unfold I64; simp) | (unfold U8; simp))))
    | (intro p hp; simp only [queueC, wiredC, List.mem_cons, List.not_mem_nil, or_false] at hp; rcases hp with rfl | rfl <;> (constructor <;> (first | (unfold I64; simp) | (unfold U8; simp))))
end Go.Proofs.Ytogfbeibpfdleaa
