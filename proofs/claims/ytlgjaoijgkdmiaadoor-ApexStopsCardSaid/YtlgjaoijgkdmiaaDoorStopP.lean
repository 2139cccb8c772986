/- ApexStops' plain law. No condition. -/
import Derived.Test.YtlgjaoijgkdmiaaDoorAwkK
set_option linter.unusedSimpArgs false
set_option linter.unusedVariables false
namespace Go.Proofs.YtlgjaoijgkdmiaaDoor
open Go.RowKit Go.Maps

def spinO : OpT := ⟨5, 0, 0, 0, 0, []⟩
def wrongO (k : Nat) : OpT := if k = 1 then ⟨4, 0, 99, 0, 0, []⟩ else if k = 2 then ⟨6, 0, 0, 0, 0, []⟩ else ⟨2, 99, 0, 0, 0, []⟩
def stopC (k : Nat) (q : Int) : Cfg := partC 64 2 0 (if k = 1 then q else 0) (if k = 2 then q else 0) (if k = 3 then q else 0)
/-- The ops so far. -/
def stopOps (ahead k : Nat) : Nat → List OpT
  | 0 => []
  | i + 1 => stopOps ahead k i ++ [if i = ahead then wrongO k else spinO]
theorem stopOps_len (ahead k : Nat) : ∀ i, (stopOps ahead k i).length = i
  | 0 => rfl
  | i + 1 => by rw [stopOps, List.length_append, stopOps_len ahead k i]; rfl
theorem stopOps_plain (ahead k : Nat) : ∀ i, ∀ o ∈ stopOps ahead k i, o.d = []
  | 0, o, h => by cases h
  | i + 1, o, h => by
    rw [stopOps, List.mem_append, List.mem_singleton] at h
    rcases h with h | rfl
    · exact stopOps_plain ahead k i o h
    · unfold wrongO spinO
      repeat' split
      all_goals rfl
theorem stopOps_lo (ahead k : Nat) : ∀ i, i ≤ ahead → stopOps ahead k i = List.replicate i spinO
  | 0, _ => rfl
  | i + 1, h => by rw [stopOps, stopOps_lo ahead k i (by omega), if_neg (by omega), List.replicate_succ']
theorem stopOps_hi (ahead k : Nat) : ∀ j, stopOps ahead k (ahead + 1 + j) = List.replicate ahead spinO ++ wrongO k :: List.replicate j spinO
  | 0 => by rw [Nat.add_zero, stopOps, stopOps_lo ahead k ahead (Nat.le_refl _), if_pos rfl]; simp
  | j + 1 => by
    rw [← Nat.add_assoc, stopOps, stopOps_hi ahead k j, if_neg (by omega), List.append_assoc, List.cons_append, ← List.replicate_succ']

section
variable (c : Cfg) (node : Int) (part : Nat) (round : Int)
theorem run_spin (r : List OpT) (s : RSt) (h : 1 ≤ s.left) : runR c node part round (spinO :: r) s = (⟨0, 0, none⟩ :: (runR c node part round r ⟨s.h, s.m, s.left - 1⟩).1, (runR c node part round r ⟨s.h, s.m, s.left - 1⟩).2) := by
  have hn : ¬ s.left < costO spinO := by show ¬ s.left < 1; omega
  have hE : stepE c node part s spinO = none := by unfold stepE; rw [if_neg hn]; rfl
  have hS : stepS c node part s spinO = ⟨s.h, s.m, s.left - 1⟩ := by unfold stepS; rw [if_neg hn]; rfl
  have hR : stepR c node part s spinO = ⟨0, 0, none⟩ := by unfold stepR; rw [hE]; rfl
  rw [runR_go1 (by rw [hE]; rfl), hS, hR]
theorem run_spins (r : List OpT) : ∀ (k : Nat) (s : RSt), (k : Int) ≤ s.left → runR c node part round (List.replicate k spinO ++ r) s = (List.replicate k ⟨0, 0, none⟩ ++ (runR c node part round r ⟨s.h, s.m, s.left - k⟩).1, (runR c node part round r ⟨s.h, s.m, s.left - k⟩).2)
  | 0, s, _ => by simp
  | k + 1, s, h => by
    have e : s.left - 1 - (k : Int) = s.left - ((k + 1 : Nat) : Int) := by omega
    rw [List.replicate_succ, List.cons_append, run_spin c node part round _ s (by omega), run_spins r k ⟨s.h, s.m, s.left - 1⟩ (by simp only; omega), List.replicate_succ]
    simp only [e, List.cons_append]
end
/-- What the run comes to. -/
structure StopF (q : Int) (ahead behind : Nat) (X : List Res × Int × RSt) : Prop where
  len : X.1.length = if q = 0 then ahead + 1 + behind else ahead + 1
  act : X.2.1 = q
  left : X.2.2.left = 64 - (X.1.length : Int)
  out : X.2.2.m.out.length = 1
theorem stop_facts (k : Nat) (hk : k = 1 ∨ k = 2 ∨ k = 3) (q : Int) (hq : 0 ≤ q ∧ q ≤ 3) (ahead behind : Nat) (ha : ahead < 10) (hb : behind < 10) :
    StopF q ahead behind (runR (stopC k q) 0 0 5 (stopOps ahead k (ahead + 1 + behind)) (run16 (stopC k q) 0)) := by
  have hl : (run16 (stopC k q) 0).left = 64 := rfl
  rw [stopOps_hi, run_spins _ _ _ _ _ _ _ (by rw [hl]; omega), hl]
  obtain ⟨s, hs⟩ : ∃ s : RSt, s = ⟨(run16 (stopC k q) 0).h, (run16 (stopC k q) 0).m, 64 - (ahead : Int)⟩ := ⟨_, rfl⟩
  rw [← hs]
  have hleft : s.left = 64 - (ahead : Int) := by rw [hs]
  have hn : ¬ s.left < costO (wrongO k) := by
    have : costO (wrongO k) = 1 := by rcases hk with rfl | rfl | rfl <;> rfl
    rw [this, hleft]; omega
  obtain ⟨cd, ca, hE, hkd⟩ : ∃ cd ca, stepE (stopC k q) 0 0 s (wrongO k) = some (cd, ca) ∧ kindE (errL (some (cd, ca))) = some (k : Int) := by
    unfold stepE
    rw [if_neg hn, hs]
    rcases hk with rfl | rfl | rfl
    · exact ⟨150, 99, by kernel_rfl, by kernel_rfl⟩
    · exact ⟨152, 0, by kernel_rfl, by kernel_rfl⟩
    · exact ⟨17, 99, by kernel_rfl, by kernel_rfl⟩
  have hS : stepS (stopC k q) 0 0 s (wrongO k) = ⟨opS (stopC k q) 0 0 s.h (wrongO k), s.m, s.left - 1⟩ := by
    unfold stepS
    rw [if_neg hn]
    have : costO (wrongO k) = 1 := by rcases hk with rfl | rfl | rfl <;> rfl
    rw [this]
  have hrec : recov ((stopC k q).parts.getD 0 default) k = q := by rcases hk with rfl | rfl | rfl <;> rfl
  have hm0 : s.m = mon0 2 := by rw [hs]; rfl
  have hA : repA (stopC k q).parts s.m 5 0 k = q := by
    unfold repA
    rw [hrec, hm0]
    by_cases h1 : q = 1
    · rw [if_pos h1, h1]; rfl
    · rw [if_neg h1]
  have hO : (repM 0 (stopC k q).parts s.m 5 0 k).out.length = 1 := by
    unfold repM
    rw [hm0]
    rfl
  by_cases h0 : q = 0
  · have hk0 : ¬ ((k : Int) = 0) := by omega
    rw [runR_go2 (kd := (k : Int)) (by rw [hE]; exact hkd) (by rw [hS, Int.toNat_natCast, hA]; omega), hS, Int.toNat_natCast]
    simp only
    have e := run_spins (stopC k q) 0 0 5 [] behind ⟨opS (stopC k q) 0 0 s.h (wrongO k), repM 0 (stopC k q).parts s.m 5 0 k, s.left - 1⟩ (by simp only; omega)
    rw [List.append_nil] at e
    rw [e, runR]
    refine ⟨?_, h0.symm, ?_, hO⟩
    · rw [if_pos h0]; simp; omega
    · simp; omega
  · rw [runR_stop (kd := (k : Int)) (by rw [hE]; exact hkd) (by rw [hS, Int.toNat_natCast, hA]; exact .inl h0), hS, Int.toNat_natCast]
    refine ⟨?_, hA, ?_, hO⟩
    · rw [if_neg h0]; simp
    · simp; omega
end Go.Proofs.YtlgjaoijgkdmiaaDoor
