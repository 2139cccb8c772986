/- Errors of tables, read as texts. No condition but lists of moderate length. -/
import Derived.Test.YtogfbeibpfdleaaNewK
import Derived.Test.YtogfbeibpfdleaaRead
set_option linter.unusedSimpArgs false
set_option linter.unusedVariables false
namespace Go.Proofs.Ytogfbeibpfdleaa
open Go.RowKit Go.Maps

theorem atE_rng {code : Int} {n : Nat} {bad : Nat → Bool} {next : Option (Int × Int)} {P : Int × Int → Prop} (h1 : ∀ i : Nat, i < n → P (code, (i : Int))) (h2 : ∀ x, next = some x → P x) : ∀ x, atE code n bad next = some x → P x := by
  intro x h
  unfold atE at h
  cases hf : firstIdx n bad with
  | none => rw [hf] at h; exact h2 x h
  | some i =>
    rw [hf] at h
    cases h
    unfold firstIdx at hf
    rw [List.find?_range_eq_some] at hf
    exact h1 i (by simpa using hf.2.1)
/-- Codes and places of what is wrong with tables. -/
def OkPair (x : Int × Int) : Prop := 1 ≤ x.1 ∧ x.1 ≤ 100 ∧ -1 ≤ x.2 ∧ x.2 ≤ 100
theorem sndE_ok {c : Cfg} (hL : longB c = false) : ∀ x, sndE c = some x → OkPair x := by
  have n1 : c.parts.length ≤ 40 := by unfold longB at hL; simp only [Bool.or_eq_false_iff, decide_eq_false_iff_not] at hL; omega
  have n2 : c.ports.length ≤ 60 := by unfold longB at hL; simp only [Bool.or_eq_false_iff, decide_eq_false_iff_not] at hL; omega
  have n3 : c.routes.length ≤ 60 := by unfold longB at hL; simp only [Bool.or_eq_false_iff, decide_eq_false_iff_not] at hL; omega
  have ht : ∀ x, tabE c = some x → OkPair x := by
    intro x h
    unfold tabE at h
    split at h
    · cases h; unfold OkPair; simp
    · split at h
      · cases h; unfold OkPair; simp
      · revert h
        refine atE_rng (fun i hi => ?_) (atE_rng (fun i hi => ?_) (atE_rng (fun i hi => ?_) (fun x h => by cases h))) x <;> (unfold OkPair; simp only; omega)
  intro x h
  unfold sndE at h
  split at h
  · exact ht x h
  · split at h
    · cases h; unfold OkPair; simp
    · split at h
      · cases h; unfold OkPair; simp
      · split at h
        · cases h; unfold OkPair; simp
        · split at h
          · cases h; unfold OkPair; simp
          · revert h
            refine atE_rng (fun i hi => ?_) (atE_rng (fun i hi => ?_) (fun x h => by cases h)) x <;> (unfold OkPair; simp only; omega)

theorem read_fault (x : Int × Int) (hx : OkPair x) (b : Nat) (w : World) (hB : Bk w b 95 [.int .i64 x.1, .int .i64 x.2, .nilIface]) :
    Calls Try.prog 17 #[faultV b] w fun e w' => e = .returned (.string ⟨(refT (some x)).toArray⟩) ∧ Below w.heap.size w w' := by
  obtain ⟨h1, h2, h3, h4⟩ := hx
  obtain ⟨c, a⟩ := x
  exact read_any (fun _ => 0) (faultV b) [(c, some a)] w ⟨b, .nilIface, rfl, hB, rfl, rfl⟩ ⟨by simp, fun y hy => by
    simp only [List.mem_singleton] at hy
    subst hy
    simp only at h1 h2 h3 h4
    exact ⟨by omega, by omega, by omega, fun a' h => by cases h; omega⟩⟩
theorem read_nil (w : World) : Calls Try.prog 17 #[.nilIface] w fun e w' => e = .returned (.string ⟨(refT none).toArray⟩) ∧ Below w.heap.size w w' :=
  read_any (fun _ => 0) _ [] w rfl ⟨by simp, by simp⟩
end Go.Proofs.Ytogfbeibpfdleaa
