/- ReplicaVotes: the law's own search for a majority, in plain lists. No condition. -/
import Derived.Test.YtomcjmgbkpbdpaaVote
set_option linter.unusedSimpArgs false
set_option linter.unusedVariables false
namespace Go.Proofs.Ytomcjmgbkpbdpaa
open Go.RowKit Go.Maps

def vint : Option Int → Int
  | none => -1
  | some v => v
/-- A majority is one alone. -/
theorem major_one {α : Type} [DecidableEq α] (l : List α) (a b : α) (ha : l.length < 2 * l.count a) (hb : l.length < 2 * l.count b) : a = b := by
  rcases Decidable.em (a = b) with h | h
  · exact h
  · exfalso
    have key : ∀ m : List α, m.count a + m.count b ≤ m.length := by
      intro m
      induction m with
      | nil => simp
      | cons x m ih =>
        rw [List.count_cons, List.count_cons, List.length_cons]
        by_cases h1 : x = a
        · subst h1
          rw [if_pos (by simp), if_neg (by simpa using h)]
          omega
        · rw [if_neg (by simpa using h1)]
          split <;> omega
    have := key l
    omega
theorem count_vint (vs : List (Option Int)) (hv : ∀ o ∈ vs, ∀ x, o = some x → 0 ≤ x) (x : Int) (hx : 0 ≤ x) : (vs.map vint).count x = vs.count (some x) := by
  induction vs with
  | nil => rfl
  | cons o vs ih =>
    rw [List.map_cons, List.count_cons, List.count_cons, ih (fun o ho => hv o (by simp [ho]))]
    cases o with
    | none =>
      have : ¬ (-1 : Int) = x := by omega
      simp [vint, this]
    | some y => simp [vint]
/-- want and found after i values. -/
def seekV (vals : List Int) : Nat → Int × Bool
  | 0 => (0, false)
  | n + 1 => if 0 ≤ vals.getD n 0 ∧ vals.length < 2 * vals.count (vals.getD n 0) then (vals.getD n 0, true) else seekV vals n
theorem seekV_ok (vals : List Int) : ∀ n, n ≤ vals.length → ((seekV vals n).2 = true → 0 ≤ (seekV vals n).1 ∧ vals.length < 2 * vals.count (seekV vals n).1) ∧ ((seekV vals n).2 = false → ∀ i, i < n → ¬ (0 ≤ vals.getD i 0 ∧ vals.length < 2 * vals.count (vals.getD i 0)))
  | 0, _ => ⟨fun h => by simp [seekV] at h, fun _ i hi => by omega⟩
  | n + 1, h => by
    obtain ⟨h1, h2⟩ := seekV_ok vals n (by omega)
    unfold seekV
    by_cases hc : 0 ≤ vals.getD n 0 ∧ vals.length < 2 * vals.count (vals.getD n 0)
    · rw [if_pos hc]
      exact ⟨fun _ => hc, fun h => by simp at h⟩
    · rw [if_neg hc]
      refine ⟨h1, fun hf i hi => ?_⟩
      by_cases e : i = n
      · subst e; exact hc
      · exact h2 hf i (by omega)
/-- Nothing found: no value has a majority. -/
theorem seekV_none (vs : List (Option Int)) (hv : ∀ o ∈ vs, ∀ x, o = some x → 0 ≤ x) (h : (seekV (vs.map vint) (vs.map vint).length).2 = false) (x : Int) : 2 * vs.count (some x) ≤ vs.length := by
  rcases Nat.lt_or_ge vs.length (2 * vs.count (some x)) with hlt | hge
  · exfalso
    have hm : some x ∈ vs := List.count_pos_iff.1 (by omega)
    have hx := hv _ hm x rfl
    have hmm : x ∈ vs.map vint := List.mem_map.2 ⟨some x, hm, rfl⟩
    obtain ⟨i, hi, he⟩ := List.getElem_of_mem hmm
    refine (seekV_ok (vs.map vint) _ (Nat.le_refl _)).2 h i hi ?_
    rw [List.getD_eq_getElem?_getD, List.getElem?_eq_getElem hi, Option.getD_some, he, count_vint vs hv x hx, List.length_map]
    exact ⟨hx, hlt⟩
  · exact hge
end Go.Proofs.Ytomcjmgbkpbdpaa
