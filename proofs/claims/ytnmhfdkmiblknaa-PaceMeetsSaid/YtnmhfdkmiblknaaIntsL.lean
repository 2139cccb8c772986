/- Slices that read as lists of ints. No condition. -/
import Derived.Test.YtnmhfdkmiblknaaBase
import Derived.Test.YtnmhfdkmiblknaaMid
import Derived.Test.YtnmhfdkmiblknaaProg
import Derived.Outline
set_option linter.unusedSimpArgs false
set_option linter.unusedVariables false
namespace Go.Proofs.Ytnmhfdkmiblknaa
open Go.RowKit Go.Maps

/-- A slice that reads as a list of ints. -/
def IsInts (w : World) (C : Nat → Nat) (v : Value) (xs : List Int) : Prop := Rd w C v 1 xs.length (xs.map (Value.int .i64))
theorem IsInts.fr {K : Nat → Prop} {C C' : Nat → Nat} {w w' : World} {v : Value} {xs : List Int} (h : IsInts w C v xs) (f : Fr K C C' w w') (hk : ¬ K 0) : IsInts w' C' v xs := Rd.fr h f hk
theorem IsInts.form {w : World} {C : Nat → Nat} {v : Value} {xs : List Int} (h : IsInts w C v xs) : ∃ a cap, v = .slice a xs.length cap ∧ xs.length ≤ cap ∧ cap ≤ maxLen := by
  obtain ⟨a, cap, h1, h2, h3, _⟩ := h
  exact ⟨a, cap, h1, h2, h3⟩
theorem IsInts.at {w : World} {C : Nat → Nat} {a : Option Addr} {cap : Nat} {xs : List Int} (h : IsInts w C (.slice a xs.length cap) xs) {i : Nat} (hi : i < xs.length) : ∃ b off, a = some ⟨b, off, none⟩ ∧ ∀ j, j < xs.length → w.cell? ⟨b, off + j, none⟩ = some (.int .i64 (xs.getD j 0)) := by
  obtain ⟨b, off, ha, hc⟩ := Rd.at h hi
  refine ⟨b, off, ha, fun j hj => hc j _ ?_⟩
  rw [List.getElem?_map, List.getD_eq_getElem?_getD, List.getElem?_eq_getElem hj]
  rfl
def Z64 (x : Int) : Prop := -9223372036854775808 ≤ x ∧ x ≤ 9223372036854775807
theorem srt_getD_Z {xs : List Int} (h : ∀ x ∈ xs, Z64 x) {k : Nat} (hk : k < xs.length) : Z64 ((srt xs).getD k 0) := by
  have hk' : k < (srt xs).length := by rw [srt_len]; exact hk
  rw [List.getD_eq_getElem?_getD, List.getElem?_eq_getElem hk']
  exact h _ ((srt_perm xs).mem_iff.1 (List.getElem_mem hk'))
theorem take_snoc (l : List Int) (k : Nat) (h : k < l.length) : l.take (k + 1) = l.take k ++ [l.getD k 0] := by
  rw [List.take_succ_eq_append_getElem h, List.getD_eq_getElem?_getD, List.getElem?_eq_getElem h]
  rfl
theorem count_snoc (l : List Int) (x y : Int) : (l ++ [x]).count y = if x = y then l.count y + 1 else l.count y := by
  rw [List.count_append, List.count_singleton]
  by_cases h : x = y <;> simp [h]
end Go.Proofs.Ytnmhfdkmiblknaa
