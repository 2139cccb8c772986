/- Chapter 10's fixed facts: Awake returns true and leaves what was there. No condition. -/
import Derived.Test.YtpghhnapgleajaaCut
set_option linter.unusedSimpArgs false
set_option linter.unusedVariables false
namespace Go.Proofs.Ytpghhnapgleajaa
open Go.RowKit Go.Maps

theorem ints_new (w : World) (C : Nat → Nat) (hf : Fin C w) (xs : List Int) (hl : xs.length ≤ 1000) : IsInts (w.alloc (.cells (xs.map (Value.int .i64)).toArray 3)) C (.slice (some ⟨w.heap.size, 0, none⟩) xs.length xs.length) xs := by
  have hb := Bk.new w 3 (xs.map (Value.int .i64))
  exact ⟨_, _, rfl, Nat.le_refl _, by unfold maxLen; omega, by simp, fun _ => ⟨w.heap.size, 0, rfl, hf _ (Nat.le_refl _), hb.lt, fun i x hx => by rw [Nat.zero_add]; exact hb.cell_ i hx⟩⟩
theorem srt_eq {l p : List Int} (h : l.Perm p) (hs : p.Pairwise (· ≤ ·)) : srt l = p :=
  List.Perm.eq_of_pairwise (le := (· ≤ ·)) (fun a b _ _ h1 h2 => Int.le_antisymm h1 h2) (srt_sorted _) hs ((srt_perm l).trans h)
theorem awk_a : midz [5, 1, 9, 3] 1 = 4 := by
  unfold midz
  rw [srt_eq (p := [1, 3, 5, 9]) (by decide) (by decide)]
  rfl
theorem awk_b : midz [-3, 0] 0 = -2 := by
  unfold midz
  rw [srt_eq (p := [-3, 0]) (by decide) (by decide)]
  rfl
theorem awk_m : mostz [1, 2, 1] = some 1 := by decide +kernel

set_option maxRecDepth 100000 in
set_option maxHeartbeats 1000000 in
theorem awake10 (w : World) : Calls Try.prog 9 #[] w fun e w' => e = .returned (.bool true) ∧ Below w.heap.size w w' := by
  go_enter Try.func9, Try.ntmps9
  go_wp2_with fail
  have i1 := ints_new w (fun _ => 0) (fun _ _ => rfl) [5, 1, 9, 3] (by simp)
  refine (mid_yes (fun _ => 0) [5, 1, 9, 3] (by simp [Z64]) 1 _ _ (fun _ _ => rfl) (by exact i1) (by simp) (by simp)).mono ?_
  rintro e w1 ⟨rfl, V1⟩
  rw [awk_a]
  have V1' := below_then ((Below.refl _ w).alloc (Nat.le_refl _) _) V1
  clear V1 i1
  go_wp2_with fail
  have i2 := ints_new w1 (fun _ => 0) (fun _ _ => rfl) [-3, 0] (by simp)
  refine (mid_yes (fun _ => 0) [-3, 0] (by simp [Z64]) 0 _ _ (fun _ _ => rfl) (by exact i2) (by simp) (by simp)).mono ?_
  rintro e w2 ⟨rfl, V2⟩
  rw [awk_b]
  have V2' := below_then V1' (below_then ((Below.refl _ w1).alloc (Nat.le_refl _) _) V2)
  clear V2 i2 V1'
  go_wp2_with fail
  have i3 := ints_new w2 (fun _ => 0) (fun _ _ => rfl) [1, 2, 1] (by simp)
  refine (most_any (fun _ => 0) [1, 2, 1] _ _ (by exact i3) (by simp)).mono ?_
  rintro e w3 ⟨rfl, rfl⟩
  rw [awk_m]
  have V3' := below_then V2' ((Below.refl _ w2).alloc (Nat.le_refl _) (.cells #[.int .i64 1, .int .i64 2, .int .i64 1] 3))
  clear i3 V2'
  go_wp2
  go_ret
  exact ⟨rfl, V3'⟩
end Go.Proofs.Ytpghhnapgleajaa
