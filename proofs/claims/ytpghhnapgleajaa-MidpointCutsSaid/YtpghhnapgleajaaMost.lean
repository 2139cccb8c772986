/- midpoint.Most. No condition but a list of moderate length. -/
import Derived.Test.YtpghhnapgleajaaBase
import Derived.Test.YtpghhnapgleajaaMid
import Derived.Test.YtpghhnapgleajaaProg
import Derived.Outline
set_option linter.unusedSimpArgs false
set_option linter.unusedVariables false
namespace Go.Proofs.Ytpghhnapgleajaa
open Go.RowKit Go.Maps

/-- A slice that reads as a list of ints. -/
def IsInts (w : World) (C : Nat → Nat) (v : Value) (xs : List Int) : Prop := Rd w C v 1 xs.length (xs.map (Value.int .i64))
theorem IsInts.fr {K : Nat → Prop} {C C' : Nat → Nat} {w w' : World} {v : Value} {xs : List Int} (h : IsInts w C v xs) (f : Fr K C C' w w') (hk : ¬ K 0) : IsInts w' C' v xs := Rd.fr h f hk
theorem IsInts.form {w : World} {C : Nat → Nat} {v : Value} {xs : List Int} (h : IsInts w C v xs) : ∃ a cap, v = .slice a xs.length cap ∧ xs.length ≤ cap ∧ cap ≤ maxLen := by
  obtain ⟨a, cap, h1, h2, h3, _⟩ := h
  exact ⟨a, cap, h1, h2, h3⟩
theorem IsInts.at {w : World} {C : Nat → Nat} {a : Option Addr} {cap : Nat} {xs : List Int} (h : IsInts w C (.slice a xs.length cap) xs) {i : Nat} (hi : i < xs.length) : ∃ b off, a = some ⟨b, off, none⟩ ∧ ∀ j, j < xs.length → w.cell? ⟨b, off + j, none⟩ = some (.int .i64 (xs.getD j 0)) := by
  obtain ⟨b, off, ha, hc⟩ := Rd.at h hi
  refine ⟨b, off, ha, fun j hj => hc j _ ?_⟩
  rw [List.getElem?_map, List.getD_eq_getElem?_getD, List.getElem?_eq_getElem hj]
  rfl
def Z64 (x : Int) : Prop := -9223372036854775808 ≤ x ∧ x ≤ 9223372036854775807
theorem srt_getD_Z {xs : List Int} (h : ∀ x ∈ xs, Z64 x) {k : Nat} (hk : k < xs.length) : Z64 ((srt xs).getD k 0) := by
  have hk' : k < (srt xs).length := by rw [srt_len]; exact hk
  rw [List.getD_eq_getElem?_getD, List.getElem?_eq_getElem hk']
  exact h _ ((srt_perm xs).mem_iff.1 (List.getElem_mem hk'))
theorem take_snoc (l : List Int) (k : Nat) (h : k < l.length) : l.take (k + 1) = l.take k ++ [l.getD k 0] := by
  rw [List.take_succ_eq_append_getElem h, List.getD_eq_getElem?_getD, List.getElem?_eq_getElem h]
  rfl
theorem count_snoc (l : List Int) (x y : Int) : (l ++ [x]).count y = if x = y then l.count y + 1 else l.count y := by
  rw [List.count_append, List.count_singleton]
  by_cases h : x = y <;> simp [h]

set_option maxRecDepth 100000 in
set_option maxHeartbeats 1000000 in
theorem most_any (C : Nat → Nat) (xs : List Int) (v : Value) (w : World) (h : IsInts w C v xs) (hl : xs.length ≤ 1000) :
    Calls Try.prog 14 #[v] w fun e w' => e = .returned (.tuple #[.int .i64 ((mostz xs).getD 0), .bool (mostz xs).isSome]) ∧ w = w' := by
  obtain ⟨a, cap, rfl, h1, h2⟩ := id h.form
  go_enter Try.func14, Try.ntmps14
  go_wp2
  go_loop [4, 5, 12] (fun b n i => ∃ k : Nat, k ≤ xs.length ∧ i = .int .i64 k ∧ b = .int .i64 (bfold (xs.take k)).1 ∧ n = .int .i64 ((bfold (xs.take k)).2 : Nat)) (fun _ _ i => xs.length - (intOf i).toNat)
  case atStart => exact ⟨0, Nat.zero_le _, rfl, rfl, rfl⟩
  case round =>
    obtain ⟨k, hk, rfl, rfl, rfl⟩ := hrel
    by_cases hlt : k < xs.length
    · obtain ⟨b, off, rfl, hc⟩ := h.at hlt
      have hcx := hc k hlt
      have hsn := bfold_snoc (xs.take k) (xs.getD k 0)
      rw [← take_snoc xs k hlt] at hsn
      have hle := bfold_le (xs.take k)
      have hlk : (xs.take k).length ≤ k := List.length_take_le _ _
      have HS := hid_ hsn
      clear hsn hc
      generalize bfold (xs.take k) = s at *
      obtain ⟨s1, s2⟩ := s
      generalize xs.getD k 0 = x at *
      simp only at hle ⊢
      by_cases h0 : s2 = 0
      · subst h0
        go_wp2
        go_round
        case rel => exact ⟨k + 1, by omega, by go_num, by rw [HS.out]; rfl, by rw [HS.out]; rfl⟩
        case measure => simp [intOf]; omega
      · have h0' : ((s2 : Int) == 0) = false := by simp; omega
        by_cases hx : x = s1
        · subst hx
          have hs : bstep (x, s2) x = (x, s2 + 1) := by unfold bstep; rw [if_neg h0, if_pos rfl]
          have HB := hid_ hs
          clear hs
          go_wp2
          go_round
          case rel => exact ⟨k + 1, by omega, by go_num, by rw [HS.out, HB.out], by rw [HS.out, HB.out]; go_num⟩
          case measure => simp [intOf]; omega
        · have hs : bstep (s1, s2) x = (s1, s2 - 1) := by unfold bstep; rw [if_neg h0, if_neg hx]
          have HB := hid_ hs
          have hx' : (x == s1) = false := by simpa using hx
          clear hs
          go_wp2
          go_round
          case rel => exact ⟨k + 1, by omega, by go_num, by rw [HS.out, HB.out], by rw [HS.out, HB.out]; simp; omega⟩
          case measure => simp [intOf]; omega
    · obtain rfl : k = xs.length := by omega
      rw [List.take_length]
      generalize hb : (bfold xs).1 = best
      have HBEST := hid_ hb
      clear hb
      go_wp2
      go_loop [5, 31] (fun n i => ∃ k : Nat, k ≤ xs.length ∧ i = .int .i64 k ∧ n = .int .i64 ((xs.take k).count best : Nat)) (fun _ i => xs.length - (intOf i).toNat)
      case atStart => exact ⟨0, Nat.zero_le _, rfl, rfl⟩
      case round =>
        obtain ⟨k, hk, rfl, rfl⟩ := hrel
        by_cases hlt : k < xs.length
        · obtain ⟨b, off, rfl, hc⟩ := h.at hlt
          have hcx := hc k hlt
          have hsn := count_snoc (xs.take k) (xs.getD k 0) best
          rw [← take_snoc xs k hlt] at hsn
          have hle : (xs.take k).count best ≤ (xs.take k).length := List.count_le_length
          have hlk : (xs.take k).length ≤ k := List.length_take_le _ _
          have HS := hid_ hsn
          clear hsn hc
          generalize (xs.take k).count best = s at *
          generalize xs.getD k 0 = x at *
          by_cases hx : x = best
          · subst hx
            go_wp2
            go_round
            case rel => exact ⟨k + 1, by omega, by go_num, by rw [HS.out, if_pos rfl]; go_num⟩
            case measure => simp [intOf]; omega
          · have hx' : (x == best) = false := by simpa using hx
            go_wp2
            go_round
            case rel => exact ⟨k + 1, by omega, by go_num, by rw [HS.out, if_neg hx]⟩
            case measure => simp [intOf]; omega
        · obtain rfl : k = xs.length := by omega
          rw [List.take_length]
          have hle : xs.count best ≤ xs.length := List.count_le_length
          have hm : mostz xs = if 2 * xs.count best ≤ xs.length then none else some best := by unfold mostz; rw [HBEST.out]
          have HM := hid_ hm
          clear hm
          generalize xs.count best = s at *
          by_cases h2 : 2 * s ≤ xs.length
          · go_wp2
            go_ret2
            rw [HM.out, if_pos h2]
            exact ⟨rfl, rfl⟩
          · go_wp2
            go_ret2
            rw [HM.out, if_neg h2]
            exact ⟨rfl, rfl⟩
end Go.Proofs.Ytpghhnapgleajaa
