/- The reference's Most, down, SameInts. No condition but lists of moderate length. -/
import Derived.Test.YtpghhnapgleajaaParts
set_option linter.unusedSimpArgs false
set_option linter.unusedVariables false
namespace Go.Proofs.Ytpghhnapgleajaa
open Go.RowKit Go.Maps

theorem mostz_hit (xs : List Int) (k : Nat) (hk : k < xs.length) (h : xs.length < 2 * xs.count (xs.getD k 0)) : mostz xs = some (xs.getD k 0) := most_of xs _ h
theorem mostz_miss (xs : List Int) (h : ∀ j, j < xs.length → 2 * xs.count (xs.getD j 0) ≤ xs.length) : mostz xs = none := by
  refine most_none xs fun y => ?_
  by_cases hy : y ∈ xs
  · obtain ⟨j, hj, rfl⟩ := List.mem_iff_getElem.1 hy
    have := h j hj
    rwa [List.getD_eq_getElem?_getD, List.getElem?_eq_getElem hj] at this
  · rw [List.count_eq_zero_of_not_mem hy]; omega

set_option maxRecDepth 100000 in
set_option maxHeartbeats 4000000 in
theorem refMost (xs : List Int) (v : Value) (w : World) (h : IsInts w (fun _ => 0) v xs) (hl : xs.length ≤ 1000) :
    Calls Try.prog 15 #[v] w fun e w' => e = .returned (.tuple #[.int .i64 ((mostz xs).getD 0), .bool (mostz xs).isSome]) ∧ Below w.heap.size w w' := by
  obtain ⟨a, cap, rfl, h1, h2⟩ := id h.form
  unfold maxLen at h2
  have HK := hid_ (show Kept1 w (.slice a xs.length cap) xs w from ⟨Below.refl _ _, h⟩)
  clear h
  go_enter Try.func15, Try.ntmps15
  go_upto_block 1 with (fail)
  go_loopw [4] (fun i wr => ∃ k : Nat, k ≤ xs.length ∧ i = .int .i64 k ∧ (∀ j, j < k → 2 * xs.count (xs.getD j 0) ≤ xs.length) ∧ Kept1 w (.slice a xs.length cap) xs wr) (fun i _ => xs.length - (intOf i).toNat)
  case atStart => exact ⟨0, Nat.zero_le _, rfl, fun j hj => by omega, HK.out⟩
  case round =>
    obtain ⟨k, hk, rfl, hall, hK⟩ := hrel
    clear HK
    have HALL := hid_ hall
    have HK := hid_ hK
    clear hall hK
    by_cases hlt : k < xs.length
    · obtain ⟨b, off, rfl, -⟩ := HK.out.2.cells (by omega)
      obtain ⟨wo, rfl⟩ : ∃ wo : World, wo = wr := ⟨_, rfl⟩
      go_upto_block 3 with (fail)
      go_loopw [5, 6] (fun n i wr => ∃ m : Nat, m ≤ xs.length ∧ i = .int .i64 m ∧ n = .int .i64 ((xs.take m).count (xs.getD k 0) : Nat) ∧ Kept1 w (.slice (some ⟨b, off, none⟩) xs.length cap) xs wr) (fun _ i _ => xs.length - (intOf i).toNat)
      case atStart => exact ⟨0, Nat.zero_le _, rfl, rfl, HK.out⟩
      case round =>
        obtain ⟨m, hm, rfl, rfl, hK⟩ := hrel
        clear HK
        obtain ⟨b', o', e', hc⟩ := hK.2.cells (by omega)
        obtain ⟨rfl, rfl⟩ : b = b' ∧ off = o' := by injection e' with e'; injection e' with e1 e2; exact ⟨e1, e2⟩
        have HK := hid_ hK
        clear hK e'
        have ck := hc k hlt
        by_cases hmt : m < xs.length
        · have cm := hc m hmt
          have hsn := count_snoc (xs.take m) (xs.getD m 0) (xs.getD k 0)
          rw [← take_snoc xs m hmt] at hsn
          have hle : (xs.take m).count (xs.getD k 0) ≤ (xs.take m).length := List.count_le_length
          have hlk : (xs.take m).length ≤ m := List.length_take_le _ _
          have HS := hid_ hsn
          clear hsn hc
          generalize (xs.take m).count (xs.getD k 0) = s at *
          generalize xs.getD m 0 = x at *
          generalize xs.getD k 0 = y at *
          have k0 : (0 : Int) ≤ (k : Int) := Int.natCast_nonneg _
          have k1 : (k : Int) < (xs.length : Int) := by omega
          have m0 : (0 : Int) ≤ (m : Int) := Int.natCast_nonneg _
          have m1 : (m : Int) < (xs.length : Int) := by omega
          go_wp2_with fail
          go_quiet (fail)
          by_cases hx : x = y
          · subst hx
            go_wp2_with fail
            go_roundw
            case rel => exact ⟨m + 1, by omega, by go_num, by rw [HS.out, if_pos rfl]; go_num, HK.out.below (below_drewN (Below.refl _ _) _)⟩
            case measure => simp [intOf]; omega
          · have hx' : (x == y) = false := by simpa using hx
            have HX := hid_ hx
            clear hx
            go_wp2_with fail
            go_roundw
            case rel => exact ⟨m + 1, by omega, by go_num, by rw [HS.out, if_neg HX.out], HK.out.below (below_drewN (Below.refl _ _) _)⟩
            case measure => simp [intOf]; omega
        · obtain rfl : m = xs.length := by omega
          rw [List.take_length]
          have hle : xs.count (xs.getD k 0) ≤ xs.length := List.count_le_length
          have hhit := fun h => mostz_hit xs k hlt h
          have HALL2 : Hid (2 * xs.count (xs.getD k 0) ≤ xs.length → ∀ j, j < k + 1 → 2 * xs.count (xs.getD j 0) ≤ xs.length) := hid_ (fun h j hj => by
            by_cases hjk : j < k
            · exact HALL.out j hjk
            · obtain rfl : j = k := by omega
              exact h)
          have HHIT := hid_ hhit
          clear hhit hc hmt hm HALL
          generalize hcnt : xs.count (xs.getD k 0) = s at *
          have HCNT := hid_ hcnt
          clear hcnt
          have VO := HK.out.1
          by_cases hbig : xs.length < 2 * s
          · have hm := HHIT.out hbig
            have HM := hid_ hm
            clear hm HCNT HHIT HALL2
            generalize xs.getD k 0 = y at *
            go_wp2_with fail
            go_ret2
            rw [HM.out]
            exact ⟨rfl, VO⟩
          · have HA := hid_ (HALL2.out (by omega))
            go_wp2_with fail
            go_roundw
            case rel => exact ⟨k + 1, by omega, by go_num, HA.out, HK.out⟩
            case measure => simp [intOf]; omega
    · obtain rfl : k = xs.length := by omega
      have hm := mostz_miss xs HALL.out
      have HM := hid_ hm
      have VO := HK.out.1
      clear hm HALL
      go_wp2_with fail
      go_ret2
      rw [HM.out]
      exact ⟨rfl, VO⟩

theorem tmod2_neg (a : Int) (h : a < 0) : a.tmod 2 = -((-a) % 2) := by
  have := Int.neg_tmod (-a) 2
  rw [Int.neg_neg] at this
  rw [this, Int.tmod_eq_emod_of_nonneg (by omega)]
theorem tdiv2_neg (a : Int) (h : a ≤ 0) : a.tdiv 2 = -((-a) / 2) := by
  have := Int.neg_tdiv (-a) 2
  rw [Int.neg_neg] at this
  rw [this, Int.tdiv_eq_ediv_of_nonneg (by omega)]
theorem wrap64_in {x : Int} (h : -9223372036854775808 ≤ x) (h1 : x ≤ 9223372036854775807) : wrap64 x = x := by unfold wrap64; omega
theorem down_odd (a : Int) (h1 : -9223372036854775808 ≤ a) (hn : a < 0) (hm : a.tmod 2 < 0) : wrap64 ((wrap64 (a - wrap64 (a.tmod 2 + 2))).tdiv 2) = a / 2 := by
  rw [tmod2_neg a hn] at *
  rw [wrap64_in (x := -((-a) % 2) + 2) (by omega) (by omega), wrap64_in (x := a - (-((-a) % 2) + 2)) (by omega) (by omega), tdiv2_neg _ (by omega), wrap64_in (by omega) (by omega)]
  omega
theorem down_even (a : Int) (h1 : -9223372036854775808 ≤ a) (hn : a < 0) (hm : 0 ≤ a.tmod 2) : wrap64 ((wrap64 (a - a.tmod 2)).tdiv 2) = a / 2 := by
  rw [tmod2_neg a hn] at *
  rw [wrap64_in (x := a - -((-a) % 2)) (by omega) (by omega), tdiv2_neg _ (by omega), wrap64_in (by omega) (by omega)]
  omega

theorem ret_i64 {a b : Int} (h : a = b) : Ending.returned (.int .i64 a) = .returned (.int .i64 b) := by rw [h]
set_option maxRecDepth 100000 in
set_option maxHeartbeats 1000000 in
theorem refDown (a : Int) (ha : Z64 a) (w : World) :
    Calls Try.prog 23 #[.int .i64 a, .int .i64 2] w fun e w' => e = .returned (.int .i64 (a / 2)) ∧ w = w' := by
  obtain ⟨h1, h2⟩ := ha
  by_cases hp : 0 ≤ a
  · go_enter Try.func23, Try.ntmps23
    go_wp2
    go_ret
    exact ⟨ret_i64 (by omega), rfl⟩
  · go_enter Try.func23, Try.ntmps23
    go_wp2
    · go_ret
      exact ⟨ret_i64 (down_odd a h1 (by omega) (by assumption)), rfl⟩
    · go_ret
      exact ⟨ret_i64 (down_even a h1 (by omega) (by assumption)), rfl⟩

set_option maxRecDepth 100000 in
set_option maxHeartbeats 1000000 in
theorem refSame (xs : List Int) (u v : Value) (w : World) (hu : IsInts w (fun _ => 0) u xs) (hv : IsInts w (fun _ => 0) v xs) (hl : xs.length ≤ 1000) :
    Calls Try.prog 16 #[u, v] w fun e w' => e = .returned (.bool true) ∧ Below w.heap.size w w' := by
  obtain ⟨a, cap, rfl, h1, h2⟩ := id hu.form
  obtain ⟨a', cap', rfl, h3, h4⟩ := id hv.form
  unfold maxLen at h2 h4
  have HK := hid_ (show Kept2 w (.slice a xs.length cap) xs (.slice a' xs.length cap') xs w from ⟨⟨Below.refl _ _, hu⟩, hv⟩)
  clear hu hv
  go_enter Try.func16, Try.ntmps16
  go_upto_block 1 with (fail)
  go_loopw [5] (fun i wr => ∃ k : Nat, k ≤ xs.length ∧ i = .int .i64 k ∧ Kept2 w (.slice a xs.length cap) xs (.slice a' xs.length cap') xs wr) (fun i _ => xs.length - (intOf i).toNat)
  case atStart => exact ⟨0, Nat.zero_le _, rfl, HK.out⟩
  case round =>
    obtain ⟨k, hk, rfl, hK⟩ := hrel
    clear HK
    have HK := hid_ hK
    clear hK
    by_cases hlt : k < xs.length
    · obtain ⟨b, off, rfl, hc⟩ := HK.out.1.2.cells (by omega)
      obtain ⟨b', off', rfl, hc'⟩ := HK.out.2.cells (by omega)
      have c1 := hc k hlt
      have c2 := hc' k hlt
      have k0 : (0 : Int) ≤ (k : Int) := Int.natCast_nonneg _
      have k1 : (k : Int) < (xs.length : Int) := by omega
      clear hc hc'
      generalize xs.getD k 0 = x at *
      go_wp2_with fail
      go_quiet (fail)
      go_wp2_with fail
      go_roundw
      case rel => exact ⟨k + 1, by omega, by go_num, HK.out.drewN _⟩
      case measure => simp [intOf]; omega
    · have VO := HK.out.1.1
      go_wp2_with fail
      go_ret
      exact ⟨rfl, VO⟩
end Go.Proofs.Ytpghhnapgleajaa
