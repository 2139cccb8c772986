/- slices.Sort at uint8, at no more than twelve elements: the library's own text is walked. No condition. -/
import Derived.Sort.WalkA
import Derived.Sort.Walk13a
import Derived.Sort.OwnSorted
import Derived.Sort.OwnSortedInts
import Derived.Sort.EveryDepth
import Derived.Shelf.SortM.So_math_bits_LenIn
import Derived.Test.YtomcjmgbkpbdpaaBase
import Derived.Test.YtomcjmgbkpbdpaaProg
set_option linter.unusedSimpArgs false
set_option linter.unusedVariables false
namespace Go.Proofs.Ytomcjmgbkpbdpaa
open Go.RowKit Go.Sort Go.Maps Go.Proofs

set_option maxHeartbeats 1000000 in
theorem isNaN8 (x : Int) (w : World) : Calls Try.prog 46 #[.int .u8 x] w fun e w' => e = .returned (.bool false) ∧ w' = w := by
  go_enter Try.func46, Try.ntmps46
  go_wp2
  go_ret
  exact ⟨by simp, rfl⟩
set_option maxHeartbeats 1000000 in
theorem less8 (x y : Int) (w : World) : Calls Try.prog 36 #[.int .u8 x, .int .u8 y] w fun e w' => e = .returned (.bool (Sort.ltInt x y)) ∧ w' = w := by
  go_enter Try.func36, Try.ntmps36
  go_wp2_with (go_at_call 46; refine (isNaN8 _ _).mono ?_; rintro e w' ⟨rfl, rfl⟩)
  go_ret
  exact ⟨rfl, rfl⟩

set_option maxRecDepth 100000 in
set_option maxHeartbeats 4000000 in
theorem insertion8 (blk off cap a b : Nat) (d : Array Int) (w : World) (hH : Holds (Value.int .u8) w blk off d) (hab : a ≤ b) (hb : b ≤ d.size) (hsz : d.size < 4611686018427387904) :
    Calls Try.prog 30 #[.slice (some ⟨blk, off, none⟩) d.size cap, .int .i64 a, .int .i64 b] w fun e w' =>
      e = .returned (.tuple #[]) ∧ ∃ n, w' = putRow (Value.int .u8) (Sort.ahead w n) blk off (Sort.insertionSort ltInt d a b) := by
  go_enter Try.func30, Try.ntmps30
  go_wp2
  go_loopw [6] (fun vi wr => ∃ (i n : Nat) (dk : Array Int), vi = .int .i64 i ∧ a < i ∧ i ≤ b + 1 ∧ dk.size = d.size ∧ wr = putRow (Value.int .u8) (Sort.ahead w n) blk off dk ∧
      insOuter ltInt a b i dk = insOuter ltInt a b (a + 1) d) (fun vi _ => b + 1 - (intOf vi).toNat)
  case atStart => exact ⟨a + 1, 0, d, by go_num, by omega, by omega, rfl, (putRow_self _ _ _ _ _ hH).symm, rfl⟩
  case round =>
    obtain ⟨i, n, dk, rfl, hai, hib, hsk, hwr, hO⟩ := hrel
    have HO : Hid (insOuter ltInt a b i dk = insOuter ltInt a b (a + 1) d) := hO
    clear hO
    go_wp2
    · go_loopw [7] (fun vj wr2 => ∃ (j m : Nat) (dj : Array Int), vj = .int .i64 j ∧ a ≤ j ∧ j ≤ i ∧ dj.size = d.size ∧ wr2 = putRow (Value.int .u8) (Sort.ahead w m) blk off dj ∧
          insInner ltInt a j dj = insInner ltInt a i dk) (fun vj _ => (intOf vj).toNat)
      case atStart => exact ⟨i, n, dk, rfl, by omega, Nat.le_refl _, hsk, rfl, rfl⟩
      case round =>
        obtain ⟨j, m, dj, rfl, haj, hji, hsj, hw2, hI⟩ := hrel
        have hlt : i < b := by assumption
        obtain ⟨G, hG⟩ : ∃ G : Nat → Int, ∀ t, G t = dj[t]! := ⟨fun t => dj[t]!, fun _ => rfl⟩
        have hcw : ∀ t, t < d.size → wr.cell? ⟨blk, off + t, none⟩ = some (.int .u8 (G t)) := fun t ht => by
          rw [hw2, hG]; exact cell?_putRow _ _ _ _ d dj (holds_ahead _ _ _ _ _ _ hH) hsj t (by omega)
        have hfw : ∀ t, t < d.size → wr.frozen? ⟨blk, off + t, none⟩ = false := fun t ht => by
          rw [hw2, frozen?_putRow]; exact ((holds_ahead _ _ m _ _ _ hH) t ht).2
        have HW : Hid (wr = putRow (Value.int .u8) (Sort.ahead w m) blk off dj) := hw2
        have HG : Hid (∀ t, G t = dj[t]!) := hG
        have HI : Hid (insInner ltInt a j dj = insInner ltInt a i dk) := hI
        clear hw2 hG hI hH
        have out : (j ≤ a ∨ ltInt dj[j]! dj[j - 1]! = false) → ∀ q, ∃ i' n' dk', Value.int .i64 ((i : Int) + 1) = .int .i64 (i' : Nat) ∧ a < i' ∧ i' ≤ b + 1 ∧ dk'.size = d.size ∧
            wr.drewN q = putRow (Value.int .u8) (Sort.ahead w n') blk off dk' ∧ insOuter ltInt a b i' dk' = insOuter ltInt a b (a + 1) d := fun hs q =>
          ⟨i + 1, m + q, dj, by go_num, by omega, by omega, hsj, by rw [HW.out]; exact putRow_drewN _ _ _ _ _ _ _,
            by rw [← HO.out, insOuter_go _ _ _ _ _ hlt, ← HI.out, insInner_stop _ _ _ _ hs]⟩
        have OUT : Hid _ := out
        clear out
        go_wp2
        by_cases hja : a < j
        · go_quiet (first | (go_at_call 36; refine Calls.quiet_of_same (less8 _ _ _)))
          go_wp2
          · have hl : ltInt (G j) (G (j - 1)) = true := by assumption
            go_region
            all_goals go_wp2
            go_roundw
            case rel =>
              refine ⟨j - 1, m + (nq + 1), swp dj j (j - 1), by congr 1; omega, by omega, by omega, by rw [size_swp]; exact hsj, ?_, ?_⟩
              · rw [HW.out, HG.out, HG.out]
                exact swap_worldA _ w m (nq + 1) blk off dj j (j - 1) (by omega) (by omega)
              · rw [← HI.out, insInner_go ltInt a j dj hja (by rw [← HG.out, ← HG.out]; exact hl)]
            case measure => simp [intOf]; omega
          · have hl : ltInt (G j) (G (j - 1)) = false := by assumption
            go_roundw
            case rel => exact OUT.out (Or.inr (by rw [← HG.out, ← HG.out]; exact hl)) nq
            case measure => simp [intOf]; omega
        · go_quiet (first | (go_at_call 36; refine Calls.quiet_of_same (less8 _ _ _)))
          go_wp2
          go_roundw
          case rel => exact OUT.out (Or.inl (by omega)) nq
          case measure => simp [intOf]; omega
    · have hge : ¬ i < b := by assumption
      go_end0
      exact ⟨rfl, n, by unfold Sort.insertionSort; rw [← HO.out, insOuter_stop _ _ _ _ _ hge]⟩

def bits8_ren : Go.Shelf.Ren := ⟨fun | 8 => 29 | 19 => 39 | 20 => 40 | n => n, fun | 3 => 3 | 32 => 77 | 44 => 88 | 46 => 90 | 4 => 4 | 5 => 5 | 9 => 9 | n => n, fun n => n⟩
theorem bits8L : Go.Proofs.SlLaysM.n8 Try.prog bits8_ren := {
  mixed := by kernel_rfl,
  f8 := Try.func29.trans (congrArg some (by kernel_rfl)),
  f19 := Try.func39.trans (congrArg some (by kernel_rfl)),
  f20 := Try.func40.trans (congrArg some (by kernel_rfl)),
  t3 := Try.underlying3,
  a3 := Try.isAgg3,
  z3 := Try.sizeOf3,
  v3 := Try.zeroValue3,
  t4 := Try.underlying4,
  a4 := Try.isAgg4,
  z4 := Try.sizeOf4,
  v4 := Try.zeroValue4,
  t5 := Try.underlying5,
  a5 := Try.isAgg5,
  z5 := Try.sizeOf5,
  v5 := Try.zeroValue5,
  t9 := Try.underlying9,
  a9 := Try.isAgg9,
  z9 := Try.sizeOf9,
  v9 := Try.zeroValue9,
  t32 := Try.underlying77,
  a32 := Try.isAgg77,
  z32 := Try.sizeOf77,
  v32 := Try.zeroValue77,
  t44 := Try.underlying88,
  a44 := Try.isAgg88,
  z44 := Try.sizeOf88,
  v44 := Try.zeroValue88,
  t46 := Try.underlying90,
  a46 := Try.isAgg90,
  z46 := Try.sizeOf90,
  v46 := Try.zeroValue90 }
theorem bits8 (x : Int) (w : World) (h0 : 0 ≤ x) (h1 : x ≤ 18446744073709551615) : Calls Try.prog 29 #[.int .u64 x] w fun e w' => e = .returned (.int .i64 (Lib.bitLen x.toNat)) ∧ w' = w :=
  calls_of_every_depth fun D => AnySM.bits_LenIn bits8L D x w h0 h1

set_option maxHeartbeats 1000000 in
theorem pdq8 (blk off cap : Nat) (lim : Int) (d : Array Int) (w : World) (hH : Holds (Value.int .u8) w blk off d) (h12 : d.size ≤ 12) :
    Calls Try.prog 28 #[.slice (some ⟨blk, off, none⟩) d.size cap, .int .i64 (0 : Nat), .int .i64 d.size, .int .i64 lim] w fun e w' =>
      e = .returned (.tuple #[]) ∧ ∃ n, w' = putRow (Value.int .u8) (Sort.ahead w n) blk off (Sort.insertionSort ltInt d 0 d.size) := by
  have HI := hid_ (insertion8 blk off cap 0 d.size d w hH (Nat.zero_le _) (Nat.le_refl _) (by omega))
  have e0 : (d.size : Int) - ((0 : Nat) : Int) ≤ 12 := by omega
  go_enter Try.func28, Try.ntmps28
  go_wp2_with fail
  refine wp_loop_rounds 1 ?_
  rw [rounds_succ]
  go_wp2_with fail
  refine HI.out.mono ?_
  rintro e w' ⟨rfl, n, rfl⟩
  go_wp2
  refine bodyPost_ret (results_none rfl _ _ _) rfl ?_
  exact ⟨rfl, n, rfl⟩

theorem ins_eq (zs : List Int) : Sort.insertionSort ltInt zs.toArray 0 zs.toArray.size = (zs.mergeSort fun x y => decide (x ≤ y)).toArray := by
  obtain ⟨hP, hSo⟩ := insertionSort_holds swo_ltInt zs.toArray 0 zs.toArray.size (Nat.zero_le _) (Nat.le_refl _)
  have h := sorted_unique_holds swo_ltInt (fun x y h1 h2 => by simp only [ltInt, decide_eq_false_iff_not] at h1 h2; omega) zs.toArray _ hP hSo
  have he : (fun x y => !ltInt y x) = (fun x y : Int => decide (x ≤ y)) := by
    funext x y
    simp only [ltInt]
    by_cases h : y < x
    · simp [h]
    · simp [h]; omega
  rw [he] at h
  have h2 := congrArg List.toArray h
  rw [Array.toArray_toList] at h2
  rw [h2]

set_option maxHeartbeats 1000000 in
theorem sort8 (blk off cap : Nat) (zs : List Int) (w : World) (hH : Holds (Value.int .u8) w blk off zs.toArray) (h12 : zs.length ≤ 12) :
    Calls Try.prog 25 #[.slice (some ⟨blk, off, none⟩) zs.length cap] w fun e w' =>
      e = .returned (.tuple #[]) ∧ ∃ n, w' = putRow (Value.int .u8) (Sort.ahead w n) blk off (zs.mergeSort fun x y => decide (x ≤ y)).toArray := by
  have HP := hid_ (fun lim => pdq8 blk off cap lim zs.toArray w hH (by simpa using h12))
  have hsz : zs.toArray.size = zs.length := by simp
  rw [ins_eq, hsz] at HP
  have h0 : (0 : Int) ≤ (zs.length : Int) := by omega
  have h1 : (zs.length : Int) ≤ 18446744073709551615 := by omega
  have HB := hid_ (bits8 (zs.length : Int) w h0 h1)
  go_enter Try.func25, Try.ntmps25
  go_wp2_with fail
  refine HB.out.mono ?_
  rintro e w' ⟨rfl, rfl⟩
  go_wp2_with fail
  refine (HP.out _).mono ?_
  rintro e w' ⟨rfl, n, rfl⟩
  go_wp2
  go_end0
  exact ⟨rfl, n, rfl⟩
end Go.Proofs.Ytomcjmgbkpbdpaa
