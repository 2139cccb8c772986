/- The reference's Cut and Middle. No condition but a list of moderate length. -/
import Derived.Test.YtpghhnapgleajaaRefSort
import Derived.Test.YtpghhnapgleajaaRefMost
import Derived.Test.YtpghhnapgleajaaNum
set_option linter.unusedSimpArgs false
set_option linter.unusedVariables false
namespace Go.Proofs.Ytpghhnapgleajaa
open Go.RowKit Go.Maps

theorem num_two : num 2 = [50] := by decide +kernel
theorem numN_two : numN 2 = [50] := by decide +kernel

set_option maxRecDepth 100000 in
set_option maxHeartbeats 1000000 in
theorem refCut_no (xs : List Int) (f : Int) (v : Value) (w : World) (h : IsInts w (fun _ => 0) v xs) (hl : xs.length ≤ 400) (hno : CutNo xs f) :
    Calls Try.prog 11 #[v, .int .i64 f] w fun e w' => e = .returned (.tuple #[.slice none 0 0, .string ⟨#[50]⟩]) ∧ Below w.heap.size w w' := by
  obtain ⟨a, cap, rfl, h1, h2⟩ := id h.form
  unfold maxLen at h2
  have HE := hid_ (fun W => refE_any 2 (by omega) (by omega) W)
  by_cases hf0 : f < 0
  · go_enter Try.func11, Try.ntmps11
    go_wp2_with fail
    refine (HE.out _).mono ?_
    rintro e w1 ⟨rfl, V1⟩
    rw [num_two]
    go_wp2
    go_ret2
    exact ⟨rfl, V1⟩
  · by_cases h0 : xs.length = 0
    · have e0 : ((xs.length : Int) == 0) = true := by simp [h0]
      have H0 := hid_ h0
      clear h0
      go_enter Try.func11, Try.ntmps11
      go_wp2_with fail
      refine (HE.out _).mono ?_
      rintro e w1 ⟨rfl, V1⟩
      rw [num_two]
      go_wp2
      go_ret2
      exact ⟨rfl, V1⟩
    · have e0 : ((xs.length : Int) == 0) = false := beq_eq_false_iff_ne.2 (by omega)
      have hgt : ((xs.length : Int) - 1) / 2 < f := by unfold CutNo at hno; omega
      have hnn : (0 : Int) ≤ (xs.length : Int) - 1 := by omega
      go_enter Try.func11, Try.ntmps11
      go_wp2_with fail
      refine (HE.out _).mono ?_
      rintro e w1 ⟨rfl, V1⟩
      rw [num_two]
      go_wp2
      go_ret2
      exact ⟨rfl, V1⟩

set_option maxRecDepth 100000 in
set_option maxHeartbeats 1000000 in
theorem refCut_yes (xs : List Int) (f : Nat) (v : Value) (w : World) (h : IsInts w (fun _ => 0) v xs) (hl : xs.length ≤ 400) (hf2 : 2 * f < xs.length) :
    Calls Try.prog 11 #[v, .int .i64 (f : Int)] w fun e w' => ∃ v', e = .returned (.tuple #[v', .string ⟨#[]⟩]) ∧ IsInts w' (fun _ => 0) v' (cutz xs f) ∧ Below w.heap.size w w' := by
  obtain ⟨a, cap, rfl, h1, h2⟩ := id h.form
  unfold maxLen at h2
  have e0 : ((xs.length : Int) == 0) = false := beq_eq_false_iff_ne.2 (by omega)
  have ef : (0 : Int) ≤ (f : Int) := Int.natCast_nonneg _
  have hnn : (0 : Int) ≤ (xs.length : Int) - 1 := by omega
  have hle : (f : Int) ≤ ((xs.length : Int) - 1) / 2 := by omega
  go_enter Try.func11, Try.ntmps11
  go_wp2_with fail
  refine (refSorted xs _ _ h hl).mono ?_
  rintro e w1 ⟨sv, rfl, hs, hV⟩
  have hsl : (srt xs).length = xs.length := srt_len xs
  obtain ⟨sa, sc, rfl, hs1, hs2⟩ := id hs.form
  rw [hsl] at hs hs1 ⊢
  unfold maxLen at hs2
  obtain ⟨sb, so, rfl, hsc⟩ := hs.cells (by omega)
  have hlt := World.block_lt_of_cell? w1 _ (hsc 0 (by omega))
  have hcl' : (cutz xs f).length = xs.length - 2 * f := cutz_len xs f (by omega)
  have hsub : (f : Int) ≤ (xs.length : Int) - (f : Int) := by omega
  have hsub2 : (xs.length : Int) - (f : Int) ≤ (sc : Int) := by omega
  have hint : IsInts w1 (fun _ => 0) (.slice (some ⟨sb, so + f, none⟩) (xs.length - f - f) (sc - f)) (cutz xs f) := by
    refine ⟨_, _, by rw [hcl', show xs.length - 2 * f = xs.length - f - f by omega], by omega, by unfold maxLen; omega, by simp, fun hn => ⟨sb, so + f, rfl, rfl, hlt, fun i x hx => ?_⟩⟩
    have hi : i < xs.length - 2 * f := by
      have := (List.getElem?_eq_some_iff.1 hx).1
      rw [List.length_map, hcl'] at this
      exact this
    have e1 := hsc (f + i) (by omega)
    rw [Nat.add_assoc, e1]
    rw [List.getElem?_map] at hx
    have e2 := cutz_getD xs f i hi
    rw [List.getD_eq_getElem?_getD, List.getElem?_eq_getElem (by rw [hcl']; exact hi)] at e2
    rw [List.getElem?_eq_getElem (by rw [hcl']; exact hi)] at hx
    simp only [Option.map_some, Option.some.injEq, Option.getD_some] at hx e2
    rw [← hx, e2]
  have hne : ¬ sc = f := by omega
  clear hsc hs hcl' h hsl
  have HI := hid_ hint
  clear hint
  go_wp2_with fail
  go_ret2
  exact ⟨_, rfl, HI.out, hV⟩

set_option maxRecDepth 100000 in
set_option maxHeartbeats 1000000 in
theorem refMid_no (xs : List Int) (f : Int) (v : Value) (w : World) (h : IsInts w (fun _ => 0) v xs) (hl : xs.length ≤ 400) (hno : CutNo xs f) :
    Calls Try.prog 13 #[v, .int .i64 f] w fun e w' => e = .returned (.tuple #[.int .i64 0, .string ⟨#[50]⟩]) ∧ Below w.heap.size w w' := by
  obtain ⟨a, cap, rfl, h1, h2⟩ := id h.form
  go_enter Try.func13, Try.ntmps13
  go_wp2_with fail
  refine (refCut_no xs f _ w h hl hno).mono ?_
  rintro e w1 ⟨rfl, hV⟩
  go_wp2
  go_ret2
  exact ⟨rfl, hV⟩

theorem bit_one (A : Int) : bits BinOp.and IntKind.i64 A 1 = A % 2 := by
  unfold bits
  show IntKind.i64.wrap ((BitVec.ofInt 64 A &&& BitVec.ofInt 64 1).toNat : Int) = _
  rw [BitVec.toNat_and, show (BitVec.ofInt 64 1).toNat = 1 by decide, Nat.and_one_is_mod]
  have ha := ofInt_toNat A
  generalize (BitVec.ofInt 64 A).toNat = a at *
  have hw : ∀ n : Nat, n < 2 → IntKind.i64.wrap (n : Int) = n := fun n hn => by
    have : n = 0 ∨ n = 1 := by omega
    rcases this with rfl | rfl <;> decide
  rw [hw _ (Nat.mod_lt _ (by omega))]
  omega
theorem ret_mid {a b : Int} {s : ByteArray} (h : a = b) : Ending.returned (.tuple #[.int .i64 a, .string s]) = .returned (.tuple #[.int .i64 b, .string s]) := by rw [h]

set_option maxRecDepth 100000 in
set_option maxHeartbeats 1000000 in
theorem refMid_yes (xs : List Int) (hx : ∀ x ∈ xs, Z64 x) (f : Nat) (v : Value) (w : World) (h : IsInts w (fun _ => 0) v xs) (hl : xs.length ≤ 400) (hf2 : 2 * f < xs.length) :
    Calls Try.prog 13 #[v, .int .i64 (f : Int)] w fun e w' => e = .returned (.tuple #[.int .i64 (midz xs f), .string ⟨#[]⟩]) ∧ Below w.heap.size w w' := by
  obtain ⟨a, cap, rfl, h1, h2⟩ := id h.form
  go_enter Try.func13, Try.ntmps13
  go_wp2_with fail
  refine (refCut_yes xs f _ w h hl hf2).mono ?_
  rintro e w1 ⟨v', rfl, hi, hb⟩
  have hcl : (cutz xs f).length = xs.length - 2 * f := cutz_len xs f (by omega)
  obtain ⟨a', c', rfl, h3, h4⟩ := id hi.form
  unfold maxLen at h4
  obtain ⟨b, off, rfl, hc⟩ := hi.at (i := 0) (by omega)
  have c0 := hc 0 (by omega)
  have c1 := hc (xs.length - 2 * f - 1) (by omega)
  rw [cutz_getD xs f _ (by omega)] at c0 c1
  rw [show f + (xs.length - 2 * f - 1) = xs.length - 1 - f by omega] at c1
  rw [hcl] at *
  clear hc
  have hm : midz xs f = ((srt xs).getD f 0 + (srt xs).getD (xs.length - 1 - f) 0) / 2 := rfl
  have HM := hid_ hm
  clear hm
  rw [Nat.add_zero] at c0
  have zA := srt_getD_Z hx (k := f) (by omega)
  have zB := srt_getD_Z hx (k := xs.length - 1 - f) (by omega)
  generalize (srt xs).getD f 0 = A at *
  generalize (srt xs).getD (xs.length - 1 - f) 0 = B at *
  have HZA := hid_ zA
  have HZB := hid_ zB
  obtain ⟨a0, a1⟩ := zA
  obtain ⟨b0, b1⟩ := zB
  clear hcl
  obtain ⟨n, hn⟩ : ∃ n, n = xs.length - 2 * f := ⟨_, rfl⟩
  have hn1 : 1 ≤ n := by omega
  have hn2 : n ≤ 1000 := by omega
  have c1' : w1.cell? ⟨b, off + (n - 1), none⟩ = some (.int .i64 B) := by rw [hn]; exact c1
  rw [← hn]
  clear hn hf2 hi h hl c1
  have n1 : (0 : Int) ≤ (n : Int) - 1 := by omega
  have n2 : (n : Int) - 1 < (n : Int) := by omega
  have n3 : ((n : Int) - 1).toNat = n - 1 := by omega
  have n4 : (1 : Int) ≤ (n : Int) := by omega
  have n5 : 0 < n := by omega
  have n6 : IntKind.i64.wrap ((n : Int) - 1) = (n : Int) - 1 := IntWalk.i64_in _ (by omega)
  go_wp2_with fail
  go_quiet (fail)
  clear n3 n6
  have VB := below_drewN hb nq
  generalize w1.drewN nq = w2 at *
  have bA := bit_one A
  have bB := bit_one B
  by_cases oA : A % 2 = 1 <;> by_cases oB : B % 2 = 1
  all_goals
    first
      | have tA : (A % 2 == 1) = true := by simpa using oA
      | have tA : (A % 2 == 1) = false := by simpa using oA
    first
      | have tB : (B % 2 == 1) = true := by simpa using oB
      | have tB : (B % 2 == 1) = false := by simpa using oB
    have OA := hid_ oA
    have OB := hid_ oB
    clear oA oB
    go_wp2_with fail
    refine (refDown A HZA.out _).mono ?_
    rintro e w3 ⟨rfl, rfl⟩
    go_wp2_with fail
    refine (refDown B HZB.out _).mono ?_
    rintro e w3 ⟨rfl, rfl⟩
    go_wp2_with fail
    go_ret2
    refine ⟨?_, VB⟩
    rw [HM.out]
    have := OA.out
    have := OB.out
    exact ret_mid (by omega)
end Go.Proofs.Ytpghhnapgleajaa
