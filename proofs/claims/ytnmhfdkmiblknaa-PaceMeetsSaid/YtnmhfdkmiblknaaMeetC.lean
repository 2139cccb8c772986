/- PaceMeets' closure: a number out of a list, below a bound. No condition but moderate bounds. -/
import Derived.Test.YtnmhfdkmiblknaaMeetQ
import Derived.BigQuiet
import Derived.Deep.QuietTactic
set_option linter.unusedSimpArgs false
set_option linter.unusedVariables false
namespace Go.Proofs.Ytnmhfdkmiblknaa
open Go.RowKit Go.Maps

def atV (l : List Int) (i : Nat) (n : Int) : Int := if i < l.length then (IntKind.u64.wrap (l.getD i 0)).tmod n else 0
theorem u64_nonneg (x : Int) : 0 ≤ IntKind.u64.wrap x ∧ IntKind.u64.wrap x < 18446744073709551616 := by simp [IntKind.wrap, IntKind.signed, IntKind.bits]; omega
theorem atV_rng (l : List Int) (i : Nat) (n : Int) (hn : 0 < n) : 0 ≤ atV l i n ∧ atV l i n < n := by
  unfold atV
  split
  · rw [Int.tmod_eq_emod_of_nonneg (u64_nonneg _).1]
    exact ⟨Int.emod_nonneg _ (by omega), Int.emod_lt_of_pos _ hn⟩
  · omega
theorem u64_keep (n : Int) (h : 0 < n ∧ n ≤ 1000000000000) : IntKind.u64.wrap n = n := by simp [IntKind.wrap, IntKind.signed, IntKind.bits]; omega
set_option maxRecDepth 100000 in
theorem meetAt (l : List Int) (v : Value) (i : Nat) (n : Int) (hn : 0 < n ∧ n ≤ 1000000000000) (hi : i ≤ 1000) (w : World) (h : IsInts w (fun _ => 0) v l) :
    Calls Try.prog 9 #[v, .int .i64 (i : Int), .int .i64 n] w fun e w' => e = .returned (.int .i64 (atV l i n)) ∧ w' = w := by
  obtain ⟨oa, oc, rfl, hoc, hom⟩ := id h.form
  unfold maxLen at hom
  have j0 : (0 : Int) ≤ (i : Int) := Int.natCast_nonneg _
  by_cases ho : i < l.length
  · have jo : (i : Int) < (l.length : Int) := by omega
    obtain ⟨bo, oo, rfl, hco⟩ := h.at ho
    have xo := hco i ho
    obtain ⟨s, hs⟩ : ∃ s, atV l i n = s := ⟨_, rfl⟩
    have hr := atV_rng l i n hn.1
    rw [hs] at hr ⊢
    unfold atV at hs
    rw [if_pos ho] at hs
    obtain ⟨xx, hxx⟩ : ∃ x, l.getD i 0 = x := ⟨_, rfl⟩
    rw [hxx] at xo hs
    have a1 := u64_keep n hn
    have a2 : (n == 0) = false := by simp; omega
    have a8 : ¬ n = 0 := by omega
    obtain ⟨n0, n1⟩ := hn
    obtain ⟨r0, r1⟩ := hr
    have a3 : IntKind.u64.wrap s = s := by simp [IntKind.wrap, IntKind.signed, IntKind.bits]; omega
    have a4 : IntKind.i64.wrap s = s := IntWalk.i64_in _ (by omega)
    have a5 : wrap64 s = s := by unfold wrap64; omega
    clear hco hxx h ho
    go_enter Try.func9, Try.ntmps9
    go_wp2
    go_ret
    exact ⟨rfl, rfl⟩
  · have jo : ¬ (i : Int) < (l.length : Int) := by omega
    have hs : atV l i n = 0 := by unfold atV; rw [if_neg ho]
    rw [hs]
    clear hs h ho
    go_enter Try.func9, Try.ntmps9
    go_wp2
    go_ret
    exact ⟨rfl, rfl⟩
end Go.Proofs.Ytnmhfdkmiblknaa
