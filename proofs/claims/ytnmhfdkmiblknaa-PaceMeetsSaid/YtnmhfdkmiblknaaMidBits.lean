/- The middle of two numbers, as the program reckons it. No condition. -/
import Derived.Laws.Entries
import Derived.RowKit
set_option linter.unusedSimpArgs false
set_option linter.unusedVariables false
namespace Go.Proofs.Ytnmhfdkmiblknaa
open Go.RowKit
theorem ofInt_toNat (x : Int) : ((BitVec.ofInt 64 x).toNat : Int) = x % 18446744073709551616 := by
  rw [BitVec.toNat_ofInt]
  omega
theorem wrap_i64_eq (x : Int) : IntKind.i64.wrap x % 18446744073709551616 = x % 18446744073709551616 := by
  unfold IntKind.wrap
  simp only [IntKind.signed, IntKind.bits]
  first
    | omega
    | (split <;> omega)
    | (simp; omega)
theorem and_odd (A B : Int) : bits BinOp.and IntKind.i64 (bits BinOp.and IntKind.i64 A B) 1 = if A % 2 = 1 ∧ B % 2 = 1 then 1 else 0 := by
  have e1 : ∀ x y : Int, bits BinOp.and IntKind.i64 x y = IntKind.i64.wrap (((BitVec.ofInt 64 x).toNat &&& (BitVec.ofInt 64 y).toNat : Nat) : Int) := fun x y => by
    unfold bits
    show IntKind.i64.wrap ((BitVec.ofInt 64 x &&& BitVec.ofInt 64 y).toNat : Int) = _
    rw [BitVec.toNat_and]
  rw [e1 (bits BinOp.and IntKind.i64 A B) 1, e1 A B]
  have h1 : (BitVec.ofInt 64 1).toNat = 1 := by decide
  rw [h1, Nat.and_one_is_mod]
  have h2 := ofInt_toNat (IntKind.i64.wrap (((BitVec.ofInt 64 A).toNat &&& (BitVec.ofInt 64 B).toNat : Nat) : Int))
  rw [wrap_i64_eq] at h2
  generalize (BitVec.ofInt 64 (IntKind.i64.wrap (((BitVec.ofInt 64 A).toNat &&& (BitVec.ofInt 64 B).toNat : Nat) : Int))).toNat = m at *
  have h3 := @Nat.and_mod_two_eq_one (BitVec.ofInt 64 A).toNat (BitVec.ofInt 64 B).toNat
  have ha := ofInt_toNat A
  have hb := ofInt_toNat B
  generalize (BitVec.ofInt 64 A).toNat &&& (BitVec.ofInt 64 B).toNat = k at *
  generalize (BitVec.ofInt 64 A).toNat = a at *
  generalize (BitVec.ofInt 64 B).toNat = b at *
  have h4 : m % 2 = k % 2 := by omega
  rw [h4]
  have hw : ∀ n : Nat, n < 2 → IntKind.i64.wrap (n : Int) = n := fun n hn => by
    have : n = 0 ∨ n = 1 := by omega
    rcases this with rfl | rfl <;> decide
  rw [hw _ (Nat.mod_lt _ (by omega))]
  have hA : A % 2 = 1 ↔ a % 2 = 1 := by omega
  have hB : B % 2 = 1 ↔ b % 2 = 1 := by omega
  have : k % 2 < 2 := Nat.mod_lt _ (by omega)
  by_cases h : k % 2 = 1
  · rw [if_pos (by have := h3.1 h; exact ⟨hA.2 this.1, hB.2 this.2⟩)]; omega
  · rw [if_neg (fun hh => h (h3.2 ⟨hA.1 hh.1, hB.1 hh.2⟩))]; omega
theorem mid_half (A B : Int) : A / 2 + B / 2 + bits BinOp.and IntKind.i64 (bits BinOp.and IntKind.i64 A B) 1 = (A + B) / 2 := by
  rw [and_odd]
  by_cases h : A % 2 = 1 ∧ B % 2 = 1
  · rw [if_pos h]; omega
  · rw [if_neg h]; omega
end Go.Proofs.Ytnmhfdkmiblknaa
