/- A coming at a pace, whether it counts or not, in the program's pace and in the document's; ranges of deviations. No condition but moderate times. -/
import Derived.Test.YtnmhfdkmiblknaaLieP
import Derived.Test.YtnmhfdkmiblknaaRPace3
import Derived.Test.YtnmhfdkmiblknaaPaceX
set_option linter.unusedSimpArgs false
set_option linter.unusedVariables false
namespace Go.Proofs.Ytnmhfdkmiblknaa
open Go.RowKit Go.Maps

def hearD (c : Cfg) (me : Int) (cold : Bool) (since rate : Int) (devs : List Int) (has : List Bool) (node real : Int) : List Int := if hearB c.nodes me cold has node then devs.set node.toNat (devOf c since rate node real) else devs
def hearH (c : Cfg) (me : Int) (cold : Bool) (has : List Bool) (node : Int) : List Bool := if hearB c.nodes me cold has node then has.set node.toNat true else has
theorem paceHear_any (C : Nat → Nat) (k pb kb db hb : Nat) (c : Cfg) (pv qv rv : Value) (me : Int) (cold : Bool) (since rate : Int) (devs : List Int) (has : List Bool) (node real : Int) (hg : Ranges c) (hr : -200 ≤ rate ∧ rate ≤ 200) (hx : -1000000000000 ≤ real - since ∧ real - since ≤ 1000000000000) (w : World)
    (h : IsPace w C k pb kb db hb c pv qv rv me cold since rate devs has) :
    Calls Try.prog 13 #[.pointer (some ⟨pb, 0, none⟩), .int .i64 node, .int .i64 real] w fun e w' => e = .returned (.bool (hearB c.nodes me cold has node)) ∧ Fr (· = k) C C w w' ∧ IsPace w' C k pb kb db hb c pv qv rv me cold since rate (hearD c me cold since rate devs has node real) (hearH c me cold has node) := by
  unfold hearD hearH
  cases hN : hearB c.nodes me cold has node with
  | true => exact paceHear_yes C k pb kb db hb c pv qv rv me cold since rate devs has node real hg hr hx w h hN
  | false =>
    refine (paceHear_no C k pb kb db hb c pv qv rv me cold since rate devs has node real w h hN).mono ?_
    rintro e w' ⟨rfl, rfl⟩
    exact ⟨rfl, Fr.refl _ _ _, h⟩
theorem rpHear_any (C : Nat → Nat) (k pb db hb : Nat) (c : Cfg) (pv qv rv : Value) (me : Int) (cold : Bool) (since rate : Int) (devs : List Int) (has : List Bool) (node real : Int) (hg : Ranges c) (hr : -200 ≤ rate ∧ rate ≤ 200) (hx : -1000000000000 ≤ real - since ∧ real - since ≤ 1000000000000) (w : World)
    (h : IsRP w C k pb db hb c pv qv rv me cold since rate devs has) :
    Calls Try.prog 24 #[.pointer (some ⟨pb, 0, none⟩), .int .i64 node, .int .i64 real] w fun e w' => e = .returned (.bool (hearB c.nodes me cold has node)) ∧ Fr (· = k) C C w w' ∧ IsRP w' C k pb db hb c pv qv rv me cold since rate (hearD c me cold since rate devs has node real) (hearH c me cold has node) := by
  unfold hearD hearH
  cases hN : hearB c.nodes me cold has node with
  | true => exact rpHear_yes C k pb db hb c pv qv rv me cold since rate devs has node real hg hr hx w h hN
  | false =>
    refine (rpHear_no C k pb db hb c pv qv rv me cold since rate devs has node real w h hN).mono ?_
    rintro e w' ⟨rfl, rfl⟩
    exact ⟨rfl, Fr.refl _ _ _, h⟩
/-- Deviations are moderate. -/
def DevOk (devs : List Int) : Prop := ∀ x ∈ devs, -6000000000 ≤ x ∧ x ≤ 6000000000
theorem lclk_rng2 (since rate real : Int) (hr : -200 ≤ rate ∧ rate ≤ 200) (hx : -4294967296 ≤ real - since ∧ real - since ≤ 4294967296) : -4300000000 ≤ lclk since rate real ∧ lclk since rate real ≤ 4300000000 := by
  unfold lclk
  obtain ⟨x, hx0⟩ : ∃ x, real - since = x := ⟨_, rfl⟩
  rw [hx0] at hx ⊢
  have key : -4295900000000000 ≤ x * (1000000 + rate) ∧ x * (1000000 + rate) ≤ 4295900000000000 := by
    rcases (by omega : 0 ≤ x ∨ x < 0) with h | h
    · have h1 := Int.mul_le_mul (a := x) (b := 1000000 + rate) (c := 4294967296) (d := 1000200) (by omega) (by omega) (by omega) (by omega)
      have h2 := Int.mul_nonneg (a := x) (b := 1000000 + rate) h (by omega)
      omega
    · obtain ⟨y, rfl⟩ : ∃ y, x = -y := ⟨-x, by omega⟩
      have h1 := Int.mul_le_mul (a := y) (b := 1000000 + rate) (c := 4294967296) (d := 1000200) (by omega) (by omega) (by omega) (by omega)
      have h2 := Int.mul_nonneg (a := y) (b := 1000000 + rate) (by omega) (by omega)
      rw [Int.neg_mul]
      omega
  omega
theorem DevOk.hear {c : Cfg} {me : Int} {cold : Bool} {since rate : Int} {devs : List Int} {has : List Bool} {node real : Int} (h : DevOk devs) (hg : Ranges c) (hr : -200 ≤ rate ∧ rate ≤ 200) (hx : -4294967296 ≤ real - since ∧ real - since ≤ 4294967296) : DevOk (hearD c me cold since rate devs has node real) := by
  intro x hx'
  unfold hearD at hx'
  cases hN : hearB c.nodes me cold has node with
  | false => rw [hN] at hx'; exact h x hx'
  | true =>
    rw [hN, if_pos rfl] at hx'
    rcases List.mem_or_eq_of_mem_set hx' with h1 | h1
    · exact h x h1
    · rw [h1]
      have hb : ¬ node < 0 ∧ ¬ c.nodes ≤ node := by
        unfold hearB at hN
        simp only [Bool.not_eq_true', Bool.or_eq_false_iff, decide_eq_false_iff_not] at hN
        exact ⟨hN.1.1.1, hN.1.1.2⟩
      have n1 := hg.n1
      have s := send_rng hg node ⟨by omega, by omega⟩
      have m := mean_rng hg
      have l := lclk_rng2 since rate real hr hx
      unfold devOf
      omega
theorem DevOk.zero (n : Nat) : DevOk (List.replicate n 0) := fun x hx => by rw [List.mem_replicate] at hx; omega
theorem DevOk.z {devs : List Int} (h : DevOk devs) : ∀ x ∈ devs, Z64 x := fun x hx => by have := h x hx; unfold Z64; omega
theorem DevOk.mid {devs : List Int} (h : DevOk devs) (cold : Bool) (me : Int) (has : List Bool) (f : Nat) : -900000000000 ≤ midV (turnL cold me devs has) f ∧ midV (turnL cold me devs has) f ≤ 900000000000 := by
  have hL : ∀ x ∈ turnL cold me devs has, -6000000000 ≤ x ∧ x ≤ 6000000000 := by
    intro x hx
    unfold turnL at hx
    split at hx
    · obtain ⟨j, hj, rfl⟩ := heardL_mem hx
      rw [List.getD_eq_getElem?_getD]
      rcases Nat.lt_or_ge j devs.length with h1 | h1
      · rw [List.getElem?_eq_getElem h1]; exact h _ (List.getElem_mem h1)
      · rw [List.getElem?_eq_none h1]; simp
    · exact h x hx
  obtain ⟨L, hl⟩ : ∃ L, turnL cold me devs has = L := ⟨_, rfl⟩
  rw [hl] at hL ⊢
  unfold midV
  by_cases hc : CutNo L (f : Int)
  · rw [if_pos hc]; omega
  · rw [if_neg hc]
    have h0 : L.countP (outB (-6000000000) 6000000000) = 0 := List.countP_eq_zero.2 fun x hx => by have := hL x hx; unfold outB; simp; omega
    have := mid_count L f (-6000000000) 6000000000 (by unfold CutNo at hc; omega) (by omega)
    omega
/-- The texts of Turn's errors. -/
theorem read_errN (o : Option Int) (ho : o = none ∨ o = some 2) (w : World) : Calls Try.prog 19 #[errN o] w fun e w' => e = .returned (.string (numN2 o)) ∧ Below w.heap.size w w' := by
  rcases ho with rfl | rfl
  · exact read_nil w
  · exact says_num w 2 (by omega) w (Below.refl _ _)
theorem midE_two (l : List Int) (f : Nat) : midE l f = none ∨ midE l f = some 2 := by unfold midE; split <;> simp
end Go.Proofs.Ytnmhfdkmiblknaa
