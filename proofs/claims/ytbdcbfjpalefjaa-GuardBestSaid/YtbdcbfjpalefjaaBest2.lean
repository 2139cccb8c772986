/- Package guard's Best: Take; bytes as strings. No condition but the tables' own ranges. -/
import Derived.Test.YtbdcbfjpalefjaaGuard3
import Derived.Test.YtbdcbfjpalefjaaBest
set_option linter.unusedSimpArgs false
set_option linter.unusedVariables false
namespace Go.Proofs.Ytbdcbfjpalefjaa
open Go.RowKit Go.Maps

theorem loadCells_zero {P : Program} (w : World) (a : Addr) : (loadCells a 0).run P w = .ok #[] w := by
  have := run_loadCells_list (P := P) w a [] (by simp)
  simpa using this
/-- Bytes that are read as a string. -/
theorem bytes_str {w : World} {C : Nat → Nat} {v : Value} {d : List UInt8} (h : IsBytes w C v d) : (convert 55 9 v).run Try.prog w = .ok (.string ⟨d.toArray⟩) w := by
  obtain ⟨a, cap, rfl, h1, h2, h3, h4⟩ := h
  by_cases hn : 0 < d.length
  · obtain ⟨b, off, rfl, _, _, hc⟩ := h4 hn
    refine str_of d fun i x hx => hc i _ ?_
    unfold byteV
    rw [List.getElem?_map, hx]
    rfl
  · have hd : d = [] := List.eq_nil_of_length_eq_zero (by omega)
    subst hd
    rw [run_convert_bytes_string w _ _ _ _ _ _ Try.underlying55 Try.underlying5 Try.underlying9]
    cases a with
    | none => rfl
    | some a =>
      have hc := loadCells_zero (P := Try.prog) w a
      exact run_bytesToString (P := Try.prog) w a 0 cap [] (by simpa using hc)

def takeOk (c : Cfg) (q : List (List UInt8)) (at_ : Int) : Bool := decide (0 < q.length) && decide (c.nodes * c.slot ≤ at_) && decide (at_ < c.round)

set_option maxRecDepth 100000 in
set_option maxHeartbeats 1000000 in
theorem bestTake_no (c : Cfg) (pv qv rv : Value) (h : Ranges c) (C : Nat → Nat) (k b : Nat) (q : List (List UInt8)) (at_ : Int) (w : World) (hB : IsBest w C k b q) (hn : takeOk c q at_ = false) :
    Calls Try.prog 19 #[.pointer (some ⟨b, 0, none⟩), c.v pv qv rv, .int .i64 at_] w fun e w' => e = .returned (.tuple #[.slice none 0 0, .bool false]) ∧ Below w.heap.size w w' := by
  obtain ⟨v, vs, hB, hCb, hS, hA⟩ := hB
  have hlen := hA.len
  obtain ⟨a, cap, rfl, hc, hcm, hl⟩ := hS.form
  have c0 := fun o => (hB.alloc o).cell_ 0 rfl
  have hb := fun o => (Below.refl w.heap.size w).alloc (Nat.le_refl _) o
  obtain ⟨rr0, rr1⟩ := h.round
  have n0 := h.n0
  have n1 := h.n1
  have s0 := h.s0
  have s1 := h.s1
  have m0 : 0 ≤ c.nodes * c.slot := Int.mul_nonneg (by omega) (by omega)
  have m1 : c.nodes * c.slot ≤ 117440512 := by
    have := Int.mul_le_mul n1 s1 (by omega) (by omega)
    omega
  unfold maxLen at hcm
  by_cases h0 : vs.length = 0
  · have hz : vs = [] := List.eq_nil_of_length_eq_zero h0
    subst hz
    unfold Cfg.v
    clear hlen hl h0
    go_enter Try.func19, Try.ntmps19
    go_wp2
    go_ret2
    exact ⟨rfl, hb _⟩
  · have h0' : 0 < vs.length := by omega
    have hql : 0 < q.length := by omega
    clear hlen hl h0 hS hB hA hc
    generalize vs.length = n at c0 h0'
    have h0 : (n == 0) = false := by simp; omega
    have h0i : ((n : Int) == 0) = false := by simp; omega
    by_cases h1 : at_ < c.nodes * c.slot
    · unfold Cfg.v
      go_enter Try.func19, Try.ntmps19
      go_wp2
      go_ret2
      exact ⟨rfl, hb _⟩
    · have h2 : c.round ≤ at_ := by
        unfold takeOk at hn
        simp only [Bool.and_eq_false_iff, decide_eq_false_iff_not] at hn
        omega
      have HR := hid_ (sndRound c pv qv rv h (w.alloc (.cells (c.cells pv qv rv).toArray 26)))
      unfold Cfg.v at HR ⊢
      go_enter Try.func19, Try.ntmps19
      go_wp2_with fail
      refine (HR.out).mono ?_
      rintro e w1 ⟨rfl, hw1⟩
      have hw1' := below_then (hb _) hw1
      go_wp2
      go_ret2
      exact ⟨rfl, hw1'⟩

set_option maxRecDepth 100000 in
set_option maxHeartbeats 1000000 in
theorem bestTake_ok (c : Cfg) (pv qv rv : Value) (h : Ranges c) (C : Nat → Nat) (k b : Nat) (hk : k ≠ 0) (d : List UInt8) (q : List (List UInt8)) (at_ : Int) (w : World) (hB : IsBest w C k b (d :: q)) (hn : takeOk c (d :: q) at_ = true) :
    Calls Try.prog 19 #[.pointer (some ⟨b, 0, none⟩), c.v pv qv rv, .int .i64 at_] w fun e w' => ∃ v, e = .returned (.tuple #[v, .bool true]) ∧ IsBytes w' C v d ∧ Fr (· = k) C C w w' ∧ IsBest w' C k b q := by
  obtain ⟨v, vs, hB, hCb, hS, hA⟩ := hB
  obtain ⟨v0, vs, rfl⟩ : ∃ v0 vs', vs = v0 :: vs' := by
    cases vs with
    | nil => exact hA.elim
    | cons x y => exact ⟨x, y, rfl⟩
  obtain ⟨h1, h2, h3⟩ := hA
  obtain ⟨a, cap, rfl, hc, hcm, hl⟩ := hS.form
  obtain ⟨bb, off, rfl, hCa, hlt, hcell⟩ := hS.at (by simp)
  have hv0 := hcell 0 v0 rfl
  obtain ⟨va, vc, rfl, hvc, -⟩ := id h1
  have hT := Sl.tail (xs := [.slice va d.length vc]) (cs := vs) (n := vs.length) hS rfl
  simp only [List.length_cons] at hcell hB hS hc hl ⊢
  obtain ⟨n, hnn⟩ : ∃ n, vs.length = n := ⟨_, rfl⟩
  rw [hnn] at hB hS hc hl hT
  have HNN := hid_ hnn
  clear hnn
  have c0 := fun o => (hB.alloc o).cell_ 0 rfl
  have f0 := fun o => (hB.alloc o).frozen 0
  have cv := fun o => cell_alloc_keep (W := w) o hv0
  unfold takeOk at hn
  simp only [Bool.and_eq_true, decide_eq_true_eq] at hn
  obtain ⟨⟨_, hlo⟩, hhi⟩ := hn
  obtain ⟨rr0, rr1⟩ := h.round
  have n0 := h.n0
  have n1 := h.n1
  have s0 := h.s0
  have s1 := h.s1
  have m0 : 0 ≤ c.nodes * c.slot := Int.mul_nonneg (by omega) (by omega)
  have m1 : c.nodes * c.slot ≤ 117440512 := by
    have := Int.mul_le_mul n1 s1 (by omega) (by omega)
    omega
  unfold maxLen at hcm
  have HR := hid_ (sndRound c pv qv rv h (w.alloc (.cells (c.cells pv qv rv).toArray 26)))
  unfold Cfg.v at HR ⊢
  simp only [Nat.add_zero] at hv0 cv
  have F1 := (Fr.refl (· = k) C w).alloc (.cells (c.cells pv qv rv).toArray 26)
  have z0 : ((n : Int) + 1 == 0) = false := by simp; omega
  clear hcell hl hlt
  go_enter Try.func19, Try.ntmps19
  go_wp2_with fail
  refine (HR.out).mono ?_
  rintro e w1 ⟨rfl, hw1⟩
  have F2 := F1.trans (Fr.of_below hw1 (· = k))
  have hB1 := (hB.alloc (.cells (c.cells pv qv rv).toArray 26)).same (hw1.block _ (hB.alloc _).lt)
  have hT1 := (hT.alloc (.cells (c.cells pv qv rv).toArray 26)).fr (Fr.of_below hw1 (fun _ => False)) (fun h => h)
  have hS1 := (hS.alloc (.cells (c.cells pv qv rv).toArray 26)).fr (Fr.of_below hw1 (fun _ => False)) (fun h => h)
  have g1 := Rd.fr h1 F2 (fun h => hk h.symm)
  have g3 := h3.fr F2 (fun h => hk h.symm)
  have v1 := grown_cell hw1 (cv _)
  have b1 := hB1.cell_ 0 rfl
  have fz1 := hB1.frozen 0
  have hap : (Value.slice (if cap = 1 then some ⟨bb, off, none⟩ else some ⟨bb, off + 1, none⟩) n (cap - 1)).ownBlock ≠ some b := hT1.apart hB1 (by decide)
  have HF := hid_ hCb
  clear c0 f0 cv hv0 hB hT hS hS1 F1 h1 h3
  by_cases hc1 : cap = 1
  · subst hc1
    simp only [if_true] at hT1 hap
    obtain rfl : n = 0 := by omega
    go_wp2
    go_ret2
    refine ⟨_, rfl, Rd.fr g1 ((Fr.refl (· = k) C w1).setCell (.inr HF.out) _) (fun h => hk h.symm), F2.setCell (.inr HF.out) _, _, vs, hB1.set 0 _, HF.out, ?_, g3.fr ((Fr.refl (· = k) C w1).setCell (.inr HF.out) _) (fun h => hk h.symm)⟩
    rw [HNN.out]
    exact hT1.far hap _
  · rw [if_neg hc1] at hT1 hap
    have hq : ¬ (cap = 1) := hc1
    go_wp2
    go_ret2
    refine ⟨_, rfl, Rd.fr g1 ((Fr.refl (· = k) C w1).setCell (.inr HF.out) _) (fun h => hk h.symm), F2.setCell (.inr HF.out) _, _, vs, hB1.set 0 _, HF.out, ?_, g3.fr ((Fr.refl (· = k) C w1).setCell (.inr HF.out) _) (fun h => hk h.symm)⟩
    rw [HNN.out]
    exact hT1.far hap _
end Go.Proofs.Ytbdcbfjpalefjaa
