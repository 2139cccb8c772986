/- ports.Clear: a partition's ports are emptied. No condition. -/
import Derived.Test.YtogfbeibpfdleaaPAge
set_option linter.unusedSimpArgs false
set_option linter.unusedVariables false
namespace Go.Proofs.Ytogfbeibpfdleaa
open Go.RowKit Go.Maps

def clearSt (c : Cfg) (part : Int) (st : List PSt) : Nat → List PSt
  | 0 => st
  | n + 1 => if (c.port n).part = part then (clearSt c part st n).set n ⟨[], 0⟩ else clearSt c part st n
theorem clearSt_len (c : Cfg) (part : Int) (st : List PSt) : ∀ n, (clearSt c part st n).length = st.length
  | 0 => rfl
  | n + 1 => by
    unfold clearSt
    split
    · rw [List.length_set, clearSt_len]
    · exact clearSt_len c part st n

set_option maxRecDepth 100000 in
set_option maxHeartbeats 4000000 in
theorem portsClear (c : Cfg) (hg : Good c) (C : Nat → Nat) (k b ab : Nat) (hk : k ≠ 0) (hab : ab ≠ b) (pv qv rv : Value) (node part : Int) (lv : Nat → Value) (st : List PSt) (w : World) (hf : Fin C w) (h : IsPorts w C k b ab c pv qv rv node lv st) :
    Calls Try.prog 23 #[.pointer (some ⟨b, 0, none⟩), .int .i64 part] w fun e w' => e = .returned (.tuple #[]) ∧ ∃ lv', Fr (· = k) C C w w' ∧ IsPorts w' C k b ab c pv qv rv node lv' (clearSt c part st st.length) := by
  have hn24 : st.length ≤ 24 := by rw [h.len]; exact hg.nq
  have c12 := h.head.cell_ 12 rfl
  go_enter Try.func23, Try.ntmps23
  go_wp2
  go_loopw [12] (fun iv wr => ∃ (i : Nat) (lv' : Nat → Value), i ≤ st.length ∧ iv = .int .i64 i ∧ Fr (· = k) C C w wr ∧ IsPorts wr C k b ab c pv qv rv node lv' (clearSt c part st i)) (fun iv _ => st.length - (intOf iv).toNat)
  case atStart => exact ⟨0, lv, Nat.zero_le _, rfl, Fr.refl _ _ _, h⟩
  case round =>
    obtain ⟨i, lv', hi, rfl, F1, h1⟩ := hrel
    by_cases hlt : i < st.length
    · have hl1 := clearSt_len c part st i
      have hic : i < c.ports.length := by rw [← h.len]; exact hlt
      obtain ⟨s0, s1⟩ := h1.state (j := i) (by omega)
      obtain ⟨_, c9, _, _, c12⟩ := h1.cells
      have hfz := fun m => h1.all.frozen m
      have hq := h1.lists.ports
      obtain ⟨qa, qc, rfl, hqc, hqm, -⟩ := id hq
      obtain ⟨qb, qo, rfl, _, hcell⟩ := hq.row (fun _ => rfl) hic
      rw [show c.ports.getD i default = c.port i from rfl] at hcell
      have e0 := hcell 0 _ rfl
      simp only [Nat.add_zero] at e0
      rw [hl1] at c12
      unfold maxLen at hqm
      have hi0 : (0 : Int) ≤ (i : Int) := Int.natCast_nonneg _
      have hi2 : (i : Int) < (st.length : Int) := by omega
      have hi3 : (i : Int) < (c.ports.length : Int) := by omega
      obtain ⟨pt, hpt⟩ : ∃ pt, pt = (c.port i).part := ⟨_, rfl⟩
      simp only [← hpt] at e0
      have HPT := hid_ hpt
      have hturn := (h1.turn (by omega) hk (j := i) (by omega) (Fr.refl (· = k + 1 + i) C wr) (IsList.nil wr C (k + 1 + i)) hab).age (j := i) hk (by rw [List.length_set]; omega) ⟨[], 0⟩ (by rw [List.getD_eq_getElem?_getD, List.getElem?_set_self (by omega)]; rfl) hab
      have HT := hid_ hturn
      have HAC := hid_ h1.acol
      clear hcell hq hpt hturn
      by_cases hpp : pt = part
      · have HPP := hid_ hpp
        subst hpp
        go_wp2
        go_roundw
        case rel => exact ⟨i + 1, _, by omega, by go_num, F1.trans (((Fr.refl _ _ _).setCell (.inr HAC.out) _).setCell (.inr HAC.out) _), by
          have e : clearSt c pt st (i + 1) = (clearSt c pt st i).set i ⟨[], 0⟩ := by
            show (if _ then _ else _) = _
            rw [if_pos HPT.out.symm]
          rw [e]
          have := HT.out
          rw [List.set_set] at this
          exact this⟩
        case measure => simp [intOf]; omega
      · have HPP := hid_ hpp
        go_wp2
        go_roundw
        case rel => exact ⟨i + 1, lv', by omega, by go_num, F1, by
          have e : clearSt c part st (i + 1) = clearSt c part st i := by
            show (if _ then _ else _) = _
            rw [if_neg (by rw [← HPT.out]; exact HPP.out)]
          rw [e]
          exact h1⟩
        case measure => simp [intOf]; omega
    · have he : i = st.length := by omega
      subst he
      clear c12
      go_wp2
      go_end0
      exact ⟨rfl, lv', F1, h1⟩
end Go.Proofs.Ytogfbeibpfdleaa
