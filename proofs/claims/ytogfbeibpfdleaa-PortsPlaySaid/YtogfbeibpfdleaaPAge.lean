/- ports.Age: every port's age grows by one, to nine at most. No condition. -/
import Derived.Test.YtogfbeibpfdleaaPPutS
set_option linter.unusedSimpArgs false
set_option linter.unusedVariables false
namespace Go.Proofs.Ytogfbeibpfdleaa
open Go.RowKit Go.Maps

def ageUp (a : Int) : Int := if a + 1 < 9 then a + 1 else 9
def ageSt (st : List PSt) : Nat → List PSt
  | 0 => st
  | n + 1 => (ageSt st n).set n { (ageSt st n).getD n default with age := ageUp ((ageSt st n).getD n default).age }
theorem ageSt_len (st : List PSt) : ∀ n, (ageSt st n).length = st.length
  | 0 => rfl
  | n + 1 => by unfold ageSt; rw [List.length_set, ageSt_len]
theorem ageSt_at (st : List PSt) : ∀ n i, n ≤ i → (ageSt st n).getD i default = st.getD i default
  | 0, _, _ => rfl
  | n + 1, i, h => by
    unfold ageSt
    rw [List.getD_eq_getElem?_getD, List.getElem?_set_ne (by omega), ← List.getD_eq_getElem?_getD, ageSt_at st n i (by omega)]

set_option maxRecDepth 100000 in
set_option maxHeartbeats 4000000 in
theorem portsAge (c : Cfg) (hg : Good c) (C : Nat → Nat) (k b ab : Nat) (hk : k ≠ 0) (hab : ab ≠ b) (pv qv rv : Value) (node : Int) (lv : Nat → Value) (st : List PSt) (w : World) (hf : Fin C w) (h : IsPorts w C k b ab c pv qv rv node lv st) (hage : ∀ i, i < st.length → 0 ≤ (st.getD i default).age ∧ (st.getD i default).age ≤ 100) :
    Calls Try.prog 21 #[.pointer (some ⟨b, 0, none⟩)] w fun e w' => e = .returned (.tuple #[]) ∧ Fr (· = k) C C w w' ∧ IsPorts w' C k b ab c pv qv rv node lv (ageSt st st.length) := by
  have hn24 : st.length ≤ 24 := by rw [h.len]; exact hg.nq
  have c12 := h.head.cell_ 12 rfl
  have HAGE := hid_ hage
  clear hage
  go_enter Try.func21, Try.ntmps21
  go_wp2
  go_loopw [10] (fun iv wr => ∃ i : Nat, i ≤ st.length ∧ iv = .int .i64 i ∧ Fr (· = k) C C w wr ∧ IsPorts wr C k b ab c pv qv rv node lv (ageSt st i)) (fun iv _ => st.length - (intOf iv).toNat)
  case atStart => exact ⟨0, Nat.zero_le _, rfl, Fr.refl _ _ _, h⟩
  case round =>
    obtain ⟨i, hi, rfl, F1, h1⟩ := hrel
    by_cases hlt : i < st.length
    · have hl1 := ageSt_len st i
      have hs := h1.state (j := i) (by omega)
      obtain ⟨_, _, _, _, c12⟩ := h1.cells
      have hfz := fun m => h1.all.frozen m
      have hA := HAGE.out i hlt
      have hat := ageSt_at st i i (Nat.le_refl _)
      rw [hat] at hs
      obtain ⟨ag, hag⟩ : ∃ ag, ag = (st.getD i default).age := ⟨_, rfl⟩
      rw [← hag] at hs hA
      obtain ⟨s0, s1⟩ := hs
      obtain ⟨hA0, hA1⟩ := hA
      have HAG := hid_ hag
      have HAT := hid_ hat
      clear hag hat
      rw [hl1] at c12
      have hi0 : (0 : Int) ≤ (i : Int) := Int.natCast_nonneg _
      have hi2 : (i : Int) < (st.length : Int) := by omega
      go_upto_region 4 with (fail)
      have hw1 : IntKind.i64.wrap (ag + 1) = ag + 1 := by simp [IntKind.wrap, IntKind.signed, IntKind.bits]; omega
      have HW := hid_ hw1
      clear hw1
      go_region_law (go_simp)
      all_goals
        have hv : (if 9 < IntKind.i64.wrap (ag + 1) then 9 else IntKind.i64.wrap (ag + 1)) = ageUp ag := by rw [HW.out]; unfold ageUp; split <;> split <;> omega
        rw [hv]
        have F2 : Fr (· = k) C C wr ((wr.setCell ⟨ab, i * 2 + 1, none⟩ (.int .i64 (ageUp ag))).drew) := ((Fr.refl _ _ _).setCell (.inr h1.acol) _).drew
        have h2 := (h1.age hk (j := i) (by omega) ⟨((ageSt st i).getD i default).q, ageUp ag⟩ rfl hab).fr ((Fr.refl (fun _ => False) C _).drew) (fun x h => h.elim) (by rw [List.length_set]; omega)
        have he : (ageSt st i).set i ⟨((ageSt st i).getD i default).q, ageUp ag⟩ = ageSt st (i + 1) := by
          show _ = (ageSt st i).set i _
          rw [HAG.out, ← HAT.out]
        rw [he] at h2
        have H2 := hid_ h2
        have HF2 := hid_ F2
        clear h1 h2 F2 c12 hfz he hv
        generalize (wr.setCell ⟨ab, i * 2 + 1, none⟩ (.int .i64 (ageUp ag))).drew = W2 at *
        go_wp2
        go_roundw
        case rel => exact ⟨i + 1, by omega, by go_num, F1.trans HF2.out, H2.out⟩
        case measure => simp [intOf]; omega
    · have he : i = st.length := by omega
      subst he
      clear c12
      go_wp2
      go_end0
      exact ⟨rfl, F1, h1⟩
end Go.Proofs.Ytogfbeibpfdleaa
