/- ReplicaSwaps: for every key, old value and list of new values the law returns true, and leaves memory as it was. No condition. -/
import Derived.Test.YtomcjmgbkpbdpaaAwake14
set_option linter.unusedSimpArgs false
set_option linter.unusedVariables false
namespace Go.Proofs.Ytomcjmgbkpbdpaa
open Go.RowKit Go.Maps
attribute [local go_sem] errv_none errv_some

/-- What is wanted behind so many swaps. -/
def swapWant (old : Int) (l : List Int) : Nat → Int
  | 0 => old
  | i + 1 => if swapWant old l i = old then l.getD i 0 else swapWant old l i

set_option maxRecDepth 100000 in
theorem swaps_walk (key old : Int) (l : List Int) (lv : Value) (w : World) (k0 : 0 ≤ key) (k1 : key < 256) (o0 : 0 ≤ old) (o1 : old < 65536) (hl : ∀ x ∈ l, 0 ≤ x ∧ x < 65536)
    (hv : Rd w (fun _ => 0) lv 1 l.length (l.map fun x => .int .u16 x)) :
    Calls Try.prog 4 #[.int .u8 key, .int .u16 old, lv] w fun e w' => e = .returned (.bool true) ∧ Below w.heap.size w w' := by
  obtain ⟨a, cap, rfl, hcap, hmax, -⟩ := id hv
  unfold maxLen at hmax
  go_enter Try.func4, Try.ntmps4
  go_wp2_with fail
  refine (awake14 _).mono ?_
  rintro e w1 ⟨rfl, hb1⟩
  have F1 : Fr (· ≠ 0) (fun _ => 0) (fun _ => 0) w w1 := Fr.of_below hb1 _
  clear hb1
  go_wp2_with fail
  refine (repNew (fun _ => 0) 1 _).mono ?_
  rintro e w2 ⟨tb, C1, rfl, f1, h1⟩
  have F2 := F1.trans (f1.mono (K' := (· ≠ 0)) (fun c h => h.elim))
  clear F1 f1
  go_wp2_with fail
  refine (repApply C1 1 tb _ _ ⟨1, key % 8, old, 0⟩ (by constructor <;> simp <;> omega) _ h1).mono ?_
  have q1 : applied ⟨1, key % 8, old, 0⟩ = true := by simp [applied]; omega
  rw [show applyF (fun _ => none) ⟨1, key % 8, old, 0⟩ = upd (fun _ => none) (key % 8) (some old) by simp [applyF, q1], show applyB (fun _ => none) ⟨1, key % 8, old, 0⟩ = true by simp [applyB, q1], show applyE ⟨1, key % 8, old, 0⟩ = none by simp [applyE]; omega]
  rintro e w3 ⟨rfl, f2, h2⟩
  have F3 := F2.trans (f2.mono (K' := (· ≠ 0)) (by simp))
  clear F2 f2 h1 q1
  go_wp2_with fail
  go_loopw [8, 9] (fun want iv wr => ∃ (i : Nat) (f : Int → Option Int) (d : Int) (C : Nat → Nat), i ≤ l.length ∧ iv = .int .i64 i ∧ want = .int .u16 (swapWant old l i) ∧ Fr (· ≠ 0) (fun _ => 0) C w wr ∧ IsTab wr C 1 tb f d ∧ f (key % 8) = some (swapWant old l i) ∧ 0 ≤ swapWant old l i ∧ swapWant old l i < 65536)
    (fun _ iv _ => l.length - (intOf iv).toNat)
  case atStart => exact ⟨0, _, _, _, Nat.zero_le _, rfl, rfl, F3, h2, by simp [upd, swapWant], o0, o1⟩
  case round =>
    clear F3 h2
    obtain ⟨i, f, d, C, hi, rfl, rfl, F, h, hf, s0, s1⟩ := hrel
    by_cases hlt : i < l.length
    · by_cases h100 : i < 100
      · obtain ⟨b, off, rfl, hc⟩ := hv.at hlt
        have hci := hc i _ (by rw [List.getElem?_map, List.getElem?_eq_getElem hlt]; rfl)
        have hcw := (F.old.cell (p := ⟨b, off + i, none⟩) (World.block_lt_of_cell? _ _ hci)).trans hci
        obtain ⟨x0, x1⟩ := hl _ (List.getElem_mem hlt)
        have hx : l.getD i 0 = l[i] := by simp [hlt]
        have hE : applyE ⟨3, key % 8, l[i], old⟩ = none := by simp [applyE]; omega
        have hA : applied ⟨3, key % 8, l[i], old⟩ = true := by simp [applied]; omega
        by_cases hw : swapWant old l i = old
        · have hS : Hid (swapWant old l (i + 1) = l[i]) := by show _ = _; simp only [swapWant, hw, if_true, hx]
          rw [hw] at hf s0 s1 ⊢
          clear hx hci hw
          by_cases hxo : l[i] = old
          · have q1 : (l[i] != old) = false := by simp [hxo]
            have HX := hid_ hxo
            clear hxo
            go_wp2_with fail
            refine (repApply C 1 tb f d ⟨3, key % 8, l[i], old⟩ (by constructor <;> simp <;> omega) _ h).mono ?_
            rw [show applyB f ⟨3, key % 8, l[i], old⟩ = false by simp [applyB, hf, HX.out], show applyF f ⟨3, key % 8, l[i], old⟩ = upd f (key % 8) (some l[i]) by simp [applyF, hA, hf], hE]
            rintro e w5 ⟨rfl, g1, g2⟩
            have G := F.trans (g1.mono (K' := (· ≠ 0)) (by simp))
            go_wp2_with fail
            refine (repAsk C 1 tb _ _ (key % 8) _ g2 (by omega) (by omega)).mono ?_
            rw [show (upd f (key % 8) (some l[i])) (key % 8) = some (l[i]) by simp [upd]]
            simp only [Option.getD_some, askE_some]
            rintro e w6 ⟨rfl, rfl⟩
            go_wp2
            go_roundw
            case rel => exact ⟨i + 1, _, _, C, by omega, by go_num, by rw [hS.out], G, g2, by rw [hS.out]; simp [upd], by rw [hS.out]; omega, by rw [hS.out]; omega⟩
            case measure => simp [intOf]; omega
          · have q1 : (l[i] != old) = true := by simpa using hxo
            have HX := hid_ hxo
            clear hxo
            go_wp2_with fail
            refine (repApply C 1 tb f d ⟨3, key % 8, l[i], old⟩ (by constructor <;> simp <;> omega) _ h).mono ?_
            rw [show applyB f ⟨3, key % 8, l[i], old⟩ = true by simp [applyB, hA, hf]; exact fun e => HX.out e.symm, show applyF f ⟨3, key % 8, l[i], old⟩ = upd f (key % 8) (some l[i]) by simp [applyF, hA, hf], hE]
            rintro e w5 ⟨rfl, g1, g2⟩
            have G := F.trans (g1.mono (K' := (· ≠ 0)) (by simp))
            go_wp2_with fail
            refine (repAsk C 1 tb _ _ (key % 8) _ g2 (by omega) (by omega)).mono ?_
            rw [show (upd f (key % 8) (some l[i])) (key % 8) = some (l[i]) by simp [upd]]
            simp only [Option.getD_some, askE_some]
            rintro e w6 ⟨rfl, rfl⟩
            go_wp2
            go_roundw
            case rel => exact ⟨i + 1, _, _, C, by omega, by go_num, by rw [hS.out], G, g2, by rw [hS.out]; simp [upd], by rw [hS.out]; omega, by rw [hS.out]; omega⟩
            case measure => simp [intOf]; omega
        · have hS : Hid (swapWant old l (i + 1) = swapWant old l i) := by show _ = _; simp only [swapWant, hw, if_false]
          have q0 : (swapWant old l i == old) = false := by simpa using hw
          have HW := hid_ hw
          clear hw hx hci
          go_wp2_with fail
          refine (repApply C 1 tb f d ⟨3, key % 8, l[i], old⟩ (by constructor <;> simp <;> omega) _ h).mono ?_
          rw [show applyB f ⟨3, key % 8, l[i], old⟩ = false by simp [applyB, hA, hf, HW.out], show applyF f ⟨3, key % 8, l[i], old⟩ = f by simp [applyF, hA, hf, HW.out], hE]
          rintro e w5 ⟨rfl, g1, g2⟩
          have G := F.trans (g1.mono (K' := (· ≠ 0)) (by simp))
          go_wp2_with fail
          refine (repAsk C 1 tb _ _ (key % 8) _ g2 (by omega) (by omega)).mono ?_
          rw [hf]
          simp only [Option.getD_some, askE_some]
          rintro e w6 ⟨rfl, rfl⟩
          have HF := hid_ hf
          clear hf
          go_wp2
          go_roundw
          case rel => exact ⟨i + 1, _, _, C, by omega, by go_num, by rw [hS.out], G, g2, by rw [hS.out]; exact HF.out, by rw [hS.out]; omega, by rw [hS.out]; omega⟩
          case measure => simp [intOf]; omega
      · have HF := hid_ F.old
        clear hf
        go_wp2
        go_ret
        exact ⟨rfl, HF.out⟩
    · have HF := hid_ F.old
      clear hf
      go_wp2
      go_ret
      exact ⟨rfl, HF.out⟩
end Go.Proofs.Ytomcjmgbkpbdpaa
