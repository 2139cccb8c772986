/- ReplicaKeys: for every list of commands and key the law returns true, and leaves memory as it was. No condition. -/
import Derived.Test.YtomcjmgbkpbdpaaSwaps
import Derived.Test.YtomcjmgbkpbdpaaRead
set_option linter.unusedSimpArgs false
set_option linter.unusedVariables false
namespace Go.Proofs.Ytomcjmgbkpbdpaa
open Go.RowKit Go.Maps

/-- An Errno's links. -/
def errL : Option Int → List (Int × Option Int)
  | none => []
  | some n => [(n, none)]

theorem read_errv (o : Option Int) (ho : ∀ n, o = some n → n ≠ 0 ∧ -9223372036854775808 ≤ n ∧ n ≤ 9223372036854775807) (w : World) :
    Calls Try.prog 11 #[errv o] w fun x w' => x = .returned (.string ⟨(errT (errL o)).toArray⟩) ∧ Below w.heap.size w w' := by
  cases o with
  | none => exact read_any (fun _ => 0) _ _ w rfl ⟨by simp [errL], by simp [errL]⟩
  | some n =>
    obtain ⟨h0, h1, h2⟩ := ho n rfl
    exact read_any (fun _ => 0) _ _ w ⟨rfl, rfl⟩ ⟨by simp [errL], fun x hx => by simp [errL] at hx; subst hx; exact ⟨h1, h2, h0, fun a ha => by cases ha⟩⟩

theorem applyE_ok (c : Cmd) : ∀ n, applyE c = some n → n ≠ 0 ∧ -9223372036854775808 ≤ n ∧ n ≤ 9223372036854775807 := by
  intro n h
  unfold applyE at h
  split at h
  · cases h
  · split at h
    · cases h; omega
    · split at h
      · cases h; omega
      · cases h

theorem applyF_other {f : Int → Option Int} {c : Cmd} {key : Int} (h : c.key ≠ key) : applyF f c key = f key := by
  unfold applyF
  split
  · rfl
  · split
    · simp [upd, Ne.symm h]
    · split
      · simp [upd, Ne.symm h]
      · split
        · simp [upd, Ne.symm h]
        · rfl
theorem applyF_same {f g : Int → Option Int} {c : Cmd} (h : f c.key = g c.key) : applyF f c c.key = applyF g c c.key := by
  unfold applyF
  rw [h]
  split
  · exact h
  · split
    · simp [upd]
    · split
      · simp [upd]
      · split
        · simp [upd]
        · exact h
theorem applyB_same {f g : Int → Option Int} {c : Cmd} (h : f c.key = g c.key) : applyB f c = applyB g c := by
  unfold applyB
  rw [h]

def Cmd.cells (c : Cmd) : List Value := [.int .u8 c.kind, .int .u8 c.key, .int .u16 c.val, .int .u16 c.old]

set_option maxRecDepth 100000 in
set_option maxHeartbeats 1000000 in
theorem keys_walk (key : Int) (l : List Cmd) (lv : Value) (w : World) (k0 : 0 ≤ key) (k1 : key < 256) (hl : ∀ c ∈ l, c.ok)
    (hv : Rd w (fun _ => 0) lv 4 l.length (l.flatMap Cmd.cells)) :
    Calls Try.prog 3 #[lv, .int .u8 key] w fun e w' => e = .returned (.bool true) ∧ Below w.heap.size w w' := by
  obtain ⟨a, cap, rfl, hcap, hmax, -⟩ := id hv
  unfold maxLen at hmax
  go_enter Try.func3, Try.ntmps3
  go_wp2_with fail
  refine (awake14 _).mono ?_
  rintro e w1 ⟨rfl, hb1⟩
  have F1 : Fr (· ≠ 0) (fun _ => 0) (fun _ => 0) w w1 := Fr.of_below hb1 _
  by_cases h200 : l.length ≤ 200
  · clear hb1
    go_wp2_with fail
    refine (repNew (fun _ => 0) 1 _).mono ?_
    rintro e w2 ⟨ta, C1, rfl, f1, hA⟩
    have F2 := F1.trans (f1.mono (K' := (· ≠ 0)) (fun c h => h.elim))
    clear F1 f1
    go_wp2_with fail
    refine (repNew C1 2 _).mono ?_
    rintro e w3 ⟨tb, C2, rfl, f2, hB⟩
    have F3 := F2.trans (f2.mono (K' := (· ≠ 0)) (fun c h => h.elim))
    have hA2 := hA.fr f2 (fun h => h)
    clear F2 f2 hA
    go_wp2_with fail
    go_loopw [28] (fun iv wr => ∃ (i : Nat) (f g : Int → Option Int) (d d' : Int) (C : Nat → Nat), i ≤ l.length ∧ iv = .int .i64 i ∧ Fr (· ≠ 0) (fun _ => 0) C w wr ∧ IsTab wr C 1 ta f d ∧ IsTab wr C 2 tb g d' ∧ f (key % 8) = g (key % 8))
      (fun iv _ => l.length - (intOf iv).toNat)
    case atStart => exact ⟨0, _, _, _, _, _, Nat.zero_le _, rfl, F3, hA2, hB, rfl⟩
    case round =>
      clear F3 hA2 hB
      obtain ⟨i, f, g, d, d', C, hi, rfl, F, hA, hB, hfg⟩ := hrel
      by_cases hlt : i < l.length
      · obtain ⟨b, off, rfl, hc⟩ := hv.at hlt
        have hB0 := F.old
        obtain ⟨c, hci⟩ : ∃ c, l[i]? = some c := ⟨_, List.getElem?_eq_getElem hlt⟩
        have hok : c.ok := hl c (List.mem_of_getElem? hci)
        have hcell : ∀ j v, c.cells[j]? = some v → wr.cell? ⟨b, off + i * 4 + j, none⟩ = some v := by
          intro j v hv
          have hj : j < 4 := (List.getElem?_eq_some_iff.1 hv).1
          have := hc (i * 4 + j) v (by rw [flatMap_get 4 Cmd.cells (fun _ => rfl) l i j c hci hj]; exact hv)
          rw [← Nat.add_assoc] at this
          exact (hB0.cell (p := ⟨b, off + i * 4 + j, none⟩) (World.block_lt_of_cell? _ _ this)).trans this
        have e0 := hcell 0 _ rfl
        have e1 := hcell 1 _ rfl
        have e2 := hcell 2 _ rfl
        have e3 := hcell 3 _ rfl
        simp only [Nat.add_zero] at e0
        obtain ⟨ck, cx, cv, co⟩ := c
        simp only at e0 e1 e2 e3
        clear hcell hc hci hB0
        have hfin : C wr.heap.size = 0 := F.fin (fin0 w) _ (Nat.le_refl _)
        have FA := (Fr.refl (fun _ => False) C wr).alloc (.cells #[.int .u8 ck, .int .u8 cx, .int .u16 cv, .int .u16 co] 29)
        have FW := F.alloc (.cells #[.int .u8 ck, .int .u8 cx, .int .u16 cv, .int .u16 co] 29)
        have hA0 := hA.fr FA (fun h => h)
        have hB0 := hB.fr FA (fun h => h)
        have X0 := Bk.new wr 29 [.int .u8 ck, .int .u8 cx, .int .u16 cv, .int .u16 co]
        clear FA hA hB F
        by_cases hk : cx = key % 8
        · subst hk
          have hE1 : applyF f ⟨ck, key % 8, cv, co⟩ (key % 8) = applyF g ⟨ck, key % 8, cv, co⟩ (key % 8) := applyF_same (c := ⟨ck, key % 8, cv, co⟩) hfg
          have hE2 : applyB f ⟨ck, key % 8, cv, co⟩ = applyB g ⟨ck, key % 8, cv, co⟩ := applyB_same hfg
          have HFG := hid_ hE1
          clear hfg hE1
          go_wp2_with fail
          refine (repApply C 1 ta f d ⟨ck, key % 8, cv, co⟩ hok _ hA0).mono ?_
          rw [hE2]
          clear hE2
          rintro e w5 ⟨rfl, f5, hA5⟩
          have F5 := FW.trans (f5.mono (K' := (· ≠ 0)) (by simp))
          have hB5 := hB0.fr f5 (by simp)
          have X5 := X0.fr f5 (by rw [hfin]; simp)
          have x0 := X5.cell_ 0 rfl
          have x1 := X5.cell_ 1 rfl
          have x2 := X5.cell_ 2 rfl
          have x3 := X5.cell_ 3 rfl
          clear FW hA0 hB0 X0 f5 e0 e1 e2 e3
          go_wp2_with fail
          refine (repApply C 2 tb g d' ⟨ck, key % 8, cv, co⟩ hok _ hB5).mono ?_
          rintro e w6 ⟨rfl, f6, hB6⟩
          have F6 := F5.trans (f6.mono (K' := (· ≠ 0)) (by simp))
          have hA6 := hA5.fr f6 (by simp)
          clear F5 f6 hA5 hB5 x0 x1 x2 x3 X5
          go_wp2_with fail
          refine (read_errv _ (applyE_ok _) _).mono ?_
          rintro e w7 ⟨rfl, b7⟩
          go_wp2_with fail
          refine (read_errv _ (applyE_ok _) _).mono ?_
          rintro e w8 ⟨rfl, b8⟩
          have b9 := below_then b7 b8
          have F8 := F6.trans (Fr.of_below b9 _)
          have hA8 := hA6.fr (Fr.of_below b9 (fun _ => False)) (fun h => h)
          have hB8 := hB6.fr (Fr.of_below b9 (fun _ => False)) (fun h => h)
          clear F6 hA6 hB6 b7 b8 b9
          go_wp2
          go_roundw
          case rel => exact ⟨i + 1, _, _, _, _, C, by omega, by go_num, F8, hA8, hB8, HFG.out⟩
          case measure => simp [intOf]; omega
        · have q1 : (cx == key % 8) = false := by simpa using hk
          have HFG := hid_ ((applyF_other (f := f) (c := ⟨ck, cx, cv, co⟩) hk).trans hfg)
          clear hfg hk
          go_wp2_with fail
          refine (repApply C 1 ta f d ⟨ck, cx, cv, co⟩ hok _ hA0).mono ?_
          rintro e w5 ⟨rfl, f5, hA5⟩
          have F5 := FW.trans (f5.mono (K' := (· ≠ 0)) (by simp))
          have hB5 := hB0.fr f5 (by simp)
          have X5 := X0.fr f5 (by rw [hfin]; simp)
          have x1 := X5.cell_ 1 rfl
          clear FW hA0 hB0 X0 f5 e0 e1 e2 e3
          go_wp2
          go_roundw
          case rel => exact ⟨i + 1, _, _, _, _, C, by omega, by go_num, F5, hA5, hB5, HFG.out⟩
          case measure => simp [intOf]; omega
      · go_wp2_with fail
        refine (repAsk C 1 ta f d (key % 8) _ hA (by omega) (by omega)).mono ?_
        rw [hfg]
        clear hfg
        rintro e w5 ⟨rfl, rfl⟩
        go_wp2_with fail
        refine (repAsk C 2 tb g d' (key % 8) _ hB (by omega) (by omega)).mono ?_
        rintro e w6 ⟨rfl, rfl⟩
        go_wp2_with fail
        refine (read_errv _ (askE_ok _) _).mono ?_
        rintro e w7 ⟨rfl, b7⟩
        go_wp2_with fail
        refine (read_errv _ (askE_ok _) _).mono ?_
        rintro e w8 ⟨rfl, b8⟩
        have F8 := (F.trans (Fr.of_below (below_then b7 b8) _)).old
        go_wp2
        go_ret
        exact ⟨by simp, F8⟩
  · go_wp2
    go_ret
    exact ⟨rfl, hb1⟩
end Go.Proofs.Ytomcjmgbkpbdpaa
