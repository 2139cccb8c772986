/- escapementref13.Table: Apply. No condition. -/
import Derived.Test.YtomcjmgbkpbdpaaRep
import Derived.Test.YtomcjmgbkpbdpaaNum
import Derived.Deep.RegionHeld3
set_option linter.unusedSimpArgs false
set_option linter.unusedVariables false
namespace Go.Proofs.Ytomcjmgbkpbdpaa
open Go.RowKit Go.Maps

def rcells (f : Int → Option Int) (n : Int) : List Value := ((List.range 8).map fun k : Nat => Value.int .u16 ((f (k : Int)).getD 0)) ++ ((List.range 8).map fun k : Nat => Value.bool (f (k : Int)).isSome) ++ [.int .i64 n]
theorem rcells_val (f : Int → Option Int) (n : Int) {k : Nat} (h : k < 8) : (rcells f n)[k]? = some (.int .u16 ((f (k : Int)).getD 0)) := by
  rcases (by omega : k = 0 ∨ k = 1 ∨ k = 2 ∨ k = 3 ∨ k = 4 ∨ k = 5 ∨ k = 6 ∨ k = 7) with rfl | rfl | rfl | rfl | rfl | rfl | rfl | rfl <;> rfl
theorem rcells_has (f : Int → Option Int) (n : Int) {k : Nat} (h : k < 8) : (rcells f n)[8 + k]? = some (.bool (f (k : Int)).isSome) := by
  rcases (by omega : k = 0 ∨ k = 1 ∨ k = 2 ∨ k = 3 ∨ k = 4 ∨ k = 5 ∨ k = 6 ∨ k = 7) with rfl | rfl | rfl | rfl | rfl | rfl | rfl | rfl <;> rfl
theorem rcells_n (f : Int → Option Int) (n m : Int) : (rcells f n).set 16 (.int .i64 m) = rcells f m := rfl
theorem rcells_put (f : Int → Option Int) (n v : Int) {k : Nat} (h : k < 8) : ((rcells f n).set (8 + k) (.bool true)).set k (.int .u16 v) = rcells (upd f k (some v)) n := by
  rcases (by omega : k = 0 ∨ k = 1 ∨ k = 2 ∨ k = 3 ∨ k = 4 ∨ k = 5 ∨ k = 6 ∨ k = 7) with rfl | rfl | rfl | rfl | rfl | rfl | rfl | rfl <;> rfl
theorem rcells_del (f : Int → Option Int) (n : Int) {k : Nat} (h : k < 8) : ((rcells f n).set (8 + k) (.bool false)).set k (.int .u16 0) = rcells (upd f k none) n := by
  rcases (by omega : k = 0 ∨ k = 1 ∨ k = 2 ∨ k = 3 ∨ k = 4 ∨ k = 5 ∨ k = 6 ∨ k = 7) with rfl | rfl | rfl | rfl | rfl | rfl | rfl | rfl <;> rfl
def numO : Option Int → List UInt8
  | none => []
  | some n => num n

set_option maxRecDepth 100000 in
set_option maxHeartbeats 8000000 in
theorem refTApply (C : Nat → Nat) (k tb : Nat) (f : Int → Option Int) (d : Int) (c : Cmd) (hc : c.ok) (w : World) (h : Bk w tb 47 (rcells f d)) (hC : C tb = k) :
    Calls Try.prog 13 #[.pointer (some ⟨tb, 0, none⟩), c.v] w fun e w' =>
      e = .returned (.tuple #[.bool (applyB f c), .string ⟨(numO (applyE c)).toArray⟩]) ∧ Fr (· = k) C C w w' ∧ Bk w' tb 47 (rcells (applyF f c) (applyN d c)) := by
  obtain ⟨ck, cx, cv, co⟩ := c
  obtain ⟨⟨k0, k1⟩, ⟨x0, x1⟩, ⟨v0, v1⟩, ⟨o0, o1⟩⟩ := hc
  unfold Cmd.v
  simp only at *
  have htb := h.lt
  go_enter Try.func13, Try.ntmps13
  go_upto_region 1 with (fail)
  refine gen_world (fun W => Fr (· = k) C C w W ∧ Bk W w.heap.size 29 [.int .u8 ck, .int .u8 cx, .int .u16 cv, .int .u16 co] ∧ Bk W tb 47 (rcells f d)) ⟨(Fr.refl _ _ _).alloc _, Bk.new _ _ _, h.alloc _⟩ ?_
  rintro W ⟨F, B, T⟩
  have c0 := B.cell_ 0 rfl
  have c1 := B.cell_ 1 rfl
  have c2 := B.cell_ 2 rfl
  have c3 := B.cell_ 3 rfl
  have hne : ¬ tb = w.heap.size := by omega
  by_cases hk : ck = 0
  · subst hk
    go_wp2
    go_ret2
    exact ⟨rfl, F, T⟩
  have hkb : (ck == 0) = false := by simpa using hk
  by_cases h8 : 7 < cx
  · have e1 : applyE ⟨ck, cx, cv, co⟩ = some 2 := by unfold applyE; rw [if_neg hk, if_pos (show (8 : Int) ≤ cx by omega)]
    have e2 : applied ⟨ck, cx, cv, co⟩ = false := by unfold applied; simp; omega
    have E1 := hid_ e1
    have E2 := hid_ e2
    clear e1 e2
    go_wp2_with fail
    refine (refE_any 2 (by omega) (by omega) _).mono ?_
    rintro e w1 ⟨rfl, V⟩
    have T1 := T.same (V.block _ T.lt)
    have F1 := F.trans (Fr.of_below (C := C) V (· = k))
    go_wp2
    go_ret2
    refine ⟨?_, F1, ?_⟩
    · rw [E1.out]
      unfold applyB
      rw [if_pos E2.out]
      rfl
    · unfold applyF applyN
      rw [if_pos E2.out, if_pos E2.out]
      exact T1
  by_cases h3 : 3 < ck
  · have e1 : applyE ⟨ck, cx, cv, co⟩ = some 7 := by unfold applyE; rw [if_neg hk, if_neg (show ¬ (8 : Int) ≤ cx by omega), if_pos h3]
    have e2 : applied ⟨ck, cx, cv, co⟩ = false := by unfold applied; simp; omega
    have E1 := hid_ e1
    have E2 := hid_ e2
    clear e1 e2
    go_wp2_with fail
    refine (refE_any 7 (by omega) (by omega) _).mono ?_
    rintro e w1 ⟨rfl, V⟩
    have T1 := T.same (V.block _ T.lt)
    have F1 := F.trans (Fr.of_below (C := C) V (· = k))
    go_wp2
    go_ret2
    refine ⟨?_, F1, ?_⟩
    · rw [E1.out]
      unfold applyB
      rw [if_pos E2.out]
      rfl
    · unfold applyF applyN
      rw [if_pos E2.out, if_pos E2.out]
      exact T1
  obtain ⟨x, rfl⟩ := Int.eq_ofNat_of_zero_le x0
  have hx8 : x < 8 := by omega
  have hx8' : (x : Int) < 8 := by omega
  have t16 := T.cell_ 16 (show (rcells f d)[16]? = some (.int .i64 d) from rfl)
  have z := fun j => T.frozen j
  have T1 := T.set 16 (.int .i64 (wrap64 (d + 1)))
  rw [rcells_n] at T1
  have tv := T1.cell_ x (rcells_val f _ hx8)
  have th := T1.cell_ (8 + x) (rcells_has f _ hx8)
  have B1 := B.far (a := ⟨tb, 16, none⟩) (fun e => hne e.symm) (.int .i64 (wrap64 (d + 1)))
  have F1 := F.setCell (a := ⟨tb, 16, none⟩) (.inr hC) (.int .i64 (wrap64 (d + 1)))
  go_upto_region 8 with (fail)
  refine gen_world (fun W => Fr (· = k) C C w W ∧ Bk W w.heap.size 29 [.int .u8 ck, .int .u8 (x : Int), .int .u16 cv, .int .u16 co] ∧ Bk W tb 47 (rcells f (wrap64 (d + 1)))) ⟨F1, B1, T1⟩ ?_
  clear F1 B1 T1 F B T c0 c1 c2 c3 t16 z tv th h
  rintro W1 ⟨F1, B1, T1⟩
  have hne2 : w.heap.size ≠ tb := fun e => hne e.symm
  have c0 := B1.cell_ 0 rfl
  have c1 := B1.cell_ 1 rfl
  have c2 := B1.cell_ 2 rfl
  have c3 := B1.cell_ 3 rfl
  have tv := T1.cell_ x (rcells_val f _ hx8)
  have th := T1.cell_ (8 + x) (rcells_has f _ hx8)
  have z := fun j => T1.frozen j
  have happ : ∀ K : Int, K = 1 ∨ K = 2 ∨ K = 3 → applied ⟨K, x, cv, co⟩ = true := by
    intro K hK
    unfold applied
    simp
    omega
  have HAPP := hid_ happ
  clear happ
  cases hfx : f x with
  | none =>
    rw [hfx, show (none : Option Int).getD 0 = 0 from rfl] at tv
    rw [hfx, show (none : Option Int).isSome = false from rfl] at th
    have HFX := hid_ hfx
    clear hfx
    rcases (by omega : ck = 1 ∨ ck = 2 ∨ ck = 3) with rfl | rfl | rfl
    · have EB := hid_ (show applyB f ⟨1, (x : Int), cv, co⟩ = true by rw [Bool.eq_iff_iff]; unfold applyB; simp [HAPP.out 1 (by omega), HFX.out])
      have EE := hid_ (show applyE ⟨1, (x : Int), cv, co⟩ = none by unfold applyE; rw [if_neg (by simp), if_neg (show ¬ (8 : Int) ≤ (x : Int) by omega), if_neg (by simp)])
      have EF := hid_ (show applyF f ⟨1, (x : Int), cv, co⟩ = upd f (x : Int) (some cv) by unfold applyF; simp [HAPP.out 1 (by omega), HFX.out])
      have EN := hid_ (show applyN d ⟨1, (x : Int), cv, co⟩ = wrap64 (d + 1) by unfold applyN; simp [HAPP.out 1 (by omega)])
      go_quiet (fail)
      go_upto_region 15 with (fail)
      go_region_held3 (fun w' => w'.cell? ⟨w.heap.size, 1, none⟩ = some (.int .u8 (x : Int))) (go_keep) (fail)
      go_upto_region 16 with (fail)
      refine gen_world (fun W => Fr (· = k) C C w W ∧ Bk W w.heap.size 29 [.int .u8 1, .int .u8 (x : Int), .int .u16 cv, .int .u16 co] ∧ Bk W tb 47 ((rcells f (wrap64 (d + 1))).set (8 + x) (.bool true))) ⟨((F1.drewN nq).setCell (.inr hC) _).drew, ((B1.drewN nq).far hne2 _).drew, ((T1.drewN nq).set (8 + x) _).drew⟩ ?_
      rintro W2 ⟨F2, B2, T2⟩
      have c1 := B2.cell_ 1 rfl
      have c2 := B2.cell_ 2 rfl
      have tv2 := T2.cell_ x (by rw [List.getElem?_set_ne (by omega)]; exact rcells_val f _ hx8)
      have z := fun j => T2.frozen j
      have T3 := T2.set x (.int .u16 cv)
      rw [rcells_put f _ cv hx8] at T3
      have HT3 := hid_ T3
      have HF2 := hid_ F2
      clear T3 T2 F2 F1 B1 T1 c0 c3 tv th
      go_region_held3 (fun w' => w'.cell? ⟨w.heap.size, 1, none⟩ = some (.int .u8 (x : Int)) ∧ w'.cell? ⟨w.heap.size, 2, none⟩ = some (.int .u16 cv)) (go_keep) (fail)
      go_wp2_with fail
      go_ret2
      exact ⟨by rw [EB.out, EE.out]; rfl, (HF2.out.setCell (.inr hC) _).drew, by rw [EF.out, EN.out]; exact HT3.out.drew⟩
    · have EB := hid_ (show applyB f ⟨2, (x : Int), cv, co⟩ = false by rw [Bool.eq_iff_iff]; unfold applyB; simp [HAPP.out 2 (by omega), HFX.out])
      have EE := hid_ (show applyE ⟨2, (x : Int), cv, co⟩ = none by unfold applyE; rw [if_neg (by simp), if_neg (show ¬ (8 : Int) ≤ (x : Int) by omega), if_neg (by simp)])
      have EF := hid_ (show applyF f ⟨2, (x : Int), cv, co⟩ = upd f (x : Int) none by unfold applyF; simp [HAPP.out 2 (by omega), HFX.out])
      have EN := hid_ (show applyN d ⟨2, (x : Int), cv, co⟩ = wrap64 (d + 1) by unfold applyN; simp [HAPP.out 2 (by omega)])
      go_quiet (fail)
      go_upto_region 10 with (fail)
      go_region_held3 (fun w' => w'.cell? ⟨w.heap.size, 1, none⟩ = some (.int .u8 (x : Int))) (go_keep) (fail)
      go_upto_region 11 with (fail)
      refine gen_world (fun W => Fr (· = k) C C w W ∧ Bk W w.heap.size 29 [.int .u8 2, .int .u8 (x : Int), .int .u16 cv, .int .u16 co] ∧ Bk W tb 47 ((rcells f (wrap64 (d + 1))).set (8 + x) (.bool false))) ⟨((F1.drewN nq).setCell (.inr hC) _).drew, ((B1.drewN nq).far hne2 _).drew, ((T1.drewN nq).set (8 + x) _).drew⟩ ?_
      rintro W2 ⟨F2, B2, T2⟩
      have c1 := B2.cell_ 1 rfl
      have c2 := B2.cell_ 2 rfl
      have tv2 := T2.cell_ x (by rw [List.getElem?_set_ne (by omega)]; exact rcells_val f _ hx8)
      have z := fun j => T2.frozen j
      have T3 := T2.set x (.int .u16 0)
      rw [rcells_del f _ hx8] at T3
      have HT3 := hid_ T3
      have HF2 := hid_ F2
      clear T3 T2 F2 F1 B1 T1 c0 c3 tv th
      go_region_held3 (fun w' => w'.cell? ⟨w.heap.size, 1, none⟩ = some (.int .u8 (x : Int))) (go_keep) (fail)
      go_wp2_with fail
      go_ret2
      exact ⟨by rw [EB.out, EE.out]; rfl, (HF2.out.setCell (.inr hC) _).drew, by rw [EF.out, EN.out]; exact HT3.out.drew⟩
    · have EB := hid_ (show applyB f ⟨3, (x : Int), cv, co⟩ = false by rw [Bool.eq_iff_iff]; unfold applyB; simp [HAPP.out 3 (by omega), HFX.out])
      have EE := hid_ (show applyE ⟨3, (x : Int), cv, co⟩ = none by unfold applyE; rw [if_neg (by simp), if_neg (show ¬ (8 : Int) ≤ (x : Int) by omega), if_neg (by simp)])
      have EF := hid_ (show applyF f ⟨3, (x : Int), cv, co⟩ = f by unfold applyF; simp [HAPP.out 3 (by omega), HFX.out])
      have EN := hid_ (show applyN d ⟨3, (x : Int), cv, co⟩ = wrap64 (d + 1) by unfold applyN; simp [HAPP.out 3 (by omega)])
      go_quiet (fail)
      go_wp2_with fail
      go_ret2
      exact ⟨by rw [EB.out, EE.out]; rfl, F1.drewN nq, by rw [EF.out, EN.out]; exact T1.drewN nq⟩
  | some v =>
    rw [hfx, show (some v : Option Int).getD 0 = v from rfl] at tv
    rw [hfx, show (some v : Option Int).isSome = true from rfl] at th
    have HFX := hid_ hfx
    clear hfx
    rcases (by omega : ck = 1 ∨ ck = 2 ∨ ck = 3) with rfl | rfl | rfl
    · have EB := hid_ (show applyB f ⟨1, (x : Int), cv, co⟩ = (v != cv) by rw [Bool.eq_iff_iff]; unfold applyB; simp [HAPP.out 1 (by omega), HFX.out])
      have EE := hid_ (show applyE ⟨1, (x : Int), cv, co⟩ = none by unfold applyE; rw [if_neg (by simp), if_neg (show ¬ (8 : Int) ≤ (x : Int) by omega), if_neg (by simp)])
      have EF := hid_ (show applyF f ⟨1, (x : Int), cv, co⟩ = upd f (x : Int) (some cv) by unfold applyF; simp [HAPP.out 1 (by omega), HFX.out])
      have EN := hid_ (show applyN d ⟨1, (x : Int), cv, co⟩ = wrap64 (d + 1) by unfold applyN; simp [HAPP.out 1 (by omega)])
      go_quiet (fail)
      go_upto_region 15 with (fail)
      go_region_held3 (fun w' => w'.cell? ⟨w.heap.size, 1, none⟩ = some (.int .u8 (x : Int))) (go_keep) (fail)
      go_upto_region 16 with (fail)
      refine gen_world (fun W => Fr (· = k) C C w W ∧ Bk W w.heap.size 29 [.int .u8 1, .int .u8 (x : Int), .int .u16 cv, .int .u16 co] ∧ Bk W tb 47 ((rcells f (wrap64 (d + 1))).set (8 + x) (.bool true))) ⟨((F1.drewN nq).setCell (.inr hC) _).drew, ((B1.drewN nq).far hne2 _).drew, ((T1.drewN nq).set (8 + x) _).drew⟩ ?_
      rintro W2 ⟨F2, B2, T2⟩
      have c1 := B2.cell_ 1 rfl
      have c2 := B2.cell_ 2 rfl
      have tv2 := T2.cell_ x (by rw [List.getElem?_set_ne (by omega)]; exact rcells_val f _ hx8)
      have z := fun j => T2.frozen j
      have T3 := T2.set x (.int .u16 cv)
      rw [rcells_put f _ cv hx8] at T3
      have HT3 := hid_ T3
      have HF2 := hid_ F2
      clear T3 T2 F2 F1 B1 T1 c0 c3 tv th
      go_region_held3 (fun w' => w'.cell? ⟨w.heap.size, 1, none⟩ = some (.int .u8 (x : Int)) ∧ w'.cell? ⟨w.heap.size, 2, none⟩ = some (.int .u16 cv)) (go_keep) (fail)
      go_wp2_with fail
      go_ret2
      exact ⟨by rw [EB.out, EE.out]; rfl, (HF2.out.setCell (.inr hC) _).drew, by rw [EF.out, EN.out]; exact HT3.out.drew⟩
    · have EB := hid_ (show applyB f ⟨2, (x : Int), cv, co⟩ = true by rw [Bool.eq_iff_iff]; unfold applyB; simp [HAPP.out 2 (by omega), HFX.out])
      have EE := hid_ (show applyE ⟨2, (x : Int), cv, co⟩ = none by unfold applyE; rw [if_neg (by simp), if_neg (show ¬ (8 : Int) ≤ (x : Int) by omega), if_neg (by simp)])
      have EF := hid_ (show applyF f ⟨2, (x : Int), cv, co⟩ = upd f (x : Int) none by unfold applyF; simp [HAPP.out 2 (by omega), HFX.out])
      have EN := hid_ (show applyN d ⟨2, (x : Int), cv, co⟩ = wrap64 (d + 1) by unfold applyN; simp [HAPP.out 2 (by omega)])
      go_quiet (fail)
      go_upto_region 10 with (fail)
      go_region_held3 (fun w' => w'.cell? ⟨w.heap.size, 1, none⟩ = some (.int .u8 (x : Int))) (go_keep) (fail)
      go_upto_region 11 with (fail)
      refine gen_world (fun W => Fr (· = k) C C w W ∧ Bk W w.heap.size 29 [.int .u8 2, .int .u8 (x : Int), .int .u16 cv, .int .u16 co] ∧ Bk W tb 47 ((rcells f (wrap64 (d + 1))).set (8 + x) (.bool false))) ⟨((F1.drewN nq).setCell (.inr hC) _).drew, ((B1.drewN nq).far hne2 _).drew, ((T1.drewN nq).set (8 + x) _).drew⟩ ?_
      rintro W2 ⟨F2, B2, T2⟩
      have c1 := B2.cell_ 1 rfl
      have c2 := B2.cell_ 2 rfl
      have tv2 := T2.cell_ x (by rw [List.getElem?_set_ne (by omega)]; exact rcells_val f _ hx8)
      have z := fun j => T2.frozen j
      have T3 := T2.set x (.int .u16 0)
      rw [rcells_del f _ hx8] at T3
      have HT3 := hid_ T3
      have HF2 := hid_ F2
      clear T3 T2 F2 F1 B1 T1 c0 c3 tv th
      go_region_held3 (fun w' => w'.cell? ⟨w.heap.size, 1, none⟩ = some (.int .u8 (x : Int))) (go_keep) (fail)
      go_wp2_with fail
      go_ret2
      exact ⟨by rw [EB.out, EE.out]; rfl, (HF2.out.setCell (.inr hC) _).drew, by rw [EF.out, EN.out]; exact HT3.out.drew⟩
    · by_cases hvo : v = co
      · subst hvo
        have EB := hid_ (show applyB f ⟨3, (x : Int), cv, v⟩ = (v != cv) by rw [Bool.eq_iff_iff]; unfold applyB; simp [HAPP.out 3 (by omega), HFX.out])
        have EE := hid_ (show applyE ⟨3, (x : Int), cv, v⟩ = none by unfold applyE; rw [if_neg (by simp), if_neg (show ¬ (8 : Int) ≤ (x : Int) by omega), if_neg (by simp)])
        have EF := hid_ (show applyF f ⟨3, (x : Int), cv, v⟩ = upd f (x : Int) (some cv) by unfold applyF; simp [HAPP.out 3 (by omega), HFX.out])
        have EN := hid_ (show applyN d ⟨3, (x : Int), cv, v⟩ = wrap64 (d + 1) by unfold applyN; simp [HAPP.out 3 (by omega)])
        have hvv : (v != v) = false := by simp
        go_quiet (fail)
        go_upto_region 15 with (fail)
        go_region_held3 (fun w' => w'.cell? ⟨w.heap.size, 1, none⟩ = some (.int .u8 (x : Int))) (go_keep) (fail)
        go_upto_region 16 with (fail)
        refine gen_world (fun W => Fr (· = k) C C w W ∧ Bk W w.heap.size 29 [.int .u8 3, .int .u8 (x : Int), .int .u16 cv, .int .u16 v] ∧ Bk W tb 47 ((rcells f (wrap64 (d + 1))).set (8 + x) (.bool true))) ⟨((F1.drewN nq).setCell (.inr hC) _).drew, ((B1.drewN nq).far hne2 _).drew, ((T1.drewN nq).set (8 + x) _).drew⟩ ?_
        rintro W2 ⟨F2, B2, T2⟩
        have c1 := B2.cell_ 1 rfl
        have c2 := B2.cell_ 2 rfl
        have tv2 := T2.cell_ x (by rw [List.getElem?_set_ne (by omega)]; exact rcells_val f _ hx8)
        have z := fun j => T2.frozen j
        have T3 := T2.set x (.int .u16 cv)
        rw [rcells_put f _ cv hx8] at T3
        have HT3 := hid_ T3
        have HF2 := hid_ F2
        clear T3 T2 F2 F1 B1 T1 c0 c3 tv th
        go_region_held3 (fun w' => w'.cell? ⟨w.heap.size, 1, none⟩ = some (.int .u8 (x : Int)) ∧ w'.cell? ⟨w.heap.size, 2, none⟩ = some (.int .u16 cv)) (go_keep) (fail)
        go_wp2_with fail
        go_ret2
        exact ⟨by rw [EB.out, EE.out]; rfl, (HF2.out.setCell (.inr hC) _).drew, by rw [EF.out, EN.out]; exact HT3.out.drew⟩
      · have hvv : (v != co) = true := by simpa using hvo
        have EB := hid_ (show applyB f ⟨3, (x : Int), cv, co⟩ = false by rw [Bool.eq_iff_iff]; unfold applyB; simp [HAPP.out 3 (by omega), HFX.out, hvo])
        have EE := hid_ (show applyE ⟨3, (x : Int), cv, co⟩ = none by unfold applyE; rw [if_neg (by simp), if_neg (show ¬ (8 : Int) ≤ (x : Int) by omega), if_neg (by simp)])
        have EF := hid_ (show applyF f ⟨3, (x : Int), cv, co⟩ = f by unfold applyF; simp [HAPP.out 3 (by omega), HFX.out, hvo])
        have EN := hid_ (show applyN d ⟨3, (x : Int), cv, co⟩ = wrap64 (d + 1) by unfold applyN; simp [HAPP.out 3 (by omega)])
        go_quiet (fail)
        go_wp2_with fail
        go_ret2
        exact ⟨by rw [EB.out, EE.out]; rfl, F1.drewN nq, by rw [EF.out, EN.out]; exact T1.drewN nq⟩
end Go.Proofs.Ytomcjmgbkpbdpaa
