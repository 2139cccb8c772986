/- MidpointHolds: the walk. No condition. -/
import Derived.Test.YtpghhnapgleajaaMostLaw
set_option linter.unusedSimpArgs false
set_option linter.unusedVariables false
namespace Go.Proofs.Ytpghhnapgleajaa
open Go.RowKit Go.Maps

theorem Bld.set {w W : World} {b o n cap : Nat} {xs : List Int} (h : Bld w (.slice (some ⟨b, o, none⟩) n cap) xs W) (i : Nat) (hi : i < n) (x : Int) :
    Bld w (.slice (some ⟨b, o, none⟩) n cap) (xs.set i x) (W.setCell ⟨b, o + i, none⟩ (.int .i64 x)) := by
  obtain ⟨C, hF, hfin, hS⟩ := h
  obtain ⟨a', cap', hv, h1, h2, h3⟩ := hS.form
  injection hv with e1 e2 e3
  obtain ⟨b', off', ha, hC, hlt, _⟩ := (show Sl W C 7 (.slice (some ⟨b, o, none⟩) xs.length cap) 3 1 xs.length (xs.map (Value.int .i64)) by rw [← e2]; rw [e2] at hS ⊢; exact hS).at (by omega)
  injection ha with ha
  injection ha with hb _
  subst hb
  subst e2
  have hS' := hS.set i (by omega) (.int .i64 x)
  have hge : w.heap.size ≤ b := by
    rcases Nat.lt_or_ge b w.heap.size with h | h
    · have := (hF.block b h (fun h => h rfl)).2
      rw [hC] at this
      cases this
    · exact h
  refine ⟨C, hF.setCell (.inl hge) _, fun y hy => hfin y (by rw [World.size_setCell] at hy; exact hy), ?_⟩
  rw [List.length_set, List.map_set]
  exact hS'
theorem Bld.drew {w W : World} {v : Value} {xs : List Int} (h : Bld w v xs W) : Bld w v xs W.drew := by
  obtain ⟨C, hF, hfin, hS⟩ := h
  exact ⟨C, hF.drew, hfin, hS⟩
theorem Bld.drewN {w W : World} {v : Value} {xs : List Int} (h : Bld w v xs W) (n : Nat) : Bld w v xs (W.drewN n) := by
  obtain ⟨C, hF, hfin, hS⟩ := h
  exact ⟨C, hF.drewN n, hfin, hS.drewN n⟩
theorem Bld.ints {w W : World} {v : Value} {xs : List Int} (h : Bld w v xs W) : IsInts W (fun _ => 0) v xs := by
  obtain ⟨C, hF, hfin, hS⟩ := h
  exact hS.ints
theorem Bld.old {w W : World} {v : Value} {xs : List Int} (h : Bld w v xs W) : Below w.heap.size w W := by
  obtain ⟨C, hF, hfin, hS⟩ := h
  exact hF.below (fun b _ h => h rfl)
/-- A copy is built. -/
theorem Bld.of_copy {w w1 W1 : World} {b1 o1 p1 : Nat} {l : List Int} (V1 : Below w.heap.size w w1) (hb1 : Below w1.heap.size w1 W1) (hge1 : w1.heap.size ≤ b1) (hraw1 : Raw W1 (.slice (some ⟨b1, o1, none⟩) l.length p1) 3 1 l.length (l.map (Value.int .i64)) b1) :
    Bld w (.slice (some ⟨b1, o1, none⟩) l.length p1) l W1 := by
  have hw1 : w.heap.size ≤ b1 := Nat.le_trans V1.size hge1
  have hfr : Fr (· ≠ 0) (fun _ => 0) (fun y => if y = b1 then 7 else 0) w W1 := (Fr.of_below (below_then V1 hb1) (· ≠ 0)).recolour (fun b hb _ => if_neg (by omega)) (fun b hb => if_neg (by have := hraw1.lt; omega))
  exact ⟨_, hfr, hfr.Fin (fun _ _ => rfl), .inr ⟨b1, by simp, hraw1⟩⟩

/-- What MidpointHolds' loop keeps. -/
def HoldsR (w : World) (v : Value) (l : List Int) (f k : Nat) (lo hi : Int) (ys : List Int) (W : World) : Prop :=
  Bld w v ys W ∧ ys.length = l.length ∧ (∀ x ∈ ys, Z64 x) ∧ (∀ j, f ≤ j → ys.getD j 0 = l.getD j 0) ∧ (∀ j, f ≤ j → j < k → lo ≤ l.getD j 0 ∧ l.getD j 0 ≤ hi)
theorem getD_mem {l : List Int} {j : Nat} (h : j < l.length) : l.getD j 0 ∈ l := by
  rw [List.getD_eq_getElem?_getD, List.getElem?_eq_getElem h]
  exact List.getElem_mem h
theorem HoldsR.done {w W : World} {v : Value} {l : List Int} {f : Nat} {lo hi : Int} {ys : List Int} (h : HoldsR w v l f l.length lo hi ys W) (hf : 2 * f < l.length) : lo ≤ midz ys f ∧ midz ys f ≤ hi := by
  obtain ⟨_, h1, _, h2, h3⟩ := h
  refine mid_among ys f (by omega) lo hi (fun x hx => ?_) (fun x hx => ?_) <;>
  · obtain ⟨j, hj, rfl⟩ := List.mem_iff_getElem.1 hx
    rw [List.getElem_drop]
    rw [List.length_drop] at hj
    have e := h2 (f + j) (by omega)
    rw [List.getD_eq_getElem?_getD, List.getElem?_eq_getElem (by omega)] at e
    have e2 := h3 (f + j) (by omega) (by omega)
    simp only [Option.getD_some] at e
    omega
theorem HoldsR.keep {w W : World} {v : Value} {l : List Int} {f k : Nat} {lo hi : Int} {ys : List Int} (h : HoldsR w v l f k lo hi ys W) (n : Nat) (hk : k < f) : HoldsR w v l f (k + 1) lo hi ys W := by
  obtain ⟨h1, h2, h3, h4, h5⟩ := h
  exact ⟨h1, h2, h3, h4, fun j h6 h7 => by omega⟩
theorem HoldsR.wide {w W : World} {v : Value} {l : List Int} {f k : Nat} {lo hi : Int} {ys : List Int} (h : HoldsR w v l f k lo hi ys W) (n : Nat) (hk : f ≤ k) (lo' hi' : Int) (hl : lo' ≤ lo ∧ lo' ≤ ys.getD k 0) (hh : hi ≤ hi' ∧ ys.getD k 0 ≤ hi') : HoldsR w v l f (k + 1) lo' hi' ys W := by
  obtain ⟨h1, h2, h3, h4, h5⟩ := h
  refine ⟨h1, h2, h3, h4, fun j h6 h7 => ?_⟩
  by_cases hj : j < k
  · have := h5 j h6 hj; omega
  · obtain rfl : j = k := by omega
    rw [← h4 j h6]; omega
theorem HoldsR.set {w W : World} {b o n cap : Nat} {l : List Int} {f k : Nat} {lo hi : Int} {ys : List Int} (h : HoldsR w (.slice (some ⟨b, o, none⟩) n cap) l f k lo hi ys W) (hk : k < f) (hn : k < n) (x : Int) (hx : Z64 x) :
    HoldsR w (.slice (some ⟨b, o, none⟩) n cap) l f (k + 1) lo hi (ys.set k x) (W.setCell ⟨b, o + k, none⟩ (.int .i64 x)) := by
  obtain ⟨h1, h2, h3, h4, h5⟩ := h
  refine ⟨h1.set k hn x, by rw [List.length_set]; exact h2, fun y hy => ?_, fun j hj => ?_, fun j h6 h7 => by omega⟩
  · rcases List.mem_or_eq_of_mem_set hy with h | rfl
    · exact h3 y h
    · exact hx
  · rw [List.getD_eq_getElem?_getD, List.getElem?_set_ne (by omega), ← List.getD_eq_getElem?_getD]
    exact h4 j hj

set_option maxRecDepth 100000 in
set_option maxHeartbeats 4000000 in
theorem holds_walk (l : List Int) (hl : ∀ x ∈ l, Z64 x) (lv : Value) (f0 : Int) (hf0 : Z64 f0) (od : List Int) (hod : ∀ x ∈ od, Z64 x) (ov : Value) (w : World) (h : IsInts w (fun _ => 0) lv l) (ho : IsInts w (fun _ => 0) ov od) :
    Calls Try.prog 4 #[lv, .int .i64 f0, ov] w fun e w' => e = .returned (.bool true) ∧ Below w.heap.size w w' := by
  obtain ⟨a, cap, rfl, hc1, hc2⟩ := h.form
  obtain ⟨oa, oc, rfl, oc1, oc2⟩ := ho.form
  unfold maxLen at hc2 oc2
  go_enter Try.func4, Try.ntmps4
  go_wp2_with fail
  refine (awake10 _).mono ?_
  rintro e w1 ⟨rfl, V1⟩
  by_cases h1 : (l.length : Int) < 1
  · go_wp2
    go_ret
    exact ⟨rfl, V1⟩
  by_cases h2 : (100 : Int) < (l.length : Int)
  · go_wp2
    go_ret
    exact ⟨rfl, V1⟩
  have i1 := h.below V1
  have HO0 := hid_ ho
  have n0 : (0 : Int) ≤ (l.length : Int) - 1 := by omega
  have hl100 : l.length ≤ 100 := by omega
  go_upto_region 6 with (fail)
  obtain ⟨F, hF, hFm⟩ := rem_nat f0 (((l.length : Int) - 1) / 2 + 1) (by omega) (by omega)
  rw [hF]
  clear hF
  have hF2 : 2 * F < l.length := by omega
  obtain ⟨lb, lo, rfl, hlc⟩ := i1.cells (by omega)
  have c0 := hlc F (by omega)
  have m1 : (0 : Int) ≤ (F : Int) := by omega
  have m2 : (F : Int) < (l.length : Int) := by omega
  have zA := hl _ (getD_mem (show F < l.length by omega))
  have I1 := hid_ i1
  have HLE : Hid (∀ j, F ≤ j → j < 0 → l.getD F 0 ≤ l.getD j 0 ∧ l.getD j 0 ≤ l.getD F 0) := hid_ (fun j _ h => by omega)
  clear hlc i1 h ho
  generalize hA : l.getD F 0 = A at *
  have HA := hid_ hA
  clear hA
  go_quiet (fail)
  have VN : Below w.heap.size w (w1.drewN nq) := below_drewN V1 nq
  have IN : IsInts (w1.drewN nq) (fun _ => 0) (.slice (some ⟨lb, lo, none⟩) l.length cap) l := I1.out.below (below_drewN (Below.refl _ _) nq)
  clear I1 V1 c0
  generalize w1.drewN nq = w2 at *
  obtain ⟨b1, o1, p1, W1, hr1, hi1, hb1, hge1, hraw1⟩ := copy_ints w2 IN (by omega)
  have HR1 := hid_ hr1
  have HI : HoldsR w (.slice (some ⟨b1, o1, none⟩) l.length p1) l F 0 A A l W1 := ⟨Bld.of_copy VN hb1 hge1 hraw1, rfl, hl, fun _ _ => rfl, fun j _ h => by omega⟩
  have HH := hid_ HI
  clear hr1 hi1 hraw1 HI IN HLE hge1
  go_upto_block 1 with (refine wpList_append_run HR1.out (by rfl) (by rfl) (by rfl) (by rfl) ?_)
  clear HR1
  go_loopw [7, 8, 46] (fun u v i wr => ∃ (k : Nat) (lo' hi' : Int) (ys : List Int), k ≤ l.length ∧ i = .int .i64 k ∧ u = .int .i64 lo' ∧ v = .int .i64 hi' ∧ HoldsR w (.slice (some ⟨b1, o1, none⟩) l.length p1) l F k lo' hi' ys wr ∧ Z64 lo' ∧ Z64 hi') (fun _ _ i _ => l.length - (intOf i).toNat)
  case atStart => exact ⟨0, A, A, l, Nat.zero_le _, rfl, rfl, rfl, HH.out, zA, zA⟩
  case round =>
    obtain ⟨k, lo', hi', ys, hk, rfl, rfl, rfl, hR, zl, zh⟩ := hrel
    clear HH
    by_cases hlt : k < l.length
    · have c1 : wr.cell? ⟨b1, o1 + k, none⟩ = some (.int .i64 (ys.getD k 0)) := by
        have e := hR.2.1
        have hI := hR.1.ints
        obtain ⟨b', o', e', hc⟩ := hI.cells (by omega)
        injection e' with e'
        injection e' with e1 e2
        subst e1 e2
        exact hc k hlt
      have zB := hR.2.2.1 _ (getD_mem (show k < ys.length by rw [hR.2.1]; exact hlt))
      have m3 : (0 : Int) ≤ (k : Int) := by omega
      have m4 : (k : Int) < (l.length : Int) := by omega
      by_cases hkF : F ≤ k
      · have HW : ∀ lo2 hi2 : Int, (lo2 ≤ lo' ∧ lo2 ≤ ys.getD k 0) → (hi' ≤ hi2 ∧ ys.getD k 0 ≤ hi2) → HoldsR w (.slice (some ⟨b1, o1, none⟩) l.length p1) l F (k + 1) lo2 hi2 ys wr.drew := fun lo2 hi2 h1 h2 => by
          obtain ⟨g1, g2⟩ := hR.wide 0 hkF lo2 hi2 h1 h2
          exact ⟨g1.drew, g2⟩
        have HWH := hid_ HW
        clear HW hR
        generalize ys.getD k 0 = B at *
        obtain ⟨l1, l2⟩ := zl
        obtain ⟨l3, l4⟩ := zh
        obtain ⟨l5, l6⟩ := zB
        go_upto_region 12 with (fail)
        go_region_law (go_simp)
        all_goals
          go_wp2
          go_roundw
          case rel => exact ⟨k + 1, min lo' B, max hi' B, ys, by omega, by go_num, rfl, rfl, HWH.out _ _ (by omega) (by omega), ⟨by omega, by omega⟩, ⟨by omega, by omega⟩⟩
          case measure => simp [intOf]; omega
      · by_cases hko : k < od.length
        · obtain ⟨ob, oo, rfl, hoc⟩ := (HO0.out.below hR.1.old).cells (by omega)
          have c2 := hoc k hko
          have zO := hod _ (getD_mem hko)
          have HS := hid_ (hR.set (by omega) hlt (od.getD k 0) zO)
          have fz : ∀ i, wr.frozen? ⟨b1, i, none⟩ = false := by
            obtain ⟨C, _, _, hS⟩ := hR.1
            rw [hR.2.1] at hS
            exact fun i => hS.frozen i
          clear hR hoc
          generalize od.getD k 0 = x at *
          go_wp2_with fail
          go_roundw
          case rel => exact ⟨k + 1, lo', hi', ys.set k x, by omega, by go_num, rfl, rfl, HS.out, zl, zh⟩
          case measure => simp [intOf]; omega
        · have HK := hid_ (hR.keep 0 (by omega))
          clear hR
          go_wp2_with fail
          go_roundw
          case rel => exact ⟨k + 1, lo', hi', ys, by omega, by go_num, rfl, rfl, HK.out, zl, zh⟩
          case measure => simp [intOf]; omega
    · obtain rfl : k = l.length := by omega
      have hd := hR.done hF2
      have hI := hR.1.ints
      have hlen := hR.2.1
      have hzs := hR.2.2.1
      have hold := hR.1.old
      have HD := hid_ hd
      have HL := hid_ hlen
      have HZ := hid_ hzs
      clear hd hR hlen hzs hlt
      go_wp2_with fail
      refine (mid_yes (fun _ => 0) ys HZ.out F _ _ (fun _ _ => rfl) hI (by rw [HL.out]; omega) (by rw [HL.out]; omega)).mono ?_
      rintro e w3 ⟨rfl, V3⟩
      obtain ⟨d1, d2⟩ := HD.out
      generalize midz ys F = md at *
      have VF := below_then hold V3
      clear hold V3 hI
      go_wp2_with fail
      go_ret
      exact ⟨rfl, VF⟩
end Go.Proofs.Ytpghhnapgleajaa
