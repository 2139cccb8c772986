/- MidpointMeets: the walk. No condition. -/
import Derived.Test.YtpghhnapgleajaaMoves
import Derived.BigRegion
set_option linter.unusedSimpArgs false
set_option linter.unusedVariables false
namespace Go.Proofs.Ytpghhnapgleajaa
open Go.RowKit Go.Maps

theorem Two.setB {w W : World} {va : Value} {b o n cap : Nat} {xs ys : List Int} (h : Two 7 8 w va xs (.slice (some ⟨b, o, none⟩) n cap) ys W) (i : Nat) (hi : i < n) (x : Int) :
    Two 7 8 w va xs (.slice (some ⟨b, o, none⟩) n cap) (ys.set i x) (W.setCell ⟨b, o + i, none⟩ (.int .i64 x)) := (h.swap.set (by omega) (by omega) i hi x).swap
theorem Two.cell {w W : World} {ka kb : Nat} {b n : Nat} {vb : Value} {xs ys : List Int} (h : Two ka kb w (.slice (some ⟨b, 0, none⟩) n n) xs vb ys W) {i : Nat} (hi : i < n) : W.cell? ⟨b, i, none⟩ = some (.int .i64 (xs.getD i 0)) := by
  obtain ⟨b', o', e', hc⟩ := h.ints.cells (by omega)
  injection e' with e'
  injection e' with e1 e2
  subst e1 e2
  have := hc i hi
  rwa [Nat.zero_add] at this
theorem Two.frozen {w W : World} {ka kb : Nat} {b n : Nat} {vb : Value} {xs ys : List Int} (h : Two ka kb w (.slice (some ⟨b, 0, none⟩) n n) xs vb ys W) (i : Nat) : W.frozen? ⟨b, i, none⟩ = false := by
  obtain ⟨C, _, _, hS, _⟩ := h
  have e := hS.ints.len
  exact (show Sl W C ka (.slice (some ⟨b, 0, none⟩) xs.length n) 3 1 xs.length (xs.map (Value.int .i64)) by rw [← e]; rw [← e] at hS; exact hS).frozen i
theorem Two.ne {w W : World} {ba bb na nb : Nat} {xs ys : List Int} (h : Two 7 8 w (.slice (some ⟨ba, 0, none⟩) na na) xs (.slice (some ⟨bb, 0, none⟩) nb nb) ys W) : ba ≠ bb := by
  obtain ⟨C, _, _, hS, hT⟩ := h
  have h1 : C ba = 7 := hS.block (by simp [Value.ownBlock])
  have h2 : C bb = 8 := hT.block (by simp [Value.ownBlock])
  rintro rfl
  omega

theorem ret_bool {a b : Bool} (h : a = b) : Ending.returned (.bool a) = .returned (.bool b) := by rw [h]
/-- What MidpointMeets' loop keeps. -/
structure MeetR (n f : Nat) (x : Int) (k : Nat) (xs ys : List Int) (lo hi : Int) : Prop where
  lx : xs.length = n
  ly : ys.length = n
  zx : ∀ v ∈ xs, Z64 v
  zy : ∀ v ∈ ys, Z64 v
  near : ∀ j, f ≤ j → j < k → lo ≤ xs.getD j 0 ∧ xs.getD j 0 ≤ hi ∧ lo ≤ ys.getD j 0 ∧ ys.getD j 0 ≤ hi ∧ xs.getD j 0 - x ≤ ys.getD j 0 ∧ ys.getD j 0 ≤ xs.getD j 0 + x
  lo1 : -1001000 ≤ lo
  hi1 : hi ≤ 1001000
  le : lo ≤ hi
theorem mem_set {l : List Int} {i : Nat} {x v : Int} {P : Int → Prop} (hl : ∀ v ∈ l, P v) (hx : P x) (hv : v ∈ l.set i x) : P v := by
  rcases List.mem_or_eq_of_mem_set hv with h | rfl
  · exact hl v h
  · exact hx
theorem MeetR.odd {n f : Nat} {x : Int} {k : Nat} {xs ys : List Int} {lo hi : Int} (h : MeetR n f x k xs ys lo hi) (hk : k < f) (A B : Int) (zA : Z64 A) (zB : Z64 B) : MeetR n f x (k + 1) (xs.set k A) (ys.set k B) lo hi :=
  ⟨by rw [List.length_set]; exact h.lx, by rw [List.length_set]; exact h.ly, fun v hv => mem_set h.zx zA hv, fun v hv => mem_set h.zy zB hv, fun j h1 h2 => by omega, h.lo1, h.hi1, h.le⟩
theorem MeetR.good {n f : Nat} {x : Int} {k : Nat} {xs ys : List Int} {lo hi : Int} (h : MeetR n f x k xs ys lo hi) (hn : k < n) (hk : f ≤ k) (A B lo' hi' : Int) (zA : -1000000 < A ∧ A < 1000000) (hx : x < 1000) (hAB : A - x ≤ B ∧ B ≤ A + x)
    (hlo : f < k → lo' ≤ lo) (hhi : f < k → hi ≤ hi') (h1 : lo' ≤ A ∧ lo' ≤ B) (h2 : A ≤ hi' ∧ B ≤ hi') (h3 : -1001000 ≤ lo') (h4 : hi' ≤ 1001000) : MeetR n f x (k + 1) (xs.set k A) (ys.set k B) lo' hi' := by
  refine ⟨by rw [List.length_set]; exact h.lx, by rw [List.length_set]; exact h.ly, fun v hv => mem_set h.zx (by unfold Z64; omega) hv, fun v hv => mem_set h.zy (by unfold Z64; omega) hv, fun j h5 h6 => ?_, h3, h4, by omega⟩
  by_cases hj : j = k
  · subst hj
    rw [getD_set_self _ (by rw [h.lx]; exact hn), getD_set_self _ (by rw [h.ly]; exact hn)]
    omega
  · rw [getD_set_other _ (Ne.symm hj), getD_set_other _ (Ne.symm hj)]
    have := h.near j h5 (by omega)
    have := hlo (by omega)
    have := hhi (by omega)
    omega
theorem getD_drop {l : List Int} {f i : Nat} {u : Int} (h : (l.drop f)[i]? = some u) : l.getD (f + i) 0 = u ∧ f + i < l.length := by
  rw [List.getElem?_drop] at h
  have := (List.getElem?_eq_some_iff.1 h).1
  rw [List.getD_eq_getElem?_getD, h]
  exact ⟨rfl, this⟩
theorem MeetR.done {n f : Nat} {x : Int} {xs ys : List Int} {lo hi : Int} (h : MeetR n f x n xs ys lo hi) (hf : 3 * f < n) :
    2 * (midz xs f - midz ys f) ≤ hi - lo + x + 1 ∧ 2 * (midz ys f - midz xs f) ≤ hi - lo + x + 1 ∧ (lo ≤ midz xs f ∧ midz xs f ≤ hi) ∧ (lo ≤ midz ys f ∧ midz ys f ≤ hi) := by
  have hx : ∀ v ∈ xs.drop f, lo ≤ v ∧ v ≤ hi := fun v hv => by
    obtain ⟨i, hi', rfl⟩ := List.mem_iff_getElem.1 hv
    obtain ⟨e1, e2⟩ := getD_drop (List.getElem?_eq_getElem hi')
    have := h.near (f + i) (by omega) (by rw [← h.lx]; exact e2)
    omega
  have hy : ∀ v ∈ ys.drop f, lo ≤ v ∧ v ≤ hi := fun v hv => by
    obtain ⟨i, hi', rfl⟩ := List.mem_iff_getElem.1 hv
    obtain ⟨e1, e2⟩ := getD_drop (List.getElem?_eq_getElem hi')
    have := h.near (f + i) (by omega) (by rw [← h.ly]; exact e2)
    omega
  have hm := mids_near xs ys n f h.lx h.ly hf x lo hi hx hy (fun i u v h1 h2 => by
    obtain ⟨e1, e2⟩ := getD_drop h1
    obtain ⟨e3, e4⟩ := getD_drop h2
    have := h.near (f + i) (by omega) (by rw [← h.lx]; exact e2)
    omega)
  exact ⟨hm.1, hm.2, mid_among xs f (by rw [h.lx]; omega) lo hi (fun v hv => (hx v hv).1) (fun v hv => (hx v hv).2), mid_among ys f (by rw [h.ly]; omega) lo hi (fun v hv => (hy v hv).1) (fun v hv => (hy v hv).2)⟩
theorem tmod_near (v x : Int) (hx : 0 ≤ x) : -x ≤ v.tmod (x + 1) ∧ v.tmod (x + 1) ≤ x := by
  have h1 := Int.tmod_lt_of_pos v (show (0 : Int) < x + 1 by omega)
  have h2 := Int.lt_tmod_of_pos v (show (0 : Int) < x + 1 by omega)
  omega

set_option maxRecDepth 100000 in
set_option maxHeartbeats 8000000 in
theorem meets_walk (l : List Int) (hl : ∀ x ∈ l, Z64 x) (lv : Value) (nz : List Int) (hnz : ∀ x ∈ nz, Z64 x) (nv : Value) (od : List Int) (hod : ∀ x ∈ od, Z64 x) (ov : Value) (ot : List Int) (hot : ∀ x ∈ ot, Z64 x) (tv : Value) (f0 : Int) (hf0 : Z64 f0) (x0 : Int) (hx0 : Z64 x0) (w : World)
    (h : IsInts w (fun _ => 0) lv l) (hn : IsInts w (fun _ => 0) nv nz) (ho : IsInts w (fun _ => 0) ov od) (ht : IsInts w (fun _ => 0) tv ot) :
    Calls Try.prog 5 #[lv, nv, ov, tv, .int .i64 f0, .int .i64 x0] w fun e w' => e = .returned (.bool true) ∧ Below w.heap.size w w' := by
  obtain ⟨a, cap, rfl, hc1, hc2⟩ := h.form
  obtain ⟨na, nc, rfl, nc1, nc2⟩ := hn.form
  obtain ⟨oa, oc, rfl, oc1, oc2⟩ := ho.form
  obtain ⟨ta, tc, rfl, tc1, tc2⟩ := ht.form
  unfold maxLen at hc2 nc2 oc2 tc2
  go_enter Try.func5, Try.ntmps5
  go_wp2_with fail
  refine (awake10 _).mono ?_
  rintro e w1 ⟨rfl, V1⟩
  by_cases h1 : (l.length : Int) < 1
  · go_wp2
    go_ret
    exact ⟨rfl, V1⟩
  by_cases h2 : (60 : Int) < (l.length : Int)
  · go_wp2
    go_ret
    exact ⟨rfl, V1⟩
  have n0 : (0 : Int) ≤ (l.length : Int) - 1 := by omega
  have hl60 : l.length ≤ 60 := by omega
  go_upto_region 7 with (fail)
  obtain ⟨F, hF, hFm⟩ := rem_nat f0 (((l.length : Int) - 1) / 3 + 1) (by omega) (by omega)
  obtain ⟨X, hX, hXm⟩ := rem_nat x0 1000 (by omega) (by omega)
  rw [hF, hX]
  clear hF hX
  have hF3 : 3 * F < l.length := by omega
  have mk := make_ints l.length (by omega)
  obtain ⟨Z, hZ⟩ : ∃ Z, Z = (List.replicate l.length (Value.int .i64 0)).toArray := ⟨_, rfl⟩
  rw [← hZ] at mk
  have HZ := hid_ hZ
  have HH := hid_ h
  have HN := hid_ hn
  have HO := hid_ ho
  have HTT := hid_ ht
  clear hZ h hn ho ht
  have hbw : Below w.heap.size w ((w1.alloc (.cells Z 3)).alloc (.cells Z 3)).drew := ((V1.alloc V1.size _).alloc (by have := V1.size; simp; omega) _).drew
  have hb1 : ((w1.alloc (.cells Z 3)).alloc (.cells Z 3)).drew.heap[w1.heap.size]? = some (.cells (List.replicate l.length (Value.int .i64 0)).toArray 3 (0, 0)) := by
    rw [← HZ.out]
    exact (Below.heap_alloc _ _ _ (by simp)).trans (World.alloc_heap_new w1 _)
  have hb2 : ((w1.alloc (.cells Z 3)).alloc (.cells Z 3)).drew.heap[w1.heap.size + 1]? = some (.cells (List.replicate l.length (Value.int .i64 0)).toArray 3 (0, 0)) := by
    rw [← HZ.out]
    have := World.alloc_heap_new (w1.alloc (.cells Z 3)) (.cells Z 3)
    rw [World.size_alloc] at this
    exact this
  have S1 := hid_ (Two.start hbw (by omega) (by omega) V1.size (by have := V1.size; omega) hb1 hb2)
  have S2 := hid_ (Two.start hbw (by omega) (by omega) (by have := V1.size; omega) V1.size hb2 hb1)
  clear hbw hb1 hb2
  go_region_law (go_simp)
  all_goals go_upto_block 1 with (fail)
  refine gen_world (fun W => Two 7 8 w (.slice (some ⟨w1.heap.size, 0, none⟩) l.length l.length) (List.replicate l.length 0) (.slice (some ⟨w1.heap.size + 1, 0, none⟩) l.length l.length) (List.replicate l.length 0) W) S1.out ?_
  clear S1 S2 mk V1 HZ
  generalize w1.heap.size + 1 = bb
  generalize w1.heap.size = ba
  rotate_left
  refine gen_world (fun W => Two 7 8 w (.slice (some ⟨w1.heap.size + 1, 0, none⟩) l.length l.length) (List.replicate l.length 0) (.slice (some ⟨w1.heap.size, 0, none⟩) l.length l.length) (List.replicate l.length 0) W) S2.out ?_
  clear S1 S2 mk V1 HZ
  generalize w1.heap.size + 1 = ba
  generalize w1.heap.size = bb
  rotate_left
  all_goals
    rintro W4 T4
    have HT := hid_ T4
    clear T4
    go_loopw [16, 17, 53] (fun u v i wr => ∃ (k : Nat) (lo hi : Int) (xs ys : List Int), k ≤ l.length ∧ i = .int .i64 k ∧ u = .int .i64 lo ∧ v = .int .i64 hi ∧ MeetR l.length F X k xs ys lo hi ∧ Two 7 8 w (.slice (some ⟨ba, 0, none⟩) l.length l.length) xs (.slice (some ⟨bb, 0, none⟩) l.length l.length) ys wr) (fun _ _ i _ => l.length - (intOf i).toNat)
    case atStart =>
      refine ⟨0, 0, 0, _, _, Nat.zero_le _, rfl, rfl, rfl, ⟨by simp, by simp, fun v hv => ?_, fun v hv => ?_, fun j h1 h2 => by omega, by omega, by omega, by omega⟩, HT.out⟩
      all_goals
        have := List.eq_of_mem_replicate hv
        subst this
        unfold Z64; omega
    case round =>
      obtain ⟨k, lo, hi, xs, ys, hk, rfl, rfl, rfl, hM, hT⟩ := hrel
      clear HT
      by_cases hlt : k < l.length
      · obtain ⟨lb, lo', rfl, hlc⟩ := (HH.out.below hT.old).cells (by omega)
        have c0 := hlc k hlt
        have hA := tmod_small (l.getD k 0)
        obtain ⟨z1, z2⟩ := hl _ (getD_mem hlt)
        have ya := hT.cell hlt
        have yb := hT.swap.cell hlt
        have fa := hT.frozen
        have fb := hT.swap.frozen
        have hne := hT.ne
        have hne2 := Ne.symm hne
        have S1 := hT.set (by omega) (by omega) k hlt ((l.getD k 0).tmod 1000000)
        have S2 := S1.setB k hlt ((l.getD k 0).tmod 1000000)
        rw [Nat.zero_add] at S2
        have HS2 := hid_ S2
        have HM := hid_ hM
        clear S1 S2 hT hlc hM
        generalize l.getD k 0 = v at *
        go_upto_region 14 with (fail)
        generalize v.tmod 1000000 = A at *
        refine gen_world (fun W => Two 7 8 w (.slice (some ⟨ba, 0, none⟩) l.length l.length) (xs.set k A) (.slice (some ⟨bb, 0, none⟩) l.length l.length) (ys.set k A) W) HS2.out ?_
        clear HS2 c0 ya yb fa fb
        rintro W2 T2
        have HT2 := hid_ T2
        obtain ⟨hA1, hA2⟩ := hA
        have c2 := T2.swap.cell hlt
        rw [getD_set_self _ (by rw [HM.out.ly]; exact hlt)] at c2
        have f2 := T2.swap.frozen
        by_cases hkn : k < nz.length
        · obtain ⟨nb, no, rfl, hnc⟩ := (HN.out.below T2.old).cells (by omega)
          have c3 := hnc k hkn
          have hN := tmod_near (nz.getD k 0) X (by omega)
          obtain ⟨z3, z4⟩ := hnz _ (getD_mem hkn)
          have S3 := T2.setB k hlt (A + (nz.getD k 0).tmod ((X : Int) + 1))
          rw [Nat.zero_add, List.set_set] at S3
          have HS3 := hid_ S3.drew
          clear S3 T2 hnc
          generalize nz.getD k 0 = u at *
          obtain ⟨hN1, hN2⟩ := hN
          go_upto_region 15 with (fail)
          have q1 : ¬ ((X : Int) + 1 = 0) := by omega
          have q2 : IntKind.i64.wrap ((X : Int) + 1) = (X : Int) + 1 := IntWalk.i64_in _ (by omega)
          have q3 : IntKind.i64.wrap (A + u.tmod ((X : Int) + 1)) = A + u.tmod ((X : Int) + 1) := IntWalk.i64_in _ (by omega)
          go_region_law (go_simp)
          all_goals
            clear q1 q2 q3
            have hAB : A - (X : Int) ≤ A + u.tmod ((X : Int) + 1) ∧ A + u.tmod ((X : Int) + 1) ≤ A + (X : Int) := by omega
            clear hN1 hN2
            go_upto_region 16 with (fail)
            generalize A + u.tmod ((X : Int) + 1) = B at *
            refine gen_world (fun W => Two 7 8 w (.slice (some ⟨ba, 0, none⟩) l.length l.length) (xs.set k A) (.slice (some ⟨bb, 0, none⟩) l.length l.length) (ys.set k B) W) HS3.out ?_
            clear HS3 HT2 c2 c3 f2
            rintro W3 T3
            by_cases hkF : k < F
            · have xa := T3.cell hlt
              have xb := T3.swap.cell hlt
              have ga := T3.frozen
              have gb := T3.swap.frozen
              by_cases hko : k < od.length
              · obtain ⟨ob, oo, rfl, hoc⟩ := (HO.out.below T3.old).cells (by omega)
                have d0 := hoc k hko
                have zO := hod _ (getD_mem hko)
                have S4 := T3.set (by omega) (by omega) k hlt (od.getD k 0)
                rw [Nat.zero_add, List.set_set] at S4
                have HS4 := hid_ S4
                clear S4 T3 hoc
                generalize od.getD k 0 = A' at *
                go_upto_region 19 with (fail)
                refine gen_world (fun W => Two 7 8 w (.slice (some ⟨ba, 0, none⟩) l.length l.length) (xs.set k A') (.slice (some ⟨bb, 0, none⟩) l.length l.length) (ys.set k B) W) HS4.out ?_
                clear HS4 xa xb ga gb d0
                rintro W5 T5
                by_cases hkt : k < ot.length
                · obtain ⟨tb, tq, rfl, htc⟩ := (HTT.out.below T5.old).cells (by omega)
                  have d1 := htc k hkt
                  have zT := hot _ (getD_mem hkt)
                  have xb := T5.swap.cell hlt
                  have gb := T5.swap.frozen
                  have S6 := T5.setB k hlt (ot.getD k 0)
                  rw [Nat.zero_add, List.set_set] at S6
                  have HS6 := hid_ S6
                  clear S6 T5 htc
                  generalize ot.getD k 0 = B' at *
                  go_wp2_with fail
                  go_roundw
                  case rel => exact ⟨k + 1, lo, hi, _, _, by omega, by go_num, rfl, rfl, HM.out.odd hkF A' B' zO zT, HS6.out⟩
                  case measure => simp [intOf]; omega
                · have HT5 := hid_ T5
                  clear T5
                  go_wp2_with fail
                  go_roundw
                  case rel => exact ⟨k + 1, lo, hi, _, _, by omega, by go_num, rfl, rfl, HM.out.odd hkF A' B zO (by unfold Z64; omega), HT5.out⟩
                  case measure => simp [intOf]; omega
              · have zO : Z64 A := by unfold Z64; omega
                go_upto_region 19 with (fail)
                refine gen_world (fun W => Two 7 8 w (.slice (some ⟨ba, 0, none⟩) l.length l.length) (xs.set k A) (.slice (some ⟨bb, 0, none⟩) l.length l.length) (ys.set k B) W) T3 ?_
                clear T3 xa xb ga gb
                rintro W5 T5
                by_cases hkt : k < ot.length
                · obtain ⟨tb, tq, rfl, htc⟩ := (HTT.out.below T5.old).cells (by omega)
                  have d1 := htc k hkt
                  have zT := hot _ (getD_mem hkt)
                  have xb := T5.swap.cell hlt
                  have gb := T5.swap.frozen
                  have S6 := T5.setB k hlt (ot.getD k 0)
                  rw [Nat.zero_add, List.set_set] at S6
                  have HS6 := hid_ S6
                  clear S6 T5 htc
                  generalize ot.getD k 0 = B' at *
                  go_wp2_with fail
                  go_roundw
                  case rel => exact ⟨k + 1, lo, hi, _, _, by omega, by go_num, rfl, rfl, HM.out.odd hkF A B' zO zT, HS6.out⟩
                  case measure => simp [intOf]; omega
                · have HT5 := hid_ T5
                  clear T5
                  go_wp2_with fail
                  go_roundw
                  case rel => exact ⟨k + 1, lo, hi, _, _, by omega, by go_num, rfl, rfl, HM.out.odd hkF A B zO (by unfold Z64; omega), HT5.out⟩
                  case measure => simp [intOf]; omega
            · have xa := T3.cell hlt
              have xb := T3.swap.cell hlt
              rw [getD_set_self _ (by rw [HM.out.lx]; exact hlt)] at xa
              rw [getD_set_self _ (by rw [HM.out.ly]; exact hlt)] at xb
              have HT3 := hid_ T3
              have hMlo := HM.out.lo1
              have hMhi := HM.out.hi1
              have hMle := HM.out.le
              clear T3
              by_cases hke : k = F
              · subst hke
                go_upto_region 22 with (fail)
                go_quiet (fail)
                go_upto_region 23 with (fail)
                have xa2 : (W3.drewN nq).cell? ⟨ba, k, none⟩ = some (.int .i64 A) := xa
                have xb2 : (W3.drewN nq).cell? ⟨bb, k, none⟩ = some (.int .i64 B) := xb
                have HT4 := hid_ (HT3.out.drewN nq)
                clear HT3 xa xb
                generalize W3.drewN nq = W3' at *
                go_quiet (fail)
                go_wp2_with fail
                go_roundw
                case rel => exact ⟨k + 1, min A B, max A B, _, _, by omega, by go_num, rfl, rfl, HM.out.good hlt (by omega) A B _ _ ⟨hA1, hA2⟩ (by omega) hAB (fun h => absurd h (by omega)) (fun h => absurd h (by omega)) ⟨by omega, by omega⟩ ⟨by omega, by omega⟩ (by omega) (by omega), HT4.out.drewN _⟩
                case measure => simp [intOf]; omega
              · have e1 : ((k : Int) == (F : Int)) = false := by simp; omega
                have e2 : (k == F) = false := by simp; omega
                have HKE := hid_ hke
                clear hke
                go_upto_region 23 with (fail)
                go_quiet (fail)
                go_wp2_with fail
                go_roundw
                case rel => exact ⟨k + 1, if B < if A < lo then A else lo then B else if A < lo then A else lo, if (if hi < A then A else hi) < B then B else if hi < A then A else hi, _, _, by omega, by go_num, rfl, rfl, HM.out.good hlt (by omega) A B _ _ ⟨hA1, hA2⟩ (by omega) hAB (fun _ => by omega) (fun _ => by omega) ⟨by omega, by omega⟩ ⟨by omega, by omega⟩ (by omega) (by omega), HT3.out.drewN _⟩
                case measure => simp [intOf]; omega
        · have hAB : A - (X : Int) ≤ A ∧ A ≤ A + (X : Int) := by omega
          obtain ⟨B, hB⟩ : ∃ B, B = A := ⟨_, rfl⟩
          go_upto_region 16 with (fail)
          refine gen_world (fun W => Two 7 8 w (.slice (some ⟨ba, 0, none⟩) l.length l.length) (xs.set k A) (.slice (some ⟨bb, 0, none⟩) l.length l.length) (ys.set k A) W) HT2.out ?_
          rw [← hB] at hAB
          have hAB' : A - (X : Int) ≤ B ∧ B ≤ A + (X : Int) := by omega
          rintro W3 T3
          have T3' : Two 7 8 w (.slice (some ⟨ba, 0, none⟩) l.length l.length) (xs.set k A) (.slice (some ⟨bb, 0, none⟩) l.length l.length) (ys.set k B) W3 := by rw [hB]; exact T3
          clear HT2 c2 f2 T2 T3 hAB hB
          have T3 := T3'
          clear T3'
          have hAB := hAB'
          clear hAB'
          by_cases hkF : k < F
          · have xa := T3.cell hlt
            have xb := T3.swap.cell hlt
            have ga := T3.frozen
            have gb := T3.swap.frozen
            by_cases hko : k < od.length
            · obtain ⟨ob, oo, rfl, hoc⟩ := (HO.out.below T3.old).cells (by omega)
              have d0 := hoc k hko
              have zO := hod _ (getD_mem hko)
              have S4 := T3.set (by omega) (by omega) k hlt (od.getD k 0)
              rw [Nat.zero_add, List.set_set] at S4
              have HS4 := hid_ S4
              clear S4 T3 hoc
              generalize od.getD k 0 = A' at *
              go_upto_region 19 with (fail)
              refine gen_world (fun W => Two 7 8 w (.slice (some ⟨ba, 0, none⟩) l.length l.length) (xs.set k A') (.slice (some ⟨bb, 0, none⟩) l.length l.length) (ys.set k B) W) HS4.out ?_
              clear HS4 xa xb ga gb d0
              rintro W5 T5
              by_cases hkt : k < ot.length
              · obtain ⟨tb, tq, rfl, htc⟩ := (HTT.out.below T5.old).cells (by omega)
                have d1 := htc k hkt
                have zT := hot _ (getD_mem hkt)
                have xb := T5.swap.cell hlt
                have gb := T5.swap.frozen
                have S6 := T5.setB k hlt (ot.getD k 0)
                rw [Nat.zero_add, List.set_set] at S6
                have HS6 := hid_ S6
                clear S6 T5 htc
                generalize ot.getD k 0 = B' at *
                go_wp2_with fail
                go_roundw
                case rel => exact ⟨k + 1, lo, hi, _, _, by omega, by go_num, rfl, rfl, HM.out.odd hkF A' B' zO zT, HS6.out⟩
                case measure => simp [intOf]; omega
              · have HT5 := hid_ T5
                clear T5
                go_wp2_with fail
                go_roundw
                case rel => exact ⟨k + 1, lo, hi, _, _, by omega, by go_num, rfl, rfl, HM.out.odd hkF A' B zO (by unfold Z64; omega), HT5.out⟩
                case measure => simp [intOf]; omega
            · have zO : Z64 A := by unfold Z64; omega
              go_upto_region 19 with (fail)
              refine gen_world (fun W => Two 7 8 w (.slice (some ⟨ba, 0, none⟩) l.length l.length) (xs.set k A) (.slice (some ⟨bb, 0, none⟩) l.length l.length) (ys.set k B) W) T3 ?_
              clear T3 xa xb ga gb
              rintro W5 T5
              by_cases hkt : k < ot.length
              · obtain ⟨tb, tq, rfl, htc⟩ := (HTT.out.below T5.old).cells (by omega)
                have d1 := htc k hkt
                have zT := hot _ (getD_mem hkt)
                have xb := T5.swap.cell hlt
                have gb := T5.swap.frozen
                have S6 := T5.setB k hlt (ot.getD k 0)
                rw [Nat.zero_add, List.set_set] at S6
                have HS6 := hid_ S6
                clear S6 T5 htc
                generalize ot.getD k 0 = B' at *
                go_wp2_with fail
                go_roundw
                case rel => exact ⟨k + 1, lo, hi, _, _, by omega, by go_num, rfl, rfl, HM.out.odd hkF A B' zO zT, HS6.out⟩
                case measure => simp [intOf]; omega
              · have HT5 := hid_ T5
                clear T5
                go_wp2_with fail
                go_roundw
                case rel => exact ⟨k + 1, lo, hi, _, _, by omega, by go_num, rfl, rfl, HM.out.odd hkF A B zO (by unfold Z64; omega), HT5.out⟩
                case measure => simp [intOf]; omega
          · have xa := T3.cell hlt
            have xb := T3.swap.cell hlt
            rw [getD_set_self _ (by rw [HM.out.lx]; exact hlt)] at xa
            rw [getD_set_self _ (by rw [HM.out.ly]; exact hlt)] at xb
            have HT3 := hid_ T3
            have hMlo := HM.out.lo1
            have hMhi := HM.out.hi1
            have hMle := HM.out.le
            clear T3
            by_cases hke : k = F
            · subst hke
              go_upto_region 22 with (fail)
              go_quiet (fail)
              go_upto_region 23 with (fail)
              have xa2 : (W3.drewN nq).cell? ⟨ba, k, none⟩ = some (.int .i64 A) := xa
              have xb2 : (W3.drewN nq).cell? ⟨bb, k, none⟩ = some (.int .i64 B) := xb
              have HT4 := hid_ (HT3.out.drewN nq)
              clear HT3 xa xb
              generalize W3.drewN nq = W3' at *
              go_quiet (fail)
              go_wp2_with fail
              go_roundw
              case rel => exact ⟨k + 1, min A B, max A B, _, _, by omega, by go_num, rfl, rfl, HM.out.good hlt (by omega) A B _ _ ⟨hA1, hA2⟩ (by omega) hAB (fun h => absurd h (by omega)) (fun h => absurd h (by omega)) ⟨by omega, by omega⟩ ⟨by omega, by omega⟩ (by omega) (by omega), HT4.out.drewN _⟩
              case measure => simp [intOf]; omega
            · have e1 : ((k : Int) == (F : Int)) = false := by simp; omega
              have e2 : (k == F) = false := by simp; omega
              have HKE := hid_ hke
              clear hke
              go_upto_region 23 with (fail)
              go_quiet (fail)
              go_wp2_with fail
              go_roundw
              case rel => exact ⟨k + 1, if B < if A < lo then A else lo then B else if A < lo then A else lo, if (if hi < A then A else hi) < B then B else if hi < A then A else hi, _, _, by omega, by go_num, rfl, rfl, HM.out.good hlt (by omega) A B _ _ ⟨hA1, hA2⟩ (by omega) hAB (fun _ => by omega) (fun _ => by omega) ⟨by omega, by omega⟩ ⟨by omega, by omega⟩ (by omega) (by omega), HT3.out.drewN _⟩
              case measure => simp [intOf]; omega
      · obtain rfl : k = l.length := by omega
        have hd := hM.done hF3
        have iA := hT.ints
        have iB := hT.swap.ints
        have VO := hT.old
        have HM := hid_ hM
        obtain ⟨g1, g2, ⟨g3, g4⟩, ⟨g5, g6⟩⟩ := hd
        have g7 := hM.lo1
        have g8 := hM.hi1
        clear hM hT hlt hk
        go_wp2_with fail
        refine (mid_yes (fun _ => 0) xs HM.out.zx F _ _ (fun _ _ => rfl) iA (by rw [HM.out.lx]; omega) (by rw [HM.out.lx]; omega)).mono ?_
        rintro e w5 ⟨rfl, V5⟩
        have iB5 := iB.below V5
        go_wp2_with fail
        refine (mid_yes (fun _ => 0) ys HM.out.zy F _ _ (fun _ _ => rfl) iB5 (by rw [HM.out.ly]; omega) (by rw [HM.out.ly]; omega)).mono ?_
        rintro e w6 ⟨rfl, V6⟩
        have VF := below_then VO (below_then V5 V6)
        clear iA iB iB5 V5 V6 VO HM
        generalize midz xs F = p at *
        generalize midz ys F = q at *
        by_cases hneg : p - q < 0
        · have hle : -(p - q) ≤ (hi - lo + 1) / 2 + (X : Int) + 1 := by omega
          have hle2 : q - p ≤ (hi - lo + 1) / 2 + (X : Int) + 1 := by omega
          go_wp2_with fail
          go_ret
          first
            | exact ⟨rfl, VF⟩
            | (refine ⟨ret_bool ?_, VF⟩; simp only [decide_eq_true_eq]; omega)
        · have hle : p - q ≤ (hi - lo + 1) / 2 + (X : Int) + 1 := by omega
          go_wp2_with fail
          go_ret
          exact ⟨rfl, VF⟩
end Go.Proofs.Ytpghhnapgleajaa
