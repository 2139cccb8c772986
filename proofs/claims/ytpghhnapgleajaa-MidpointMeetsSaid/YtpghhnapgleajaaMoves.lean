/- MidpointMoves: the walk. No condition. -/
import Derived.Test.YtpghhnapgleajaaTwo
set_option linter.unusedSimpArgs false
set_option linter.unusedVariables false
namespace Go.Proofs.Ytpghhnapgleajaa
open Go.RowKit Go.Maps

/-- The loops' relations. -/
def MovA (l xs zs : List Int) (k : Nat) : Prop := xs.length = l.length ∧ (∀ j, j < k → xs.getD j 0 = (l.getD j 0).tmod 1000000) ∧ zs = List.replicate l.length 0
def MovB (l xs ys : List Int) (d : Int) (k : Nat) : Prop := xs = l.map (fun x => x.tmod 1000000) ∧ ys.length = l.length ∧ ∀ j, j < k → ys.getD (l.length - 1 - j) 0 = xs.getD j 0 + d
theorem getD_set_self {l : List Int} {i : Nat} (x : Int) (h : i < l.length) : (l.set i x).getD i 0 = x := by
  rw [List.getD_eq_getElem?_getD, List.getElem?_set_self h]; rfl
theorem getD_set_other {l : List Int} {i j : Nat} (x : Int) (h : i ≠ j) : (l.set i x).getD j 0 = l.getD j 0 := by
  rw [List.getD_eq_getElem?_getD, List.getElem?_set_ne h, ← List.getD_eq_getElem?_getD]
theorem MovA.step {l xs zs : List Int} {k : Nat} (h : MovA l xs zs k) (hk : k < l.length) : MovA l (xs.set k ((l.getD k 0).tmod 1000000)) zs (k + 1) := by
  obtain ⟨h1, h2, h3⟩ := h
  refine ⟨by rw [List.length_set]; exact h1, fun j hj => ?_, h3⟩
  by_cases hjk : j = k
  · subst hjk; exact getD_set_self _ (by omega)
  · rw [getD_set_other _ (Ne.symm hjk)]; exact h2 j (by omega)
theorem getD_map {l : List Int} (g : Int → Int) {j : Nat} (h : j < l.length) : (l.map g).getD j 0 = g (l.getD j 0) := by
  rw [List.getD_eq_getElem?_getD, List.getElem?_map, List.getD_eq_getElem?_getD, List.getElem?_eq_getElem h]; rfl
theorem ext_getD {a b : List Int} (hl : a.length = b.length) (h : ∀ j, j < a.length → a.getD j 0 = b.getD j 0) : a = b := by
  refine List.ext_getElem hl fun i h1 h2 => ?_
  have := h i h1
  rw [List.getD_eq_getElem?_getD, List.getElem?_eq_getElem h1, List.getD_eq_getElem?_getD, List.getElem?_eq_getElem h2] at this
  exact this
theorem MovA.done {l xs zs : List Int} (d : Int) (h : MovA l xs zs l.length) : MovB l xs zs d 0 := by
  obtain ⟨h1, h2, rfl⟩ := h
  refine ⟨ext_getD (by simp [h1]) (fun j hj => ?_), by simp, fun j hj => by omega⟩
  rw [h2 j (by omega), getD_map _ (by omega)]
theorem MovB.step {l xs ys : List Int} {d : Int} {k : Nat} (h : MovB l xs ys d k) (hk : k < l.length) : MovB l xs (ys.set (l.length - 1 - k) (xs.getD k 0 + d)) d (k + 1) := by
  obtain ⟨h1, h2, h3⟩ := h
  refine ⟨h1, by rw [List.length_set]; exact h2, fun j hj => ?_⟩
  by_cases hjk : j = k
  · subst hjk; exact getD_set_self _ (by omega)
  · rw [getD_set_other _ (by omega)]; exact h3 j (by omega)
theorem MovB.done {l xs ys : List Int} {d : Int} (h : MovB l xs ys d l.length) : ys = (xs.map (· + d)).reverse := by
  obtain ⟨h1, h2, h3⟩ := h
  have hx : xs.length = l.length := by rw [h1, List.length_map]
  refine ext_getD (by simp [h2, hx]) (fun j hj => ?_)
  have := h3 (l.length - 1 - j) (by omega)
  rw [show l.length - 1 - (l.length - 1 - j) = j by omega] at this
  rw [this, List.getD_eq_getElem?_getD, List.getD_eq_getElem?_getD, List.getElem?_reverse (by simp; omega), List.getElem?_map, List.length_map, hx, List.getElem?_eq_getElem (l := xs) (by omega)]
  rfl
theorem tmod_small (x : Int) : -1000000 < x.tmod 1000000 ∧ x.tmod 1000000 < 1000000 := by
  have h1 := Int.tmod_lt_of_pos x (show (0 : Int) < 1000000 by omega)
  have h2 := Int.lt_tmod_of_pos x (show (0 : Int) < 1000000 by omega)
  omega

set_option maxRecDepth 100000 in
set_option maxHeartbeats 4000000 in
theorem moves_walk (l : List Int) (hl : ∀ x ∈ l, Z64 x) (lv : Value) (f0 : Int) (hf0 : Z64 f0) (d0 : Int) (hd0 : Z64 d0) (w : World) (h : IsInts w (fun _ => 0) lv l) :
    Calls Try.prog 6 #[lv, .int .i64 f0, .int .i64 d0] w fun e w' => e = .returned (.bool true) ∧ Below w.heap.size w w' := by
  obtain ⟨a, cap, rfl, hc1, hc2⟩ := h.form
  unfold maxLen at hc2
  obtain ⟨hd1, hd2⟩ := hd0
  go_enter Try.func6, Try.ntmps6
  go_wp2_with fail
  refine (awake10 _).mono ?_
  rintro e w1 ⟨rfl, V1⟩
  by_cases h1 : (l.length : Int) < 1
  · go_wp2
    go_ret
    exact ⟨rfl, V1⟩
  by_cases h2 : (100 : Int) < (l.length : Int)
  · go_wp2
    go_ret
    exact ⟨rfl, V1⟩
  have i1 := h.below V1
  have n0 : (0 : Int) ≤ (l.length : Int) - 1 := by omega
  have hl100 : l.length ≤ 100 := by omega
  go_upto_region 6 with (fail)
  obtain ⟨F, hF, hFm⟩ := rem_nat f0 (((l.length : Int) - 1) / 2 + 1) (by omega) (by omega)
  rw [hF]
  clear hF
  have hF2 : 2 * F < l.length := by omega
  have hd := tmod_small d0
  generalize d0.tmod 1000000 = d at *
  obtain ⟨d1, d2⟩ := hd
  obtain ⟨n, hn⟩ : ∃ n, n = l.length := ⟨_, rfl⟩
  have mk := make_ints l.length (by omega)
  obtain ⟨Z, hZ⟩ : ∃ Z, Z = (List.replicate l.length (Value.int .i64 0)).toArray := ⟨_, rfl⟩
  rw [← hZ] at mk
  have HZ := hid_ hZ
  have HH := hid_ h
  clear hZ hn i1 h
  have hbw : Below w.heap.size w ((w1.alloc (.cells Z 3)).alloc (.cells Z 3)).drew := ((V1.alloc V1.size _).alloc (by have := V1.size; simp; omega) _).drew
  have hb1 : ((w1.alloc (.cells Z 3)).alloc (.cells Z 3)).drew.heap[w1.heap.size]? = some (.cells (List.replicate l.length (Value.int .i64 0)).toArray 3 (0, 0)) := by
    rw [← HZ.out]
    exact (Below.heap_alloc _ _ _ (by simp)).trans (World.alloc_heap_new w1 _)
  have hb2 : ((w1.alloc (.cells Z 3)).alloc (.cells Z 3)).drew.heap[w1.heap.size + 1]? = some (.cells (List.replicate l.length (Value.int .i64 0)).toArray 3 (0, 0)) := by
    rw [← HZ.out]
    have := World.alloc_heap_new (w1.alloc (.cells Z 3)) (.cells Z 3)
    rw [World.size_alloc] at this
    exact this
  have S1 := hid_ (Two.start hbw (by omega) (by omega) V1.size (by have := V1.size; omega) hb1 hb2)
  have S2 := hid_ (Two.start hbw (by omega) (by omega) (by have := V1.size; omega) V1.size hb2 hb1)
  clear hbw hb1 hb2
  go_region_law (go_simp)
  all_goals go_upto_block 1 with (fail)
  refine gen_world (fun W => Two 7 8 w (.slice (some ⟨w1.heap.size, 0, none⟩) l.length l.length) (List.replicate l.length 0) (.slice (some ⟨w1.heap.size + 1, 0, none⟩) l.length l.length) (List.replicate l.length 0) W) S1.out ?_
  clear S1 S2 mk V1 HZ
  generalize w1.heap.size + 1 = bb
  generalize w1.heap.size = ba
  rotate_left
  refine gen_world (fun W => Two 7 8 w (.slice (some ⟨w1.heap.size + 1, 0, none⟩) l.length l.length) (List.replicate l.length 0) (.slice (some ⟨w1.heap.size, 0, none⟩) l.length l.length) (List.replicate l.length 0) W) S2.out ?_
  clear S1 S2 mk V1 HZ
  generalize w1.heap.size + 1 = ba
  generalize w1.heap.size = bb
  rotate_left
  all_goals
    rintro W4 T4
    have HT := hid_ T4
    clear T4
    go_loopw [45] (fun i wr => ∃ (k : Nat) (xs zs : List Int), k ≤ l.length ∧ i = .int .i64 k ∧ MovA l xs zs k ∧ Two 7 8 w (.slice (some ⟨ba, 0, none⟩) l.length l.length) xs (.slice (some ⟨bb, 0, none⟩) l.length l.length) zs wr) (fun i _ => l.length - (intOf i).toNat)
    case atStart => exact ⟨0, _, _, Nat.zero_le _, rfl, ⟨by simp, fun j hj => by omega, rfl⟩, HT.out⟩
    case round =>
      obtain ⟨k, xs, zs, hk, rfl, hM, hT⟩ := hrel
      clear HT
      by_cases hlt : k < l.length
      · obtain ⟨lb, lo, rfl, hlc⟩ := (HH.out.below hT.old).cells (by omega)
        have c0 := hlc k hlt
        obtain ⟨z1, z2⟩ := hl _ (getD_mem hlt)
        have hA := hM.step hlt
        have fz : ∀ i, wr.frozen? ⟨ba, i, none⟩ = false := by
          obtain ⟨C, _, _, hS, _⟩ := hT
          rw [hM.1] at hS
          exact fun i => hS.frozen i
        obtain ⟨y0, hy0⟩ : ∃ y, wr.cell? ⟨ba, k, none⟩ = some y := by
          obtain ⟨b', o', e', hc⟩ := hT.ints.cells (by omega)
          injection e' with e'
          injection e' with e1 e2
          subst e1 e2
          have := hc k hlt
          rw [Nat.zero_add] at this
          exact ⟨_, this⟩
        have hS := hT.set (by omega) (by omega) k hlt ((l.getD k 0).tmod 1000000)
        rw [Nat.zero_add] at hS
        have HA := hid_ hA
        have HS := hid_ hS
        clear hA hS hM hT hlc
        generalize l.getD k 0 = x at *
        go_wp2_with fail
        go_roundw
        case rel => exact ⟨k + 1, _, zs, by omega, by go_num, HA.out, HS.out⟩
        case measure => simp [intOf]; omega
      · obtain rfl : k = l.length := by omega
        have HB := hid_ (hM.done d)
        have HT := hid_ hT
        clear hM hT hlt hk
        go_upto_block 3 with (fail)
        go_loopw [59] (fun i wr => ∃ (k : Nat) (ys : List Int), k ≤ l.length ∧ i = .int .i64 k ∧ MovB l xs ys d k ∧ Two 7 8 w (.slice (some ⟨ba, 0, none⟩) l.length l.length) xs (.slice (some ⟨bb, 0, none⟩) l.length l.length) ys wr) (fun i _ => l.length - (intOf i).toNat)
        case atStart => exact ⟨0, _, Nat.zero_le _, rfl, HB.out, HT.out⟩
        case round =>
          obtain ⟨k, ys, hk, rfl, hM, hT⟩ := hrel
          clear HT HB
          have hxl : xs.length = l.length := by rw [hM.1, List.length_map]
          by_cases hlt : k < l.length
          · have hA := hM.step hlt
            have hxk := tmod_small (l.getD k 0)
            rw [← getD_map (fun x => x.tmod 1000000) hlt, ← hM.1] at hxk
            obtain ⟨e1, e2⟩ := hxk
            have c0 : wr.cell? ⟨ba, k, none⟩ = some (.int .i64 (xs.getD k 0)) := by
              obtain ⟨b', o', e', hc⟩ := hT.ints.cells (by omega)
              injection e' with e'
              injection e' with e1 e2
              subst e1 e2
              have := hc k hlt
              rwa [Nat.zero_add] at this
            have fz : ∀ i, wr.frozen? ⟨bb, i, none⟩ = false := by
              obtain ⟨C, _, _, _, hS⟩ := hT
              rw [hM.2.1] at hS
              exact fun i => hS.frozen i
            obtain ⟨y0, hy0⟩ : ∃ y, wr.cell? ⟨bb, l.length - 1 - k, none⟩ = some y := by
              obtain ⟨b', o', e', hc⟩ := hT.swap.ints.cells (by omega)
              injection e' with e'
              injection e' with e1 e2
              subst e1 e2
              have := hc (l.length - 1 - k) (by omega)
              rw [Nat.zero_add] at this
              exact ⟨_, this⟩
            have hS := (hT.swap.set (by omega) (by omega) (l.length - 1 - k) (by omega) (xs.getD k 0 + d)).swap
            rw [Nat.zero_add] at hS
            have HA := hid_ hA
            have HS := hid_ hS
            clear hA hS hM hT hxl
            generalize xs.getD k 0 = x at *
            have p1 : (0 : Int) ≤ (l.length : Int) - 1 - (k : Int) := by omega
            have p2 : (l.length : Int) - 1 - (k : Int) < (l.length : Int) := by omega
            have p3 : ((l.length : Int) - 1 - (k : Int)).toNat = l.length - 1 - k := by omega
            go_wp2_with fail
            go_roundw
            case rel => exact ⟨k + 1, _, by omega, by go_num, HA.out, HS.out⟩
            case measure => simp [intOf]; omega
          · obtain rfl : k = l.length := by omega
            have hy := hM.done
            have hxz : ∀ x ∈ xs, -1000000 < x ∧ x < 1000000 := by
              intro x hx
              rw [hM.1] at hx
              obtain ⟨y, _, rfl⟩ := List.mem_map.1 hx
              exact tmod_small y
            have hyz : ∀ y ∈ ys, Z64 y := by
              intro y hy'
              rw [hy, List.mem_reverse] at hy'
              obtain ⟨x, hx, rfl⟩ := List.mem_map.1 hy'
              have := hxz x hx
              unfold Z64; omega
            have hxz' : ∀ x ∈ xs, Z64 x := fun x hx => by have := hxz x hx; unfold Z64; omega
            have hmm := mid_moves xs F d (by omega)
            rw [← hy] at hmm
            have hyl := hM.2.1
            have hmz := mid_among xs F (by omega) (-1000000) 1000000 (fun x hx => by have := hxz x (List.mem_of_mem_drop hx); omega) (fun x hx => by have := hxz x (List.mem_of_mem_drop hx); omega)
            have iA := hT.ints
            have iB := hT.swap.ints
            have VO := hT.old
            have HXL := hid_ hxl
            have HYL := hid_ hyl
            have HMM := hid_ hmm
            have HX := hid_ hxz'
            have HY := hid_ hyz
            clear hM hT hlt hk hy hxz hyz hxz' hmm hyl hxl
            go_wp2_with fail
            refine (mid_yes (fun _ => 0) xs HX.out F _ _ (fun _ _ => rfl) iA (by rw [HXL.out]; omega) (by rw [HXL.out]; omega)).mono ?_
            rintro e w5 ⟨rfl, V5⟩
            have iB5 := iB.below V5
            go_wp2_with fail
            refine (mid_yes (fun _ => 0) ys HY.out F _ _ (fun _ _ => rfl) iB5 (by rw [HYL.out]; omega) (by rw [HYL.out]; omega)).mono ?_
            rintro e w6 ⟨rfl, V6⟩
            rw [HMM.out]
            have VF := below_then VO (below_then V5 V6)
            clear iA iB iB5 V5 V6 VO
            obtain ⟨g1, g2⟩ := hmz
            generalize midz xs F = m at *
            go_wp2_with fail
            go_ret
            exact ⟨rfl, VF⟩
end Go.Proofs.Ytpghhnapgleajaa
