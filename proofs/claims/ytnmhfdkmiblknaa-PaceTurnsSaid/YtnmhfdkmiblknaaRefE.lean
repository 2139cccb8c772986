/- escapementref07.Sorted, Cut, Middle. No condition but a list of moderate length. -/
import Derived.Test.YtnmhfdkmiblknaaCutE
import Derived.Test.YtnmhfdkmiblknaaNum
import Derived.Deep.DrawnRows
import Derived.Deep.RegionHeld3
import Derived.Deep.RegionLaw
import Derived.Deep.CutBlock
set_option linter.unusedSimpArgs false
set_option linter.unusedVariables false
namespace Go.Proofs.Ytnmhfdkmiblknaa
open Go.RowKit Go.Maps
def Bld (w : World) (v : Value) (xs : List Int) (W : World) : Prop := ∃ C, Fr (· ≠ 0) (fun _ => 0) C w W ∧ Fin C W ∧ Sl W C 7 v 3 1 xs.length (xs.map (Value.int .i64))

theorem Sl.ints {w : World} {C : Nat → Nat} {k : Nat} {v : Value} {xs : List Int} (h : Sl w C k v 3 1 xs.length (xs.map (Value.int .i64))) : IsInts w (fun _ => 0) v xs := by
  obtain ⟨a, cap, rfl, h1, h2, h3⟩ := h.form
  exact ⟨a, cap, rfl, h1, h2, h3, fun hn => by
    obtain ⟨b, off, h4, h5, h6, h7⟩ := h.at hn
    exact ⟨b, off, h4, rfl, h6, h7⟩⟩
theorem Bld.push {w W : World} {v : Value} {xs : List Int} (x : Int) (h : Bld w v xs W) (hl : xs.length < 1000) :
    ∃ v' W', (Builtin.append_ #[27, 27] 0 #[v, .slice (some ⟨W.heap.size, 0, none⟩) 1 1]).run Try.prog (W.alloc (.cells #[.int .i64 x] 3)) = .ok v' W' ∧ Bld w v' (xs ++ [x]) W' ∧ v'.oneCell' = true := by
  obtain ⟨C, hF, hfin, hS⟩ := h
  obtain ⟨i1, z1, hi1, hz1, hzs1, his1, hby1⟩ := info_row (P := Try.prog) (e := 3) (size := 1) (bytes := 8) info_int'
  obtain ⟨v', w', C', hr, h1, h2, h3, _⟩ := Sl.append (P := Try.prog) (t := 27) 0 Try.underlying27 hi1 his1 hz1 hzs1 (hS.alloc (.cells #[.int .i64 x] 3)) (Src.new W 3 1 1 1 [.int .i64 x] rfl) (by simp [Value.oneCell']) (by unfold maxLen; omega) (by rw [hby1]; omega)
  refine ⟨v', w', hr, ⟨C', (hF.trans (((Fr.refl (· ≠ 0) C W).alloc (.cells #[.int .i64 x] 3)).trans (h2.mono (fun y hy => by omega)))), h2.Fin (((Fr.refl (· ≠ 0) C W).alloc _).Fin hfin), ?_⟩, h3⟩
  rw [List.length_append, List.map_append]
  exact h1

theorem IsInts.cells {w : World} {C : Nat → Nat} {a : Option Addr} {n cap : Nat} {xs : List Int} (h : IsInts w C (.slice a n cap) xs) (hn : 0 < n) : ∃ b off, a = some ⟨b, off, none⟩ ∧ ∀ j, j < n → w.cell? ⟨b, off + j, none⟩ = some (.int .i64 (xs.getD j 0)) := by
  obtain ⟨a', cap', hv, _⟩ := id h
  injection hv with _ e _
  subst e
  exact h.at (i := 0) hn
theorem IsInts.below {W W' : World} {lv : Value} {xs : List Int} (h : IsInts W (fun _ => 0) lv xs) (hb : Below W.heap.size W W') : IsInts W' (fun _ => 0) lv xs := h.fr (Fr.of_below hb (fun _ => False)) (fun h => h)
theorem tdiv2_neg (a : Int) (h : a ≤ 0) : a.tdiv 2 = -((-a) / 2) := by
  have := Int.neg_tdiv (-a) 2
  rw [Int.neg_neg] at this
  rw [this, Int.tdiv_eq_ediv_of_nonneg (by omega)]
theorem tmod2_neg (a : Int) (h : a < 0) : a.tmod 2 = -((-a) % 2) := by
  have := Int.neg_tmod (-a) 2
  rw [Int.neg_neg] at this
  rw [this, Int.tmod_eq_emod_of_nonneg (by omega)]
theorem wrap64_in {x : Int} (h : -9223372036854775808 ≤ x) (h1 : x ≤ 9223372036854775807) : wrap64 x = x := by unfold wrap64; omega
theorem down_odd (a : Int) (h1 : -9223372036854775808 ≤ a) (hn : a < 0) (hm : a.tmod 2 < 0) : wrap64 ((wrap64 (a - wrap64 (a.tmod 2 + 2))).tdiv 2) = a / 2 := by
  rw [tmod2_neg a hn] at *
  rw [wrap64_in (x := -((-a) % 2) + 2) (by omega) (by omega), wrap64_in (x := a - (-((-a) % 2) + 2)) (by omega) (by omega), tdiv2_neg _ (by omega), wrap64_in (by omega) (by omega)]
  omega
theorem down_even (a : Int) (h1 : -9223372036854775808 ≤ a) (hn : a < 0) (hm : 0 ≤ a.tmod 2) : wrap64 ((wrap64 (a - a.tmod 2)).tdiv 2) = a / 2 := by
  rw [tmod2_neg a hn] at *
  rw [wrap64_in (x := a - -((-a) % 2)) (by omega) (by omega), tdiv2_neg _ (by omega), wrap64_in (by omega) (by omega)]
  omega

theorem ret_i64 {a b : Int} (h : a = b) : Ending.returned (.int .i64 a) = .returned (.int .i64 b) := by rw [h]
set_option maxRecDepth 100000 in
set_option maxHeartbeats 1000000 in
theorem refDown (a : Int) (ha : Z64 a) (w : World) :
    Calls Try.prog 42 #[.int .i64 a, .int .i64 2] w fun e w' => e = .returned (.int .i64 (a / 2)) ∧ w = w' := by
  obtain ⟨h1, h2⟩ := ha
  by_cases hp : 0 ≤ a
  · go_enter Try.func42, Try.ntmps42
    go_wp2
    go_ret
    exact ⟨ret_i64 (by omega), rfl⟩
  · go_enter Try.func42, Try.ntmps42
    go_wp2
    · go_ret
      exact ⟨ret_i64 (down_odd a h1 (by omega) (by assumption)), rfl⟩
    · go_ret
      exact ⟨ret_i64 (down_even a h1 (by omega) (by assumption)), rfl⟩

theorem Bld.ints {w W : World} {v : Value} {xs : List Int} (h : Bld w v xs W) : IsInts W (fun _ => 0) v xs := by
  obtain ⟨C, hF, hfin, hS⟩ := h
  exact hS.ints
theorem Bld.old {w W : World} {v : Value} {xs : List Int} (h : Bld w v xs W) : Below w.heap.size w W := by
  obtain ⟨C, hF, hfin, hS⟩ := h
  exact hF.below (fun b _ h => h rfl)
theorem Bld.drew {w W : World} {v : Value} {xs : List Int} (h : Bld w v xs W) : Bld w v xs W.drew := by
  obtain ⟨C, hF, hfin, hS⟩ := h
  exact ⟨C, hF.drew, hfin, hS⟩
theorem Bld.drewN {w W : World} {v : Value} {xs : List Int} (h : Bld w v xs W) (n : Nat) : Bld w v xs (W.drewN n) := by
  obtain ⟨C, hF, hfin, hS⟩ := h
  exact ⟨C, hF.drewN n, hfin, hS.drewN n⟩

theorem Bld.empty {w W : World} {be : Nat} (hW : Below w.heap.size w W) (hge : w.heap.size ≤ be) (hb : W.heap[be]? = some (.cells #[] 3 (0, 0))) : Bld w (.slice (some ⟨be, 0, none⟩) 0 0) [] W := by
  have hlt : be < W.heap.size := (Array.getElem?_eq_some_iff.1 hb).1
  have hfr : Fr (· ≠ 0) (fun _ => 0) (fun y => if y = be then 7 else 0) w W := (Fr.of_below hW (· ≠ 0)).recolour (fun b hb _ => if_neg (by omega)) (fun b hb => if_neg (by omega))
  exact ⟨_, hfr, hfr.Fin (fun _ _ => rfl), .inr ⟨be, if_pos rfl, rfl, 0, 0, #[], rfl, Nat.le_refl _, by unfold maxLen; omega, hb, by simp, by simp⟩⟩
theorem bk_new2 (w : World) (t1 t2 : Nat) (c1 c2 : List Value) : Bk ((w.alloc (.cells c1.toArray t1)).alloc (.cells c2.toArray t2)) (w.heap.size + 1) t2 c2 := by
  have := Bk.new (w.alloc (.cells c1.toArray t1)) t2 c2
  rwa [World.size_alloc] at this
theorem Bld.old' {w W : World} {v : Value} {xs : List Int} (h : Bld w v xs W) : Below w.heap.size w W := by
  obtain ⟨C, hF, hfin, hS⟩ := h
  exact hF.below (fun b _ h => h rfl)
theorem Bld.app {w W : World} {v u : Value} {xs ys : List Int} {m : Nat} (h : Bld w v xs W) (e : m = ys.length) (hs : Src W u 1 m (ys.map (Value.int .i64))) (hl : xs.length + ys.length ≤ 1000) :
    ∃ v' W', (Builtin.append_ #[27, 27] 0 #[v, u]).run Try.prog W = .ok v' W' ∧ Bld w v' (xs ++ ys) W' ∧ v'.oneCell' = true ∧ ∀ y, y < W.heap.size → v.ownBlock ≠ some y → W'.heap[y]? = W.heap[y]? := by
  subst e
  obtain ⟨C, hF, hfin, hS⟩ := h
  obtain ⟨i1, z1, hi1, hz1, hzs1, his1, hby1⟩ := info_row (P := Try.prog) (e := 3) (size := 1) (bytes := 8) info_int'
  obtain ⟨v', w', C', hr, h1, h2, h3, h4⟩ := Sl.append (P := Try.prog) (t := 27) 0 Try.underlying27 hi1 his1 hz1 hzs1 hS hs (fun u hu => by obtain ⟨y, _, rfl⟩ := List.mem_map.1 hu; rfl) (by unfold maxLen; omega) (by rw [hby1]; omega)
  refine ⟨v', w', hr, ⟨C', hF.trans (h2.mono (fun y hy => by omega)), h2.Fin hfin, ?_⟩, h3, fun y hy hv => (h4 y hy hv).1⟩
  rw [List.length_append, List.map_append]
  exact h1

/-- Three pieces behind one another: the allocations first. -/
theorem chain_first {w W : World} {be bx : Nat} {x1 x2 : Value} {m1 m2 : Nat} {n1 n2 : List Int} {x : Int} (hW : Below w.heap.size w W) (hge : w.heap.size ≤ be) (hb : W.heap[be]? = some (.cells #[] 3 (0, 0))) (hx : Bk W bx 3 [.int .i64 x]) (hne : be ≠ bx)
    (e1 : m1 = n1.length) (e2 : m2 = n2.length) (h1 : Src w x1 1 m1 (n1.map (Value.int .i64))) (h2 : Src w x2 1 m2 (n2.map (Value.int .i64))) (hl : n1.length + 1 + n2.length ≤ 1000) :
    ∃ v1 W1 v2 W2 v3 W3, (Builtin.append_ #[27, 27] 0 #[.slice (some ⟨be, 0, none⟩) 0 0, x1]).run Try.prog W = .ok v1 W1 ∧ (Builtin.append_ #[27, 27] 0 #[v1, .slice (some ⟨bx, 0, none⟩) 1 1]).run Try.prog W1 = .ok v2 W2 ∧
      (Builtin.append_ #[27, 27] 0 #[v2, x2]).run Try.prog W2 = .ok v3 W3 ∧ v1.oneCell' = true ∧ v2.oneCell' = true ∧ v3.oneCell' = true ∧ Bld w v3 (n1 ++ x :: n2) W3 ∧ Below w.heap.size w W1 ∧ Below w.heap.size w W2 := by
  have B0 := Bld.empty hW hge hb
  obtain ⟨v1, W1, hr1, B1, o1, k1⟩ := B0.app e1 (h1.same (fun a v h => grown_cell hW h)) (by simp; omega)
  rw [List.nil_append] at B1
  have hx1 := hx.same (k1 bx hx.lt (by simp [Value.ownBlock]; exact hne))
  have sx : Src W1 (.slice (some ⟨bx, 0, none⟩) 1 1) 1 1 ([x].map (Value.int .i64)) := ⟨_, _, rfl, rfl, fun _ => ⟨_, rfl, fun j u hu => by rw [addr_add, Nat.zero_add]; exact hx1.cell_ j hu⟩⟩
  obtain ⟨v2, W2, hr2, B2, o2, k2⟩ := B1.app (ys := [x]) rfl sx (by simp; omega)
  obtain ⟨v3, W3, hr3, B3, o3, k3⟩ := B2.app e2 (h2.same (fun a v h => grown_cell B2.old' h)) (by simp; omega)
  refine ⟨v1, W1, v2, W2, v3, W3, hr1, hr2, hr3, o1, o2, o3, ?_, B1.old', B2.old'⟩
  rw [List.append_assoc] at B3
  exact B3
/-- .. the second allocation behind the first append. -/
theorem chain_mid {w W : World} {be : Nat} {x1 x2 : Value} {m1 m2 : Nat} {n1 n2 : List Int} {x : Int} (hW : Below w.heap.size w W) (hge : w.heap.size ≤ be) (hb : W.heap[be]? = some (.cells #[] 3 (0, 0)))
    (e1 : m1 = n1.length) (e2 : m2 = n2.length) (h1 : Src w x1 1 m1 (n1.map (Value.int .i64))) (h2 : Src w x2 1 m2 (n2.map (Value.int .i64))) (hl : n1.length + 1 + n2.length ≤ 1000) :
    ∃ v1 W1 v2 W2 v3 W3, (Builtin.append_ #[27, 27] 0 #[.slice (some ⟨be, 0, none⟩) 0 0, x1]).run Try.prog W = .ok v1 W1 ∧ (Builtin.append_ #[27, 27] 0 #[v1, .slice (some ⟨W1.heap.size, 0, none⟩) 1 1]).run Try.prog (W1.alloc (.cells #[.int .i64 x] 3)) = .ok v2 W2 ∧
      (Builtin.append_ #[27, 27] 0 #[v2, x2]).run Try.prog W2 = .ok v3 W3 ∧ v1.oneCell' = true ∧ v2.oneCell' = true ∧ v3.oneCell' = true ∧ Bld w v3 (n1 ++ x :: n2) W3 ∧ Below w.heap.size w W1 ∧ Below w.heap.size w W2 := by
  have B0 := Bld.empty hW hge hb
  obtain ⟨v1, W1, hr1, B1, o1, k1⟩ := B0.app e1 (h1.same (fun a v h => grown_cell hW h)) (by simp; omega)
  rw [List.nil_append] at B1
  obtain ⟨v2, W2, hr2, B2, o2⟩ := B1.push x (by omega)
  obtain ⟨v3, W3, hr3, B3, o3, k3⟩ := B2.app e2 (h2.same (fun a v h => grown_cell B2.old' h)) (by simp; omega)
  refine ⟨v1, W1, v2, W2, v3, W3, hr1, hr2, hr3, o1, o2, o3, ?_, B1.old', B2.old'⟩
  rw [List.append_assoc] at B3
  exact B3

/-- Where a number belongs in what has been sorted. -/
theorem srt_insert (l : List Int) (x : Int) (p : Nat) (hp : p ≤ (srt l).length) (hlo : ∀ j, j < p → (srt l).getD j 0 ≤ x) (hhi : p < (srt l).length → x ≤ (srt l).getD p 0) :
    (srt l).take p ++ x :: (srt l).drop p = srt (l ++ [x]) := by
  have hs := srt_sorted l
  refine List.Perm.eq_of_pairwise (le := (· ≤ ·)) (fun a b _ _ h1 h2 => Int.le_antisymm h1 h2) ?_ (srt_sorted _) ?_
  · have hd : ∀ b ∈ (srt l).drop p, x ≤ b := fun b hb => by
      obtain ⟨i, hi, rfl⟩ := List.mem_iff_getElem.1 hb
      rw [List.getElem_drop]
      rw [List.length_drop] at hi
      have h1 := hhi (by omega)
      have h2 := srt_mono l (i := p) (j := p + i) (by omega) (by rw [srt_len] at hi; omega)
      rw [List.getD_eq_getElem?_getD (l := srt l) (i := p + i), List.getElem?_eq_getElem (by omega)] at h2
      simp only [Option.getD_some] at h2
      omega
    have ht : ∀ a ∈ (srt l).take p, a ≤ x := fun a ha => by
      obtain ⟨i, hi, rfl⟩ := List.mem_iff_getElem.1 ha
      rw [List.length_take] at hi
      rw [List.getElem_take]
      have h1 := hlo i (by omega)
      rw [List.getD_eq_getElem?_getD, List.getElem?_eq_getElem (by omega)] at h1
      exact h1
    rw [List.pairwise_append]
    refine ⟨hs.sublist (List.take_sublist _ _), List.pairwise_cons.2 ⟨hd, hs.sublist (List.drop_sublist _ _)⟩, fun a ha b hb => ?_⟩
    rcases List.mem_cons.1 hb with rfl | hb
    · exact ht a ha
    · exact Int.le_trans (ht a ha) (hd b hb)
  · refine List.Perm.trans ?_ ((srt_perm (l ++ [x])).symm)
    refine (List.perm_middle).trans ?_
    rw [List.take_append_drop]
    exact ((srt_perm l).cons x).trans (List.perm_append_comm (l₁ := [x]) (l₂ := l))

set_option maxRecDepth 100000 in
set_option maxHeartbeats 8000000 in
theorem refSorted (xs : List Int) (v : Value) (w : World) (h : IsInts w (fun _ => 0) v xs) (hl : xs.length ≤ 400) :
    Calls Try.prog 61 #[v] w fun e w' => ∃ v', e = .returned v' ∧ IsInts w' (fun _ => 0) v' (srt xs) ∧ Below w.heap.size w w' := by
  obtain ⟨a, cap, rfl, h1, h2⟩ := id h.form
  unfold maxLen at h2
  have HH := hid_ h
  clear h
  go_enter Try.func61, Try.ntmps61
  go_upto_block 1 with (fail)
  have e0 : srt (xs.take 0) = [] := List.eq_nil_of_length_eq_zero (by rw [srt_len]; rfl)
  have E0 := hid_ e0
  clear e0
  go_loopw [3, 4] (fun o i wr => ∃ k : Nat, k ≤ xs.length ∧ i = .int .i64 k ∧ Below w.heap.size w wr ∧ IsInts wr (fun _ => 0) o (srt (xs.take k)) ∧ (k = 0 → o = .slice none 0 0)) (fun _ i _ => xs.length - (intOf i).toNat)
  case atStart => exact ⟨0, Nat.zero_le _, rfl, Below.refl _ _, by rw [E0.out]; exact rd_nil _ _ _, fun _ => rfl⟩
  case round =>
    obtain ⟨k, hk, rfl, hV, hO, hk0⟩ := hrel
    obtain ⟨sa, sc, rfl, hs1, hs2⟩ := id hO.form
    have hlen : (srt (xs.take k)).length = k := by rw [srt_len, List.length_take]; omega
    by_cases hlt : k < xs.length
    · obtain ⟨lb, lo, rfl, hlc⟩ := (HH.out.below hV).cells (by omega)
      have hins := srt_insert (xs.take k) (xs.getD k 0)
      rw [← take_snoc xs k hlt] at hins
      have hmon : ∀ i j, i ≤ j → j < k → (srt (xs.take k)).getD i 0 ≤ (srt (xs.take k)).getD j 0 := fun i j h1 h2 => srt_mono _ h1 (by rw [List.length_take]; omega)
      have HMON := hid_ hmon
      have HINS := hid_ hins
      rw [hlen] at hs1 hO hk0 ⊢
      have HK0 := hid_ hk0
      have HLEN := hid_ hlen
      have HX : Hid (∀ W, Below w.heap.size w W → W.cell? ⟨lb, lo + k, none⟩ = some (.int .i64 (xs.getD k 0))) := hid_ (fun W hW => by
        obtain ⟨b', o', e', hc⟩ := (HH.out.below hW).cells (by omega)
        injection e' with e'
        injection e' with e1 e2
        subst e1 e2
        exact hc k hlt)
      have HST := hid_ (show Below w.heap.size w wr ∧ IsInts wr (fun _ => 0) (.slice sa k sc) (srt (xs.take k)) from ⟨hV, hO⟩)
      unfold maxLen at hs2
      clear hlc hins hO hV hlen hmon hk0
      generalize xs.getD k 0 = x at *
      generalize srt (xs.take k) = s at *
      have k0 : (0 : Int) ≤ (k : Int) := Int.natCast_nonneg _
      have k1 : (k : Int) < (xs.length : Int) := by omega
      go_upto_block 3 with (fail)
      go_loopw [5] (fun p wr => ∃ q : Nat, q ≤ k ∧ p = .int .i64 q ∧ (∀ j, q ≤ j → j < k → x < s.getD j 0) ∧ Below w.heap.size w wr ∧ IsInts wr (fun _ => 0) (.slice sa k sc) s) (fun p _ => (intOf p).toNat)
      case atStart => exact ⟨k, Nat.le_refl _, rfl, fun j h1 h2 => by omega, HST.out⟩
      case round =>
        obtain ⟨q, hq, rfl, hgt, hVO⟩ := hrel
        clear HST
        have c0 := HX.out _ hVO.1
        have HGT := hid_ hgt
        have HVO := hid_ hVO
        clear hgt hVO
        by_cases hq0 : q = 0
        · have HLO : Hid (∀ j, j < q → s.getD j 0 ≤ x) := hid_ (fun j h => by omega)
          have g1 : decide ((0 : Int) < (q : Int)) = false := by simp; omega
          have g2 : decide (0 < q) = false := by simp; omega
          have HQ0 := hid_ hq0
          clear hq0
          go_upto_region 6 with (fail)
          go_quiet (fail)
          clear g1 g2
          go_upto_region 8 with (fail)
          have VW := below_drewN HVO.out.1 nq
          have IW := HVO.out.2.below (below_drewN (Below.refl _ _) nq)
          have cW := HX.out _ VW
          clear c0 HVO HX
          generalize wr.drewN nq = W at *
          have hnew := HINS.out q (by rw [HLEN.out]; exact hq) HLO.out (fun h => Int.le_of_lt (HGT.out q (Nat.le_refl _) (by rw [HLEN.out] at h; exact h)))
          have HNEW := hid_ hnew
          have hW2 : Below W.heap.size W W := Below.refl _ _
          have lA : q = (s.take q).length := by rw [List.length_take, HLEN.out]; omega
          have lB : k - q = (s.drop q).length := by rw [List.length_drop, HLEN.out]
          have ll : (s.take q).length + 1 + (s.drop q).length ≤ 1000 := by rw [← lA, ← lB]; omega
          clear hnew HINS HGT HLO HMON
          by_cases hk00 : k = 0
          · have hst := HK0.out hk00
            injection hst with hsa _ hsc0
            subst hsa hsc0
            obtain rfl : q = 0 := by omega
            subst hk00
            rw [Nat.add_zero] at cW
            replace lB : 0 = (s.drop 0).length := by rw [← lB]
            have sA : Src W (.slice none 0 0) 1 0 ((s.take 0).map (Value.int .i64)) := ⟨_, _, rfl, by rw [List.length_map, ← lA], fun h => absurd h (by omega)⟩
            have hB : Src W (.slice none 0 0) 1 0 ((s.drop 0).map (Value.int .i64)) := ⟨_, _, rfl, by rw [List.length_map, ← lB], fun h => absurd h (by omega)⟩
            obtain ⟨u1, U1, u2, U2, u3, U3, ru1, ru2, ru3, ou1, ou2, ou3, bu, du1, du2⟩ := chain_first (w := W) (W := ((W.alloc (.cells #[] 3)).alloc (.cells #[.int .i64 x] 3)).drew) (be := W.heap.size) (bx := W.heap.size + 1) (((hW2.alloc (Nat.le_refl _) _).alloc (by simp) _).drew) (Nat.le_refl _)
              ((Below.heap_alloc _ _ _ (by simp)).trans (World.alloc_heap_new W _)) (bk_new2 W 3 3 [] [.int .i64 x]) (by omega) lA lB sA hB ll
            obtain ⟨v1, V1, v2, V2, v3, V3, rv1, rv2, rv3, ov1, ov2, ov3, bv, dv1, dv2⟩ := chain_first (w := W) (W := ((W.alloc (.cells #[.int .i64 x] 3)).alloc (.cells #[] 3)).drew) (be := W.heap.size + 1) (bx := W.heap.size) (((hW2.alloc (Nat.le_refl _) _).alloc (by simp) _).drew) (by omega)
              (bk_new2 W 3 3 [.int .i64 x] []) ((Bk.new W 3 [.int .i64 x]).alloc _) (by omega) lA lB sA hB ll
            obtain ⟨y1, Y1, y2, Y2, y3, Y3, ry1, ry2, ry3, oy1, oy2, oy3, bby, dy1, dy2⟩ := chain_mid (w := W) (x := x) (W := (W.alloc (.cells #[] 3)).drew) (be := W.heap.size) ((hW2.alloc (Nat.le_refl _) _).drew) (Nat.le_refl _)
              (World.alloc_heap_new W _) lA lB sA hB ll
            have RU1 := hid_ ru1
            have RU2 := hid_ ru2
            have RU3 := hid_ ru3
            have RV1 := hid_ rv1
            have RV2 := hid_ rv2
            have RV3 := hid_ rv3
            have RY1 := hid_ ry1
            have RY2 := hid_ ry2
            have RY3 := hid_ ry3
            have cu1 := (du1.cell (World.block_lt_of_cell? _ _ cW)).trans cW
            have cu2 := (du2.cell (World.block_lt_of_cell? _ _ cW)).trans cW
            have cv1 := (dv1.cell (World.block_lt_of_cell? _ _ cW)).trans cW
            have cv2 := (dv2.cell (World.block_lt_of_cell? _ _ cW)).trans cW
            have cy1 := (dy1.cell (World.block_lt_of_cell? _ _ cW)).trans cW
            have cy2 := (dy2.cell (World.block_lt_of_cell? _ _ cW)).trans cW
            have cu3 := (bu.old'.cell (World.block_lt_of_cell? _ _ cW)).trans cW
            have cv3 := (bv.old'.cell (World.block_lt_of_cell? _ _ cW)).trans cW
            have cy3 := (bby.old'.cell (World.block_lt_of_cell? _ _ cW)).trans cW
            rw [HNEW.out] at bu bv bby
            clear du1 du2 dv1 dv2 dy1 dy2
            have BU := hid_ bu
            have BV := hid_ bv
            have BY := hid_ bby
            clear ru1 ru2 ru3 rv1 rv2 rv3 ry1 ry2 ry3 bu bv bby sA hB lA lB
            go_region_held3 (fun w' => w'.cell? ⟨lb, lo, none⟩ = some (.int .i64 x)) (go_keep) (first | ((with_reducible refine step_append_run (s := .tmp 30) (x := .tmp 33) (t := 27) (u := 27) (ty := 0) RU1.out ?_ ?_ ?_ ?_ ?_); rfl; rfl; rfl; rfl) | ((with_reducible refine step_append_run (s := .tmp 34) (x := .tmp 39) (t := 27) (u := 27) (ty := 0) RU2.out ?_ ?_ ?_ ?_ ?_); rfl; rfl; rfl; rfl) | ((with_reducible refine step_append_run (s := .tmp 40) (x := .tmp 43) (t := 27) (u := 27) (ty := 0) RU3.out ?_ ?_ ?_ ?_ ?_); rfl; rfl; rfl; rfl) | ((with_reducible refine step_append_run (s := .tmp 30) (x := .tmp 33) (t := 27) (u := 27) (ty := 0) RV1.out ?_ ?_ ?_ ?_ ?_); rfl; rfl; rfl; rfl) | ((with_reducible refine step_append_run (s := .tmp 34) (x := .tmp 39) (t := 27) (u := 27) (ty := 0) RV2.out ?_ ?_ ?_ ?_ ?_); rfl; rfl; rfl; rfl) | ((with_reducible refine step_append_run (s := .tmp 40) (x := .tmp 43) (t := 27) (u := 27) (ty := 0) RV3.out ?_ ?_ ?_ ?_ ?_); rfl; rfl; rfl; rfl) | ((with_reducible refine step_append_run (s := .tmp 30) (x := .tmp 33) (t := 27) (u := 27) (ty := 0) RY1.out ?_ ?_ ?_ ?_ ?_); rfl; rfl; rfl; rfl) | ((with_reducible refine step_append_run (s := .tmp 34) (x := .tmp 39) (t := 27) (u := 27) (ty := 0) RY2.out ?_ ?_ ?_ ?_ ?_); rfl; rfl; rfl; rfl) | ((with_reducible refine step_append_run (s := .tmp 40) (x := .tmp 43) (t := 27) (u := 27) (ty := 0) RY3.out ?_ ?_ ?_ ?_ ?_); rfl; rfl; rfl; rfl))
            all_goals
              go_wp2_with fail
              go_roundw
              case rel => first
                | exact ⟨0 + 1, by omega, by go_num, below_then VW BU.out.old, BU.out.ints, fun h => by omega⟩
                | exact ⟨0 + 1, by omega, by go_num, below_then VW BV.out.old, BV.out.ints, fun h => by omega⟩
                | exact ⟨0 + 1, by omega, by go_num, below_then VW BY.out.old, BY.out.ints, fun h => by omega⟩
              case measure => simp [intOf]; omega
          · obtain ⟨sb, so, rfl, hsc⟩ := IW.cells (by omega)
            have f1 : (0 : Int) ≤ (q : Int) := Int.natCast_nonneg _
            have f2 : (q : Int) ≤ (k : Int) := by omega
            have f3 : (q : Int) ≤ (sc : Int) := by omega
            have f4 : (k : Int) ≤ (sc : Int) := by omega
            have sA : Src W (.slice (some ⟨sb, so, none⟩) q sc) 1 q ((s.take q).map (Value.int .i64)) :=
              ⟨_, _, rfl, by rw [List.length_map, ← lA]; omega, fun _ => ⟨_, rfl, fun j u hu => by
                rw [addr_add]
                have hjq : j < q := by
                  have := (List.getElem?_eq_some_iff.1 hu).1
                  rw [List.length_map, ← lA] at this
                  exact this
                have e := hsc j (by omega)
                rw [List.getElem?_map, List.getElem?_take, if_pos hjq, List.getElem?_eq_getElem (by rw [HLEN.out]; omega)] at hu
                rw [List.getD_eq_getElem?_getD, List.getElem?_eq_getElem (by rw [HLEN.out]; omega)] at e
                simp only [Option.map_some, Option.some.injEq, Option.getD_some] at hu e
                rw [e, hu]⟩⟩
            have sB : ∀ ad : Option Addr, (q < k → ad = some ⟨sb, so + q, none⟩) → Src W (.slice ad (k - q) (sc - q)) 1 (k - q) ((s.drop q).map (Value.int .i64)) := fun ad had =>
              ⟨_, _, rfl, by rw [List.length_map, ← lB]; omega, fun hm => ⟨_, had (by omega), fun j u hu => by
                rw [addr_add]
                have hjq : j < k - q := by
                  have := (List.getElem?_eq_some_iff.1 hu).1
                  rw [List.length_map, ← lB] at this
                  exact this
                have e := hsc (q + j) (by omega)
                rw [List.getElem?_map, List.getElem?_drop, List.getElem?_eq_getElem (by rw [HLEN.out]; omega)] at hu
                rw [List.getD_eq_getElem?_getD, List.getElem?_eq_getElem (by rw [HLEN.out]; omega)] at e
                simp only [Option.map_some, Option.some.injEq, Option.getD_some] at hu e
                rw [Nat.add_assoc, e, hu]⟩⟩
            clear hsc
            by_cases hcp : sc = q
            · obtain rfl : k = q := by omega
              subst hcp
              have hB : Src W (.slice (some ⟨sb, so, none⟩) 0 0) 1 0 ((s.drop sc).map (Value.int .i64)) := ⟨_, _, rfl, by rw [List.length_map, ← lB]; omega, fun h => absurd h (by omega)⟩
              replace lB : 0 = (s.drop sc).length := by rw [← lB]; omega
              obtain ⟨u1, U1, u2, U2, u3, U3, ru1, ru2, ru3, ou1, ou2, ou3, bu, du1, du2⟩ := chain_first (w := W) (W := ((W.alloc (.cells #[] 3)).alloc (.cells #[.int .i64 x] 3)).drew) (be := W.heap.size) (bx := W.heap.size + 1) (((hW2.alloc (Nat.le_refl _) _).alloc (by simp) _).drew) (Nat.le_refl _)
                ((Below.heap_alloc _ _ _ (by simp)).trans (World.alloc_heap_new W _)) (bk_new2 W 3 3 [] [.int .i64 x]) (by omega) lA lB sA hB ll
              obtain ⟨v1, V1, v2, V2, v3, V3, rv1, rv2, rv3, ov1, ov2, ov3, bv, dv1, dv2⟩ := chain_first (w := W) (W := ((W.alloc (.cells #[.int .i64 x] 3)).alloc (.cells #[] 3)).drew) (be := W.heap.size + 1) (bx := W.heap.size) (((hW2.alloc (Nat.le_refl _) _).alloc (by simp) _).drew) (by omega)
                (bk_new2 W 3 3 [.int .i64 x] []) ((Bk.new W 3 [.int .i64 x]).alloc _) (by omega) lA lB sA hB ll
              obtain ⟨y1, Y1, y2, Y2, y3, Y3, ry1, ry2, ry3, oy1, oy2, oy3, bby, dy1, dy2⟩ := chain_mid (w := W) (x := x) (W := (W.alloc (.cells #[] 3)).drew) (be := W.heap.size) ((hW2.alloc (Nat.le_refl _) _).drew) (Nat.le_refl _)
                (World.alloc_heap_new W _) lA lB sA hB ll
              have RU1 := hid_ ru1
              have RU2 := hid_ ru2
              have RU3 := hid_ ru3
              have RV1 := hid_ rv1
              have RV2 := hid_ rv2
              have RV3 := hid_ rv3
              have RY1 := hid_ ry1
              have RY2 := hid_ ry2
              have RY3 := hid_ ry3
              have cu1 := (du1.cell (World.block_lt_of_cell? _ _ cW)).trans cW
              have cu2 := (du2.cell (World.block_lt_of_cell? _ _ cW)).trans cW
              have cv1 := (dv1.cell (World.block_lt_of_cell? _ _ cW)).trans cW
              have cv2 := (dv2.cell (World.block_lt_of_cell? _ _ cW)).trans cW
              have cy1 := (dy1.cell (World.block_lt_of_cell? _ _ cW)).trans cW
              have cy2 := (dy2.cell (World.block_lt_of_cell? _ _ cW)).trans cW
              have cu3 := (bu.old'.cell (World.block_lt_of_cell? _ _ cW)).trans cW
              have cv3 := (bv.old'.cell (World.block_lt_of_cell? _ _ cW)).trans cW
              have cy3 := (bby.old'.cell (World.block_lt_of_cell? _ _ cW)).trans cW
              rw [HNEW.out] at bu bv bby
              clear du1 du2 dv1 dv2 dy1 dy2
              have BU := hid_ bu
              have BV := hid_ bv
              have BY := hid_ bby
              clear ru1 ru2 ru3 rv1 rv2 rv3 ry1 ry2 ry3 bu bv bby sA hB lA lB
              go_region_held3 (fun w' => w'.cell? ⟨lb, lo + sc, none⟩ = some (.int .i64 x)) (go_keep) (first | ((with_reducible refine step_append_run (s := .tmp 30) (x := .tmp 33) (t := 27) (u := 27) (ty := 0) RU1.out ?_ ?_ ?_ ?_ ?_); rfl; rfl; rfl; rfl) | ((with_reducible refine step_append_run (s := .tmp 34) (x := .tmp 39) (t := 27) (u := 27) (ty := 0) RU2.out ?_ ?_ ?_ ?_ ?_); rfl; rfl; rfl; rfl) | ((with_reducible refine step_append_run (s := .tmp 40) (x := .tmp 43) (t := 27) (u := 27) (ty := 0) RU3.out ?_ ?_ ?_ ?_ ?_); rfl; rfl; rfl; rfl) | ((with_reducible refine step_append_run (s := .tmp 30) (x := .tmp 33) (t := 27) (u := 27) (ty := 0) RV1.out ?_ ?_ ?_ ?_ ?_); rfl; rfl; rfl; rfl) | ((with_reducible refine step_append_run (s := .tmp 34) (x := .tmp 39) (t := 27) (u := 27) (ty := 0) RV2.out ?_ ?_ ?_ ?_ ?_); rfl; rfl; rfl; rfl) | ((with_reducible refine step_append_run (s := .tmp 40) (x := .tmp 43) (t := 27) (u := 27) (ty := 0) RV3.out ?_ ?_ ?_ ?_ ?_); rfl; rfl; rfl; rfl) | ((with_reducible refine step_append_run (s := .tmp 30) (x := .tmp 33) (t := 27) (u := 27) (ty := 0) RY1.out ?_ ?_ ?_ ?_ ?_); rfl; rfl; rfl; rfl) | ((with_reducible refine step_append_run (s := .tmp 34) (x := .tmp 39) (t := 27) (u := 27) (ty := 0) RY2.out ?_ ?_ ?_ ?_ ?_); rfl; rfl; rfl; rfl) | ((with_reducible refine step_append_run (s := .tmp 40) (x := .tmp 43) (t := 27) (u := 27) (ty := 0) RY3.out ?_ ?_ ?_ ?_ ?_); rfl; rfl; rfl; rfl))
              all_goals
                go_wp2_with fail
                go_roundw
                case rel => first
                  | exact ⟨sc + 1, by omega, by go_num, below_then VW BU.out.old, BU.out.ints, fun h => by omega⟩
                  | exact ⟨sc + 1, by omega, by go_num, below_then VW BV.out.old, BV.out.ints, fun h => by omega⟩
                  | exact ⟨sc + 1, by omega, by go_num, below_then VW BY.out.old, BY.out.ints, fun h => by omega⟩
                case measure => simp [intOf]; omega
            · have hB := sB (some ⟨sb, so + q, none⟩) (fun _ => rfl)
              obtain ⟨u1, U1, u2, U2, u3, U3, ru1, ru2, ru3, ou1, ou2, ou3, bu, du1, du2⟩ := chain_first (w := W) (W := ((W.alloc (.cells #[] 3)).alloc (.cells #[.int .i64 x] 3)).drew) (be := W.heap.size) (bx := W.heap.size + 1) (((hW2.alloc (Nat.le_refl _) _).alloc (by simp) _).drew) (Nat.le_refl _)
                ((Below.heap_alloc _ _ _ (by simp)).trans (World.alloc_heap_new W _)) (bk_new2 W 3 3 [] [.int .i64 x]) (by omega) lA lB sA hB ll
              obtain ⟨v1, V1, v2, V2, v3, V3, rv1, rv2, rv3, ov1, ov2, ov3, bv, dv1, dv2⟩ := chain_first (w := W) (W := ((W.alloc (.cells #[.int .i64 x] 3)).alloc (.cells #[] 3)).drew) (be := W.heap.size + 1) (bx := W.heap.size) (((hW2.alloc (Nat.le_refl _) _).alloc (by simp) _).drew) (by omega)
                (bk_new2 W 3 3 [.int .i64 x] []) ((Bk.new W 3 [.int .i64 x]).alloc _) (by omega) lA lB sA hB ll
              obtain ⟨y1, Y1, y2, Y2, y3, Y3, ry1, ry2, ry3, oy1, oy2, oy3, bby, dy1, dy2⟩ := chain_mid (w := W) (x := x) (W := (W.alloc (.cells #[] 3)).drew) (be := W.heap.size) ((hW2.alloc (Nat.le_refl _) _).drew) (Nat.le_refl _)
                (World.alloc_heap_new W _) lA lB sA hB ll
              have RU1 := hid_ ru1
              have RU2 := hid_ ru2
              have RU3 := hid_ ru3
              have RV1 := hid_ rv1
              have RV2 := hid_ rv2
              have RV3 := hid_ rv3
              have RY1 := hid_ ry1
              have RY2 := hid_ ry2
              have RY3 := hid_ ry3
              have cu1 := (du1.cell (World.block_lt_of_cell? _ _ cW)).trans cW
              have cu2 := (du2.cell (World.block_lt_of_cell? _ _ cW)).trans cW
              have cv1 := (dv1.cell (World.block_lt_of_cell? _ _ cW)).trans cW
              have cv2 := (dv2.cell (World.block_lt_of_cell? _ _ cW)).trans cW
              have cy1 := (dy1.cell (World.block_lt_of_cell? _ _ cW)).trans cW
              have cy2 := (dy2.cell (World.block_lt_of_cell? _ _ cW)).trans cW
              have cu3 := (bu.old'.cell (World.block_lt_of_cell? _ _ cW)).trans cW
              have cv3 := (bv.old'.cell (World.block_lt_of_cell? _ _ cW)).trans cW
              have cy3 := (bby.old'.cell (World.block_lt_of_cell? _ _ cW)).trans cW
              rw [HNEW.out] at bu bv bby
              clear du1 du2 dv1 dv2 dy1 dy2
              have BU := hid_ bu
              have BV := hid_ bv
              have BY := hid_ bby
              clear ru1 ru2 ru3 rv1 rv2 rv3 ry1 ry2 ry3 bu bv bby sA hB lA lB
              go_region_held3 (fun w' => w'.cell? ⟨lb, lo + k, none⟩ = some (.int .i64 x)) (go_keep) (first | ((with_reducible refine step_append_run (s := .tmp 30) (x := .tmp 33) (t := 27) (u := 27) (ty := 0) RU1.out ?_ ?_ ?_ ?_ ?_); rfl; rfl; rfl; rfl) | ((with_reducible refine step_append_run (s := .tmp 34) (x := .tmp 39) (t := 27) (u := 27) (ty := 0) RU2.out ?_ ?_ ?_ ?_ ?_); rfl; rfl; rfl; rfl) | ((with_reducible refine step_append_run (s := .tmp 40) (x := .tmp 43) (t := 27) (u := 27) (ty := 0) RU3.out ?_ ?_ ?_ ?_ ?_); rfl; rfl; rfl; rfl) | ((with_reducible refine step_append_run (s := .tmp 30) (x := .tmp 33) (t := 27) (u := 27) (ty := 0) RV1.out ?_ ?_ ?_ ?_ ?_); rfl; rfl; rfl; rfl) | ((with_reducible refine step_append_run (s := .tmp 34) (x := .tmp 39) (t := 27) (u := 27) (ty := 0) RV2.out ?_ ?_ ?_ ?_ ?_); rfl; rfl; rfl; rfl) | ((with_reducible refine step_append_run (s := .tmp 40) (x := .tmp 43) (t := 27) (u := 27) (ty := 0) RV3.out ?_ ?_ ?_ ?_ ?_); rfl; rfl; rfl; rfl) | ((with_reducible refine step_append_run (s := .tmp 30) (x := .tmp 33) (t := 27) (u := 27) (ty := 0) RY1.out ?_ ?_ ?_ ?_ ?_); rfl; rfl; rfl; rfl) | ((with_reducible refine step_append_run (s := .tmp 34) (x := .tmp 39) (t := 27) (u := 27) (ty := 0) RY2.out ?_ ?_ ?_ ?_ ?_); rfl; rfl; rfl; rfl) | ((with_reducible refine step_append_run (s := .tmp 40) (x := .tmp 43) (t := 27) (u := 27) (ty := 0) RY3.out ?_ ?_ ?_ ?_ ?_); rfl; rfl; rfl; rfl))
              all_goals
                go_wp2_with fail
                go_roundw
                case rel => first
                  | exact ⟨k + 1, by omega, by go_num, below_then VW BU.out.old, BU.out.ints, fun h => by omega⟩
                  | exact ⟨k + 1, by omega, by go_num, below_then VW BV.out.old, BV.out.ints, fun h => by omega⟩
                  | exact ⟨k + 1, by omega, by go_num, below_then VW BY.out.old, BY.out.ints, fun h => by omega⟩
                case measure => simp [intOf]; omega
        · obtain ⟨sb, so, rfl, hsc⟩ := HVO.out.2.cells (by omega)
          have c1 := hsc (q - 1) (by omega)
          have q0 : (0 : Int) < (q : Int) := by omega
          have g1 : decide ((0 : Int) < (q : Int)) = true := by simp; omega
          have g2 : decide (0 < q) = true := by simp; omega
          have g3 : 0 < q := by omega
          have q1 : (0 : Int) ≤ (q : Int) - 1 := by omega
          have q2 : (q : Int) - 1 < (k : Int) := by omega
          have q3 : ((q : Int) - 1).toNat = q - 1 := by omega
          have q4 : IntKind.i64.wrap ((q : Int) - 1) = (q : Int) - 1 := IntWalk.i64_in _ (by omega)
          clear hsc
          by_cases hcmp : x < s.getD (q - 1) 0
          · have HG2 : Hid (∀ j, q - 1 ≤ j → j < k → x < s.getD j 0) := hid_ (fun j h1 h2 => by
              by_cases hj : q ≤ j
              · exact HGT.out j hj h2
              · obtain rfl : j = q - 1 := by omega
                exact hcmp)
            generalize s.getD (q - 1) 0 = y at *
            go_upto_region 6 with (fail)
            go_quiet (fail)
            clear q3 q4
            go_wp2_with fail
            go_roundw
            case rel => exact ⟨q - 1, by omega, by go_num, HG2.out, below_drewN HVO.out.1 _, HVO.out.2.below (below_drewN (Below.refl _ _) _)⟩
            case measure => simp [intOf]; omega
          · have HLO : Hid (∀ j, j < q → s.getD j 0 ≤ x) := hid_ (fun j h => Int.le_trans (HMON.out j (q - 1) (by omega) (by omega)) (by omega))
            generalize s.getD (q - 1) 0 = y at *
            go_upto_region 6 with (fail)
            go_quiet (fail)
            clear q3 q4 c1 g1 g2 g3
            go_upto_region 8 with (fail)
            have VW := below_drewN HVO.out.1 nq
            have IW := HVO.out.2.below (below_drewN (Below.refl _ _) nq)
            have cW := HX.out _ VW
            clear c0 HVO HX
            generalize wr.drewN nq = W at *
            have hnew := HINS.out q (by rw [HLEN.out]; exact hq) HLO.out (fun h => Int.le_of_lt (HGT.out q (Nat.le_refl _) (by rw [HLEN.out] at h; exact h)))
            have HNEW := hid_ hnew
            have hW2 : Below W.heap.size W W := Below.refl _ _
            have lA : q = (s.take q).length := by rw [List.length_take, HLEN.out]; omega
            have lB : k - q = (s.drop q).length := by rw [List.length_drop, HLEN.out]
            have ll : (s.take q).length + 1 + (s.drop q).length ≤ 1000 := by rw [← lA, ← lB]; omega
            clear hnew HINS HGT HLO HMON
            by_cases hk00 : k = 0
            · omega
            · obtain ⟨b', o', e', hsc⟩ := IW.cells (by omega)
              obtain ⟨rfl, rfl⟩ : sb = b' ∧ so = o' := by injection e' with e'; injection e' with e1 e2; exact ⟨e1, e2⟩
              clear e'
              have f1 : (0 : Int) ≤ (q : Int) := Int.natCast_nonneg _
              have f2 : (q : Int) ≤ (k : Int) := by omega
              have f3 : (q : Int) ≤ (sc : Int) := by omega
              have f4 : (k : Int) ≤ (sc : Int) := by omega
              have sA : Src W (.slice (some ⟨sb, so, none⟩) q sc) 1 q ((s.take q).map (Value.int .i64)) :=
                ⟨_, _, rfl, by rw [List.length_map, ← lA]; omega, fun _ => ⟨_, rfl, fun j u hu => by
                  rw [addr_add]
                  have hjq : j < q := by
                    have := (List.getElem?_eq_some_iff.1 hu).1
                    rw [List.length_map, ← lA] at this
                    exact this
                  have e := hsc j (by omega)
                  rw [List.getElem?_map, List.getElem?_take, if_pos hjq, List.getElem?_eq_getElem (by rw [HLEN.out]; omega)] at hu
                  rw [List.getD_eq_getElem?_getD, List.getElem?_eq_getElem (by rw [HLEN.out]; omega)] at e
                  simp only [Option.map_some, Option.some.injEq, Option.getD_some] at hu e
                  rw [e, hu]⟩⟩
              have sB : ∀ ad : Option Addr, (q < k → ad = some ⟨sb, so + q, none⟩) → Src W (.slice ad (k - q) (sc - q)) 1 (k - q) ((s.drop q).map (Value.int .i64)) := fun ad had =>
                ⟨_, _, rfl, by rw [List.length_map, ← lB]; omega, fun hm => ⟨_, had (by omega), fun j u hu => by
                  rw [addr_add]
                  have hjq : j < k - q := by
                    have := (List.getElem?_eq_some_iff.1 hu).1
                    rw [List.length_map, ← lB] at this
                    exact this
                  have e := hsc (q + j) (by omega)
                  rw [List.getElem?_map, List.getElem?_drop, List.getElem?_eq_getElem (by rw [HLEN.out]; omega)] at hu
                  rw [List.getD_eq_getElem?_getD, List.getElem?_eq_getElem (by rw [HLEN.out]; omega)] at e
                  simp only [Option.map_some, Option.some.injEq, Option.getD_some] at hu e
                  rw [Nat.add_assoc, e, hu]⟩⟩
              clear hsc
              by_cases hcp : sc = q
              · obtain rfl : k = q := by omega
                subst hcp
                have hB : Src W (.slice (some ⟨sb, so, none⟩) 0 0) 1 0 ((s.drop sc).map (Value.int .i64)) := ⟨_, _, rfl, by rw [List.length_map, ← lB]; omega, fun h => absurd h (by omega)⟩
                replace lB : 0 = (s.drop sc).length := by rw [← lB]; omega
                obtain ⟨u1, U1, u2, U2, u3, U3, ru1, ru2, ru3, ou1, ou2, ou3, bu, du1, du2⟩ := chain_first (w := W) (W := ((W.alloc (.cells #[] 3)).alloc (.cells #[.int .i64 x] 3)).drew) (be := W.heap.size) (bx := W.heap.size + 1) (((hW2.alloc (Nat.le_refl _) _).alloc (by simp) _).drew) (Nat.le_refl _)
                  ((Below.heap_alloc _ _ _ (by simp)).trans (World.alloc_heap_new W _)) (bk_new2 W 3 3 [] [.int .i64 x]) (by omega) lA lB sA hB ll
                obtain ⟨v1, V1, v2, V2, v3, V3, rv1, rv2, rv3, ov1, ov2, ov3, bv, dv1, dv2⟩ := chain_first (w := W) (W := ((W.alloc (.cells #[.int .i64 x] 3)).alloc (.cells #[] 3)).drew) (be := W.heap.size + 1) (bx := W.heap.size) (((hW2.alloc (Nat.le_refl _) _).alloc (by simp) _).drew) (by omega)
                  (bk_new2 W 3 3 [.int .i64 x] []) ((Bk.new W 3 [.int .i64 x]).alloc _) (by omega) lA lB sA hB ll
                obtain ⟨y1, Y1, y2, Y2, y3, Y3, ry1, ry2, ry3, oy1, oy2, oy3, bby, dy1, dy2⟩ := chain_mid (w := W) (x := x) (W := (W.alloc (.cells #[] 3)).drew) (be := W.heap.size) ((hW2.alloc (Nat.le_refl _) _).drew) (Nat.le_refl _)
                  (World.alloc_heap_new W _) lA lB sA hB ll
                have RU1 := hid_ ru1
                have RU2 := hid_ ru2
                have RU3 := hid_ ru3
                have RV1 := hid_ rv1
                have RV2 := hid_ rv2
                have RV3 := hid_ rv3
                have RY1 := hid_ ry1
                have RY2 := hid_ ry2
                have RY3 := hid_ ry3
                have cu1 := (du1.cell (World.block_lt_of_cell? _ _ cW)).trans cW
                have cu2 := (du2.cell (World.block_lt_of_cell? _ _ cW)).trans cW
                have cv1 := (dv1.cell (World.block_lt_of_cell? _ _ cW)).trans cW
                have cv2 := (dv2.cell (World.block_lt_of_cell? _ _ cW)).trans cW
                have cy1 := (dy1.cell (World.block_lt_of_cell? _ _ cW)).trans cW
                have cy2 := (dy2.cell (World.block_lt_of_cell? _ _ cW)).trans cW
                have cu3 := (bu.old'.cell (World.block_lt_of_cell? _ _ cW)).trans cW
                have cv3 := (bv.old'.cell (World.block_lt_of_cell? _ _ cW)).trans cW
                have cy3 := (bby.old'.cell (World.block_lt_of_cell? _ _ cW)).trans cW
                rw [HNEW.out] at bu bv bby
                clear du1 du2 dv1 dv2 dy1 dy2
                have BU := hid_ bu
                have BV := hid_ bv
                have BY := hid_ bby
                clear ru1 ru2 ru3 rv1 rv2 rv3 ry1 ry2 ry3 bu bv bby sA hB lA lB
                go_region_held3 (fun w' => w'.cell? ⟨lb, lo + sc, none⟩ = some (.int .i64 x)) (go_keep) (first | ((with_reducible refine step_append_run (s := .tmp 30) (x := .tmp 33) (t := 27) (u := 27) (ty := 0) RU1.out ?_ ?_ ?_ ?_ ?_); rfl; rfl; rfl; rfl) | ((with_reducible refine step_append_run (s := .tmp 34) (x := .tmp 39) (t := 27) (u := 27) (ty := 0) RU2.out ?_ ?_ ?_ ?_ ?_); rfl; rfl; rfl; rfl) | ((with_reducible refine step_append_run (s := .tmp 40) (x := .tmp 43) (t := 27) (u := 27) (ty := 0) RU3.out ?_ ?_ ?_ ?_ ?_); rfl; rfl; rfl; rfl) | ((with_reducible refine step_append_run (s := .tmp 30) (x := .tmp 33) (t := 27) (u := 27) (ty := 0) RV1.out ?_ ?_ ?_ ?_ ?_); rfl; rfl; rfl; rfl) | ((with_reducible refine step_append_run (s := .tmp 34) (x := .tmp 39) (t := 27) (u := 27) (ty := 0) RV2.out ?_ ?_ ?_ ?_ ?_); rfl; rfl; rfl; rfl) | ((with_reducible refine step_append_run (s := .tmp 40) (x := .tmp 43) (t := 27) (u := 27) (ty := 0) RV3.out ?_ ?_ ?_ ?_ ?_); rfl; rfl; rfl; rfl) | ((with_reducible refine step_append_run (s := .tmp 30) (x := .tmp 33) (t := 27) (u := 27) (ty := 0) RY1.out ?_ ?_ ?_ ?_ ?_); rfl; rfl; rfl; rfl) | ((with_reducible refine step_append_run (s := .tmp 34) (x := .tmp 39) (t := 27) (u := 27) (ty := 0) RY2.out ?_ ?_ ?_ ?_ ?_); rfl; rfl; rfl; rfl) | ((with_reducible refine step_append_run (s := .tmp 40) (x := .tmp 43) (t := 27) (u := 27) (ty := 0) RY3.out ?_ ?_ ?_ ?_ ?_); rfl; rfl; rfl; rfl))
                all_goals
                  go_wp2_with fail
                  go_roundw
                  case rel => first
                    | exact ⟨sc + 1, by omega, by go_num, below_then VW BU.out.old, BU.out.ints, fun h => by omega⟩
                    | exact ⟨sc + 1, by omega, by go_num, below_then VW BV.out.old, BV.out.ints, fun h => by omega⟩
                    | exact ⟨sc + 1, by omega, by go_num, below_then VW BY.out.old, BY.out.ints, fun h => by omega⟩
                  case measure => simp [intOf]; omega
              · have hB := sB (some ⟨sb, so + q, none⟩) (fun _ => rfl)
                obtain ⟨u1, U1, u2, U2, u3, U3, ru1, ru2, ru3, ou1, ou2, ou3, bu, du1, du2⟩ := chain_first (w := W) (W := ((W.alloc (.cells #[] 3)).alloc (.cells #[.int .i64 x] 3)).drew) (be := W.heap.size) (bx := W.heap.size + 1) (((hW2.alloc (Nat.le_refl _) _).alloc (by simp) _).drew) (Nat.le_refl _)
                  ((Below.heap_alloc _ _ _ (by simp)).trans (World.alloc_heap_new W _)) (bk_new2 W 3 3 [] [.int .i64 x]) (by omega) lA lB sA hB ll
                obtain ⟨v1, V1, v2, V2, v3, V3, rv1, rv2, rv3, ov1, ov2, ov3, bv, dv1, dv2⟩ := chain_first (w := W) (W := ((W.alloc (.cells #[.int .i64 x] 3)).alloc (.cells #[] 3)).drew) (be := W.heap.size + 1) (bx := W.heap.size) (((hW2.alloc (Nat.le_refl _) _).alloc (by simp) _).drew) (by omega)
                  (bk_new2 W 3 3 [.int .i64 x] []) ((Bk.new W 3 [.int .i64 x]).alloc _) (by omega) lA lB sA hB ll
                obtain ⟨y1, Y1, y2, Y2, y3, Y3, ry1, ry2, ry3, oy1, oy2, oy3, bby, dy1, dy2⟩ := chain_mid (w := W) (x := x) (W := (W.alloc (.cells #[] 3)).drew) (be := W.heap.size) ((hW2.alloc (Nat.le_refl _) _).drew) (Nat.le_refl _)
                  (World.alloc_heap_new W _) lA lB sA hB ll
                have RU1 := hid_ ru1
                have RU2 := hid_ ru2
                have RU3 := hid_ ru3
                have RV1 := hid_ rv1
                have RV2 := hid_ rv2
                have RV3 := hid_ rv3
                have RY1 := hid_ ry1
                have RY2 := hid_ ry2
                have RY3 := hid_ ry3
                have cu1 := (du1.cell (World.block_lt_of_cell? _ _ cW)).trans cW
                have cu2 := (du2.cell (World.block_lt_of_cell? _ _ cW)).trans cW
                have cv1 := (dv1.cell (World.block_lt_of_cell? _ _ cW)).trans cW
                have cv2 := (dv2.cell (World.block_lt_of_cell? _ _ cW)).trans cW
                have cy1 := (dy1.cell (World.block_lt_of_cell? _ _ cW)).trans cW
                have cy2 := (dy2.cell (World.block_lt_of_cell? _ _ cW)).trans cW
                have cu3 := (bu.old'.cell (World.block_lt_of_cell? _ _ cW)).trans cW
                have cv3 := (bv.old'.cell (World.block_lt_of_cell? _ _ cW)).trans cW
                have cy3 := (bby.old'.cell (World.block_lt_of_cell? _ _ cW)).trans cW
                rw [HNEW.out] at bu bv bby
                clear du1 du2 dv1 dv2 dy1 dy2
                have BU := hid_ bu
                have BV := hid_ bv
                have BY := hid_ bby
                clear ru1 ru2 ru3 rv1 rv2 rv3 ry1 ry2 ry3 bu bv bby sA hB lA lB
                go_region_held3 (fun w' => w'.cell? ⟨lb, lo + k, none⟩ = some (.int .i64 x)) (go_keep) (first | ((with_reducible refine step_append_run (s := .tmp 30) (x := .tmp 33) (t := 27) (u := 27) (ty := 0) RU1.out ?_ ?_ ?_ ?_ ?_); rfl; rfl; rfl; rfl) | ((with_reducible refine step_append_run (s := .tmp 34) (x := .tmp 39) (t := 27) (u := 27) (ty := 0) RU2.out ?_ ?_ ?_ ?_ ?_); rfl; rfl; rfl; rfl) | ((with_reducible refine step_append_run (s := .tmp 40) (x := .tmp 43) (t := 27) (u := 27) (ty := 0) RU3.out ?_ ?_ ?_ ?_ ?_); rfl; rfl; rfl; rfl) | ((with_reducible refine step_append_run (s := .tmp 30) (x := .tmp 33) (t := 27) (u := 27) (ty := 0) RV1.out ?_ ?_ ?_ ?_ ?_); rfl; rfl; rfl; rfl) | ((with_reducible refine step_append_run (s := .tmp 34) (x := .tmp 39) (t := 27) (u := 27) (ty := 0) RV2.out ?_ ?_ ?_ ?_ ?_); rfl; rfl; rfl; rfl) | ((with_reducible refine step_append_run (s := .tmp 40) (x := .tmp 43) (t := 27) (u := 27) (ty := 0) RV3.out ?_ ?_ ?_ ?_ ?_); rfl; rfl; rfl; rfl) | ((with_reducible refine step_append_run (s := .tmp 30) (x := .tmp 33) (t := 27) (u := 27) (ty := 0) RY1.out ?_ ?_ ?_ ?_ ?_); rfl; rfl; rfl; rfl) | ((with_reducible refine step_append_run (s := .tmp 34) (x := .tmp 39) (t := 27) (u := 27) (ty := 0) RY2.out ?_ ?_ ?_ ?_ ?_); rfl; rfl; rfl; rfl) | ((with_reducible refine step_append_run (s := .tmp 40) (x := .tmp 43) (t := 27) (u := 27) (ty := 0) RY3.out ?_ ?_ ?_ ?_ ?_); rfl; rfl; rfl; rfl))
                all_goals
                  go_wp2_with fail
                  go_roundw
                  case rel => first
                    | exact ⟨k + 1, by omega, by go_num, below_then VW BU.out.old, BU.out.ints, fun h => by omega⟩
                    | exact ⟨k + 1, by omega, by go_num, below_then VW BV.out.old, BV.out.ints, fun h => by omega⟩
                    | exact ⟨k + 1, by omega, by go_num, below_then VW BY.out.old, BY.out.ints, fun h => by omega⟩
                  case measure => simp [intOf]; omega
    · obtain rfl : k = xs.length := by omega
      rw [List.take_length] at hO ⊢
      have HO := hid_ hO
      clear hO hk0 hlt hlen hs1
      go_wp2_with fail
      go_ret
      exact ⟨_, rfl, HO.out, hV⟩

theorem num_two : num 2 = [50] := by decide +kernel
theorem numN_two : numN 2 = [50] := by decide +kernel

set_option maxRecDepth 100000 in
set_option maxHeartbeats 1000000 in
theorem refCut_no (xs : List Int) (f : Int) (v : Value) (w : World) (h : IsInts w (fun _ => 0) v xs) (hl : xs.length ≤ 400) (hno : CutNo xs f) :
    Calls Try.prog 54 #[v, .int .i64 f] w fun e w' => e = .returned (.tuple #[.slice none 0 0, .string ⟨#[50]⟩]) ∧ Below w.heap.size w w' := by
  obtain ⟨a, cap, rfl, h1, h2⟩ := id h.form
  unfold maxLen at h2
  have HE := hid_ (fun W => refE_any 2 (by omega) (by omega) W)
  by_cases hf0 : f < 0
  · go_enter Try.func54, Try.ntmps54
    go_wp2_with fail
    refine (HE.out _).mono ?_
    rintro e w1 ⟨rfl, V1⟩
    rw [num_two]
    go_wp2
    go_ret2
    exact ⟨rfl, V1⟩
  · by_cases h0 : xs.length = 0
    · have e0 : ((xs.length : Int) == 0) = true := by simp [h0]
      have H0 := hid_ h0
      clear h0
      go_enter Try.func54, Try.ntmps54
      go_wp2_with fail
      refine (HE.out _).mono ?_
      rintro e w1 ⟨rfl, V1⟩
      rw [num_two]
      go_wp2
      go_ret2
      exact ⟨rfl, V1⟩
    · have e0 : ((xs.length : Int) == 0) = false := beq_eq_false_iff_ne.2 (by omega)
      have hgt : ((xs.length : Int) - 1) / 2 < f := by unfold CutNo at hno; omega
      have hnn : (0 : Int) ≤ (xs.length : Int) - 1 := by omega
      go_enter Try.func54, Try.ntmps54
      go_wp2_with fail
      refine (HE.out _).mono ?_
      rintro e w1 ⟨rfl, V1⟩
      rw [num_two]
      go_wp2
      go_ret2
      exact ⟨rfl, V1⟩

set_option maxRecDepth 100000 in
set_option maxHeartbeats 1000000 in
theorem refCut_yes (xs : List Int) (f : Nat) (v : Value) (w : World) (h : IsInts w (fun _ => 0) v xs) (hl : xs.length ≤ 400) (hf2 : 2 * f < xs.length) :
    Calls Try.prog 54 #[v, .int .i64 (f : Int)] w fun e w' => ∃ v', e = .returned (.tuple #[v', .string ⟨#[]⟩]) ∧ IsInts w' (fun _ => 0) v' (cutz xs f) ∧ Below w.heap.size w w' := by
  obtain ⟨a, cap, rfl, h1, h2⟩ := id h.form
  unfold maxLen at h2
  have e0 : ((xs.length : Int) == 0) = false := beq_eq_false_iff_ne.2 (by omega)
  have ef : (0 : Int) ≤ (f : Int) := Int.natCast_nonneg _
  have hnn : (0 : Int) ≤ (xs.length : Int) - 1 := by omega
  have hle : (f : Int) ≤ ((xs.length : Int) - 1) / 2 := by omega
  go_enter Try.func54, Try.ntmps54
  go_wp2_with fail
  refine (refSorted xs _ _ h hl).mono ?_
  rintro e w1 ⟨sv, rfl, hs, hV⟩
  have hsl : (srt xs).length = xs.length := srt_len xs
  obtain ⟨sa, sc, rfl, hs1, hs2⟩ := id hs.form
  rw [hsl] at hs hs1 ⊢
  unfold maxLen at hs2
  obtain ⟨sb, so, rfl, hsc⟩ := hs.cells (by omega)
  have hlt := World.block_lt_of_cell? w1 _ (hsc 0 (by omega))
  have hcl' : (cutz xs f).length = xs.length - 2 * f := cutz_len xs f (by omega)
  have hsub : (f : Int) ≤ (xs.length : Int) - (f : Int) := by omega
  have hsub2 : (xs.length : Int) - (f : Int) ≤ (sc : Int) := by omega
  have hint : IsInts w1 (fun _ => 0) (.slice (some ⟨sb, so + f, none⟩) (xs.length - f - f) (sc - f)) (cutz xs f) := by
    refine ⟨_, _, by rw [hcl', show xs.length - 2 * f = xs.length - f - f by omega], by omega, by unfold maxLen; omega, by simp, fun hn => ⟨sb, so + f, rfl, rfl, hlt, fun i x hx => ?_⟩⟩
    have hi : i < xs.length - 2 * f := by
      have := (List.getElem?_eq_some_iff.1 hx).1
      rw [List.length_map, hcl'] at this
      exact this
    have e1 := hsc (f + i) (by omega)
    rw [Nat.add_assoc, e1]
    rw [List.getElem?_map] at hx
    have e2 := cutz_getD xs f i hi
    rw [List.getD_eq_getElem?_getD, List.getElem?_eq_getElem (by rw [hcl']; exact hi)] at e2
    rw [List.getElem?_eq_getElem (by rw [hcl']; exact hi)] at hx
    simp only [Option.map_some, Option.some.injEq, Option.getD_some] at hx e2
    rw [← hx, e2]
  have hne : ¬ sc = f := by omega
  clear hsc hs hcl' h hsl
  have HI := hid_ hint
  clear hint
  go_wp2_with fail
  go_ret2
  exact ⟨_, rfl, HI.out, hV⟩

set_option maxRecDepth 100000 in
set_option maxHeartbeats 1000000 in
theorem refMid_no (xs : List Int) (f : Int) (v : Value) (w : World) (h : IsInts w (fun _ => 0) v xs) (hl : xs.length ≤ 400) (hno : CutNo xs f) :
    Calls Try.prog 43 #[v, .int .i64 f] w fun e w' => e = .returned (.tuple #[.int .i64 0, .string ⟨#[50]⟩]) ∧ Below w.heap.size w w' := by
  obtain ⟨a, cap, rfl, h1, h2⟩ := id h.form
  go_enter Try.func43, Try.ntmps43
  go_wp2_with fail
  refine (refCut_no xs f _ w h hl hno).mono ?_
  rintro e w1 ⟨rfl, hV⟩
  go_wp2
  go_ret2
  exact ⟨rfl, hV⟩

theorem bit_one (A : Int) : bits BinOp.and IntKind.i64 A 1 = A % 2 := by
  unfold bits
  show IntKind.i64.wrap ((BitVec.ofInt 64 A &&& BitVec.ofInt 64 1).toNat : Int) = _
  rw [BitVec.toNat_and, show (BitVec.ofInt 64 1).toNat = 1 by decide, Nat.and_one_is_mod]
  have ha := ofInt_toNat A
  generalize (BitVec.ofInt 64 A).toNat = a at *
  have hw : ∀ n : Nat, n < 2 → IntKind.i64.wrap (n : Int) = n := fun n hn => by
    have : n = 0 ∨ n = 1 := by omega
    rcases this with rfl | rfl <;> decide
  rw [hw _ (Nat.mod_lt _ (by omega))]
  omega
theorem ret_mid {a b : Int} {s : ByteArray} (h : a = b) : Ending.returned (.tuple #[.int .i64 a, .string s]) = .returned (.tuple #[.int .i64 b, .string s]) := by rw [h]

set_option maxRecDepth 100000 in
set_option maxHeartbeats 1000000 in
theorem refMid_yes (xs : List Int) (hx : ∀ x ∈ xs, Z64 x) (f : Nat) (v : Value) (w : World) (h : IsInts w (fun _ => 0) v xs) (hl : xs.length ≤ 400) (hf2 : 2 * f < xs.length) :
    Calls Try.prog 43 #[v, .int .i64 (f : Int)] w fun e w' => e = .returned (.tuple #[.int .i64 (midz xs f), .string ⟨#[]⟩]) ∧ Below w.heap.size w w' := by
  obtain ⟨a, cap, rfl, h1, h2⟩ := id h.form
  go_enter Try.func43, Try.ntmps43
  go_wp2_with fail
  refine (refCut_yes xs f _ w h hl hf2).mono ?_
  rintro e w1 ⟨v', rfl, hi, hb⟩
  have hcl : (cutz xs f).length = xs.length - 2 * f := cutz_len xs f (by omega)
  obtain ⟨a', c', rfl, h3, h4⟩ := id hi.form
  unfold maxLen at h4
  obtain ⟨b, off, rfl, hc⟩ := hi.at (i := 0) (by omega)
  have c0 := hc 0 (by omega)
  have c1 := hc (xs.length - 2 * f - 1) (by omega)
  rw [cutz_getD xs f _ (by omega)] at c0 c1
  rw [show f + (xs.length - 2 * f - 1) = xs.length - 1 - f by omega] at c1
  rw [hcl] at *
  clear hc
  have hm : midz xs f = ((srt xs).getD f 0 + (srt xs).getD (xs.length - 1 - f) 0) / 2 := rfl
  have HM := hid_ hm
  clear hm
  rw [Nat.add_zero] at c0
  have zA := srt_getD_Z hx (k := f) (by omega)
  have zB := srt_getD_Z hx (k := xs.length - 1 - f) (by omega)
  generalize (srt xs).getD f 0 = A at *
  generalize (srt xs).getD (xs.length - 1 - f) 0 = B at *
  have HZA := hid_ zA
  have HZB := hid_ zB
  obtain ⟨a0, a1⟩ := zA
  obtain ⟨b0, b1⟩ := zB
  clear hcl
  obtain ⟨n, hn⟩ : ∃ n, n = xs.length - 2 * f := ⟨_, rfl⟩
  have hn1 : 1 ≤ n := by omega
  have hn2 : n ≤ 1000 := by omega
  have c1' : w1.cell? ⟨b, off + (n - 1), none⟩ = some (.int .i64 B) := by rw [hn]; exact c1
  rw [← hn]
  clear hn hf2 hi h hl c1
  have n1 : (0 : Int) ≤ (n : Int) - 1 := by omega
  have n2 : (n : Int) - 1 < (n : Int) := by omega
  have n3 : ((n : Int) - 1).toNat = n - 1 := by omega
  have n4 : (1 : Int) ≤ (n : Int) := by omega
  have n5 : 0 < n := by omega
  have n6 : IntKind.i64.wrap ((n : Int) - 1) = (n : Int) - 1 := IntWalk.i64_in _ (by omega)
  go_wp2_with fail
  go_quiet (fail)
  clear n3 n6
  have VB := below_drewN hb nq
  generalize w1.drewN nq = w2 at *
  have bA := bit_one A
  have bB := bit_one B
  by_cases oA : A % 2 = 1 <;> by_cases oB : B % 2 = 1
  all_goals
    first
      | have tA : (A % 2 == 1) = true := by simpa using oA
      | have tA : (A % 2 == 1) = false := by simpa using oA
    first
      | have tB : (B % 2 == 1) = true := by simpa using oB
      | have tB : (B % 2 == 1) = false := by simpa using oB
    have OA := hid_ oA
    have OB := hid_ oB
    clear oA oB
    go_wp2_with fail
    refine (refDown A HZA.out _).mono ?_
    rintro e w3 ⟨rfl, rfl⟩
    go_wp2_with fail
    refine (refDown B HZB.out _).mono ?_
    rintro e w3 ⟨rfl, rfl⟩
    go_wp2_with fail
    go_ret2
    refine ⟨?_, VB⟩
    rw [HM.out]
    have := OA.out
    have := OB.out
    exact ret_mid (by omega)
end Go.Proofs.Ytnmhfdkmiblknaa
