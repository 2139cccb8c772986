/- MidpointParts: the walk. No condition. -/
import Derived.Test.YtpghhnapgleajaaAwake10
import Derived.Deep.CutBlock
set_option linter.unusedSimpArgs false
set_option linter.unusedVariables false
namespace Go.Proofs.Ytpghhnapgleajaa
open Go.RowKit Go.Maps

/-- What the walk of a law over one list keeps. -/
def Kept1 (w : World) (lv : Value) (xs : List Int) (W : World) : Prop := Below w.heap.size w W ∧ IsInts W (fun _ => 0) lv xs
theorem Kept1.below {w W W' : World} {lv : Value} {xs : List Int} (h : Kept1 w lv xs W) (hb : Below W.heap.size W W') : Kept1 w lv xs W' :=
  ⟨below_then h.1 hb, h.2.fr (Fr.of_below hb (fun _ => False)) (fun h => h)⟩
theorem below_drewN {B : Nat} {a w : World} (h : Below B a w) (n : Nat) : Below B a (w.drewN n) := ⟨h.os, h.tape, h.output, h.size, h.block⟩
theorem IsInts.below {W W' : World} {lv : Value} {xs : List Int} (h : IsInts W (fun _ => 0) lv xs) (hb : Below W.heap.size W W') : IsInts W' (fun _ => 0) lv xs := h.fr (Fr.of_below hb (fun _ => False)) (fun h => h)
/-- append([]int{}, l...) -/
theorem copy_ints {xs : List Int} {v : Value} (w : World) (h : IsInts w (fun _ => 0) v xs) (hl : xs.length ≤ 1000) :
    ∃ b off cap w', (Builtin.append_ #[22, 22] 0 #[.slice (some ⟨w.heap.size, 0, none⟩) 0 0, v]).run Try.prog (w.alloc (.cells #[] 3)) = .ok (.slice (some ⟨b, off, none⟩) xs.length cap) w' ∧
      IsInts w' (fun _ => 0) (.slice (some ⟨b, off, none⟩) xs.length cap) xs ∧ Below w.heap.size w w' ∧ w.heap.size ≤ b ∧ Raw w' (.slice (some ⟨b, off, none⟩) xs.length cap) 3 1 xs.length (xs.map (Value.int .i64)) b := by
  obtain ⟨b, off, cap, w', hr, h1, h2, h3, h4⟩ := copy_of (P := Try.prog) (C := fun _ => 0) w (fun _ _ => rfl) Try.underlying22 info_int' h.src (by unfold maxLen; omega) (by omega)
  exact ⟨b, off, cap, w', hr, h1, h2, h3, h4⟩

theorem IsInts.cells {w : World} {C : Nat → Nat} {a : Option Addr} {n cap : Nat} {xs : List Int} (h : IsInts w C (.slice a n cap) xs) (hn : 0 < n) : ∃ b off, a = some ⟨b, off, none⟩ ∧ ∀ j, j < n → w.cell? ⟨b, off + j, none⟩ = some (.int .i64 (xs.getD j 0)) := by
  obtain ⟨a', cap', hv, _⟩ := id h
  injection hv with _ e _
  subst e
  exact h.at (i := 0) hn
theorem IsInts.len {w : World} {C : Nat → Nat} {a : Option Addr} {n cap : Nat} {xs : List Int} (h : IsInts w C (.slice a n cap) xs) : n = xs.length := by
  obtain ⟨a', cap', hv, _⟩ := id h
  injection hv
def Kept2 (w : World) (lv : Value) (xs : List Int) (sv : Value) (ys : List Int) (W : World) : Prop := Kept1 w lv xs W ∧ IsInts W (fun _ => 0) sv ys
theorem Kept2.below {w W W' : World} {lv sv : Value} {xs ys : List Int} (h : Kept2 w lv xs sv ys W) (hb : Below W.heap.size W W') : Kept2 w lv xs sv ys W' := ⟨h.1.below hb, h.2.below hb⟩
theorem Kept2.drewN {w W : World} {lv sv : Value} {xs ys : List Int} (h : Kept2 w lv xs sv ys W) (n : Nat) : Kept2 w lv xs sv ys (W.drewN n) := h.below (below_drewN (Below.refl _ _) n)
theorem rem_small (x m : Int) (hm : 0 < m) (h9 : m ≤ 1000000) : 0 ≤ wrap64 ((IntKind.u64.wrap x).tmod m) ∧ wrap64 ((IntKind.u64.wrap x).tmod m) < m := by
  have h0 : 0 ≤ IntKind.u64.wrap x := by simp [IntKind.wrap, IntKind.signed, IntKind.bits]; omega
  rw [Int.tmod_eq_emod_of_nonneg h0]
  have h1 := Int.emod_nonneg (IntKind.u64.wrap x) (show m ≠ 0 by omega)
  have h2 := Int.emod_lt_of_pos (IntKind.u64.wrap x) hm
  unfold wrap64
  omega
theorem rem_nat (x m : Int) (hm : 0 < m) (h9 : m ≤ 1000000) : ∃ F : Nat, wrap64 ((IntKind.u64.wrap x).tmod m) = (F : Int) ∧ (F : Int) < m := by
  obtain ⟨h1, h2⟩ := rem_small x m hm h9
  exact ⟨_, (Int.toNat_of_nonneg h1).symm, by rw [Int.toNat_of_nonneg h1]; exact h2⟩
theorem countP_snoc (p : Int → Bool) (l : List Int) (x : Int) : (l ++ [x]).countP p = if p x = true then l.countP p + 1 else l.countP p := by
  rw [List.countP_append, List.countP_singleton]
  split <;> simp

set_option maxRecDepth 100000 in
set_option maxHeartbeats 4000000 in
theorem parts_walk (xs : List Int) (hx : ∀ x ∈ xs, Z64 x) (lv : Value) (f0 : Int) (hf0 : Z64 f0) (w : World) (h : IsInts w (fun _ => 0) lv xs) :
    Calls Try.prog 8 #[lv, .int .i64 f0] w fun e w' => e = .returned (.bool true) ∧ Below w.heap.size w w' := by
  obtain ⟨a, cap, rfl, hc1, hc2⟩ := h.form
  unfold maxLen at hc2
  go_enter Try.func8, Try.ntmps8
  go_wp2_with fail
  refine (awake10 _).mono ?_
  rintro e w1 ⟨rfl, V1⟩
  by_cases h1 : (xs.length : Int) < 1
  · go_wp2
    go_ret
    exact ⟨rfl, V1⟩
  by_cases h2 : (100 : Int) < (xs.length : Int)
  · go_wp2
    go_ret
    exact ⟨rfl, V1⟩
  have K1 : Kept1 w (.slice a xs.length cap) xs w1 := ⟨V1, h.below V1⟩
  have HK := hid_ K1
  clear V1 K1 h
  have n0 : (0 : Int) ≤ (xs.length : Int) - 1 := by omega
  go_upto_region 6 with (fail)
  obtain ⟨F, hF, hFm⟩ := rem_nat f0 (((xs.length : Int) - 1) / 2 + 1) (by omega) (by omega)
  rw [hF]
  clear hF
  have hF2 : 2 * F < xs.length := by omega
  have hx100 : xs.length ≤ 100 := by omega
  obtain ⟨b1, o1, p1, W1, hr1, hi1, hb1, hge1, hraw1⟩ := copy_ints w1 HK.out.2 (by omega)
  have HR1 := hid_ hr1
  clear hr1 hraw1
  have K2 := HK.out.below hb1
  go_wp2_with (refine wpList_append_run HR1.out (by rfl) (by rfl) (by rfl) (by rfl) ?_)
  refine (cut_yes (fun _ => 0) xs F _ W1 (fun _ _ => rfl) hi1 (by omega) hF2).mono ?_
  rintro e w2 ⟨sv, rfl, hi2, hb2⟩
  have K3 := K2.below hb2
  have HK3 := hid_ K3
  clear K2 K3 HR1 HK hi1 hb1 hb2
  have hcl : (cutz xs F).length = xs.length - 2 * F := cutz_len xs F (by omega)
  obtain ⟨sa, sc, rfl, hsc, hsm⟩ := id hi2.form
  have HI2 := hid_ hi2
  have HCL := hid_ hcl
  clear hi2 hcl
  have HS : ∀ j, j < xs.length - 2 * F → (cutz xs F).getD j 0 = (srt xs).getD (F + j) 0 := fun j hj => cutz_getD xs F j hj
  have Hless := less_few xs F (by omega)
  have Hmore := more_few xs F (by omega)
  have Hmid : (srt xs).getD F 0 ≤ midz xs F ∧ midz xs F ≤ (srt xs).getD (xs.length - 1 - F) 0 := by
    have := srt_mono xs (i := F) (j := xs.length - 1 - F) (by omega) (by omega)
    unfold midz
    omega
  have Hmono : ∀ k, 1 ≤ k → k < xs.length - 2 * F → (cutz xs F).getD (k - 1) 0 ≤ (cutz xs F).getD k 0 := fun k h1 h2 => by
    rw [HS k h2, HS (k - 1) (by omega)]
    exact srt_mono xs (by omega) (by omega)
  rw [show (srt xs).getD F 0 = (cutz xs F).getD 0 0 by rw [HS 0 (by omega), Nat.add_zero], show (srt xs).getD (xs.length - 1 - F) 0 = (cutz xs F).getD (xs.length - 2 * F - 1) 0 by rw [HS _ (by omega)]; congr 1; omega] at *
  rw [HCL.out]
  have HI := hid_ HI2.out
  rw [HCL.out] at HI
  obtain ⟨M, hM⟩ : ∃ M, M = xs.length - 2 * F := ⟨_, rfl⟩
  rw [← hM] at HI Hmore Hmid Hmono ⊢
  have hM1 : 1 ≤ M := by omega
  have hM2 : M ≤ 100 := by omega
  have hsub : ((xs.length : Int) - 2 * (F : Int)) = (M : Int) := by omega
  have hne : (((M : Int)) != ((xs.length : Int) - 2 * (F : Int))) = false := by rw [hsub]; simp
  obtain ⟨sb, so, rfl, -⟩ := HI.out.cells (by omega)
  generalize cutz xs F = cs at *
  have KK : Kept2 w (.slice a xs.length cap) xs (.slice (some ⟨sb, so, none⟩) M sc) cs w2 := ⟨HK3.out, HI.out⟩
  have HKK := hid_ KK
  have HLESS := hid_ Hless
  have HMORE := hid_ Hmore
  have HMID := hid_ Hmid
  have HMONO := hid_ Hmono
  clear KK HI HI2 HCL HS hM hsub HK3 Hless Hmore Hmid Hmono
  go_upto_block 1 with (fail)
  go_loopw [7] (fun i wr => ∃ k : Nat, 1 ≤ k ∧ k ≤ M ∧ i = .int .i64 k ∧ Kept2 w (.slice a xs.length cap) xs (.slice (some ⟨sb, so, none⟩) M sc) cs wr) (fun i _ => M - (intOf i).toNat)
  case atStart => exact ⟨1, Nat.le_refl _, hM1, rfl, HKK.out⟩
  case round =>
    obtain ⟨k, hk1, hk, rfl, hK⟩ := hrel
    obtain ⟨b', o', e', hc⟩ := hK.2.cells (by omega)
    obtain ⟨rfl, rfl⟩ : sb = b' ∧ so = o' := by injection e' with e'; injection e' with e1 e2; exact ⟨e1, e2⟩
    have HKr := hid_ hK
    clear hK e'
    by_cases hlt : k < M
    · have c0 := hc k hlt
      have c1 := hc (k - 1) (by omega)
      have hle := HMONO.out k hk1 hlt
      generalize cs.getD k 0 = A at *
      generalize cs.getD (k - 1) 0 = B at *
      have n1 : (1 : Int) ≤ (k : Int) := by omega
      have n2 : (0 : Int) ≤ (k : Int) - 1 := by omega
      have n3 : (k : Int) - 1 < (M : Int) := by omega
      have n4 : ((k : Int) - 1).toNat = k - 1 := by omega
      have n5 : IntKind.i64.wrap ((k : Int) - 1) = (k : Int) - 1 := IntWalk.i64_in _ (by omega)
      clear hc
      go_wp2_with fail
      go_quiet (fail)
      clear n4 n5
      go_wp2_with fail
      go_roundw
      case rel => exact ⟨k + 1, by omega, by omega, by go_num, HKr.out.drewN _⟩
      case measure => simp [intOf]; omega
    · obtain rfl : k = M := by omega
      have s0 := hc 0 (by omega)
      have s1 := hc (k - 1) (by omega)
      rw [Nat.add_zero] at s0
      clear hlt hc hk1 hk HKK HMONO
      have HL := HLESS.out
      have HM := HMORE.out
      have HD := HMID.out
      clear HLESS HMORE HMID
      generalize cs.getD 0 0 = A at *
      generalize cs.getD (k - 1) 0 = B at *
      have HLESS := hid_ HL
      have HMORE := hid_ HM
      have HMID := hid_ HD
      clear HL HM HD
      have n1 : (1 : Int) ≤ (k : Int) := by omega
      have n2 : (0 : Int) ≤ (k : Int) - 1 := by omega
      have n3 : (k : Int) - 1 < (k : Int) := by omega
      have n4 : ((k : Int) - 1).toNat = k - 1 := by omega
      go_wp2_with fail
      go_loop [8, 9, 72] (fun u v i => ∃ m : Nat, m ≤ xs.length ∧ i = .int .i64 m ∧ u = .int .i64 ((xs.take m).countP (fun y => decide (y < A)) : Nat) ∧ v = .int .i64 ((xs.take m).countP (fun y => decide (B < y)) : Nat)) (fun _ _ i => xs.length - (intOf i).toNat)
      case atStart => exact ⟨0, Nat.zero_le _, rfl, rfl, rfl⟩
      case round =>
        obtain ⟨m, hm, rfl, rfl, rfl⟩ := hrel
        by_cases hlt : m < xs.length
        · obtain ⟨lb, lo, rfl, hlc⟩ := HKr.out.1.2.cells (by omega)
          have lc := hlc m hlt
          have t1 := countP_snoc (fun y => decide (y < A)) (xs.take m) (xs.getD m 0)
          have t2 := countP_snoc (fun y => decide (B < y)) (xs.take m) (xs.getD m 0)
          rw [← take_snoc xs m hlt] at t1 t2
          have l1 := List.countP_le_length (p := fun y => decide (y < A)) (l := xs.take m)
          have l2 := List.countP_le_length (p := fun y => decide (B < y)) (l := xs.take m)
          have l3 : (xs.take m).length ≤ m := List.length_take_le _ _
          have T1 := hid_ t1
          have T2 := hid_ t2
          clear t1 t2 hlc
          generalize (xs.take m).countP (fun y => decide (y < A)) = c1 at *
          generalize (xs.take m).countP (fun y => decide (B < y)) = c2 at *
          generalize xs.getD m 0 = x at *
          by_cases q1 : x < A <;> by_cases q2 : B < x
          all_goals
            go_wp2_with fail
            go_round
            case rel => exact ⟨m + 1, by omega, by go_num, by rw [T1.out]; simp only [q1, decide_true, decide_false, if_true, if_false, Bool.false_eq_true]; first | done | go_num, by rw [T2.out]; simp only [q2, decide_true, decide_false, if_true, if_false, Bool.false_eq_true]; first | done | go_num⟩
            case measure => simp [intOf]; omega
        · obtain rfl : m = xs.length := by omega
          rw [List.take_length]
          have H1 := HLESS.out
          have H2 := HMORE.out
          have H3 := HMID.out
          clear HLESS HMORE HMID hm hlt
          generalize xs.countP (fun y => decide (y < A)) = c1 at *
          generalize xs.countP (fun y => decide (B < y)) = c2 at *
          obtain ⟨H3, H4⟩ := H3
          obtain ⟨b2, o2, p2, W2, hr2, hi2, hb2, hge2, hraw2⟩ := copy_ints wr HKr.out.1.2 (by omega)
          have HR2 := hid_ hr2
          clear hr2 hraw2
          have K2 := HKr.out.below hb2
          go_wp2_with (refine wpList_append_run HR2.out (by rfl) (by rfl) (by rfl) (by rfl) ?_)
          refine (mid_yes (fun _ => 0) xs hx F _ W2 (fun _ _ => rfl) hi2 (by omega) hF2).mono ?_
          rintro e w3 ⟨rfl, hb3⟩
          have K3 := K2.below hb3
          generalize midz xs F = md at *
          have r0 := (hb2.cell (World.block_lt_of_cell? _ _ s0)).trans s0
          have r0 := (hb3.cell (World.block_lt_of_cell? _ _ r0)).trans r0
          have r1 := (hb2.cell (World.block_lt_of_cell? _ _ s1)).trans s1
          have r1 := (hb3.cell (World.block_lt_of_cell? _ _ r1)).trans r1
          have VV := K3.1.1
          clear s0 s1 K2 K3 HR2 HKr hb2 hb3 hi2
          go_wp2_with fail
          go_ret
          exact ⟨rfl, VV⟩
end Go.Proofs.Ytpghhnapgleajaa
