/- MidpointCuts: the walk. No condition. -/
import Derived.Test.YtpghhnapgleajaaRefCut
import Derived.Test.YtpghhnapgleajaaRead
set_option linter.unusedSimpArgs false
set_option linter.unusedVariables false
namespace Go.Proofs.Ytpghhnapgleajaa
open Go.RowKit Go.Maps

/-- What the walk keeps: the list, and the copy with 77 behind it. -/
structure CutsK (w : World) (lv : Value) (l : List Int) (ib io ic : Nat) (W : World) : Prop where
  bel : Below w.heap.size w W
  lst : IsInts W (fun _ => 0) lv l
  cpy : IsInts W (fun _ => 0) (.slice (some ⟨ib, io, none⟩) l.length ic) l
  end_ : W.cell? ⟨ib, io + l.length, none⟩ = some (.int .i64 77)
theorem CutsK.below {w W W' : World} {lv : Value} {l : List Int} {ib io ic : Nat} (h : CutsK w lv l ib io ic W) (hb : Below W.heap.size W W') : CutsK w lv l ib io ic W' :=
  ⟨below_then h.bel hb, h.lst.below hb, h.cpy.below hb, (hb.cell (World.block_lt_of_cell? _ _ h.end_)).trans h.end_⟩
theorem read_nil (w : World) : Calls Try.prog 17 #[.nilIface] w fun x w' => x = .returned (.string ⟨#[]⟩) ∧ Below w.heap.size w w' :=
  read_any (fun _ => 0) .nilIface [] w rfl ⟨by simp, by simp⟩
theorem read_two (w : World) : Calls Try.prog 17 #[.iface 44 (.int .i64 2)] w fun x w' => x = .returned (.string ⟨#[50]⟩) ∧ Below w.heap.size w w' := by
  refine (read_any (fun _ => 0) (.iface 44 (.int .i64 2)) [(2, none)] w ⟨rfl, rfl⟩ ⟨by simp, by simp⟩).mono ?_
  rintro e w' ⟨rfl, h⟩
  refine ⟨?_, h⟩
  rw [show errT [(2, none)] = num 2 from rfl, num_two]

set_option maxRecDepth 100000 in
set_option maxHeartbeats 8000000 in
theorem cuts_walk (l : List Int) (hl : ∀ x ∈ l, Z64 x) (lv : Value) (f : Int) (hf : Z64 f) (w : World) (h : IsInts w (fun _ => 0) lv l) :
    Calls Try.prog 3 #[lv, .int .i64 f] w fun e w' => e = .returned (.bool true) ∧ Below w.heap.size w w' := by
  obtain ⟨a, cap, rfl, hc1, hc2⟩ := h.form
  unfold maxLen at hc2
  go_enter Try.func3, Try.ntmps3
  go_wp2_with fail
  refine (awake10 _).mono ?_
  rintro e w1 ⟨rfl, V1⟩
  by_cases h2 : (300 : Int) < (l.length : Int)
  · go_wp2
    go_ret
    exact ⟨rfl, V1⟩
  have h1 := h.below V1
  have hl300 : l.length ≤ 300 := by omega
  obtain ⟨b1, o1, p1, W1, hr1, hi1, hb1, hge1, hraw1⟩ := copy_ints w1 h1 (by omega)
  have HR1 := hid_ hr1
  have B1 := Bld.of_copy V1 hb1 hge1 hraw1
  obtain ⟨v2, W2, hr2, B2, ho2⟩ := B1.push 77 (by omega)
  have HR2 := hid_ hr2
  have hlen2 : (l ++ [77]).length = l.length + 1 := by simp
  obtain ⟨ia, ic, rfl, hic, him⟩ := B2.ints.form
  rw [hlen2] at hr2 B2 hic HR2 ho2
  obtain ⟨ib, io, rfl, hcell⟩ := B2.ints.cells (by omega)
  have hlt := World.block_lt_of_cell? W2 _ (hcell 0 (by omega))
  unfold maxLen at him
  have K2 : CutsK w (.slice a l.length cap) l ib io ic W2 := by
    refine ⟨B2.old, h.below B2.old, ⟨_, _, rfl, by omega, by unfold maxLen; omega, by simp, fun hn => ⟨ib, io, rfl, rfl, hlt, fun i x hx => ?_⟩⟩, ?_⟩
    · have hi : i < l.length := by simpa using (List.getElem?_eq_some_iff.1 hx).1
      rw [hcell i (by omega), List.getD_eq_getElem?_getD, List.getElem?_append_left hi, List.getElem?_eq_getElem hi]
      rw [List.getElem?_map, List.getElem?_eq_getElem hi] at hx
      simpa using hx
    · rw [hcell l.length (by omega), List.getD_eq_getElem?_getD, List.getElem?_append_right (Nat.le_refl _)]
      simp
  have HK2 := hid_ K2
  have l0 : (0 : Int) ≤ (l.length : Int) := Int.natCast_nonneg _
  have l1 : (l.length : Int) ≤ (l.length : Int) + 1 := by omega
  have l2 : (l.length : Int) ≤ (ic : Int) := by omega
  have l3 : l.length ≤ ic := by omega
  clear hr1 hi1 hraw1 B1 hr2 B2 h1 h V1 hb1 hcell K2 hge1 hlen2
  go_upto_region 6 with (first | ((with_reducible refine wpList_append_run (s := .tmp 23) (x := .tmp 24) (t := 22) (u := 22) (ty := 0) HR1.out ?_ ?_ ?_ ?_ ?_); rfl; rfl; rfl; rfl) | ((with_reducible refine wpList_append_run (s := .tmp 25) (x := .tmp 26) (t := 22) (u := 22) (ty := 0) HR2.out ?_ ?_ ?_ ?_ ?_); rfl; rfl; rfl; rfl))
  clear HR1 HR2
  by_cases hno : CutNo l f
  · have HNO := hid_ hno
    clear hno
    go_wp2_with fail
    refine (cut_no (fun _ => 0) l f _ _ HK2.out.cpy (by omega) HNO.out).mono ?_
    rintro e w3 ⟨rfl, rfl⟩
    go_wp2_with fail
    refine (refCut_no l f _ _ HK2.out.lst (by omega) HNO.out).mono ?_
    rintro e w4 ⟨rfl, V4⟩
    have HK4 := hid_ (HK2.out.below V4)
    clear HK2 V4 hlt
    go_wp2_with fail
    refine (mid_no (fun _ => 0) l f _ _ HK4.out.cpy (by omega) HNO.out).mono ?_
    rintro e w5 ⟨rfl, rfl⟩
    go_wp2_with fail
    refine (refMid_no l f _ _ HK4.out.lst (by omega) HNO.out).mono ?_
    rintro e w6 ⟨rfl, V6⟩
    have HK6 := hid_ (HK4.out.below V6)
    clear HK4 V6
    go_wp2_with fail
    refine (most_any (fun _ => 0) l _ _ HK6.out.cpy (by omega)).mono ?_
    rintro e w7 ⟨rfl, rfl⟩
    go_wp2_with fail
    refine (refMost l _ _ HK6.out.lst (by omega)).mono ?_
    rintro e w8 ⟨rfl, V8⟩
    have HK8 := hid_ (HK6.out.below V8)
    clear HK6 V8
    generalize (mostz l).getD 0 = mo at *
    generalize (mostz l).isSome = ms at *
    go_wp2_with fail
    refine (refSame [] _ _ _ (rd_nil _ _ _) (rd_nil _ _ _) (by simp)).mono ?_
    rintro e w9 ⟨rfl, V9⟩
    have HK9 := hid_ (HK8.out.below V9)
    clear HK8 V9
    go_wp2_with fail
    refine (read_two _).mono ?_
    rintro e w10 ⟨rfl, V10⟩
    have HK10 := hid_ (HK9.out.below V10)
    clear HK9 V10
    go_wp2_with fail
    refine (read_two _).mono ?_
    rintro e w11 ⟨rfl, V11⟩
    have HK11 := hid_ (HK10.out.below V11)
    clear HK10 V11
    go_wp2_with fail
    refine (refSame l _ _ _ HK11.out.cpy HK11.out.lst (by omega)).mono ?_
    rintro e w12 ⟨rfl, V12⟩
    have K12 := HK11.out.below V12
    clear HK11 V12
    have c77 := K12.end_
    have VF := K12.bel
    clear K12
    go_wp2_with fail
    go_ret
    exact ⟨rfl, VF⟩
  · obtain ⟨F, rfl, hF2⟩ : ∃ F : Nat, f = (F : Int) ∧ 2 * F < l.length := ⟨f.toNat, by unfold CutNo at hno; omega, by unfold CutNo at hno; omega⟩
    clear hno
    go_wp2_with fail
    refine (cut_yes (fun _ => 0) l F _ _ (fun _ _ => rfl) HK2.out.cpy (by omega) hF2).mono ?_
    rintro e w3 ⟨av, rfl, iA, V3⟩
    have HK3 := hid_ (HK2.out.below V3)
    have HA3 := hid_ iA
    obtain ⟨aa, ac, rfl, -⟩ := iA.form
    clear HK2 V3 hlt iA
    go_wp2_with fail
    refine (refCut_yes l F _ _ HK3.out.lst (by omega) hF2).mono ?_
    rintro e w4 ⟨bv, rfl, iB, V4⟩
    have HK4 := hid_ (HK3.out.below V4)
    have HA4 := hid_ (HA3.out.below V4)
    have HB4 := hid_ iB
    obtain ⟨ba, bc, rfl, -⟩ := iB.form
    clear HK3 HA3 V4 iB
    go_wp2_with fail
    refine (mid_yes (fun _ => 0) l hl F _ _ (fun _ _ => rfl) HK4.out.cpy (by omega) hF2).mono ?_
    rintro e w5 ⟨rfl, V5⟩
    have HK5 := hid_ (HK4.out.below V5)
    have HA5 := hid_ (HA4.out.below V5)
    have HB5 := hid_ (HB4.out.below V5)
    clear HK4 HA4 HB4 V5
    go_wp2_with fail
    refine (refMid_yes l hl F _ _ HK5.out.lst (by omega) hF2).mono ?_
    rintro e w6 ⟨rfl, V6⟩
    have HK6 := hid_ (HK5.out.below V6)
    have HA6 := hid_ (HA5.out.below V6)
    have HB6 := hid_ (HB5.out.below V6)
    clear HK5 HA5 HB5 V6
    generalize midz l F = mi at *
    go_wp2_with fail
    refine (most_any (fun _ => 0) l _ _ HK6.out.cpy (by omega)).mono ?_
    rintro e w7 ⟨rfl, rfl⟩
    go_wp2_with fail
    refine (refMost l _ _ HK6.out.lst (by omega)).mono ?_
    rintro e w8 ⟨rfl, V8⟩
    have HK8 := hid_ (HK6.out.below V8)
    have HA8 := hid_ (HA6.out.below V8)
    have HB8 := hid_ (HB6.out.below V8)
    clear HK6 HA6 HB6 V8
    generalize (mostz l).getD 0 = mo at *
    generalize (mostz l).isSome = ms at *
    go_wp2_with fail
    refine (refSame (cutz l F) _ _ _ HA8.out HB8.out (by rw [cutz_len l F (by omega)]; omega)).mono ?_
    rintro e w9 ⟨rfl, V9⟩
    have HK9 := hid_ (HK8.out.below V9)
    clear HK8 HA8 HB8 V9
    go_wp2_with fail
    refine (read_nil _).mono ?_
    rintro e w10 ⟨rfl, V10⟩
    have HK10 := hid_ (HK9.out.below V10)
    clear HK9 V10
    go_wp2_with fail
    refine (read_nil _).mono ?_
    rintro e w11 ⟨rfl, V11⟩
    have HK11 := hid_ (HK10.out.below V11)
    clear HK10 V11
    go_wp2_with fail
    refine (refSame l _ _ _ HK11.out.cpy HK11.out.lst (by omega)).mono ?_
    rintro e w12 ⟨rfl, V12⟩
    have K12 := HK11.out.below V12
    clear HK11 V12
    have c77 := K12.end_
    have VF := K12.bel
    clear K12
    go_wp2_with fail
    go_ret
    exact ⟨rfl, VF⟩
end Go.Proofs.Ytpghhnapgleajaa
