/- The statements' made. No condition. -/
import Derived.Test.YtohmnkjiohjjoaaDoorMade
set_option linter.unusedSimpArgs false
set_option linter.unusedVariables false
namespace Go.Proofs.YtohmnkjiohjjoaaDoor
open Go.RowKit Go.Maps

/-- What made has so far. -/
def MadeR (w : World) (l : List LinkT) (i : Nat) (ev tv : Value) (W : World) : Prop :=
  IsErr W z0 ev (madeE l i) ∧ tv = .string ⟨(errT (madeE l i)).toArray⟩ ∧ Below w.heap.size w W

set_option maxRecDepth 100000 in
set_option maxHeartbeats 8000000 in
theorem made_any (l : List LinkT) (lv : Value) (w : World) (hl : ∀ x ∈ l, x.ok) (hv : Rd w z0 lv 3 l.length (l.flatMap LinkT.cells)) :
    Calls Tryd.prog 7 #[lv] w fun x w' => ∃ ev n, n ≤ 12 ∧ n ≤ l.length ∧ x = .returned (.tuple #[ev, .string ⟨(errT (madeE l n)).toArray⟩]) ∧ IsErr w' z0 ev (madeE l n) ∧ Below w.heap.size w w' := by
  obtain ⟨la, lc, rfl, hlc, hlm, -⟩ := id hv
  unfold maxLen at hlm
  have HV := hid_ hv
  clear hv
  go_enter Tryd.func7, Tryd.ntmps7
  go_wp2
  have H0 := hid_ (show MadeR w l 0 .nilIface (.string ⟨#[]⟩) w from ⟨rfl, rfl, Below.refl _ _⟩)
  go_loopw [4, 5, 6] (fun ev0 tv0 iv wr => ∃ (ev tv : Value) (i : Nat), ev = ev0 ∧ tv = tv0 ∧ i ≤ l.length ∧ i ≤ 12 ∧ iv = .int .i64 i ∧ MadeR w l i ev tv wr) (fun _ _ iv _ => 12 - (intOf iv).toNat)
  case atStart => exact ⟨_, _, 0, rfl, rfl, Nat.zero_le _, by omega, rfl, H0.out⟩
  case round =>
    obtain ⟨ev, tv, i, rfl, rfl, hi, hi12, rfl, hE, rfl, B⟩ := hrel
    clear H0
    have HG := hid_ (madeE_good l hl i hi)
    have hlen := HG.out.len
    by_cases hlt : i < l.length ∧ i < 12
    · have q1 : (i : Int) < (l.length : Int) := by omega
      have q2 : (i : Int) < 12 := by omega
      have q3 : (0 : Int) ≤ (i : Int) := Int.natCast_nonneg _
      obtain ⟨b, off, rfl, hc⟩ := HV.out.at hlt.1
      obtain ⟨x, hxi⟩ : ∃ x, l.getD i default = x := ⟨_, rfl⟩
      have hgi : l[i]? = some x := by rw [← hxi, List.getD_eq_getElem?_getD, List.getElem?_eq_getElem hlt.1]; rfl
      have hok : x.ok := hl x (List.mem_of_getElem? hgi)
      have hcell : ∀ W, Below w.heap.size w W → ∀ j v, x.cells[j]? = some v → W.cell? ⟨b, off + i * 3 + j, none⟩ = some v := by
        intro W hB j v hv
        have hj : j < 3 := (List.getElem?_eq_some_iff.1 hv).1
        have := hc (i * 3 + j) v (by rw [flatMap_get 3 LinkT.cells (fun _ => rfl) l i j x hgi hj]; exact hv)
        rw [← Nat.add_assoc] at this
        exact (hB.cell (p := ⟨b, off + i * 3 + j, none⟩) (World.block_lt_of_cell? _ _ this)).trans this
      have hst : madeE l (i + 1) = stepE i (madeE l i) x := by rw [← hxi]; rfl
      have HCELL := hid_ hcell
      obtain ⟨xc, xa, xb⟩ := x
      have a0 := hok.a0
      have a1 := hok.a1
      simp only at a0 a1
      unfold stepE at hst
      simp only at hst
      obtain ⟨r0, r1⟩ := codeM_rng 200 xc (by omega) (by omega)
      obtain ⟨c, hcd⟩ : ∃ c, codeM 200 xc = c := ⟨_, rfl⟩
      rw [hcd] at hst r0 r1
      have hcd2 : wrap64 ((IntKind.u64.wrap xc).tmod 200) = c := hcd
      obtain ⟨e, he⟩ : ∃ e, madeE l i = e := ⟨_, rfl⟩
      rw [he] at hst hE hlen HG
      rw [he]
      have HE0 := hid_ (show i = 0 → e = [] from fun h => by rw [← he, h]; rfl)
      have e0 := hcell _ B 0 _ rfl
      have e1 := hcell _ B 1 _ rfl
      have e2 := hcell _ B 2 _ rfl
      simp only [Nat.add_zero] at e0
      have HI := hid_ hE
      have HB := hid_ B
      have HST := hid_ hst
      have hsnd : ∀ W, Below wr.heap.size wr W → W.cell? ⟨b, off + i * 3 + 1, none⟩ = some (.int .i64 xa) := fun W h => hcell _ (below_then B h) 1 _ rfl
      have HSND := hid_ hsnd
      clear hcell hc hgi hxi hcd he hE B hst hok hsnd
      by_cases hA : i = 0 ∧ xb = true
      · obtain ⟨hi0, rfl⟩ := hA
        obtain rfl := HE0.out hi0
        have hib : ((i : Int) == 0) = true := by simpa using (by omega : (i : Int) = 0)
        have hn := HI.out
        simp only [IsErr] at hn
        subst hn
        have HI0 := hid_ hi0
        clear hi0
        by_cases hc0 : c = 0
        · subst hc0
          have hst2 : madeE l (i + 1) = [] := by rw [HST.out, if_pos rfl]
          have HS2 := hid_ hst2
          clear hst2 HST HI
          go_wp2
          go_roundw
          case rel => exact ⟨_, _, i + 1, rfl, rfl, by omega, by omega, by go_num, by unfold MadeR; rw [HS2.out]; exact ⟨rfl, rfl, HB.out⟩⟩
          case measure => simp [intOf]; omega
        · have hcb : (c != 0) = true := by simpa using hc0
          have hst2 : madeE l (i + 1) = [(c, none)] := by rw [HST.out, if_neg hc0, if_pos ⟨HI0.out, rfl⟩]
          have HS2 := hid_ hst2
          clear hst2 HST HI hc0
          go_wp2_with fail
          refine (refE_any c (by omega) (by omega) _).mono ?_
          rintro y w1 ⟨rfl, hb1⟩
          have HB1 := hid_ (below_then HB.out hb1)
          clear hb1
          go_wp2
          go_roundw
          case rel => exact ⟨_, _, i + 1, rfl, rfl, by omega, by omega, by go_num, by unfold MadeR; rw [HS2.out]; exact ⟨⟨rfl, rfl⟩, rfl, HB1.out⟩⟩
          case measure => simp [intOf]; omega
      · rcases (by omega : (¬ i = 0) ∨ i = 0) with hi0 | hi0
        rotate_left
        have hxb : xb = false := by
          cases xb with
          | false => rfl
          | true => exact absurd ⟨hi0, rfl⟩ hA
        subst hxb
        have hib : ((i : Int) == 0) = true := by simpa using (by omega : (i : Int) = 0)
        rotate_left
        have hib : ((i : Int) == 0) = false := by simpa using (by omega : ¬ (i : Int) = 0)
        all_goals
          clear hi0
          by_cases he0 : e = []
          · subst he0
            have hn := HI.out
            simp only [IsErr] at hn
            subst hn
            by_cases hc0 : c = 0
            · subst hc0
              have hst2 : madeE l (i + 1) = [] := by rw [HST.out, if_pos rfl]
              have HS2 := hid_ hst2
              clear hst2 HST HI hA
              go_wp2_with fail
              refine (fault_new0 xa _).mono ?_
              rintro y w1 ⟨rfl, rfl⟩
              go_wp2
              go_roundw
              case rel => exact ⟨_, _, i + 1, rfl, rfl, by omega, by omega, by go_num, by unfold MadeR; rw [HS2.out]; exact ⟨rfl, rfl, HB.out⟩⟩
              case measure => simp [intOf]; omega
            · have hcb : (c == 0) = false := by simpa using hc0
              have hcb2 : (c != 0) = true := by simpa using hc0
              have hst2 : madeE l (i + 1) = [(c, some (clampP xa))] := by rw [HST.out, if_neg hc0, if_neg hA]
              have HS2 := hid_ hst2
              clear hst2 HST HI hA hc0
              go_wp2_with fail
              refine (fault_new c xa _ hcb).mono ?_
              rintro y w1 ⟨ev, rfl, ⟨u, v, rfl⟩, hE1, hb1⟩
              have e1 := HSND.out _ hb1
              have HE1 := hid_ hE1
              have HB1 := hid_ hb1
              clear hE1 hb1 e0 e2
              go_wp2_with fail
              refine (refAt_any c xa (by omega) (by omega) a0 a1 _).mono ?_
              rintro y w2 ⟨rfl, hb2⟩
              have HE2 := hid_ (HE1.out.fr (Fr.of_below hb2 (fun _ => False)) (fun h => h))
              have HB2 := hid_ (below_then (below_then HB.out HB1.out) hb2)
              have HT := hid_ (show errT [(c, some (clampP xa))] = atT c xa from atT_clamp c xa)
              clear hb2 HB1 HE1
              go_wp2
              go_roundw
              case rel => exact ⟨_, _, i + 1, rfl, rfl, by omega, by omega, by go_num, by unfold MadeR; rw [HS2.out]; exact ⟨HE2.out, by rw [HT.out], HB2.out⟩⟩
              case measure => simp [intOf]; omega
          · obtain ⟨u, v, rfl⟩ := isErr_iface HI.out he0
            have hne := errT_ne he0
            have HNE := hid_ hne
            have HTC := hid_ (errT_cons (c, some (clampP xa)) he0)
            clear hne he0
            by_cases hc0 : c = 0
            · subst hc0
              have hst2 : madeE l (i + 1) = e := by rw [HST.out, if_pos rfl]
              have HS2 := hid_ hst2
              clear hst2 HST hA
              go_wp2_with fail
              refine (fault_wrap0 xa u v _).mono ?_
              rintro y w1 ⟨rfl, rfl⟩
              go_wp2
              go_roundw
              case rel => exact ⟨_, _, i + 1, rfl, rfl, by omega, by omega, by go_num, by unfold MadeR; rw [HS2.out]; exact ⟨HI.out, rfl, HB.out⟩⟩
              case measure => simp [intOf]; omega
            · have hcb : (c == 0) = false := by simpa using hc0
              have hcb2 : (c != 0) = true := by simpa using hc0
              have hst2 : madeE l (i + 1) = (c, some (clampP xa)) :: e := by rw [HST.out, if_neg hc0, if_neg hA]
              have HS2 := hid_ hst2
              clear hst2 HST hA hc0
              go_wp2_with fail
              refine (fault_wrap c xa u v e _ hcb HI.out).mono ?_
              rintro y w1 ⟨ev, rfl, ⟨u2, v2, rfl⟩, hE1, hb1⟩
              have e1 := HSND.out _ hb1
              have HE1 := hid_ hE1
              have HB1 := hid_ hb1
              clear hE1 hb1 e0 e2
              go_wp2_with fail
              refine (refOver_any c xa (errT e) (by omega) (by omega) a0 a1 HNE.out (by omega) _).mono ?_
              rintro y w2 ⟨rfl, hb2⟩
              have HE2 := hid_ (HE1.out.fr (Fr.of_below hb2 (fun _ => False)) (fun h => h))
              have HB2 := hid_ (below_then (below_then HB.out HB1.out) hb2)
              have HT := hid_ (show errT ((c, some (clampP xa)) :: e) = atT c xa ++ 62 :: errT e from by rw [HTC.out]; show atT c (clampP xa) ++ _ = _; rw [atT_clamp])
              clear hb2 HB1 HE1
              go_wp2
              go_roundw
              case rel => exact ⟨_, _, i + 1, rfl, rfl, by omega, by omega, by go_num, by unfold MadeR; rw [HS2.out]; exact ⟨HE2.out, by rw [HT.out], HB2.out⟩⟩
              case measure => simp [intOf]; omega
    · rcases (by omega : (¬ i < l.length) ∨ (i < l.length ∧ ¬ i < 12)) with hq | hq
      all_goals
        obtain ⟨e, he⟩ : ∃ e, madeE l i = e := ⟨_, rfl⟩
        rw [he] at hE
        rw [he]
        have HI := hid_ hE
        have HB := hid_ B
        have HM := hid_ he
        clear hE B he hlen HG
        go_wp2
        go_ret2
        exact ⟨ev, i, by omega, by omega, by rw [HM.out]; rfl, by rw [HM.out]; exact HI.out, HB.out⟩
end Go.Proofs.YtohmnkjiohjjoaaDoor
