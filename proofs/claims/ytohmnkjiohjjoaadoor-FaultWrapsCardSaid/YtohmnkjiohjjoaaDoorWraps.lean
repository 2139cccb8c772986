/- FaultWraps: the walk. No condition but that errors.errorType holds its handle. -/
import Derived.Test.YtohmnkjiohjjoaaDoorAwake01
import Derived.Deep.CutBlock
set_option linter.unusedSimpArgs false
set_option linter.unusedVariables false
namespace Go.Proofs.YtohmnkjiohjjoaaDoor
open Go.RowKit Go.Maps

theorem ta_ef (v : Value) (w : World) : (Instr.typeAssert (.iface 33 v) 25 36 true).run Tryd.prog w = .ok (.tuple #[.pointer none, .bool false]) w := by kernel_rfl

set_option maxRecDepth 100000 in
set_option maxHeartbeats 8000000 in
theorem wraps_walk (l : List LinkT) (lv : Value) (w : World) (hg : ErrT w) (hl : ∀ x ∈ l, x.ok) (hv : Rd w z0 lv 3 l.length (l.flatMap LinkT.cells)) :
    Calls Tryd.prog 3 #[lv] w fun e w' => e = .returned (.bool true) ∧ Below w.heap.size w w' := by
  have HG := hid_ hg
  have HV := hid_ hv
  clear hg hv
  go_enter Tryd.func3, Tryd.ntmps3
  go_wp2_with fail
  refine (awake01 _ HG.out).mono ?_
  rintro e w1 ⟨rfl, b1⟩
  go_wp2_with fail
  refine (made_any l lv _ hl (HV.out.fr (Fr.of_below b1 (fun _ => False)) (fun h => h))).mono ?_
  rintro e w2 ⟨ev, n, hn, hn2, rfl, hE, b2⟩
  have hgood := madeE_good l hl n hn2
  obtain ⟨e, he⟩ : ∃ e, madeE l n = e := ⟨_, rfl⟩
  rw [he] at hE hgood ⊢
  have B2 := below_then b1 b2
  have HE2 := hid_ hE
  have HGD := hid_ hgood
  have hel : e.length ≤ 12 := Nat.le_trans hgood.1 hn
  clear b1 b2 hE hgood he
  go_wp2_with fail
  refine (read_any z0 _ _ _ HE2.out (HGD.out.ok (by omega))).mono ?_
  rintro x w3 ⟨rfl, b3⟩
  have B3 := below_then B2 b3
  have HE3 := hid_ (HE2.out.fr (Fr.of_below b3 (fun _ => False)) (fun h => h))
  have hsc : scanO (errT e) 0 false false = some (e.map (·.1)) := scanO_errT HGD.out false (.inl rfl)
  have HSC := hid_ hsc
  have hlen := HGD.out.len
  clear b3 B2 HE2 hsc
  by_cases h0 : e = []
  · subst h0
    have hn0 := HE3.out
    simp only [IsErr] at hn0
    subst hn0
    rw [show (⟨(errT []).toArray⟩ : ByteArray) = ⟨#[]⟩ from rfl]
    go_wp2_with fail
    refine (fault_trail z0 _ [] _ (HG.out.below B3) HE3.out (by simp)).mono ?_
    rintro x w4 ⟨t, rfl, ht, b4⟩
    have B4 := below_then B3 b4
    have RT := ht.rd (fin0 w3)
    have HE4 := hid_ (HE3.out.fr (Fr.of_below b4 (fun _ => False)) (fun h => h))
    obtain ⟨ta, tc, rfl, htc, htm, -⟩ := id RT
    have htm2 : tc ≤ 9223372036854775807 := by simpa [maxLen] using htm
    clear ht b4 B3 HE3 RT htm
    go_wp2_with fail
    refine (refTrail_any ⟨#[]⟩ [] _ rfl (by decide)).mono ?_
    rintro x w5 ⟨t2, rfl, ht2, b5⟩
    have B5 := below_then B4 b5
    have RT2 := ht2.rd (fin0 w4)
    have HE5 := hid_ (HE4.out.fr (Fr.of_below b5 (fun _ => False)) (fun h => h))
    obtain ⟨ta2, tc2, rfl, htc2, htm3, -⟩ := id RT2
    have htm4 : tc2 ≤ 9223372036854775807 := by simpa [maxLen] using htm3
    clear ht2 b5 B4 HE4 RT2 htm3
    have hz1 : ((([] : List (Int × Option Int)).length : Int)) = 0 := rfl
    have hz2 : ((([] : List Int).length : Int)) = 0 := rfl
    rw [show ([] : List Int).length = 0 from rfl]
    clear hz1 hz2
    go_wp2_with fail
    go_loopw [40] (fun kv wr => kv = .int .i64 0 ∧ w5 = wr) (fun _ _ => 0)
    case atStart => exact ⟨rfl, rfl⟩
    case round =>
      obtain ⟨rfl, rfl⟩ := hrel
      go_wp2_with fail
      refine (fault_code z0 _ [] _ (HG.out.below B5) HE5.out).mono ?_
      rintro x w6 ⟨rfl, b6⟩
      rw [show codeE [] = 0 from rfl]
      have B6 := below_then B5 b6
      have HE6 := hid_ (HE5.out.fr (Fr.of_below b6 (fun _ => False)) (fun h => h))
      clear b6 B5 HE5
      go_wp2_with fail
      refine (fault_root z0 _ [] _ (HG.out.below B6) HE6.out (by simp)).mono ?_
      rintro x w7 ⟨rfl, b7⟩
      rw [show rootE [] = 0 from rfl]
      have B7 := below_then B6 b7
      have HE7 := hid_ (HE6.out.fr (Fr.of_below b7 (fun _ => False)) (fun h => h))
      clear b7 B6 HE6
      go_wp2_with fail
      refine (fault_place z0 _ [] _ (HG.out.below B7) HE7.out).mono ?_
      rintro x w8 ⟨rfl, b8⟩
      rw [show placeE [] = -1 from rfl]
      have B8 := below_then B7 b8
      clear b8 B7 HE7
      go_wp2_with fail
      go_ret
      exact ⟨rfl, B8⟩
  · obtain ⟨u, v, rfl⟩ := isErr_iface HE3.out h0
    have hne : (errT e).isEmpty = false := by simpa using errT_ne h0
    go_wp2_with fail
    refine (fault_trail z0 _ e _ (HG.out.below B3) HE3.out (by omega)).mono ?_
    rintro x w4 ⟨t, rfl, ht, b4⟩
    have B4 := below_then B3 b4
    have RT := ht.rd (fin0 w3)
    have HE4 := hid_ (HE3.out.fr (Fr.of_below b4 (fun _ => False)) (fun h => h))
    have HRT := hid_ RT
    obtain ⟨ta, tc, rfl, htc, htm, -⟩ := id RT
    have htm2 : tc ≤ 9223372036854775807 := by simpa [maxLen] using htm
    clear ht b4 B3 HE3 RT htm
    go_wp2_with fail
    refine (refTrail_any ⟨(errT e).toArray⟩ (e.map (·.1)) _ (by simpa using HSC.out) (by simp [ByteArray.size]; omega)).mono ?_
    rintro x w5 ⟨t2, rfl, ht2, b5⟩
    have B5 := below_then B4 b5
    have RT2 := ht2.rd (fin0 w4)
    rw [List.length_map, List.map_map] at RT2
    have RT1 := HRT.out.fr (Fr.of_below b5 (fun _ => False)) (fun h => h)
    have HE5 := hid_ (HE4.out.fr (Fr.of_below b5 (fun _ => False)) (fun h => h))
    have hp : 0 < e.length := List.length_pos_iff.2 h0
    obtain ⟨tb, tf, rfl, hc1⟩ := RT1.at hp
    obtain ⟨ta2, tc2, rfl, htc2, htm3, -⟩ := id RT2
    obtain ⟨tb2, tf2, rfl, hc2⟩ := RT2.at hp
    have htm4 : tc2 ≤ 9223372036854775807 := by simpa [maxLen] using htm3
    have cell1 : ∀ k, k < e.length → w5.cell? ⟨tb, tf + k, none⟩ = some (.int .i64 (e.getD k (0, none)).1) := fun k hk => hc1 k _ (by
      rw [List.getElem?_map, List.getD_eq_getElem?_getD, List.getElem?_eq_getElem hk]; rfl)
    have cell2 : ∀ k, k < e.length → w5.cell? ⟨tb2, tf2 + k, none⟩ = some (.int .i64 (e.getD k (0, none)).1) := fun k hk => hc2 k _ (by
      rw [List.getElem?_map, List.getD_eq_getElem?_getD, List.getElem?_eq_getElem hk]; rfl)
    have HC1 := hid_ cell1
    have HC2 := hid_ cell2
    have H0 := hid_ h0
    clear ht2 b5 B4 HE4 RT2 RT1 htm3 hc1 hc2 cell1 cell2 HRT h0
    go_wp2_with fail
    go_loopw [40] (fun kv wr => ∃ k q : Nat, k ≤ e.length ∧ kv = .int .i64 k ∧ wr = w5.drewN q) (fun kv _ => e.length - (intOf kv).toNat)
    case atStart => exact ⟨0, 0, Nat.zero_le _, rfl, rfl⟩
    case round =>
      obtain ⟨k, q, hk, rfl, rfl⟩ := hrel
      by_cases hlt : k < e.length
      · have c1 := HC1.out k hlt
        have c2 := HC2.out k hlt
        have k0 : (0 : Int) ≤ (k : Int) := Int.natCast_nonneg _
        have k1 : (k : Int) < (e.length : Int) := by omega
        generalize (e.getD k (0, none)).1 = y at c1 c2
        go_wp2_with fail
        go_quiet (fail)
        go_wp2_with fail
        go_roundw
        case rel => exact ⟨k + 1, _, by omega, by go_num, rfl⟩
        case measure => simp [intOf]; omega
      · obtain rfl : k = e.length := by omega
        have hz : ((e.length : Int) == 0) = false := by
          have : (e.length : Int) ≠ 0 := by omega
          simpa using this
        have B6 : Below w.heap.size w (w5.drewN q) := ⟨B5.os, B5.tape, B5.output, B5.size, B5.block⟩
        have HE6 := hid_ (show IsErr (w5.drewN q) z0 (.iface u v) e from HE5.out.fr ((Fr.refl (fun _ => False) z0 w5).drewN q) (fun h => h))
        have hx0 : (e.getD 0 (0, none)).1 = codeE e := by
          match e, hp with
          | x :: r, _ => rfl
        have hx1 : (e.getD (e.length - 1) (0, none)).1 = rootE e := by
          have h1 := rootE_get e H0.out
          rw [List.getElem?_map] at h1
          rw [List.getD_eq_getElem?_getD]
          cases h2 : e[e.length - 1]? with
          | none => rw [h2] at h1; cases h1
          | some y =>
            rw [h2] at h1
            simp only [Option.map_some, Option.some.injEq, Value.int.injEq, true_and] at h1
            exact h1
        have d0 := HC2.out 0 hp
        have d1 := HC2.out (e.length - 1) (by omega)
        rw [hx0, Nat.add_zero] at d0
        rw [hx1] at d1
        obtain ⟨m, hm⟩ : ∃ m, e.length = m + 1 := ⟨e.length - 1, by omega⟩
        have hm2 : ((e.length : Int) - 1) = (m : Int) := by omega
        have hm3 : (e.length : Int) - 1 < e.length := by omega
        have hm4 : (0 : Int) < e.length := by omega
        rw [show e.length - 1 = m by omega] at d1
        have A1 : ∀ n : Aft (w5.drewN q), Calls Tryd.prog 11 #[.iface u v] n.W fun x w' => x = .returned (.int .i64 (codeE e)) ∧ Below n.W.heap.size n.W w' := fun n => fault_code z0 _ e _ ((HG.out.below B6).below n.h) (HE6.out.fr (Fr.of_below n.h (fun _ => False)) (fun h => h))
        have A2 : ∀ n : Aft (w5.drewN q), Calls Tryd.prog 12 #[.iface u v] n.W fun x w' => x = .returned (.int .i64 (rootE e)) ∧ Below n.W.heap.size n.W w' := fun n => fault_root z0 _ e _ ((HG.out.below B6).below n.h) (HE6.out.fr (Fr.of_below n.h (fun _ => False)) (fun h => h)) (by omega)
        have A3 : ∀ n : Aft (w5.drewN q), Calls Tryd.prog 13 #[.iface u v] n.W fun x w' => x = .returned (.int .i64 (placeE e)) ∧ Below n.W.heap.size n.W w' := fun n => fault_place z0 _ e _ ((HG.out.below B6).below n.h) (HE6.out.fr (Fr.of_below n.h (fun _ => False)) (fun h => h))
        have HA1 := hid_ A1
        have HA2 := hid_ A2
        have HA3 := hid_ A3
        have hd0 : ∀ n : Aft (w5.drewN q), n.W.cell? ⟨tb2, tf2, none⟩ = some (.int .i64 (codeE e)) := fun n => n.cell d0
        have hd1 : ∀ n : Aft (w5.drewN q), n.W.cell? ⟨tb2, tf2 + m, none⟩ = some (.int .i64 (rootE e)) := fun n => n.cell d1
        have HM := hid_ hm
        clear d0 d1 hx0 hx1 A1 A2 A3 hm
        have t1 := ta_ff
        have t2 := ta_ef
        have HP : Hid (∃ c r, (u = 33 ∧ v = .int .i64 c ∧ placeE e = -1) ∨ ∃ b a cv, u = 36 ∧ v = .pointer (some ⟨b, 0, none⟩) ∧ Bk (w5.drewN q) b 39 [.int .i64 c, .int .i64 a, cv] ∧ placeE e = a ∧ r = ([] : List Int)) := hid_ (by
          match e, HE6.out, hp with
          | (c, none) :: r, h, _ =>
            have h2 := h.2
            simp only [Value.iface.injEq] at h2
            exact ⟨c, [], .inl ⟨h2.1, h2.2, rfl⟩⟩
          | (c, some a) :: r, h, _ =>
            simp only [IsErr] at h
            obtain ⟨b, cv, h1, h2, _, _⟩ := h
            simp only [Value.iface.injEq] at h1
            exact ⟨c, [], .inr ⟨b, a, cv, h1.1, h1.2, h2, rfl, rfl⟩⟩)
        obtain ⟨c, r, ⟨rfl, rfl, hpl⟩ | ⟨b, a, cv, rfl, rfl, hB, hpl, -⟩⟩ := HP.out
        · have HPL := hid_ hpl
          clear hpl HP
          go_upto_region 21 with fail
          refine wp_region_aft (by kernel_rfl) (by kernel_rfl) ?_
          repeat (go_big_quiet_step (first | exact Aft.calls _ (HA1.out _) | exact Aft.calls _ (HA2.out _) | exact Aft.calls _ (HA3.out _)))
          refine wpQuiet_nil ?_
          rintro _ ⟨n, rfl⟩
          have hb := below_then B6 n.h
          go_wp2
          go_ret
          exact ⟨by rw [HPL.out]; simp, hb⟩
        · have HPL := hid_ hpl
          have e1 := hB.cell_ 1 rfl
          clear hpl HP hB
          go_upto_region 21 with fail
          refine wp_region_aft (by kernel_rfl) (by kernel_rfl) ?_
          repeat (go_big_quiet_step (first | exact Aft.calls _ (HA1.out _) | exact Aft.calls _ (HA2.out _) | exact Aft.calls _ (HA3.out _)))
          refine wpQuiet_nil ?_
          rintro _ ⟨n, rfl⟩
          have hb := below_then B6 n.h
          go_wp2
          go_ret
          exact ⟨by rw [HPL.out]; simp, hb⟩
end Go.Proofs.YtohmnkjiohjjoaaDoor
