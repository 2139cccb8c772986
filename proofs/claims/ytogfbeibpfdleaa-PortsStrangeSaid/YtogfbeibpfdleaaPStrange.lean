/- Chapter 13's PortsStrange: the walk. No condition. -/
import Derived.Test.YtogfbeibpfdleaaPSPlain
import Derived.Test.YtogfbeibpfdleaaPCopied
import Derived.Test.YtogfbeibpfdleaaPDeliver2
import Derived.Test.YtogfbeibpfdleaaAwake13
set_option linter.unusedSimpArgs false
set_option linter.unusedVariables false
namespace Go.Proofs.Ytogfbeibpfdleaa
open Go.RowKit Go.Maps

set_option maxRecDepth 100000 in
set_option maxHeartbeats 16000000 in
theorem strange_walk (src : Int) (hsrc : I64 src) (lv : Value) (cs : List Value) (ms : List Msg) (w : World) (hl : Rd w (fun _ => 0) lv 2 ms.length cs) (hM : IsMsgs w (fun _ => 0) cs ms) (hmd : ∀ i, i < ms.length → (ms.getD i default).d.length ≤ 140737488355328) :
    Calls Try.prog 6 #[.int .i64 src, lv] w fun e w' => e = .returned (.bool true) ∧ Below w.heap.size w w' := by
  obtain ⟨la, lc, rfl, hlc, hlm, -⟩ := id hl
  unfold maxLen at hlm
  have HL := hid_ hl
  have HM := hid_ hM
  have HD := hid_ hmd
  clear hl hM hmd
  go_enter Try.func6, Try.ntmps6
  go_wp2_with fail
  refine (awake13 _).mono ?_
  rintro e w1 ⟨rfl, V1⟩
  by_cases h50 : (50 : Int) < (ms.length : Int)
  · go_wp2
    go_ret
    exact ⟨rfl, V1⟩
  have l50 : ms.length ≤ 50 := by omega
  go_wp2_with fail
  refine (law13Wired (fun _ => 0) _ (fun _ _ => rfl)).mono ?_
  rintro e w2 ⟨pv, qv, rv, rfl, V2, L2⟩
  go_wp2_with fail
  refine (newWired (fun _ => 0) 100 (by omega) 1 (.inr rfl) pv qv rv _ L2 (fun _ _ => rfl)).mono ?_
  rintro e w3 ⟨b0, ab0, C3, rfl, n0, hb0, hab0, f3, p3⟩
  have T3 := ((Fr.of_below (C := fun _ => 0) V1 (fun _ => False)).trans (Fr.of_below (C := fun _ => 0) V2 (fun _ => False))).trans f3
  have F3 : Fin C3 w3 := T3.Fin (fun _ _ => rfl)
  have HL3 := hid_ (HL.out.fr T3 (fun h => h))
  have HM3 := hid_ (HM.out.fr T3 (fun h => h))
  clear hb0 hab0 L2 V1 V2 f3
  go_wp2_with fail
  refine (copiedMsgs C3 0 500 (by omega) _ cs ms _ F3 HL3.out.rdk HM3.out (by omega) HD.out).mono ?_
  rintro e w4 ⟨mv4, cs4, C4, rfl, f4, s4, m4⟩
  have p4 := p3.fr f4 (fun x h => h.elim) (by simp [st0])
  have T4 := T3.trans f4
  have F4 := f4.Fin F3
  obtain ⟨ma4, mc4, rfl, hmc4, hmm4, -⟩ := s4.form
  clear p3 T3 F3 f4 HL3 HM3
  go_wp2_with fail
  refine (portsDeliver wiredC wired_good C4 100 500 b0 ab0 (by omega) (by omega) n0 pv qv rv 1 src noLv (st0 4) _ cs4 ms _ F4 p4 s4.rdk m4 (by omega)).mono ?_
  rintro e w5 ⟨C5, lv5, rfl, f5, p5⟩
  rw [(strange_count src ms ms.length).1]
  have T5 := (T4.mono (K' := (· ≠ 0)) (fun _ h => h.elim)).trans (f5.mono (K' := (· ≠ 0)) (fun x h => by omega))
  have F5 := f5.Fin F4
  have HL5 := hid_ (HL.out.fr T5 (by simp))
  have HM5 := hid_ (HM.out.fr T5 (by simp))
  have hlen5 := (delivR_len wiredC 1 src (st0 4) ms ms.length).1
  rw [show (st0 4).length = 4 from rfl] at hlen5
  generalize (delivR wiredC 1 src (st0 4) ms ms.length).1 = st5 at p5 hlen5
  generalize hN : (strC src ms ms.length).2 = N
  have HP5 := hid_ p5
  have HN := hid_ hN
  have hNle : N ≤ 50 := by have := strC_le src ms ms.length; omega
  clear p4 T4 F4 s4 m4 f5 p5 hN hmc4 hmm4
  go_upto_block 1 with (fail)
  go_loopw [8, 9, 31] (fun nv fv iv wr => ∃ (k : Nat) (n : Nat) (f : Bool), strC src ms k = (f, n) ∧ k ≤ ms.length ∧ iv = .int .i64 k ∧ nv = .int .i64 n ∧ fv = .bool f ∧ Fr (fun _ => False) C5 C5 w5 wr) (fun _ _ iv _ => ms.length - (intOf iv).toNat)
  case atStart => exact ⟨0, 0, false, rfl, Nat.zero_le _, rfl, rfl, rfl, Fr.refl _ _ _⟩
  case round =>
    obtain ⟨k, n, f, hst, hk, rfl, rfl, rfl, Fw⟩ := hrel
    have hnk : n ≤ k := by have := strC_le src ms k; rw [hst] at this; exact this
    have hLw := HL5.out.fr Fw (fun h => h)
    by_cases hlt : k < ms.length
    · have hk0 : (0 : Int) ≤ (k : Int) := Int.natCast_nonneg _
      have hk1 : (k : Int) < (ms.length : Int) := by omega
      obtain ⟨v0, hp0, hp1, hb0, -⟩ := (HM5.out.fr Fw (fun h => h)).get hlt
      have hsc : strC src ms (k + 1) = if src ≠ 0 then strC src ms k
    else if (ms.getD k default).port = 0 ∧ (ms.getD k default).d.length ≤ 1 ∧ (strC src ms k).1 = false then (true, (strC src ms k).2 + 1)
    else if (ms.getD k default).port = 2 ∧ (ms.getD k default).d.length ≤ 4 then ((strC src ms k).1, (strC src ms k).2 + 1) else strC src ms k := rfl
      rw [hst] at hsc
      generalize ms.getD k default = m at *
      obtain ⟨mp, md⟩ := m
      obtain ⟨bb, off, rfl, hcell⟩ := hLw.at (by omega)
      have e0 := hcell _ _ hp0
      have e1 := hcell _ _ hp1
      rw [← Nat.add_assoc] at e1
      obtain ⟨xa, xc, rfl, hxc, hxm, -⟩ := id hb0
      simp only at e0 e1 hsc hxc
      unfold maxLen at hxm
      clear hcell hp0 hp1 hb0 hLw
      go_upto_region 13 with (fail)
      refine gen_world (fun W => Fr (fun _ => False) C5 C5 wr W ∧ Bk W wr.heap.size 50 [.int .i64 mp, .slice xa md.length xc]) ⟨(Fr.refl _ C5 wr).alloc _, Bk.new _ _ _⟩ ?_
      rintro W6 ⟨F6, B6⟩
      have q0 := B6.cell_ 0 rfl
      have q1 := B6.cell_ 1 rfl
      have HF6 := hid_ (Fw.trans F6)
      have d0 : (0 : Int) ≤ (md.length : Int) := Int.natCast_nonneg _
      clear e0 e1 F6 B6
      by_cases h0 : src = 0
      · subst h0
        rw [if_neg (show ¬ ((0 : Int) ≠ 0) from fun h => h rfl)] at hsc
        by_cases hp : mp = 0
        · subst hp
          rw [if_neg (show ¬ ((0 : Int) = 2 ∧ md.length ≤ 4) by omega)] at hsc
          by_cases hlen : (md.length : Int) ≤ 1
          · cases f
            · rw [if_pos ⟨rfl, by omega, rfl⟩] at hsc
              have HSC := hid_ hsc
              clear hsc
              go_wp2_with fail
              go_roundw
              case rel => exact ⟨k + 1, n + 1, true, HSC.out, by omega, by go_num, by go_num, rfl, HF6.out⟩
              case measure => simp [intOf]; omega
            · rw [if_neg (fun h => by simp at h)] at hsc
              have HSC := hid_ hsc
              clear hsc
              go_wp2_with fail
              go_roundw
              case rel => exact ⟨k + 1, n, true, HSC.out, by omega, by go_num, by go_num, rfl, HF6.out⟩
              case measure => simp [intOf]; omega
          · rw [if_neg (fun h => hlen (by have := h.2.1; omega))] at hsc
            have HSC := hid_ hsc
            clear hsc
            go_wp2_with fail
            go_roundw
            case rel => exact ⟨k + 1, n, f, HSC.out, by omega, by go_num, by go_num, rfl, HF6.out⟩
            case measure => simp [intOf]; omega
        · rw [if_neg (fun h => hp h.1)] at hsc
          by_cases hq : mp = 2
          · subst hq
            by_cases hlen : (md.length : Int) ≤ 4
            · rw [if_pos ⟨rfl, by omega⟩] at hsc
              have HSC := hid_ hsc
              clear hsc
              go_wp2_with fail
              go_roundw
              case rel => exact ⟨k + 1, n + 1, f, HSC.out, by omega, by go_num, by go_num, rfl, HF6.out⟩
              case measure => simp [intOf]; omega
            · rw [if_neg (fun h => hlen (by have := h.2; omega))] at hsc
              have HSC := hid_ hsc
              clear hsc
              go_wp2_with fail
              go_roundw
              case rel => exact ⟨k + 1, n, f, HSC.out, by omega, by go_num, by go_num, rfl, HF6.out⟩
              case measure => simp [intOf]; omega
          · rw [if_neg (fun h => hq h.1)] at hsc
            have HSC := hid_ hsc
            clear hsc
            go_wp2_with fail
            go_roundw
            case rel => exact ⟨k + 1, n, f, HSC.out, by omega, by go_num, by go_num, rfl, HF6.out⟩
            case measure => simp [intOf]; omega
      · rw [if_pos h0] at hsc
        have HSC := hid_ hsc
        clear hsc
        go_wp2_with fail
        go_roundw
        case rel => exact ⟨k + 1, n, f, HSC.out, by omega, by go_num, by go_num, rfl, HF6.out⟩
        case measure => simp [intOf]; omega
    · obtain rfl : k = ms.length := by omega
      obtain rfl : N = n := by have := HN.out; rw [hst] at this; exact this.symm
      have pw := HP5.out.fr Fw (fun x h => h.elim) (by omega)
      have mw := HM5.out.fr Fw (fun h => h)
      have Tw := T5.trans (Fw.mono (fun _ h => h.elim))
      have Fiw := Fw.Fin F5
      clear hlt hk T5 Fw HP5
      go_wp2_with fail
      refine (copiedMsgs C5 0 600 (by omega) _ cs ms _ Fiw hLw.rdk mw (by omega) HD.out).mono ?_
      rintro e w7 ⟨mv7, cs7, C7, rfl, f7, s7, m7⟩
      have p7 := pw.fr f7 (fun x h => h.elim) (by omega)
      have F7 := f7.Fin Fiw
      have T7 := Tw.trans (f7.mono (K' := (· ≠ 0)) (fun _ h => h.elim))
      obtain ⟨ma7, mc7, rfl, hmc7, hmm7, -⟩ := s7.form
      clear pw mw Tw Fiw hLw f7
      go_wp2_with fail
      refine (portsDeliver wiredC wired_good C7 100 600 b0 ab0 (by omega) (by omega) n0 pv qv rv 1 1 lv5 st5 _ cs7 ms _ F7 p7 s7.rdk m7 (by omega)).mono ?_
      rintro e w8 ⟨C8, lv8, rfl, f8, p8⟩
      rw [strange_own st5 ms ms.length]
      have T8 := T7.trans (f8.mono (K' := (· ≠ 0)) (fun x h => by omega))
      clear p8 f8 p7 F7 T7 s7 m7
      go_wp2_with fail
      go_ret
      exact ⟨rfl, T8.below (fun b _ h => h rfl)⟩
end Go.Proofs.Ytogfbeibpfdleaa
