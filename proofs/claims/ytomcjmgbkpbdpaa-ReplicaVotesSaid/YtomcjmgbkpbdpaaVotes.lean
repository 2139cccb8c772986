/- ReplicaVotes: the walk. No condition. -/
import Derived.Test.YtomcjmgbkpbdpaaVPlain
import Derived.Test.YtomcjmgbkpbdpaaRefTab
import Derived.Test.YtomcjmgbkpbdpaaKeys
import Derived.Test.YtomcjmgbkpbdpaaAwake14
set_option linter.unusedSimpArgs false
set_option linter.unusedVariables false
namespace Go.Proofs.Ytomcjmgbkpbdpaa
open Go.RowKit Go.Maps

/-- A table and the document's table say the same. -/
def PairR (C : Nat → Nat) (k tb rb : Nat) (W : World) : Prop := ∃ f d, IsTab W C k tb f d ∧ Bk W rb 47 (rcells f d) ∧ C rb = 50
/-- The outer loop's relation. -/
def OutR (w : World) (key : Int) (i : Nat) (av vv : Value) (W : World) : Prop :=
  ∃ (C : Nat → Nat) (ts : List VoteT), ts.length = i ∧ Fr (· ≠ 0) (fun _ => 0) C w W ∧ Sl W C 700 av 24 1 i (ts.map VoteT.p) ∧ Sl W C 701 vv 3 1 i (ts.map fun t => .int .i64 (vint (t.f key))) ∧ ∀ t ∈ ts, ∃ kc, 100 ≤ kc ∧ kc < 100 + i ∧ IsTab W C kc t.tb t.f t.d

set_option maxRecDepth 100000 in
set_option maxHeartbeats 16000000 in
theorem votes_walk (key : Int) (l : List Cmd) (lv : Value) (odd : List (Value × List Cmd)) (ov : Value) (w : World) (k0 : 0 ≤ key) (k1 : key < 256) (hl : ∀ c ∈ l, c.ok) (hv : Rd w (fun _ => 0) lv 4 l.length (l.flatMap Cmd.cells))
    (ho : Rd w (fun _ => 0) ov 1 odd.length (odd.flatMap fun p => [p.1])) (hol : ∀ p ∈ odd, (∀ c ∈ p.2, c.ok) ∧ Rd w (fun _ => 0) p.1 4 p.2.length (p.2.flatMap Cmd.cells)) :
    Calls Try.prog 5 #[lv, ov, .int .u8 key] w fun e w' => e = .returned (.bool true) ∧ Below w.heap.size w w' := by
  obtain ⟨la, lc, rfl, hlc, hlm, -⟩ := id hv
  obtain ⟨oa, oc, rfl, hoc, hom, -⟩ := id ho
  unfold maxLen at hlm hom
  have HV := hid_ hv
  have HO := hid_ ho
  clear hv ho
  go_enter Try.func5, Try.ntmps5
  go_wp2_with fail
  refine (awake14 _).mono ?_
  rintro e w1 ⟨rfl, V1⟩
  have H1 : OutR w key 0 (.slice none 0 0) (.slice none 0 0) w1 := ⟨fun _ => 0, [], rfl, Fr.of_below V1 _, Sl.nil _ _ _ _ _, Sl.nil _ _ _ _ _, fun t ht => by simp at ht⟩
  have HH1 := hid_ H1
  clear H1 V1
  go_wp2_with fail
  go_loopw [7, 8, 9] (fun av vv iv wr => ∃ i : Nat, i ≤ odd.length ∧ i ≤ 8 ∧ iv = .int .i64 i ∧ OutR w key i av vv wr) (fun _ _ iv _ => 8 - (intOf iv).toNat)
  case atStart => exact ⟨0, Nat.zero_le _, by omega, rfl, HH1.out⟩
  case round =>
    obtain ⟨i, hi, hi8, rfl, C, ts, hts, F, SA, SV, hT⟩ := hrel
    clear HH1
    obtain ⟨aa, ac, rfl, hac, ham, -⟩ := SA.form
    obtain ⟨va, vc, rfl, hvc, hvm, -⟩ := SV.form
    by_cases hlt : i < odd.length ∧ i < 8
    · have q1 : (i : Int) < (odd.length : Int) := by omega
      have q2 : (i : Int) < 8 := by omega
      have HSA := hid_ SA
      have HSV := hid_ SV
      have HTS := hid_ hT
      have hfin : Fin C wr := F.fin (fin0 w)
      clear SA SV hT
      go_wp2_with fail
      refine (repNew C (100 + i) _).mono ?_
      rintro e w2 ⟨tb, C2, rfl, f2, hA⟩
      have hA3 := hA.fr ((Fr.refl (fun _ => False) C2 w2).alloc (.cells (rcells (fun _ => none) 0).toArray 47)) (fun h => h)
      have F2 := F.trans (f2.mono (K' := (· ≠ 0)) (fun _ h => h.elim))
      have g3 : Fr (fun _ => False) C2 (fun y => if y = w2.heap.size then 50 else C2 y) w2 (w2.alloc (.cells (rcells (fun _ => none) 0).toArray 47)) := ((Fr.refl (fun _ => False) C2 w2).alloc _).recolour (fun y hy _ => if_neg (by omega)) (fun y hy => by simp at hy; rw [if_neg (by omega)]; exact F2.fin (fin0 w) y (by omega))
      have P3 : PairR (fun y => if y = w2.heap.size then 50 else C2 y) (100 + i) tb w2.heap.size (w2.alloc (.cells (rcells (fun _ => none) 0).toArray 47)) := ⟨fun _ => none, 0, hA.fr g3 (fun h => h), Bk.new _ _ _, if_pos rfl⟩
      have T3 := F2.trans (g3.mono (K' := (· ≠ 0)) (fun _ h => h.elim))
      have G3 := f2.trans g3
      have HA3 := hid_ (show Fr (· ≠ 0) (fun _ => 0) (fun y => if y = w2.heap.size then 50 else C2 y) w (w2.alloc (.cells (rcells (fun _ => none) 0).toArray 47)) ∧ Fr (fun _ => False) C (fun y => if y = w2.heap.size then 50 else C2 y) wr (w2.alloc (.cells (rcells (fun _ => none) 0).toArray 47)) ∧ PairR (fun y => if y = w2.heap.size then 50 else C2 y) (100 + i) tb w2.heap.size (w2.alloc (.cells (rcells (fun _ => none) 0).toArray 47)) from ⟨T3, G3, P3⟩)
      clear hA3 F2 g3 P3 T3 G3 hA f2
      go_upto_region 9 with (fail)
      refine gen_world (fun W => Fr (· ≠ 0) (fun _ => 0) (fun y => if y = w2.heap.size then 50 else C2 y) w W ∧ Fr (fun _ => False) C (fun y => if y = w2.heap.size then 50 else C2 y) wr W ∧ PairR (fun y => if y = w2.heap.size then 50 else C2 y) (100 + i) tb w2.heap.size W) HA3.out ?_
      clear HA3
      generalize (fun y => if y = w2.heap.size then 50 else C2 y) = C3
      generalize w2.heap.size = rb
      rintro W3 ⟨T3, G3, P3⟩
      go_wp2_with fail
      go_loopw [12] (fun kv w4 => ∃ k : Nat, k ≤ l.length ∧ k ≤ 50 ∧ kv = .int .i64 k ∧ Fr (fun x => x = 100 + i ∨ x = 50) C3 C3 W3 w4 ∧ PairR C3 (100 + i) tb rb w4) (fun kv _ => 50 - (intOf kv).toNat)
      case atStart => exact ⟨0, Nat.zero_le _, by omega, rfl, Fr.refl _ _ _, P3⟩
      case round =>
        obtain ⟨k, hk, hk50, rfl, f4, P4⟩ := hrel
        clear P3
        by_cases hkl : k < l.length ∧ k < 50
        · have q3 : (k : Int) < (l.length : Int) := by omega
          have q4 : (k : Int) < 50 := by omega
          have q5 : (0 : Int) ≤ (k : Int) := Int.natCast_nonneg _
          obtain ⟨b, off, rfl, hc⟩ := HV.out.at hkl.1
          obtain ⟨c, hci⟩ : ∃ c, l[k]? = some c := ⟨_, List.getElem?_eq_getElem hkl.1⟩
          have hok : c.ok := hl c (List.mem_of_getElem? hci)
          have T4 := T3.trans (f4.mono (K' := (· ≠ 0)) (fun x h => by omega))
          have hcell : ∀ W, Below w.heap.size w W → ∀ j v, c.cells[j]? = some v → W.cell? ⟨b, off + k * 4 + j, none⟩ = some v := by
            intro W hB j v hv
            have hj : j < 4 := (List.getElem?_eq_some_iff.1 hv).1
            have := hc (k * 4 + j) v (by rw [flatMap_get 4 Cmd.cells (fun _ => rfl) l k j c hci hj]; exact hv)
            rw [← Nat.add_assoc] at this
            exact (hB.cell (p := ⟨b, off + k * 4 + j, none⟩) (World.block_lt_of_cell? _ _ this)).trans this
          obtain ⟨ck, cx, cv, co⟩ := c
          have B4 := T4.old
          have e0 := hcell _ B4 0 _ rfl
          have e1 := hcell _ B4 1 _ rfl
          have e2 := hcell _ B4 2 _ rfl
          have e3 := hcell _ B4 3 _ rfl
          simp only [Nat.add_zero] at e0 e1 e2 e3
          obtain ⟨f, d, hA4, hR4, hrb⟩ := P4
          have HC := hid_ hcell
          clear hcell hc hci B4
          go_wp2_with fail
          refine (repApply C3 (100 + i) tb f d ⟨ck, cx, cv, co⟩ hok _ hA4).mono ?_
          rintro e w5 ⟨rfl, f5, hA5⟩
          have hR5 := hR4.fr f5 (by rw [hrb]; omega)
          have T5 := T4.trans (f5.mono (K' := (· ≠ 0)) (fun x h => by omega))
          have f45 := f4.trans (f5.mono (K' := fun x => x = 100 + i ∨ x = 50) (fun x h => .inl h))
          have B5 := T5.old
          have e0 := HC.out _ B5 0 _ rfl
          have e1 := HC.out _ B5 1 _ rfl
          have e2 := HC.out _ B5 2 _ rfl
          have e3 := HC.out _ B5 3 _ rfl
          simp only [Nat.add_zero] at e0 e1 e2 e3
          clear T4 f4 f5 hA4 hR4 B5
          go_wp2_with fail
          refine (refTApply C3 50 rb f d ⟨ck, cx, cv, co⟩ hok _ hR5 hrb).mono ?_
          rintro e w6 ⟨rfl, f6, hR6⟩
          have hA6 := hA5.fr f6 (by omega)
          have f46 := f45.trans (f6.mono (K' := fun x => x = 100 + i ∨ x = 50) (fun x h => .inr h))
          have HP := hid_ (show PairR C3 (100 + i) tb rb w6 from ⟨_, _, hA6, hR6, hrb⟩)
          clear T5 f45 f6 hA5 hR5 hR6 hA6 HC e0 e1 e2 e3
          go_wp2_with fail
          go_roundw
          case rel => exact ⟨k + 1, by omega, by omega, by go_num, f46, HP.out⟩
          case measure => simp [intOf]; omega
        · rcases (by omega : (¬ k < l.length) ∨ (k < l.length ∧ ¬ k < 50)) with hq | hq
          all_goals
            have hq3 : decide ((k : Int) < (l.length : Int)) = decide (k < l.length) := by simp
            obtain ⟨p, hpi⟩ : ∃ p, odd[i]? = some p := ⟨_, List.getElem?_eq_getElem hlt.1⟩
            obtain ⟨hpok, hprd⟩ := hol p (List.mem_of_getElem? hpi)
            obtain ⟨ob, oo, rfl, hoc1⟩ := HO.out.at hlt.1
            have hoc2 : ∀ W, Below w.heap.size w W → W.cell? ⟨ob, oo + i, none⟩ = some p.1 := by
              intro W hB
              have := hoc1 i p.1 (by
                have := flatMap_get 1 (fun p : Value × List Cmd => [p.1]) (fun _ => rfl) odd i 0 p hpi (by omega)
                rw [Nat.mul_one, Nat.add_zero] at this
                exact this)
              exact (hB.cell (p := ⟨ob, oo + i, none⟩) (World.block_lt_of_cell? _ _ this)).trans this
            obtain ⟨pv, pl⟩ := p
            simp only at hpok hprd hoc2
            obtain ⟨pa, pc, rfl, hpc, hpm, -⟩ := id hprd
            unfold maxLen at hpm
            have i00 : (0 : Int) ≤ (i : Int) := Int.natCast_nonneg _
            clear hpi hoc1 hq3
            go_wp2_with fail
            go_loopw [13] (fun kv w4 => ∃ k : Nat, k ≤ pl.length ∧ k ≤ 50 ∧ kv = .int .i64 k ∧ Fr (fun x => x = 100 + i ∨ x = 50) C3 C3 W3 w4 ∧ PairR C3 (100 + i) tb rb w4) (fun kv _ => 50 - (intOf kv).toNat)
            case atStart => exact ⟨0, Nat.zero_le _, by omega, rfl, f4, P4⟩
            case round =>
              obtain ⟨k, hk, hk50, rfl, f7, P7⟩ := hrel
              clear P4 f4
              by_cases hjl : k < pl.length ∧ k < 50
              · have q3 : (k : Int) < (pl.length : Int) := by omega
                have q4 : (k : Int) < 50 := by omega
                have q5 : (0 : Int) ≤ (k : Int) := Int.natCast_nonneg _
                obtain ⟨b, off, rfl, hc⟩ := hprd.at hjl.1
                obtain ⟨c, hci⟩ : ∃ c, pl[k]? = some c := ⟨_, List.getElem?_eq_getElem hjl.1⟩
                have hok : c.ok := hpok c (List.mem_of_getElem? hci)
                have T4 := T3.trans (f7.mono (K' := (· ≠ 0)) (fun x h => by omega))
                have hcell : ∀ W, Below w.heap.size w W → ∀ j v, c.cells[j]? = some v → W.cell? ⟨b, off + k * 4 + j, none⟩ = some v := by
                  intro W hB j v hv
                  have hj : j < 4 := (List.getElem?_eq_some_iff.1 hv).1
                  have := hc (k * 4 + j) v (by rw [flatMap_get 4 Cmd.cells (fun _ => rfl) pl k j c hci hj]; exact hv)
                  rw [← Nat.add_assoc] at this
                  exact (hB.cell (p := ⟨b, off + k * 4 + j, none⟩) (World.block_lt_of_cell? _ _ this)).trans this
                obtain ⟨ck, cx, cv, co⟩ := c
                have B4 := T4.old
                have eo := hoc2 _ B4
                have e0 := hcell _ B4 0 _ rfl
                have e1 := hcell _ B4 1 _ rfl
                have e2 := hcell _ B4 2 _ rfl
                have e3 := hcell _ B4 3 _ rfl
                simp only [Nat.add_zero] at e0 e1 e2 e3
                obtain ⟨f, d, hA4, hR4, hrb⟩ := P7
                have HC3 := hid_ hcell
                clear hcell hc hci B4
                go_wp2_with fail
                refine (repApply C3 (100 + i) tb f d ⟨ck, cx, cv, co⟩ hok _ hA4).mono ?_
                rintro e w5 ⟨rfl, f5, hA5⟩
                have hR5 := hR4.fr f5 (by rw [hrb]; omega)
                have T5 := T4.trans (f5.mono (K' := (· ≠ 0)) (fun x h => by omega))
                have f45 := f7.trans (f5.mono (K' := fun x => x = 100 + i ∨ x = 50) (fun x h => .inl h))
                have B5 := T5.old
                have eo := hoc2 _ B5
                have e0 := HC3.out _ B5 0 _ rfl
                have e1 := HC3.out _ B5 1 _ rfl
                have e2 := HC3.out _ B5 2 _ rfl
                have e3 := HC3.out _ B5 3 _ rfl
                simp only [Nat.add_zero] at e0 e1 e2 e3
                clear T4 f7 f5 hA4 hR4 B5
                go_wp2_with fail
                refine (refTApply C3 50 rb f d ⟨ck, cx, cv, co⟩ hok _ hR5 hrb).mono ?_
                rintro e w6 ⟨rfl, f6, hR6⟩
                have hA6 := hA5.fr f6 (by omega)
                have f46 := f45.trans (f6.mono (K' := fun x => x = 100 + i ∨ x = 50) (fun x h => .inr h))
                have HP := hid_ (show PairR C3 (100 + i) tb rb w6 from ⟨_, _, hA6, hR6, hrb⟩)
                clear T5 f45 f6 hA5 hR5 hR6 hA6 HC3 eo e0 e1 e2 e3
                go_wp2_with fail
                go_roundw
                case rel => exact ⟨k + 1, by omega, by omega, by go_num, f46, HP.out⟩
                case measure => simp [intOf]; omega
              · obtain ⟨f, d, hA7, hR7, hrb⟩ := P7
                have G7 := (G3.mono (K' := fun x => x = 100 + i ∨ x = 50) (fun _ h => h.elim)).trans f7
                have T7 := T3.trans (f7.mono (K' := (· ≠ 0)) (fun x h => by omega))
                have SA7 := HSA.out.fr G7 (by omega)
                have SV7 := HSV.out.fr G7 (by omega)
                have hT7 : ∀ t ∈ ts, ∃ kc, 100 ≤ kc ∧ kc < 100 + i ∧ IsTab _ C3 kc t.tb t.f t.d := fun t ht => by
                  obtain ⟨kc, g1, g2, g3⟩ := HTS.out t ht
                  exact ⟨kc, g1, g2, g3.fr G7 (by omega)⟩
                obtain ⟨i1, z1, hi1, hz1, hzs1, his1, hby1⟩ := info_row (P := Try.prog) (e := 24) (size := 1) (bytes := 8) (by kernel_rfl)
                obtain ⟨v8, W8, C8, hr8, A8, F8, -, -⟩ := Sl.append (P := Try.prog) (t := 41) 0 Try.underlying41 hi1 his1 hz1 hzs1 (SA7.alloc (.cells #[.pointer (some ⟨tb, 0, none⟩)] 24)) (Src.new _ 24 1 1 1 [.pointer (some ⟨tb, 0, none⟩)] rfl) (by simp [Value.oneCell']) (by unfold maxLen; omega) (by rw [hby1]; omega)
                have F78 := ((Fr.refl (· = 700) C3 _).alloc (.cells #[.pointer (some ⟨tb, 0, none⟩)] 24)).trans F8
                have T8 := T7.trans (F78.mono (K' := (· ≠ 0)) (fun x h => by omega))
                have V8 := SV7.fr F78 (by omega)
                have hA8 := hA7.fr F78 (by omega)
                have hR8 := hR7.fr F78 (by rw [hrb]; omega)
                have hT8 : ∀ t ∈ ts, ∃ kc, 100 ≤ kc ∧ kc < 100 + i ∧ IsTab W8 C8 kc t.tb t.f t.d := fun t ht => by
                  obtain ⟨kc, g1, g2, g3⟩ := hT7 t ht
                  exact ⟨kc, g1, g2, g3.fr F78 (by omega)⟩
                have HR8 := hid_ hr8
                have eo := hoc2 _ T7.old
                have hjq : (¬ k < pl.length) ∨ (k < pl.length ∧ ¬ k < 50) := by omega
                clear hr8 F8 F78 G7 f7 SA7 SV7 hT7 hA7 hR7
                cases hfk : f key with
                | none =>
                  obtain ⟨kn, rfl⟩ := Int.eq_ofNat_of_zero_le k0
                  by_cases h8 : (kn : Int) < 8
                  · have th := hR8.cell_ (8 + kn) (rcells_has f d (by omega))
                    rw [hfk, show (none : Option Int).isSome = false from rfl] at th
                    obtain ⟨i2, z2, hi2, hz2, hzs2, his2, hby2⟩ := info_row (P := Try.prog) (e := 3) (size := 1) (bytes := 8) (by kernel_rfl)
                    obtain ⟨v9, W9, C9, hr9, V9, F9, -, -⟩ := Sl.append (P := Try.prog) (t := 42) 0 Try.underlying42 hi2 his2 hz2 hzs2 (V8.alloc (.cells #[.int .i64 (-1)] 3)) (Src.new W8 3 1 1 1 [.int .i64 (-1)] rfl) (by simp [Value.oneCell']) (by unfold maxLen; omega) (by rw [hby2]; omega)
                    have F89 : Fr (· = 701) C8 C9 W8 W9 := ((Fr.refl (· = 701) C8 W8).alloc (.cells #[.int .i64 (-1)] 3)).trans F9
                    have HO9 := hid_ (show OutR w (kn : Int) (i + 1) v8 v9 W9 from ⟨C9, ts ++ [⟨tb, f, d⟩], by rw [List.length_append, hts]; rfl, T8.trans (F89.mono (K' := (· ≠ 0)) (fun x h => by omega)), by rw [List.map_append]; exact A8.fr F89 (by omega), by rw [List.map_append]; simp only [List.map_cons, List.map_nil, hfk]; exact V9, fun t ht => by
                      rcases List.mem_append.1 ht with ht | ht
                      · obtain ⟨kc, g1, g2, g3⟩ := hT8 t ht
                        exact ⟨kc, g1, by omega, g3.fr F89 (by omega)⟩
                      · obtain rfl : t = ⟨tb, f, d⟩ := by simpa using ht
                        exact ⟨100 + i, by omega, by omega, hA8.fr F89 (by omega)⟩⟩)
                    have HR9 := hid_ hr9
                    clear hr9 V9 F9 F89 hfk hi1 hz1 hzs1 his1 hby1 hi2 hz2 hzs2 his2 hby2 A8 V8 hA8 hR8 hT8 T8
                    rcases hjq with hj | hj
                    all_goals
                      go_wp2_with (first | ((with_reducible refine wpList_append_run (s := .tmp 89) (x := .tmp 91) (t := 41) (u := 41) (ty := 0) HR8.out ?_ ?_ ?_ ?_ ?_); rfl; rfl; rfl; rfl) | ((with_reducible refine wpList_append_run (s := .tmp 113) (x := .tmp 114) (t := 42) (u := 42) (ty := 0) HR9.out ?_ ?_ ?_ ?_ ?_); rfl; rfl; rfl; rfl))
                      go_roundw
                      case rel => exact ⟨i + 1, by omega, by omega, by go_num, HO9.out⟩
                      case measure => simp [intOf]; omega
                  · skip
                    obtain ⟨i2, z2, hi2, hz2, hzs2, his2, hby2⟩ := info_row (P := Try.prog) (e := 3) (size := 1) (bytes := 8) (by kernel_rfl)
                    obtain ⟨v9, W9, C9, hr9, V9, F9, -, -⟩ := Sl.append (P := Try.prog) (t := 42) 0 Try.underlying42 hi2 his2 hz2 hzs2 (V8.alloc (.cells #[.int .i64 (-1)] 3)) (Src.new W8 3 1 1 1 [.int .i64 (-1)] rfl) (by simp [Value.oneCell']) (by unfold maxLen; omega) (by rw [hby2]; omega)
                    have F89 : Fr (· = 701) C8 C9 W8 W9 := ((Fr.refl (· = 701) C8 W8).alloc (.cells #[.int .i64 (-1)] 3)).trans F9
                    have HO9 := hid_ (show OutR w (kn : Int) (i + 1) v8 v9 W9 from ⟨C9, ts ++ [⟨tb, f, d⟩], by rw [List.length_append, hts]; rfl, T8.trans (F89.mono (K' := (· ≠ 0)) (fun x h => by omega)), by rw [List.map_append]; exact A8.fr F89 (by omega), by rw [List.map_append]; simp only [List.map_cons, List.map_nil, hfk]; exact V9, fun t ht => by
                      rcases List.mem_append.1 ht with ht | ht
                      · obtain ⟨kc, g1, g2, g3⟩ := hT8 t ht
                        exact ⟨kc, g1, by omega, g3.fr F89 (by omega)⟩
                      · obtain rfl : t = ⟨tb, f, d⟩ := by simpa using ht
                        exact ⟨100 + i, by omega, by omega, hA8.fr F89 (by omega)⟩⟩)
                    have HR9 := hid_ hr9
                    clear hr9 V9 F9 F89 hfk hi1 hz1 hzs1 his1 hby1 hi2 hz2 hzs2 his2 hby2 A8 V8 hA8 hR8 hT8 T8
                    rcases hjq with hj | hj
                    all_goals
                      go_wp2_with (first | ((with_reducible refine wpList_append_run (s := .tmp 89) (x := .tmp 91) (t := 41) (u := 41) (ty := 0) HR8.out ?_ ?_ ?_ ?_ ?_); rfl; rfl; rfl; rfl) | ((with_reducible refine wpList_append_run (s := .tmp 113) (x := .tmp 114) (t := 42) (u := 42) (ty := 0) HR9.out ?_ ?_ ?_ ?_ ?_); rfl; rfl; rfl; rfl))
                      go_roundw
                      case rel => exact ⟨i + 1, by omega, by omega, by go_num, HO9.out⟩
                      case measure => simp [intOf]; omega
                | some v =>
                  obtain ⟨kn, rfl⟩ := Int.eq_ofNat_of_zero_le k0
                  obtain ⟨mb, _, hmi, _, _⟩ := id hA8
                  obtain ⟨_, h8, v0, v1⟩ := hmi.rng hfk
                  have th := hR8.cell_ (8 + kn) (rcells_has f d (by omega))
                  have tv := hR8.cell_ kn (rcells_val f d (by omega))
                  rw [hfk, show (some v : Option Int).isSome = true from rfl] at th
                  rw [hfk, show (some v : Option Int).getD 0 = v from rfl] at tv
                  clear hmi
                  obtain ⟨i2, z2, hi2, hz2, hzs2, his2, hby2⟩ := info_row (P := Try.prog) (e := 3) (size := 1) (bytes := 8) (by kernel_rfl)
                  obtain ⟨v9, W9, C9, hr9, V9, F9, -, -⟩ := Sl.append (P := Try.prog) (t := 42) 0 Try.underlying42 hi2 his2 hz2 hzs2 (V8.alloc (.cells #[.int .i64 v] 3)) (Src.new W8 3 1 1 1 [.int .i64 v] rfl) (by simp [Value.oneCell']) (by unfold maxLen; omega) (by rw [hby2]; omega)
                  have F89 : Fr (· = 701) C8 C9 W8 W9 := ((Fr.refl (· = 701) C8 W8).alloc (.cells #[.int .i64 v] 3)).trans F9
                  have HO9 := hid_ (show OutR w (kn : Int) (i + 1) v8 v9 W9 from ⟨C9, ts ++ [⟨tb, f, d⟩], by rw [List.length_append, hts]; rfl, T8.trans (F89.mono (K' := (· ≠ 0)) (fun x h => by omega)), by rw [List.map_append]; exact A8.fr F89 (by omega), by rw [List.map_append]; simp only [List.map_cons, List.map_nil, hfk]; exact V9, fun t ht => by
                    rcases List.mem_append.1 ht with ht | ht
                    · obtain ⟨kc, g1, g2, g3⟩ := hT8 t ht
                      exact ⟨kc, g1, by omega, g3.fr F89 (by omega)⟩
                    · obtain rfl : t = ⟨tb, f, d⟩ := by simpa using ht
                      exact ⟨100 + i, by omega, by omega, hA8.fr F89 (by omega)⟩⟩)
                  have HR9 := hid_ hr9
                  clear hr9 V9 F9 F89 hfk hi1 hz1 hzs1 his1 hby1 hi2 hz2 hzs2 his2 hby2 A8 V8 hA8 hR8 hT8 T8
                  rcases hjq with hj | hj
                  all_goals
                    go_wp2_with (first | ((with_reducible refine wpList_append_run (s := .tmp 89) (x := .tmp 91) (t := 41) (u := 41) (ty := 0) HR8.out ?_ ?_ ?_ ?_ ?_); rfl; rfl; rfl; rfl) | ((with_reducible refine wpList_append_run (s := .tmp 103) (x := .tmp 111) (t := 42) (u := 42) (ty := 0) HR9.out ?_ ?_ ?_ ?_ ?_); rfl; rfl; rfl; rfl))
                    go_roundw
                    case rel => exact ⟨i + 1, by omega, by omega, by go_num, HO9.out⟩
                    case measure => simp [intOf]; omega
    · have hvr : ∀ t ∈ ts, ∀ x, t.f key = some x → 0 ≤ x := fun t ht x hx => by
        obtain ⟨kc, _, _, mb, _, hmi, _⟩ := hT t ht
        exact (hmi.rng hx).2.2.1
      have hlen : ts.length ≤ 8 := by omega
      have hT' : ∀ t ∈ ts, ∃ kc, IsTab wr C kc t.tb t.f t.d := fun t ht => by
        obtain ⟨kc, _, _, h⟩ := hT t ht
        exact ⟨kc, h⟩
      have hfin : Fin C wr := F.fin (fin0 w)
      have hold : Below w.heap.size w wr := F.old
      obtain ⟨vs, hvs⟩ : ∃ vs, ts.map (fun t => t.f key) = vs := ⟨_, rfl⟩
      have hvs0 : ∀ o ∈ vs, ∀ x, o = some x → 0 ≤ x := by
        rw [← hvs]
        intro o ho x hx
        obtain ⟨t, ht, rfl⟩ := List.mem_map.1 ho
        exact hvr t ht x hx
      have hmm : ts.map (fun t => Value.int .i64 (vint (t.f key))) = (vs.map vint).map (Value.int .i64) := by
        rw [← hvs, List.map_map, List.map_map]
        rfl
      have hvl : (vs.map vint).length = ts.length := by rw [← hvs, List.length_map, List.length_map]
      have SV' := SV
      rw [← hts] at SV' SA
      rw [hmm] at SV'
      have HVOTE := hid_ (repVote C 700 ts (.slice aa ts.length ac) key k0 k1)
      have HSEEK := hid_ (fun (h : (seekV (vs.map vint) (vs.map vint).length).2 = false) (x : Int) => seekV_none vs hvs0 h x)
      have HCNT := hid_ (fun (x : Int) (hx : 0 ≤ x) => count_vint vs hvs0 x hx)
      have HOK := hid_ (seekV_ok (vs.map vint) (vs.map vint).length (Nat.le_refl _))
      have hcl : ∀ k, k < (vs.map vint).length → ∃ b off, va = some ⟨b, off, none⟩ ∧ wr.cell? ⟨b, off + k, none⟩ = some (.int .i64 ((vs.map vint).getD k 0)) := fun k hk => by
        obtain ⟨b, off, h1, _, _, h2⟩ := SV'.at (by rw [← hvl]; omega)
        exact ⟨b, off, h1, h2 k _ (by rw [List.getElem?_map, List.getD_eq_getElem?_getD, List.getElem?_eq_getElem hk]; rfl)⟩
      have hrng : ∀ x ∈ vs.map vint, -1 ≤ x ∧ x < 65536 := fun x hx => by
        rw [← hvs, List.map_map] at hx
        obtain ⟨t, ht, rfl⟩ := List.mem_map.1 hx
        obtain ⟨kc, _, _, mb, _, hmi, _⟩ := hT t ht
        show -1 ≤ vint (t.f key) ∧ vint (t.f key) < 65536
        cases h : t.f key with
        | none => simp [vint]
        | some v => have := hmi.rng h; simp only [vint]; omega
      have HTS := hid_ hT'
      have HSA := hid_ SA
      have HLEN := hid_ hvs
      have HHTS := hid_ hts
      generalize hvals : vs.map vint = vals at *
      have HVALS := hid_ hvals
      clear hvals hvs hts hT hT' SA SV SV' hvr hmm
      have hiv : i = vals.length := by rw [hvl, HHTS.out]
      subst hiv
      rcases (by omega : (¬ vals.length < odd.length) ∨ (vals.length < odd.length ∧ ¬ vals.length < 8)) with hq | hq
      all_goals
        go_wp2_with fail
        go_loopw [14, 15, 118] (fun xv bv kv w4 => ∃ k : Nat, k ≤ vals.length ∧ kv = .int .i64 k ∧ xv = .int .i64 (seekV vals k).1 ∧ bv = .bool (seekV vals k).2 ∧ ∃ q, w4 = wr.drewN q) (fun _ _ kv _ => vals.length - (intOf kv).toNat)
        case atStart => exact ⟨0, Nat.zero_le _, rfl, rfl, rfl, 0, rfl⟩
        case round =>
          obtain ⟨k, hk, rfl, rfl, rfl, q, rfl⟩ := hrel
          have hv8 : vals.length ≤ 8 := by omega
          by_cases hkl : k < vals.length
          · have k00 : (0 : Int) ≤ (k : Int) := Int.natCast_nonneg _
            have k01 : (k : Int) < (vals.length : Int) := by omega
            obtain ⟨b, off, rfl, ck⟩ := hcl k hkl
            have hcl2 : ∀ j, j < vals.length → wr.cell? ⟨b, off + j, none⟩ = some (.int .i64 (vals.getD j 0)) := fun j hj => by
              obtain ⟨b2, off2, h1, h2⟩ := hcl j hj
              simp only [Option.some.injEq, Addr.mk.injEq, and_true] at h1
              obtain ⟨rfl, rfl⟩ := h1
              exact h2
            have hyr := hrng (vals.getD k 0) (by rw [List.getD_eq_getElem?_getD, List.getElem?_eq_getElem hkl]; exact List.getElem_mem hkl)
            have hsk : seekV vals (k + 1) = if 0 ≤ vals.getD k 0 ∧ vals.length < 2 * vals.count (vals.getD k 0) then (vals.getD k 0, true) else seekV vals k := rfl
            have HCL := hid_ hcl2
            obtain ⟨y, hy⟩ : ∃ y, vals.getD k 0 = y := ⟨_, rfl⟩
            rw [hy] at ck hyr hsk
            obtain ⟨sx, hsx⟩ : ∃ sx, seekV vals k = sx := ⟨_, rfl⟩
            have HSK := hid_ hsk
            have HSX := hid_ hsx
            rw [hsx]
            clear hcl2 hcl hsk hy hrng hsx
            go_wp2_with fail
            go_loopw [17, 123] (fun nv jv w5 => ∃ j : Nat, j ≤ vals.length ∧ jv = .int .i64 j ∧ nv = .int .i64 ((vals.take j).count y) ∧ ∃ q, w5 = wr.drewN q) (fun _ jv _ => vals.length - (intOf jv).toNat)
            case atStart => exact ⟨0, Nat.zero_le _, rfl, rfl, q, rfl⟩
            case round =>
              obtain ⟨j, hj, rfl, rfl, q2, rfl⟩ := hrel
              have hcn : (vals.take j).count y ≤ 8 := by
                have := List.count_le_length (a := y) (l := vals.take j)
                rw [List.length_take] at this
                omega
              by_cases hjl : j < vals.length
              · have j00 : (0 : Int) ≤ (j : Int) := Int.natCast_nonneg _
                have j01 : (j : Int) < (vals.length : Int) := by omega
                have cj := HCL.out j hjl
                have htk : (vals.take (j + 1)).count y = (vals.take j).count y + if vals.getD j 0 == y then 1 else 0 := by
                  rw [List.take_succ_eq_append_getElem hjl, List.count_append, List.count_singleton, List.getD_eq_getElem?_getD, List.getElem?_eq_getElem hjl]
                  rfl
                obtain ⟨x, hx⟩ : ∃ x, vals.getD j 0 = x := ⟨_, rfl⟩
                rw [hx] at cj htk
                clear hx
                have cj2 : (wr.drewN q2).cell? ⟨b, off + j, none⟩ = some (.int .i64 x) := cj
                have ck2 : (wr.drewN q2).cell? ⟨b, off + k, none⟩ = some (.int .i64 y) := ck
                by_cases he : x = y
                · subst he
                  rw [if_pos (by simp)] at htk
                  have HTK := hid_ htk
                  clear htk
                  go_wp2_with fail
                  go_quiet (fail)
                  go_wp2_with fail
                  go_roundw
                  case rel => exact ⟨j + 1, by omega, by go_num, by rw [HTK.out]; go_num, _, rfl⟩
                  case measure => simp [intOf]; omega
                · have hb : (x == y) = false := by simpa using he
                  rw [hb, if_neg (by simp), Nat.add_zero] at htk
                  have HTK := hid_ htk
                  clear htk
                  go_wp2_with fail
                  go_quiet (fail)
                  go_wp2_with fail
                  go_roundw
                  case rel => exact ⟨j + 1, by omega, by go_num, by rw [HTK.out]; simp, _, rfl⟩
                  case measure => simp [intOf]; omega
              · obtain rfl : j = vals.length := by omega
                rw [List.take_length] at hcn ⊢
                have ck2 : (wr.drewN q2).cell? ⟨b, off + k, none⟩ = some (.int .i64 y) := ck
                obtain ⟨n, hn⟩ : ∃ n, vals.count y = n := ⟨_, rfl⟩
                rw [hn] at hcn ⊢
                have hsk2 := HSK.out
                rw [hn] at hsk2
                clear hn
                by_cases hm : 0 ≤ y ∧ vals.length < 2 * n
                · rw [if_pos hm] at hsk2
                  have m0 := hm.1
                  have m1 : (vals.length : Int) < 2 * (n : Int) := by omega
                  have HS2 := hid_ hsk2
                  clear hsk2 hm
                  go_wp2_with fail
                  go_roundw
                  case rel => exact ⟨k + 1, by omega, by go_num, by rw [HS2.out], by rw [HS2.out], _, rfl⟩
                  case measure => simp [intOf]; omega
                · rw [if_neg hm, HSX.out] at hsk2
                  have HS2 := hid_ hsk2
                  clear hsk2
                  by_cases m0 : 0 ≤ y
                  · have m1 : ¬ (vals.length : Int) < 2 * (n : Int) := by omega
                    clear hm
                    go_wp2_with fail
                    go_roundw
                    case rel => exact ⟨k + 1, by omega, by go_num, by rw [HS2.out], by rw [HS2.out], _, rfl⟩
                    case measure => simp [intOf]; omega
                  · clear hm
                    go_wp2_with fail
                    go_roundw
                    case rel => exact ⟨k + 1, by omega, by go_num, by rw [HS2.out], by rw [HS2.out], _, rfl⟩
                    case measure => simp [intOf]; omega
          · obtain rfl : k = vals.length := by omega
            have hsa := HSA.out
            have hok := HOK.out
            have hseek := HSEEK.out
            have hlt : ts.length ≤ 100 := by omega
            have htd : ∀ t ∈ ts, ∃ kc, IsTab (wr.drewN q) C kc t.tb t.f t.d := fun t ht => by
              obtain ⟨kc, h⟩ := HTS.out t ht
              exact ⟨kc, h.fr ((Fr.refl (fun _ => False) C wr).drewN q) (fun h => h)⟩
            have HC := hid_ (HVOTE.out (wr.drewN q) hfin (hsa.drewN q) htd hlt)
            have hold2 : Below w.heap.size w (wr.drewN q) := ⟨hold.os, hold.tape, hold.output, hold.size, hold.block⟩
            obtain ⟨sx, hsx⟩ : ∃ sx, seekV vals vals.length = sx := ⟨_, rfl⟩
            rw [hsx] at hok hseek ⊢
            have HF := hid_ (show ∀ x, sx.2 = true → sx.1 = x ∨ ¬ vals.length < 2 * vs.count (some x) from fun x h => by
              obtain ⟨h1, h2⟩ := hok.1 h
              by_cases hx : vals.length < 2 * vs.count (some x)
              · left
                have hx0 : 0 ≤ x := by
                  have hmem : some x ∈ vs := List.count_pos_iff.1 (by omega)
                  exact hvs0 _ hmem x rfl
                exact major_one vals _ _ h2 (by rw [HCNT.out x hx0]; exact hx)
              · exact .inr hx)
            have HG := hid_ hok
            have HH := hid_ hseek
            have hvv : vs.length = vals.length := by rw [← HVALS.out, List.length_map]
            obtain ⟨sv, sb⟩ := sx
            have HRG := hid_ hrng
            clear hok hseek hsa htd hsx HOK HSEEK hcl hrng HTS HSA hvs0
            go_wp2_with fail
            refine HC.out.mono ?_
            rintro e w6 ⟨hb6, ⟨v, rfl, hv⟩ | ⟨rfl, hv⟩⟩
            · have hb26 := below_then hold2 hb6
              rw [HLEN.out] at hv
              have hsb : sb = true := by
                cases sb with
                | true => rfl
                | false =>
                  have := HH.out rfl v
                  omega
              subst hsb
              obtain rfl : sv = v := by
                rcases HF.out v rfl with h | h
                · exact h
                · omega
              have hs0 := (HG.out.1 rfl).1
              have hs1 := (HRG.out sv (List.count_pos_iff.1 (by have := (HG.out.1 rfl).2; omega))).2
              clear hv hb6 HF HG HH HC HVOTE HRG
              go_wp2_with fail
              go_ret
              exact ⟨rfl, hb26⟩
            · have hb26 := below_then hold2 hb6
              rw [HLEN.out] at hv
              have hsb : sb = false := by
                cases sb with
                | false => rfl
                | true =>
                  obtain ⟨h1, h2⟩ := HG.out.1 rfl
                  have := hv sv
                  rw [HCNT.out sv h1] at h2
                  omega
              subst hsb
              clear hv hb6 HF HG HH HC HVOTE HRG
              go_wp2_with fail
              refine (read_errv (some 17) (by intro n h; cases h; omega) _).mono ?_
              rintro e w7 ⟨rfl, hb7⟩
              go_wp2_with fail
              refine (refE_any 17 (by omega) (by omega) _).mono ?_
              rintro e w8 ⟨rfl, hb8⟩
              have hb28 := below_then (below_then hb26 hb7) hb8
              rw [show errT (errL (some 17)) = num 17 from rfl]
              clear hb26 hb7 hb8
              go_wp2_with fail
              go_ret
              exact ⟨rfl, hb28⟩
end Go.Proofs.Ytomcjmgbkpbdpaa
