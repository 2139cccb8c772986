/- ReplicaPlays: for every list of commands the law returns true, and leaves memory as it was. No condition. -/
import Derived.Test.YtomcjmgbkpbdpaaImg
import Derived.Test.YtomcjmgbkpbdpaaKeys
import Derived.Test.YtomcjmgbkpbdpaaAwake14
import Derived.BigQuiet
import Derived.Deep.CutRange
import Derived.Deep.QuietTactic
set_option linter.unusedSimpArgs false
set_option linter.unusedVariables false
namespace Go.Proofs.Ytomcjmgbkpbdpaa
open Go.RowKit Go.Maps

theorem errT_num (o : Option Int) : errT (errL o) = numO o := by
  cases o with
  | none => rfl
  | some n => simp [errL, errT, numO, joinT, linkT]
theorem read_num (o : Option Int) (ho : ∀ n, o = some n → n ≠ 0 ∧ -9223372036854775808 ≤ n ∧ n ≤ 9223372036854775807) (w : World) :
    Calls Try.prog 11 #[errv o] w fun x w' => x = .returned (.string ⟨(numO o).toArray⟩) ∧ Below w.heap.size w w' := by
  have h := read_errv o ho w
  rw [errT_num] at h
  exact h
theorem IsTab.rngP {w : World} {C : Nat → Nat} {k tb : Nat} {f : Int → Option Int} {d : Int} (h : IsTab w C k tb f d) : ∀ x, (f x).isSome = true → 0 ≤ x ∧ x < 8 := fun x hx => by
  obtain ⟨mb, _, hm, _⟩ := h
  obtain ⟨c, hc⟩ := Option.isSome_iff_exists.1 hx
  have := hm.rng hc
  exact ⟨this.1, this.2.1⟩
theorem bneStr (s : ByteArray) : (s.toList != s.toList) = false := by simp

set_option maxRecDepth 100000 in
set_option maxHeartbeats 8000000 in
theorem replays_walk (l : List Cmd) (lv : Value) (w : World) (hl : ∀ c ∈ l, c.ok) (hv : Rd w (fun _ => 0) lv 4 l.length (l.flatMap Cmd.cells)) :
    Calls Try.prog 6 #[lv] w fun e w' => e = .returned (.bool true) ∧ Below w.heap.size w w' := by
  obtain ⟨a, cap, rfl, hcap, hmax, -⟩ := id hv
  unfold maxLen at hmax
  have HV := hid_ hv
  clear hv
  go_enter Try.func6, Try.ntmps6
  go_wp2_with fail
  refine (awake14 _).mono ?_
  rintro e w1 ⟨rfl, hb1⟩
  have F1 : Fr (· ≠ 0) (fun _ => 0) (fun _ => 0) w w1 := Fr.of_below hb1 _
  clear hb1
  go_wp2_with fail
  refine (repNew (fun _ => 0) 1 _).mono ?_
  rintro e w2 ⟨ta, C1, rfl, f1, hA⟩
  have F2 := F1.trans (f1.mono (K' := (· ≠ 0)) (fun c h => h.elim))
  have g3 : Fr (fun _ => False) C1 (fun y => if y = w2.heap.size then 2 else C1 y) w2 (w2.alloc (.cells (rcells (fun _ => none) 0).toArray 47)) := ((Fr.refl (fun _ => False) C1 w2).alloc _).recolour (fun y hy _ => if_neg (by omega)) (fun y hy => by
    simp at hy
    rw [if_neg (by omega)]
    exact F2.Fin (fin0 w) y (by omega))
  have HF3 := hid_ (F2.trans (g3.mono (K' := (· ≠ 0)) (fun _ h => h.elim)))
  have HA3 := hid_ (hA.fr g3 (fun h => h))
  have HB3 := hid_ (Bk.new w2 47 (rcells (fun _ => none) 0))
  have HC3 := hid_ (show (fun y => if y = w2.heap.size then 2 else C1 y) w2.heap.size = 2 from if_pos rfl)
  obtain ⟨C3, hC3⟩ : ∃ C, (fun y => if y = w2.heap.size then 2 else C1 y) = C := ⟨_, rfl⟩
  rw [hC3] at HF3 HA3 HC3
  obtain ⟨tb, htb⟩ : ∃ n, w2.heap.size = n := ⟨_, rfl⟩
  clear F1 f1 F2 g3 hA hC3
  go_wp2_with fail
  rw [htb] at HB3 HC3
  go_loopw [5, 6, 7, 8, 9, 10, 11, 12] (fun iv _ _ _ _ _ _ _ wr => ∃ (i : Nat) (f : Int → Option Int) (d : Int) (C : Nat → Nat), i ≤ l.length ∧ iv = .int .i64 i ∧ Fr (· ≠ 0) (fun _ => 0) C w wr ∧ IsTab wr C 1 ta f d ∧ Bk wr tb 47 (rcells f d) ∧ C tb = 2)
    (fun iv _ _ _ _ _ _ _ _ => l.length - (intOf iv).toNat)
  case atStart => exact ⟨0, _, _, _, Nat.zero_le _, rfl, HF3.out, HA3.out, HB3.out, HC3.out⟩
  case round =>
    obtain ⟨i, f, d, C, hi, rfl, F, hA, hB, hC⟩ := hrel
    clear HF3 HA3 HB3 HC3
    have j0 : (0 : Int) ≤ (i : Int) := Int.natCast_nonneg _
    have END : (i : Int) < (l.length : Int) ∧ (i : Int) < 200 ∨ (¬ (i : Int) < (l.length : Int)) ∨ ((i : Int) < (l.length : Int) ∧ ¬ (i : Int) < 200) := by omega
    rcases END with ⟨j1, j2⟩ | hEnd
    · have hlt : i < l.length := by omega
      obtain ⟨b, off, rfl, hc⟩ := HV.out.at hlt
      have hB0 := F.old
      obtain ⟨c, hci⟩ : ∃ c, l[i]? = some c := ⟨_, List.getElem?_eq_getElem hlt⟩
      have hok : c.ok := hl c (List.mem_of_getElem? hci)
      have hcell0 : ∀ j v, c.cells[j]? = some v → w.cell? ⟨b, off + i * 4 + j, none⟩ = some v := by
        intro j v hv
        have hj : j < 4 := (List.getElem?_eq_some_iff.1 hv).1
        have := hc (i * 4 + j) v (by rw [flatMap_get 4 Cmd.cells (fun _ => rfl) l i j c hci hj]; exact hv)
        rw [← Nat.add_assoc] at this
        exact this
      have HCELL := hid_ hcell0
      have e0 : wr.cell? ⟨b, off + i * 4, none⟩ = _ := grown_cell hB0 (hcell0 0 _ rfl)
      have e1 := grown_cell hB0 (hcell0 1 _ rfl)
      have e2 := grown_cell hB0 (hcell0 2 _ rfl)
      have e3 := grown_cell hB0 (hcell0 3 _ rfl)
      obtain ⟨ck, cx, cv, co⟩ := c
      simp only at e0 e1 e2 e3
      have HA := hid_ (repApply C 1 ta f d ⟨ck, cx, cv, co⟩ hok wr hA)
      have HFR := hid_ F
      have HBB := hid_ hB
      have HCC := hid_ hC
      have HOK := hid_ hok
      unfold Cmd.v at HA
      clear hcell0 hc hci hB0 F hA hB hC hok
      go_wp2_with fail
      refine HA.out.mono ?_
      rintro e w5 ⟨rfl, f5, hA5⟩
      have F5 := HFR.out.trans (f5.mono (K' := (· ≠ 0)) (by simp))
      have hB5 := F5.old
      have hBt := HBB.out.fr f5 (by rw [HCC.out]; simp)
      have e0 : w5.cell? ⟨b, off + i * 4, none⟩ = _ := grown_cell hB5 (HCELL.out 0 _ rfl)
      have e1 := grown_cell hB5 (HCELL.out 1 _ rfl)
      have e2 := grown_cell hB5 (HCELL.out 2 _ rfl)
      have e3 := grown_cell hB5 (HCELL.out 3 _ rfl)
      simp only at e0 e1 e2 e3
      have HB := hid_ (refTApply C 2 tb f d ⟨ck, cx, cv, co⟩ HOK.out w5 hBt HCC.out)
      unfold Cmd.v at HB
      have HF5 := hid_ F5
      have HA5 := hid_ hA5
      clear f5 hA5 F5 hB5 hBt HA HFR HBB
      go_wp2_with fail
      refine HB.out.mono ?_
      rintro e w6 ⟨rfl, f6, hB6⟩
      have hF6 := HF5.out.trans (f6.mono (K' := (· ≠ 0)) (by simp))
      have hA6 := HA5.out.fr f6 (by simp)
      clear f6 HF5 HA5 HB e0 e1 e2 e3
      obtain ⟨bb, hbb⟩ : ∃ bb, applyB f ⟨ck, cx, cv, co⟩ = bb := ⟨_, rfl⟩
      have q0 : (bb != bb) = false := by simp
      rw [hbb]
      have hEok := applyE_ok ⟨ck, cx, cv, co⟩
      obtain ⟨eo, heo⟩ : ∃ eo, applyE ⟨ck, cx, cv, co⟩ = eo := ⟨_, rfl⟩
      rw [heo] at hEok ⊢
      obtain ⟨f', hf'⟩ : ∃ f', applyF f ⟨ck, cx, cv, co⟩ = f' := ⟨_, rfl⟩
      obtain ⟨d', hd'⟩ : ∃ d', applyN d ⟨ck, cx, cv, co⟩ = d' := ⟨_, rfl⟩
      rw [hf', hd'] at hA6 hB6
      clear hbb heo hf' hd'
      have HRD := hid_ (read_num eo hEok)
      have hfin := hF6.Fin (fin0 w)
      have HDN := hid_ (fun (W : World) (g : Below w6.heap.size w6 W) => repDone C 1 ta f' d' W (hA6.fr (Fr.of_below (C := C) g (fun _ => False)) (fun h => h)))
      have HIM := hid_ (fun (W : World) (g : Below w6.heap.size w6 W) => repImage C 1 ta f' d' W ((Fr.of_below (C := C) g (fun _ => False)).Fin hfin) (hA6.fr (Fr.of_below (C := C) g (fun _ => False)) (fun h => h)))
      have HIR := hid_ (fun (W : World) (g : Below w6.heap.size w6 W) => refTImage C tb f' d' W (hB6.same (g.block _ hB6.lt)))
      have HF6 := hid_ hF6
      have HA6 := hid_ hA6
      have HB6 := hid_ hB6
      have HC16 := hid_ (hB6.cell_ 16 (show (rcells f' d')[16]? = some (.int .i64 d') from rfl))
      obtain ⟨sb, hsb⟩ : ∃ s : ByteArray, (⟨(numO eo).toArray⟩ : ByteArray) = s := ⟨_, rfl⟩
      rw [hsb] at HRD ⊢
      have q1 := bneStr sb
      have q2 : (d' != d') = false := by simp
      clear hEok hF6 hA6 hB6 hfin hsb
      go_upto_region 9 with fail
      have X6 := hid_ ((Below.refl w6.heap.size w6).drew)
      go_cut [71] from 18 to 113 (fun cv W => cv = .bool false ∧ Below w6.heap.size w6 W)
      case first =>
        go_region_with (first
          | ((refine (HRD.out _).mono ?_); rintro e w7 ⟨rfl, V7⟩; have X7 := hid_ (below_then X6.out V7); have c16 := grown_cell X7.out HC16.out)
          | ((refine (HDN.out _ X7.out).mono ?_); rintro e w8 ⟨rfl, rfl⟩)
          | ((refine (HIM.out _ (by first | exact X7.out | exact X9.out)).mono ?_); rintro e w10 ⟨v10, rfl, A10, V10⟩; have X10 := hid_ (below_then (by first | exact X9.out | exact X7.out) V10))
          | ((refine (HIR.out _ (by first | exact X7.out | exact X10.out)).mono ?_); rintro e w9 ⟨v9, rfl, A9, V9⟩; have X9 := hid_ (below_then (by first | exact X10.out | exact X7.out) V9))
          | ((refine (sameCmds _ _ f' _ _ (by first | exact A10 | exact A10.grown V9) (by first | exact A9 | exact A9.grown V10)).mono ?_); rintro e w11 ⟨rfl, V11⟩; have X11 := hid_ (below_then (by first | exact X10.out | exact X9.out) V11)))
        all_goals
          go_wp2_with fail
          go_simp
          go_meet
          case rel => exact ⟨rfl, X11.out⟩
      obtain ⟨rfl, Vc⟩ := hcut
      have HVC := hid_ Vc
      clear Vc
      go_wp2_with fail
      go_loopw [10, 11, 12] (fun kv _ _ wx => ∃ k : Nat, k ≤ 10 ∧ kv = .int .i64 k ∧ Below w6.heap.size w6 wx) (fun kv _ _ _ => 10 - (intOf kv).toNat)
      case atStart => exact ⟨0, by omega, rfl, HVC.out⟩
      case round =>
        obtain ⟨k, hk, rfl, V⟩ := hrel
        have i0 : (0 : Int) ≤ (k : Int) := Int.natCast_nonneg _
        have g := Fr.of_below (C := C) V (fun _ => False)
        by_cases hk10 : k < 10
        · have i1 : (k : Int) < 10 := by omega
          have hw8 : IntKind.u8.wrap (k : Int) = (k : Int) := by simp [IntKind.wrap, IntKind.signed, IntKind.bits]; omega
          have HASK := hid_ (repAsk C 1 ta f' d' (k : Int) wr (HA6.out.fr g (fun h => h)) i0 (by omega))
          have HR17 := hid_ (fun W => read_num (some 17) (fun n h => by cases h; omega) W)
          have HE17 := hid_ (fun W => refE_any 17 (by omega) (by omega) W)
          rw [show numO (some 17) = num 17 from rfl] at HR17
          obtain ⟨s17, hs17⟩ : ∃ s : ByteArray, (⟨(num 17).toArray⟩ : ByteArray) = s := ⟨_, rfl⟩
          rw [hs17] at HR17 HE17
          have q17 := bneStr s17
          have HVV := hid_ V
          by_cases h7 : k ≤ 7
          · have i7 : ¬ (7 : Int) < (k : Int) := by omega
            have B := HB6.out.same (V.block _ HB6.out.lt)
            have th := B.cell_ (8 + k) (rcells_has f' d' (by omega))
            have tv := B.cell_ k (rcells_val f' d' (by omega))
            cases hfk : f' (k : Int) with
            | none =>
              rw [hfk] at HASK th tv
              rw [show (none : Option Int).isSome = false from rfl] at th
              rw [show (none : Option Int).getD 0 = 0 from rfl, show errv (askE (none : Option Int)) = errv (some 17) from rfl] at HASK
              clear hfk B V g hs17 tv
              go_wp2_with fail
              refine HASK.out.mono ?_
              rintro e w7 ⟨rfl, rfl⟩
              go_wp2_with fail
              refine (HR17.out _).mono ?_
              rintro e w8 ⟨rfl, V8⟩
              go_wp2_with fail
              refine (HE17.out _).mono ?_
              rintro e w9 ⟨rfl, V9⟩
              have HX := hid_ (below_then HVV.out (below_then V8 V9))
              clear V8 V9
              go_wp2
              go_roundw
              case rel => exact ⟨k + 1, by omega, by go_num, HX.out⟩
              case measure => simp [intOf]; omega
            | some v =>
              rw [hfk] at HASK th tv
              rw [show (some v : Option Int).isSome = true from rfl] at th
              rw [show (some v : Option Int).getD 0 = v from rfl] at tv
              rw [show (some v : Option Int).getD 0 = v from rfl, show errv (askE (some v)) = .nilIface from rfl] at HASK
              clear hfk B V g hs17
              go_wp2_with fail
              refine HASK.out.mono ?_
              rintro e w7 ⟨rfl, rfl⟩
              go_wp2
              go_roundw
              case rel => exact ⟨k + 1, by omega, by go_num, HVV.out⟩
              case measure => simp [intOf]; omega
          · have i7 : (7 : Int) < (k : Int) := by omega
            have hfk : f' (k : Int) = none := by
              cases hx : f' (k : Int) with
              | none => rfl
              | some v =>
                have := HA6.out.rngP (k : Int) (by rw [hx]; rfl)
                omega
            rw [hfk] at HASK
            rw [show (none : Option Int).getD 0 = 0 from rfl, show errv (askE (none : Option Int)) = errv (some 17) from rfl] at HASK
            clear hfk V g hs17
            go_wp2_with fail
            refine HASK.out.mono ?_
            rintro e w7 ⟨rfl, rfl⟩
            go_wp2_with fail
            refine (HR17.out _).mono ?_
            rintro e w8 ⟨rfl, V8⟩
            go_wp2_with fail
            refine (HE17.out _).mono ?_
            rintro e w9 ⟨rfl, V9⟩
            have HX := hid_ (below_then HVV.out (below_then V8 V9))
            clear V8 V9
            go_wp2
            go_roundw
            case rel => exact ⟨k + 1, by omega, by go_num, HX.out⟩
            case measure => simp [intOf]; omega
        · obtain rfl : k = 10 := by omega
          have HA7 := hid_ (HA6.out.fr g (fun h => h))
          have HB7 := hid_ (HB6.out.same (V.block _ HB6.out.lt))
          have HF7 := hid_ (HF6.out.trans (g.mono (K' := (· ≠ 0)) (fun _ h => h.elim)))
          clear V g
          go_wp2
          go_roundw
          case rel => exact ⟨i + 1, f', d', C, by omega, by go_num, HF7.out, HA7.out, HB7.out, HCC.out⟩
          case measure => simp [intOf]; omega
    · have HE := hid_ F.old
      clear F hA hB hC
      rcases hEnd with j1 | ⟨j1, j2⟩
      all_goals
        go_wp2
        go_ret
        exact ⟨rfl, HE.out⟩
end Go.Proofs.Ytomcjmgbkpbdpaa
