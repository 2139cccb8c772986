/- ReplicaAlike: for every list of commands the law returns true, and leaves memory as it was. No condition. -/
import Derived.Test.YtomcjmgbkpbdpaaImg
import Derived.Test.YtomcjmgbkpbdpaaKeys
import Derived.Test.YtomcjmgbkpbdpaaAwake14
import Derived.BigQuiet
import Derived.Deep.QuietTactic
set_option linter.unusedSimpArgs false
set_option linter.unusedVariables false
namespace Go.Proofs.Ytomcjmgbkpbdpaa
open Go.RowKit Go.Maps

/-- f at the first k keys of l. -/
def resF (f : Int → Option Int) (l : List Int) (k : Nat) (x : Int) : Option Int := if x ∈ l.take k then f x else none
theorem resF_zero (f : Int → Option Int) (l : List Int) : resF f l 0 = fun _ => none := by funext x; simp [resF]
theorem resF_step (f : Int → Option Int) (l : List Int) (k : Nat) (hk : k < l.length) (hf : (f (l.getD k 0)).isSome = true) (h8 : 0 ≤ l.getD k 0 ∧ l.getD k 0 < 8) : applyF (resF f l k) ⟨1, l.getD k 0, (f (l.getD k 0)).getD 0, 0⟩ = resF f l (k + 1) := by
  have ht : l.take (k + 1) = l.take k ++ [l.getD k 0] := by rw [List.take_succ_eq_append_getElem hk, List.getD_eq_getElem?_getD, List.getElem?_eq_getElem hk]; rfl
  obtain ⟨x, hx⟩ : ∃ x, l.getD k 0 = x := ⟨_, rfl⟩
  rw [hx] at hf h8 ht ⊢
  have ha : applied ⟨1, x, (f x).getD 0, 0⟩ = true := by unfold applied; simp; omega
  unfold applyF
  rw [if_neg (by rw [ha]; simp), if_neg (by simp), if_pos rfl]
  funext y
  unfold upd resF
  rw [ht]
  by_cases hy : y = x
  · rw [if_pos hy, hy, if_pos (by simp)]
    obtain ⟨c, hc⟩ := Option.isSome_iff_exists.1 hf
    rw [hc]; rfl
  · rw [if_neg hy]
    simp [hy]
theorem keysF_mem (f : Int → Option Int) {i : Nat} (h : i < (keysF f).length) : (f ((keysF f).getD i 0)).isSome = true := by
  have hm : (keysF f).getD i 0 ∈ keysF f := by rw [List.getD_eq_getElem?_getD, List.getElem?_eq_getElem h]; exact List.getElem_mem h
  unfold keysF at hm
  exact (List.mem_filter.1 hm).2
theorem resF_all (f : Int → Option Int) (hr : ∀ x, (f x).isSome = true → 0 ≤ x ∧ x < 8) : resF f (keysF f) (keysF f).length = f := by
  funext x
  unfold resF
  rw [List.take_length]
  by_cases h : (f x).isSome = true
  · obtain ⟨h0, h1⟩ := hr x h
    rw [if_pos]
    unfold keysF
    rw [List.mem_filter, List.mem_map]
    exact ⟨⟨x.toNat, by rw [List.mem_range]; omega, by omega⟩, h⟩
  · rw [if_neg (fun hm => h (by unfold keysF at hm; exact (List.mem_filter.1 hm).2))]
    cases hx : f x with
    | none => rfl
    | some c => rw [hx] at h; simp at h
theorem IsTab.rng {w : World} {C : Nat → Nat} {k tb : Nat} {f : Int → Option Int} {d : Int} (h : IsTab w C k tb f d) : ∀ x, (f x).isSome = true → 0 ≤ x ∧ x < 8 := fun x hx => by
  obtain ⟨mb, _, hm, _⟩ := h
  obtain ⟨c, hc⟩ := Option.isSome_iff_exists.1 hx
  have := hm.rng hc
  exact ⟨this.1, this.2.1⟩
theorem IsTab.val {w : World} {C : Nat → Nat} {k tb : Nat} {f : Int → Option Int} {d : Int} (h : IsTab w C k tb f d) : ∀ x, 0 ≤ (f x).getD 0 ∧ (f x).getD 0 < 65536 := fun x => by
  obtain ⟨mb, _, hm, _⟩ := h
  cases hc : f x with
  | none => simp
  | some c => have := hm.rng hc; exact ⟨this.2.2.1, this.2.2.2⟩

theorem nilE (w : World) : (binOp .eql 31 (errv none) .nilIface).run Try.prog w = .ok (.bool true) w := by kernel_rfl
theorem nilG (n : Nat) (w : World) : (eqGuard .eql 31 (.tmp n) (.const .nilIface) (errv none) .nilIface).run Try.prog w = .ok () w := by kernel_rfl

set_option maxRecDepth 100000 in
set_option maxHeartbeats 8000000 in
theorem alike_walk (l : List Cmd) (lv : Value) (w : World) (hl : ∀ c ∈ l, c.ok) (hv : Rd w (fun _ => 0) lv 4 l.length (l.flatMap Cmd.cells)) :
    Calls Try.prog 7 #[lv] w fun e w' => e = .returned (.bool true) ∧ Below w.heap.size w w' := by
  obtain ⟨a, cap, rfl, hcap, hmax, -⟩ := id hv
  unfold maxLen at hmax
  have HV := hid_ hv
  clear hv
  go_enter Try.func7, Try.ntmps7
  go_wp2_with fail
  refine (awake14 _).mono ?_
  rintro e w1 ⟨rfl, hb1⟩
  have F1 : Fr (· ≠ 0) (fun _ => 0) (fun _ => 0) w w1 := Fr.of_below hb1 _
  clear hb1
  go_wp2_with fail
  refine (repNew (fun _ => 0) 1 _).mono ?_
  rintro e w2 ⟨ta, C1, rfl, f1, hA⟩
  have F2 := F1.trans (f1.mono (K' := (· ≠ 0)) (fun c h => h.elim))
  clear F1 f1
  go_wp2_with fail
  refine (repNew C1 2 _).mono ?_
  rintro e w3 ⟨tb, C2, rfl, f2, hB⟩
  have F3 := F2.trans (f2.mono (K' := (· ≠ 0)) (fun c h => h.elim))
  have hA3 := hA.fr f2 (fun h => h)
  clear F2 f2 hA
  go_wp2_with fail
  refine (repNew C2 3 _).mono ?_
  rintro e w4 ⟨tc, C3, rfl, f3, hC⟩
  have HF4 := hid_ (F3.trans (f3.mono (K' := (· ≠ 0)) (fun c h => h.elim)))
  have HA4 := hid_ (hA3.fr f3 (fun h => h))
  have HB4 := hid_ (hB.fr f3 (fun h => h))
  have HC4 := hid_ hC
  clear F3 f3 hA3 hB hC
  go_wp2_with fail
  go_loopw [6, 7, 8, 9, 10] (fun iv _ _ _ _ wr => ∃ (i : Nat) (f : Int → Option Int) (d d2 : Int) (C : Nat → Nat), i ≤ l.length ∧ iv = .int .i64 i ∧ Fr (· ≠ 0) (fun _ => 0) C w wr ∧ IsTab wr C 1 ta f d ∧ IsTab wr C 2 tb f d2 ∧ IsTab wr C 3 tc (fun _ => none) 0)
    (fun iv _ _ _ _ _ => l.length - (intOf iv).toNat)
  case atStart => exact ⟨0, _, _, _, _, Nat.zero_le _, rfl, HF4.out, HA4.out, HB4.out, HC4.out⟩
  case round =>
    obtain ⟨i, f, d, d2, C, hi, rfl, F, hA, hB, hC⟩ := hrel
    clear HF4 HA4 HB4 HC4
    have j0 : (0 : Int) ≤ (i : Int) := Int.natCast_nonneg _
    have END : (i : Int) < (l.length : Int) ∧ (i : Int) < 200 ∨ (¬ (i : Int) < (l.length : Int)) ∨ ((i : Int) < (l.length : Int) ∧ ¬ (i : Int) < 200) := by omega
    rcases END with ⟨j1, j2⟩ | hEnd
    · have hlt : i < l.length := by omega
      obtain ⟨b, off, rfl, hc⟩ := HV.out.at hlt
      have hB0 := F.old
      obtain ⟨c, hci⟩ : ∃ c, l[i]? = some c := ⟨_, List.getElem?_eq_getElem hlt⟩
      have hok : c.ok := hl c (List.mem_of_getElem? hci)
      have hcell0 : ∀ j v, c.cells[j]? = some v → w.cell? ⟨b, off + i * 4 + j, none⟩ = some v := by
        intro j v hv
        have hj : j < 4 := (List.getElem?_eq_some_iff.1 hv).1
        have := hc (i * 4 + j) v (by rw [flatMap_get 4 Cmd.cells (fun _ => rfl) l i j c hci hj]; exact hv)
        rw [← Nat.add_assoc] at this
        exact this
      have HCELL := hid_ hcell0
      have e0 : wr.cell? ⟨b, off + i * 4, none⟩ = _ := grown_cell hB0 (hcell0 0 _ rfl)
      have e1 := grown_cell hB0 (hcell0 1 _ rfl)
      have e2 := grown_cell hB0 (hcell0 2 _ rfl)
      have e3 := grown_cell hB0 (hcell0 3 _ rfl)
      obtain ⟨ck, cx, cv, co⟩ := c
      simp only at e0 e1 e2 e3
      have HA := hid_ (repApply C 1 ta f d ⟨ck, cx, cv, co⟩ hok wr hA)
      have HFR := hid_ F
      have HBB := hid_ hB
      have HCC := hid_ hC
      have HOK := hid_ hok
      unfold Cmd.v at HA
      clear hcell0 hc hci hB0 F hA hB hC hok
      go_wp2_with fail
      refine HA.out.mono ?_
      rintro e w5 ⟨rfl, f5, hA5⟩
      have F5 := HFR.out.trans (f5.mono (K' := (· ≠ 0)) (by simp))
      have hB5 := F5.old
      have hBt := HBB.out.fr f5 (by simp)
      have hCt := HCC.out.fr f5 (by simp)
      have e0 : w5.cell? ⟨b, off + i * 4, none⟩ = _ := grown_cell hB5 (HCELL.out 0 _ rfl)
      have e1 := grown_cell hB5 (HCELL.out 1 _ rfl)
      have e2 := grown_cell hB5 (HCELL.out 2 _ rfl)
      have e3 := grown_cell hB5 (HCELL.out 3 _ rfl)
      simp only at e0 e1 e2 e3
      have HB := hid_ (repApply C 2 tb f d2 ⟨ck, cx, cv, co⟩ HOK.out w5 hBt)
      unfold Cmd.v at HB
      have HF5 := hid_ F5
      have HA5 := hid_ hA5
      have HC5 := hid_ hCt
      clear f5 hA5 F5 hB5 hBt hCt HA HFR HBB HCC
      go_wp2_with fail
      refine HB.out.mono ?_
      rintro e w6 ⟨rfl, f6, hB6⟩
      have HF6 := hid_ (HF5.out.trans (f6.mono (K' := (· ≠ 0)) (by simp)))
      have HA6 := hid_ (HA5.out.fr f6 (by simp))
      have HC6 := hid_ (HC5.out.fr f6 (by simp))
      have HB6 := hid_ hB6
      clear f6 hB6 HF5 HA5 HC5 HB
      obtain ⟨bb, hbb⟩ : ∃ bb, applyB f ⟨ck, cx, cv, co⟩ = bb := ⟨_, rfl⟩
      have q0 : (bb != bb) = false := by simp
      rw [hbb]
      clear hbb
      cases hE : applyE ⟨ck, cx, cv, co⟩ with
      | none =>
        rw [errv_none]
        go_upto_region 9 with fail
        refine gen_world (fun W => Fr (· ≠ 0) (fun _ => 0) C w W ∧ IsTab W C 1 ta (applyF f ⟨ck, cx, cv, co⟩) (applyN d ⟨ck, cx, cv, co⟩) ∧ IsTab W C 2 tb (applyF f ⟨ck, cx, cv, co⟩) (applyN d2 ⟨ck, cx, cv, co⟩) ∧ IsTab W C 3 tc (fun _ => none) 0) ⟨HF6.out, HA6.out, HB6.out, HC6.out⟩ ?_
        rintro W7 ⟨F7, A7, B7, T7⟩
        have HF7 := hid_ F7
        have HA7 := hid_ A7
        have HB7 := hid_ B7
        have HC7 := hid_ T7
        clear F7 A7 B7 T7 HF6 HA6 HB6 HC6 e0 e1 e2 e3
        go_quiet (fail)
        go_wp2
        go_roundw
        case rel =>
          have g := (Fr.refl (fun _ => False) C W7).drewN nq
          exact ⟨i + 1, _, _, _, C, by omega, by go_num, HF7.out.drewN nq, HA7.out.fr g (fun h => h), HB7.out.fr g (fun h => h), HC7.out.fr g (fun h => h)⟩
        case measure => simp [intOf]; omega
      | some n =>
        rw [errv_some]
        go_upto_region 9 with fail
        refine gen_world (fun W => Fr (· ≠ 0) (fun _ => 0) C w W ∧ IsTab W C 1 ta (applyF f ⟨ck, cx, cv, co⟩) (applyN d ⟨ck, cx, cv, co⟩) ∧ IsTab W C 2 tb (applyF f ⟨ck, cx, cv, co⟩) (applyN d2 ⟨ck, cx, cv, co⟩) ∧ IsTab W C 3 tc (fun _ => none) 0) ⟨HF6.out, HA6.out, HB6.out, HC6.out⟩ ?_
        rintro W7 ⟨F7, A7, B7, T7⟩
        have HF7 := hid_ F7
        have HA7 := hid_ A7
        have HB7 := hid_ B7
        have HC7 := hid_ T7
        clear F7 A7 B7 T7 HF6 HA6 HB6 HC6 e0 e1 e2 e3
        go_quiet (fail)
        go_wp2
        go_roundw
        case rel =>
          have g := (Fr.refl (fun _ => False) C W7).drewN nq
          exact ⟨i + 1, _, _, _, C, by omega, by go_num, HF7.out.drewN nq, HA7.out.fr g (fun h => h), HB7.out.fr g (fun h => h), HC7.out.fr g (fun h => h)⟩
        case measure => simp [intOf]; omega
    · have HI := hid_ (repImage C 1 ta f d wr (F.Fin (fin0 w)) hA)
      have HF := hid_ F
      have HA := hid_ hA
      have HB := hid_ hB
      have HC := hid_ hC
      have hrg := hA.rng
      have hvl := hA.val
      have hl8 := keysF_len f
      have HKR := hid_ (fun k (h : k < (keysF f).length) => keysF_rng f h)
      have HKM := hid_ (fun k (h : k < (keysF f).length) => keysF_mem f h)
      have HRA := hid_ (resF_all f hrg)
      have HVL := hid_ hvl
      obtain ⟨ks, hks⟩ : ∃ ks, keysF f = ks := ⟨_, rfl⟩
      rw [hks] at HI HKR HKM HRA hl8
      clear F hA hB hC hrg hvl
      have KEYS := hid_ hks
      clear hks
      rcases hEnd with j1 | ⟨j1, j2⟩
      all_goals
        go_wp2_with fail
        refine HI.out.mono ?_
        rintro e w5 ⟨iv5, rfl, A5, V5⟩
        obtain ⟨ia, ic, rfl, hic, him, -⟩ := id A5
        unfold maxLen at him
        have HA5 := hid_ A5
        have HV5 := hid_ V5
        have HC0 := hid_ (fun b (hb : wr.heap.size ≤ b) => HF.out.Fin (fin0 w) b hb)
        clear A5 V5
        go_wp2_with fail
        go_loopw [12, 13, 14, 61] (fun _ _ _ kv wx => ∃ (k : Nat) (dc : Int), k ≤ ks.length ∧ kv = .int .i64 k ∧ Fr (· = 3) C C wr wx ∧ CmdsAt wx wr.heap.size (.slice ia ks.length ic) f ks ∧ IsTab wx C 3 tc (resF f ks k) dc) (fun _ _ _ kv _ => ks.length - (intOf kv).toNat)
        case atStart => exact ⟨0, 0, Nat.zero_le _, rfl, Fr.of_below HV5.out _, HA5.out, by rw [resF_zero]; exact HC.out.fr (Fr.of_below (C := C) HV5.out (fun _ => False)) (fun h => h)⟩
        case round =>
          obtain ⟨k, dc, hk, rfl, G, A, T⟩ := hrel
          have i0 : (0 : Int) ≤ (k : Int) := Int.natCast_nonneg _
          by_cases hkl : k < ks.length
          · have i1 : (k : Int) < (ks.length : Int) := by omega
            obtain ⟨a', c', hv', -, -, hcl⟩ := id A
            injection hv' with e1 e2 e3
            subst e1
            clear e2 e3
            obtain ⟨bq, oq, rfl, -, hcl⟩ := hcl (by omega)
            obtain ⟨r0, r1⟩ := HKR.out k hkl
            have hm := HKM.out k hkl
            have hstep := resF_step f ks k hkl hm ⟨r0, r1⟩
            obtain ⟨x, hx⟩ : ∃ x, ks.getD k 0 = x := ⟨_, rfl⟩
            obtain ⟨v0, v1⟩ := HVL.out x
            rw [hx] at r0 r1 hm hstep
            obtain ⟨y, hy⟩ : ∃ y, (f x).getD 0 = y := ⟨_, rfl⟩
            have hset : setC f (ks.getD k 0) = [.int .u8 1, .int .u8 x, .int .u16 y, .int .u16 0] := by unfold setC; rw [hx, hy]
            rw [hy] at v0 v1 hstep
            have x0 : wr.cell? ⟨bq, oq + k * 4, none⟩ = _ := hcl k 0 _ hkl (by rw [hset]; rfl)
            have x1 := hcl k 1 _ hkl (by rw [hset]; rfl)
            have x2 := hcl k 2 _ hkl (by rw [hset]; rfl)
            have x3 := hcl k 3 _ hkl (by rw [hset]; rfl)
            have hok : (⟨1, x, y, 0⟩ : Cmd).ok := ⟨⟨show (0 : Int) ≤ 1 by omega, show (1 : Int) < 256 by omega⟩, ⟨r0, by show x < 256; omega⟩, ⟨v0, v1⟩, ⟨show (0 : Int) ≤ 0 by omega, show (0 : Int) < 65536 by omega⟩⟩
            have hE : applyE ⟨1, x, y, 0⟩ = none := by unfold applyE; simp; omega
            have ga := (Fr.refl (fun _ => False) C wr).alloc (.cells #[.int .u8 1, .int .u8 x, .int .u16 y, .int .u16 0] 29)
            have HAP := hid_ (repApply C 3 tc (resF f ks k) dc ⟨1, x, y, 0⟩ hok _ (T.fr ga (fun h => h)))
            rw [hE] at HAP
            unfold Cmd.v at HAP
            have HG := hid_ (G.trans (ga.mono (K' := (· = 3)) (fun _ h => h.elim)))
            have HAA := hid_ (A.fr ga (fun h => h) HC0.out)
            have HST := hid_ hstep
            clear A T G hcl hset hE hstep hm hx hy
            go_wp2_with fail
            refine HAP.out.mono ?_
            rintro e w7 ⟨rfl, f7, T7⟩
            rw [errv_none]
            have HG7 := hid_ (HG.out.trans f7)
            have HA7 := hid_ (HAA.out.fr f7 (by omega) HC0.out)
            have HT7 := hid_ T7
            clear f7 T7
            go_wp2
            go_roundw
            case rel => exact ⟨k + 1, _, by omega, by go_num, HG7.out, HA7.out, by rw [← HST.out]; exact HT7.out⟩
            case measure => simp [intOf]; omega
          · obtain rfl : k = ks.length := by omega
            have T' : IsTab wr C 3 tc f dc := by
              have h := T
              rw [HRA.out] at h
              exact h
            have g3 := Fr.trans (K := (· ≠ 0)) HF.out (G.mono (K' := (· ≠ 0)) (fun _ h => by omega))
            have g3f := g3.Fin (fin0 w)
            have HIa := hid_ (fun (W : World) (g : Below wr.heap.size wr W) => repImage C 1 ta f d W ((Fr.of_below (C := C) g (fun _ => False)).Fin g3f) ((HA.out.fr G (by omega)).fr (Fr.of_below (C := C) g (fun _ => False)) (fun h => h)))
            have HIb := hid_ (fun (W : World) (g : Below wr.heap.size wr W) => repImage C 2 tb f d2 W ((Fr.of_below (C := C) g (fun _ => False)).Fin g3f) ((HB.out.fr G (by omega)).fr (Fr.of_below (C := C) g (fun _ => False)) (fun h => h)))
            have HIc := hid_ (fun (W : World) (g : Below wr.heap.size wr W) => repImage C 3 tc f dc W ((Fr.of_below (C := C) g (fun _ => False)).Fin g3f) (T'.fr (Fr.of_below (C := C) g (fun _ => False)) (fun h => h)))
            have HOLD := hid_ g3.old
            clear T' g3 g3f T A G
            go_wp2_with fail
            refine (HIa.out _ (Below.refl _ _)).mono ?_
            rintro e w7 ⟨va7, rfl, A7, V7⟩
            have HV7 := hid_ V7
            have HA7 := hid_ A7
            clear A7 V7
            go_wp2_with fail
            refine (HIb.out _ HV7.out).mono ?_
            rintro e w8 ⟨vb8, rfl, A8, V8⟩
            have HV8 := hid_ (below_then HV7.out V8)
            have HS8 := hid_ (sameCmds _ _ f _ w8 (HA7.out.grown V8) A8)
            clear A8 V8
            go_wp2_with fail
            refine HS8.out.mono ?_
            rintro e w9 ⟨rfl, V9⟩
            have HV9 := hid_ (below_then HV8.out V9)
            clear V9
            go_wp2_with fail
            refine (HIa.out _ HV9.out).mono ?_
            rintro e w10 ⟨va10, rfl, A10, V10⟩
            have HV10 := hid_ (below_then HV9.out V10)
            have HA10 := hid_ A10
            clear A10 V10
            go_wp2_with fail
            refine (HIc.out _ HV10.out).mono ?_
            rintro e w11 ⟨vb11, rfl, A11, V11⟩
            have HV11 := hid_ (below_then HV10.out V11)
            have HS11 := hid_ (sameCmds _ _ f _ w11 (HA10.out.grown V11) A11)
            clear A11 V11
            go_wp2_with fail
            refine HS11.out.mono ?_
            rintro e w12 ⟨rfl, V12⟩
            have HEND := hid_ (below_then HOLD.out (below_then HV11.out V12))
            clear V12
            go_wp2
            go_ret
            exact ⟨rfl, HEND.out⟩
end Go.Proofs.Ytomcjmgbkpbdpaa
