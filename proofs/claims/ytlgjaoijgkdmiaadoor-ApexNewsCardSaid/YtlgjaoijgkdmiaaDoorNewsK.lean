/- A nil partition, and New of a partition that isn't there. No condition. · ApexNews' walk. No condition. -/
import Derived.Test.YtlgjaoijgkdmiaaDoorAwkW
import Derived.Test.YtlgjaoijgkdmiaaDoorNewK
set_option linter.unusedSimpArgs false
set_option linter.unusedVariables false
namespace Go.Proofs.YtlgjaoijgkdmiaaDoor
open Go.RowKit Go.Maps

set_option maxRecDepth 100000 in
theorem run_nil (a b m cb : Option Addr) (opv : Value) (w : World) :
    Calls Tryd.prog 12 #[.pointer none, .agg #[.pointer a, .pointer b, .pointer m, .pointer cb], .int .u32 0, opv] w fun e w' => e = .returned (.tuple #[.slice none 0 0, .int .u8 0, .int .i64 0]) ∧ Below w.heap.size w w' := by
  go_enter Tryd.func12, Tryd.ntmps12
  go_wp2
  go_ret3
  exact ⟨rfl, (Below.refl _ _).alloc (Nat.le_refl _) _⟩
theorem clear_nil (w : World) : Calls Tryd.prog 18 #[.pointer none] w fun e w' => e = .returned (.tuple #[]) ∧ w = w' := by
  go_enter Tryd.func18, Tryd.ntmps18
  go_wp2
  go_end0
  exact ⟨rfl, rfl⟩
theorem memory_nil (w : World) : Calls Tryd.prog 17 #[.pointer none] w fun e w' => e = .returned (.slice none 0 0) ∧ w = w' := by
  go_enter Tryd.func17, Tryd.ntmps17
  go_wp2
  go_ret
  exact ⟨rfl, rfl⟩
set_option maxRecDepth 100000 in
theorem apxNew_bad (c : Cfg) (pv qv rv : Value) (C : Nat → Nat) (i : Int) (hi : i < 0 ∨ (c.parts.length : Int) ≤ i) (w : World) (hl : Lists w C c pv qv rv) :
    Calls Tryd.prog 11 #[c.v pv qv rv, .int .i64 i] w fun e w' => e = .returned (.tuple #[.pointer none, .iface 53 (.int .i64 2)]) ∧ Below w.heap.size w w' := by
  obtain ⟨pa, pc, rfl, hpc, hpm, -⟩ := id hl.parts
  unfold maxLen at hpm
  unfold Cfg.v
  clear hl
  rcases (by omega : i < 0 ∨ (¬ i < 0 ∧ (c.parts.length : Int) ≤ i)) with h | ⟨h, h2⟩
  all_goals
    go_enter Tryd.func11, Tryd.ntmps11
    go_wp2
    go_ret2
    exact ⟨rfl, (Below.refl _ _).alloc (Nat.le_refl _) _⟩
end Go.Proofs.YtlgjaoijgkdmiaaDoor
namespace Go.Proofs.YtlgjaoijgkdmiaaDoor
open Go.RowKit Go.Maps

theorem read_two16 (w : World) : Calls Tryd.prog 21 #[.iface 53 (.int .i64 2)] w fun x w' => x = .returned (.string ⟨(num 2).toArray⟩) ∧ Below w.heap.size w w' := by
  refine (read_any (fun _ => 0) (.iface 53 (.int .i64 2)) [(2, none)] w ⟨rfl, rfl⟩ ⟨by simp, by simp⟩).mono ?_
  rintro e w' ⟨rfl, h⟩
  exact ⟨rfl, h⟩
set_option maxRecDepth 100000 in
set_option maxHeartbeats 8000000 in
theorem news_walk (c : Cfg) (hok : c.ok) (pv qv rv : Value) (part : Int) (w : World) (hT : ErrT w) (hl : Lists w (fun _ => 0) c pv qv rv) :
    Calls Tryd.prog 7 #[c.v pv qv rv, .int .i64 part] w fun e w' => e = .returned (.bool true) ∧ Below w.heap.size w w' := by
  have HT := hid_ hT
  have HL := hid_ hl
  have HOK := hid_ hok
  have b0 : Below w.heap.size w (w.alloc (.cells (c.cells pv qv rv).toArray 28)) := (Below.refl _ _).alloc (Nat.le_refl _) _
  have k0 := Bk.new w 28 (c.cells pv qv rv)
  have HB0 := hid_ b0
  have HK0 := hid_ k0
  clear hT hl hok b0 k0
  unfold Cfg.v
  go_enter Tryd.func7, Tryd.ntmps7
  go_upto_region 1 with fail
  refine gen_world (fun W => Below w.heap.size w W ∧ Bk W w.heap.size 28 (c.cells pv qv rv)) ⟨HB0.out, HK0.out⟩ ?_
  rintro W0 ⟨V0, K0⟩
  have HV0 := hid_ V0
  have HKK := hid_ K0
  clear V0 K0 HB0 HK0
  go_wp2_with fail
  refine (awake16 W0 (HT.out.below HV0.out)).mono ?_
  rintro e w1 ⟨rfl, V1⟩
  have HV1 := hid_ (below_then HV0.out V1)
  have HK1 := hid_ (HKK.out.same (V1.block _ HKK.out.lt))
  clear V1 HV0 HKK
  go_wp2_with fail
  refine (run_nil _ _ _ _ _ _).mono ?_
  rintro e w2 ⟨rfl, V2⟩
  have V2' : Below w1.heap.size w1 w2 := below_then ((Below.refl _ _).alloc (Nat.le_refl _) _) V2
  have HV2 := hid_ (below_then HV1.out V2')
  have HK2 := hid_ (HK1.out.same (V2'.block _ HK1.out.lt))
  clear V2 V2' HV1 HK1
  go_wp2_with fail
  refine (clear_nil w2).mono ?_
  rintro e w3 ⟨rfl, rfl⟩
  go_wp2_with fail
  refine (memory_nil w2).mono ?_
  rintro e w3 ⟨rfl, rfl⟩
  have dc := HK2.out.cfg0
  go_wp2_with fail
  have hl2 : Lists w2 (fun _ => 0) c pv qv rv := HL.out.fr (Fr.of_below HV2.out (fun _ => False)) (fun h => h)
  have hWK := law6Works c HOK.out (fun _ => 0) pv qv rv w2 hl2 (fun _ _ => rfl)
  cases hs : sndE c with
  | some x =>
    rw [hs] at hWK
    refine hWK.mono ?_
    rintro e w3 ⟨rfl, V3⟩
    have HE := hid_ (below_then HV2.out V3)
    clear hs hWK hl2 V3 dc
    rw [show (some x : Option (Int × Int)).isNone = false from rfl]
    go_wp2
    go_ret
    exact ⟨rfl, HE.out⟩
  | none =>
    rw [hs] at hWK
    have hg := sndE_good hs
    have HG := hid_ hg
    refine hWK.mono ?_
    rintro e w3 ⟨rfl, V3⟩
    have HV3 := hid_ (below_then HV2.out V3)
    have HK3 := hid_ (HK2.out.same (V3.block _ HK2.out.lt))
    have HL3 := hid_ (hl2.fr (Fr.of_below V3 (fun _ => False)) (fun h => h))
    clear hs hWK hl2 V3 dc hg HV2 HK2
    rw [show (none : Option (Int × Int)).isNone = true from rfl]
    have dc := HK3.out.cfg0
    go_wp2_with fail
    refine (refCopied c (fun _ => 0) pv qv rv w3 HL3.out (fun _ _ => rfl) (longB_false HG.out)).mono ?_
    rintro e w4 ⟨pv4, qv4, rv4, rfl, V4, L4⟩
    have HV34 := hid_ V4
    have HV4 := hid_ (below_then HV3.out V4)
    have HK4 := hid_ (HK3.out.same (V4.block _ HK3.out.lt))
    have HL4 := hid_ L4
    clear V4 L4 dc HV3 HK3
    unfold Cfg.v
    by_cases hr : part < 0 ∨ (c.parts.length : Int) ≤ part
    · have HB := hid_ (apxNew_bad c pv4 qv4 rv4 (fun _ => 0) part hr w4 HL4.out)
      go_wp2_with fail
      refine HB.out.mono ?_
      rintro e w5 ⟨rfl, V5⟩
      have HV5 := hid_ (below_then HV4.out V5)
      have HK5 := hid_ (HK4.out.same (V5.block _ HK4.out.lt))
      have d8 := HK5.out.cell_ 8 rfl
      obtain ⟨pa, pc, rfl, hpc, hpm, -⟩ := id HL3.out.parts
      unfold maxLen at hpm
      obtain ⟨s2, hs2⟩ : ∃ s, (num 2) = s := ⟨_, rfl⟩
      have HR2 := hid_ (read_two16 w5)
      have HE2 := hid_ (fun W => refE_any 2 (by omega) (by omega) W)
      rw [hs2] at HR2 HE2
      clear V5 hs2
      rcases (by omega : part < 0 ∨ (¬ part < 0 ∧ (c.parts.length : Int) ≤ part)) with h | ⟨h, h2⟩
      all_goals
        clear hr
        go_wp2_with fail
        refine HR2.out.mono ?_
        rintro e w6 ⟨rfl, V6⟩
        go_wp2_with fail
        refine (HE2.out w6).mono ?_
        rintro e w7 ⟨rfl, V7⟩
        have HEND := hid_ (below_then HV5.out (below_then V6 V7))
        clear V6 V7
        go_wp2
        go_ret
        exact ⟨by first | rfl | simp, HEND.out⟩
    · obtain ⟨i, rfl⟩ := Int.eq_ofNat_of_zero_le (show 0 ≤ part by omega)
      have hi : i < c.parts.length := by omega
      have hw := part_words HG.out hi
      have HN := hid_ (apxNew c (fun _ => 0) 330 (by decide) pv4 qv4 rv4 i hi ⟨hw.1, hw.2.1⟩ w4 HL4.out (fun _ _ => rfl))
      go_wp2_with fail
      refine HN.out.mono ?_
      rintro e w5 ⟨pb, xb, C5, rfl, hpb, F5, A5⟩
      have V5 : Below w4.heap.size w4 w5 := F5.below (fun _ _ h => h)
      have HV5 := hid_ (below_then HV4.out V5)
      have HK5 := hid_ (HK4.out.same (V5.block _ HK4.out.lt))
      have HL5 := hid_ (HL3.out.fr (Fr.of_below (below_then (w' := w4) (show Below w3.heap.size w3 w4 from HV34.out) V5) (fun _ => False)) (fun h => h))
      have HF5 := hid_ (F5.Fin (fun _ _ => rfl))
      have d8 := HK5.out.cell_ 8 rfl
      obtain ⟨pa, pc, rfl, hpc, hpm, -⟩ := id HL5.out.parts
      unfold maxLen at hpm
      obtain ⟨tb, tf, rfl, -, hrow⟩ := (show Rd w5 (fun _ => 0) (.slice pa c.parts.length pc) 9 c.parts.length (c.parts.flatMap Part.cells) from HL5.out.parts).row (fun _ => rfl) hi
      have e4 := hrow 4 _ rfl
      obtain ⟨n, hn⟩ : ∃ n : Nat, (c.part i).words = (n : Int) := ⟨(c.part i).words.toNat, by omega⟩
      rw [show (c.parts.getD i default).words = (c.part i).words from rfl, hn] at e4
      have hn16 : n ≤ 16 := by omega
      have hmk := make_u16 n hn16
      have hmem : (List.replicate (c.part i).words.toNat (0 : Int)) = List.replicate n 0 := by rw [hn]; rfl
      rw [hmem] at A5
      have HA5 := hid_ A5
      have j0 : (0 : Int) ≤ (i : Int) := Int.natCast_nonneg _
      have j1 : (i : Int) < (c.parts.length : Int) := by omega
      have g1 : decide (c.parts.length ≤ i) = false := by simpa using hi
      clear F5 A5 V5 hr hw hn hmem hrow hpb HN
      go_upto_region 13 with fail
      have fd := (Fr.refl (fun _ => False) C5 w5).drew
      have HBK := hid_ (fun (W : World) (c6 : Nat) => (show WordsAt (W.alloc (.cells (u16s (List.replicate n 0)).toArray 63)) (.slice (some ⟨W.heap.size, 0, none⟩) n n) (List.replicate n 0) from ⟨_, n, by rw [List.length_replicate], by simp, by unfold maxLen; omega, fun hn => ⟨_, _, rfl, fun k hk => (Bk.new W 63 (u16s (List.replicate n 0))).cell_ _ (by unfold u16s; rw [Nat.zero_add, List.getElem?_map, List.getElem?_eq_getElem hk]; rfl)⟩⟩))
      go_region_with (first
        | ((refine (apxMemory C5 330 pb xb c _ _ _ i (List.replicate n 0) _ ((show Fr (fun _ => False) C5 C5 w5 _ from by first | exact fd | exact fd.alloc _).Fin HF5.out) (HA5.out.fr (K := fun _ => False) (C' := C5) (by first | exact fd | exact fd.alloc _) ⟨fun h => h, fun h => h⟩) (by simp; omega)).mono ?_); rintro e w6 ⟨b6, o6, c6, rfl, V6, hb6, R6⟩
           rw [List.length_replicate] at R6 ⊢
           have X6 := hid_ V6
           have e46 := grown_cell V6 (by first | exact e4 | exact cell_alloc_keep _ e4)
           have d86 := grown_cell V6 (by first | exact d8 | exact cell_alloc_keep _ d8)
           have W6 : WordsAt w6 (.slice (some ⟨b6, o6, none⟩) n c6) (List.replicate n 0) := by
             have := wordsAt_of_rd (l := List.replicate n 0) (by rw [List.length_replicate]; exact R6.rd (C := fun _ => 0) rfl)
             exact this)
        | ((refine (sameWords _ _ (List.replicate n 0) (List.replicate n 0) _ (by first | exact W6 | exact W6.grown ((Below.refl _ _).alloc (Nat.le_refl _) _)) (by first | exact HBK.out _ 0 | exact (HBK.out w5.drew 0).grown X6.out | exact (HBK.out w5 0).grown X6.out)).mono ?_); rintro e w7 ⟨rfl, V7⟩))
      all_goals
        have h6 : Below w5.heap.size w5 w6 := by first | exact below_then (Below.refl _ w5).drew X6.out | exact below_then ((Below.refl _ w5).drew.alloc (Nat.le_refl _) _) X6.out
        have h7 : Below w6.heap.size w6 w7 := by first | exact V7 | exact below_then ((Below.refl _ w6).alloc (Nat.le_refl _) _) V7
        have HEND := hid_ (below_then HV5.out (below_then h6 h7))
        go_wp2_with fail
        go_simp
        go_ret
        exact ⟨by simp, HEND.out⟩
end Go.Proofs.YtlgjaoijgkdmiaaDoor
