/- PaceLies: for every table, node, rate, delays and lies the law returns true, and leaves memory as it was. No condition. -/
import Derived.Test.YtnmhfdkmiblknaaLieP
import Derived.BigQuiet
import Derived.Deep.QuietTactic
set_option linter.unusedSimpArgs false
set_option linter.unusedVariables false
namespace Go.Proofs.Ytnmhfdkmiblknaa
open Go.RowKit Go.Maps

/-- The loop's relation, in plain words. -/
structure LieR (s f n : Nat) (i q : Nat) (lo hi : Int) (devs : List Int) (has : List Bool) : Prop where
  ld : devs.length = n
  lh : has.length = n
  hq : q ≤ f
  hlo : -2000000000000 ≤ lo ∧ lo ≤ 0
  hhi : 0 ≤ hi ∧ hi ≤ 2000000000000
  out : devs.countP (outB lo hi) ≤ q
  new : ∀ j, i ≤ j → devs.getD j 0 = 0 ∧ has.getD j false = false
  z : ∀ x ∈ devs, -2000000000000 ≤ x ∧ x ≤ 2000000000000
theorem snd_faulty {c : Cfg} (h : sndE c = none) : 3 * c.faulty + 1 ≤ c.nodes := by
  rcases Int.lt_or_le c.nodes (3 * c.faulty + 1) with h1 | h1
  · exfalso
    unfold sndE at h
    cases ht : tabE c with
    | some x => rw [if_pos (by rw [ht]; rfl), ht] at h; cases h
    | none => rw [if_neg (by rw [ht]; simp), if_pos h1] at h; cases h
  · exact h1
theorem getD_set_ne {α : Type} (l : List α) {i j : Nat} (x d : α) (h : i ≠ j) : (l.set i x).getD j d = l.getD j d := by
  rw [List.getD_eq_getElem?_getD, List.getD_eq_getElem?_getD, List.getElem?_set_ne h]
theorem LieR.skip {s f n i q : Nat} {lo hi : Int} {devs : List Int} {has : List Bool} (h : LieR s f n i q lo hi devs has) : LieR s f n (i + 1) q lo hi devs has :=
  ⟨h.ld, h.lh, h.hq, h.hlo, h.hhi, h.out, fun j hj => h.new j (by omega), h.z⟩
theorem LieR.lie {s f n i q : Nat} {lo hi : Int} {devs : List Int} {has : List Bool} (h : LieR s f n i q lo hi devs has) (hq : q < f) (d : Int) (hd : -2000000000000 ≤ d ∧ d ≤ 2000000000000) : LieR s f n (i + 1) (q + 1) lo hi (devs.set i d) (has.set i true) :=
  ⟨by rw [List.length_set]; exact h.ld, by rw [List.length_set]; exact h.lh, by omega, h.hlo, h.hhi, Nat.le_trans (count_set_any _ _ _ _ _) (by have := h.out; omega),
    fun j hj => by rw [getD_set_ne _ _ _ (by omega), getD_set_ne _ _ _ (by omega)]; exact h.new j (by omega),
    fun x hx => by rcases List.mem_or_eq_of_mem_set hx with h1 | h1; exact h.z x h1; rw [h1]; exact hd⟩
theorem LieR.good {s f n i q : Nat} {lo hi : Int} {devs : List Int} {has : List Bool} (h : LieR s f n i q lo hi devs has) (d : Int) (hd : -2000000000000 ≤ d ∧ d ≤ 2000000000000) (lo' hi' : Int) (hlo : lo' = if lo ≤ d then lo else d) (hhi : hi' = if hi ≤ d then d else hi) : LieR s f n (i + 1) q lo' hi' (devs.set i d) (has.set i true) := by
  have h1 : lo' ≤ lo ∧ lo' ≤ d := by rw [hlo]; split <;> omega
  have h2 : hi ≤ hi' ∧ d ≤ hi' := by rw [hhi]; split <;> omega
  have := h.hlo
  have := h.hhi
  exact ⟨by rw [List.length_set]; exact h.ld, by rw [List.length_set]; exact h.lh, h.hq, by rw [hlo]; split <;> omega, by rw [hhi]; split <;> omega,
    Nat.le_trans (count_set_in _ _ _ _ _ ⟨h1.2, h2.2⟩) (Nat.le_trans (count_wide _ lo hi lo' hi' h1.1 h2.1) h.out),
    fun j hj => by rw [getD_set_ne _ _ _ (by omega), getD_set_ne _ _ _ (by omega)]; exact h.new j (by omega),
    fun x hx => by rcases List.mem_or_eq_of_mem_set hx with h1 | h1; exact h.z x h1; rw [h1]; exact hd⟩
theorem LieR.start (s f n : Nat) : LieR s f n 0 0 0 0 (List.replicate n 0) (List.replicate n false) := by
  refine ⟨by simp, by simp, Nat.zero_le _, by omega, by omega, ?_, fun j _ => ?_, fun x hx => ?_⟩
  · rw [List.countP_replicate, if_neg (by unfold outB; simp)]
    exact Nat.le_refl _
  · constructor
    · rw [List.getD_eq_getElem?_getD, List.getElem?_replicate]; split <;> rfl
    · rw [List.getD_eq_getElem?_getD, List.getElem?_replicate]; split <;> rfl
  · rw [List.mem_replicate] at hx; omega
theorem rem_u64 (x : Int) (n : Nat) (h0 : 0 < n) (h9 : n ≤ 7) : ∃ s : Nat, s < n ∧ (IntKind.u64.wrap x).tmod (n : Int) = (s : Int) := by
  have h1 : 0 ≤ IntKind.u64.wrap x := by simp [IntKind.wrap, IntKind.signed, IntKind.bits]; omega
  rw [Int.tmod_eq_emod_of_nonneg h1]
  have h2 := Int.emod_nonneg (IntKind.u64.wrap x) (show (n : Int) ≠ 0 by omega)
  have h3 := Int.emod_lt_of_pos (IntKind.u64.wrap x) (show (0 : Int) < n by omega)
  exact ⟨((IntKind.u64.wrap x) % (n : Int)).toNat, by omega, by omega⟩
theorem me_ok (s n : Nat) (h : s < n) : ¬ (s : Int) < -1 ∧ ¬ (n : Int) ≤ (s : Int) := by omega
theorem clk_ok (r : Int) (h : -200 ≤ r ∧ r ≤ 200) : ¬ clkBad 1000 r := by unfold clkBad; omega
theorem u64_small (n : Nat) (h : n ≤ 7) : IntKind.u64.wrap (n : Int) = (n : Int) := by
  rcases (by omega : n = 0 ∨ n = 1 ∨ n = 2 ∨ n = 3 ∨ n = 4 ∨ n = 5 ∨ n = 6 ∨ n = 7) with rfl | rfl | rfl | rfl | rfl | rfl | rfl | rfl <;> decide
theorem tmod_rng (x m : Int) (h : 0 < m) : -m < x.tmod m ∧ x.tmod m < m := ⟨Int.lt_tmod_of_pos x h, Int.tmod_lt_of_pos x h⟩

set_option maxRecDepth 100000 in
set_option maxHeartbeats 16000000 in
theorem lies_walk (c : Cfg) (hok : c.ok) (pv qv rv : Value) (self rate : Int) (offs lies : List Int) (ofv liv : Value) (w : World) (hl : Lists w (fun _ => 0) c pv qv rv) (hof : IsInts w (fun _ => 0) ofv offs) (hli : IsInts w (fun _ => 0) liv lies) :
    Calls Try.prog 5 #[c.v pv qv rv, .int .i64 self, .int .i64 rate, ofv, liv] w fun e w' => e = .returned (.bool true) ∧ Below w.heap.size w w' := by
  obtain ⟨oa, oc, rfl, hoc, hom⟩ := id hof.form
  obtain ⟨la, lc, rfl, hlc, hlm⟩ := id hli.form
  unfold maxLen at hom hlm
  have HL := hid_ hl
  have HOF := hid_ hof
  have HLI := hid_ hli
  have HOK := hid_ hok
  have b0 : Below w.heap.size w (w.alloc (.cells (c.cells pv qv rv).toArray 26)) := (Below.refl _ _).alloc (Nat.le_refl _) _
  have k0 := Bk.new w 26 (c.cells pv qv rv)
  have HB0 := hid_ b0
  have HK0 := hid_ k0
  clear hl hof hli hok b0 k0
  unfold Cfg.v
  go_enter Try.func5, Try.ntmps5
  go_upto_region 1 with fail
  refine gen_world (fun W => Below w.heap.size w W ∧ Bk W w.heap.size 26 (c.cells pv qv rv)) ⟨HB0.out, HK0.out⟩ ?_
  rintro W0 ⟨V0, K0⟩
  have HV0 := hid_ V0
  have HKK := hid_ K0
  clear V0 K0 HB0 HK0
  go_wp2_with fail
  refine (awake11 W0).mono ?_
  rintro e w1 ⟨rfl, V1⟩
  have HV1 := hid_ (below_then HV0.out V1)
  have HK1 := hid_ (HKK.out.same (V1.block _ HKK.out.lt))
  have dc := HK1.out.cfg0
  have hl1 : Lists w1 (fun _ => 0) c pv qv rv := HL.out.fr (Fr.of_below HV1.out (fun _ => False)) (fun h => h)
  have hWK := law6Works c HOK.out (fun _ => 0) pv qv rv w1 hl1 (fun _ _ => rfl)
  clear V1 HKK HV0
  go_wp2_with fail
  cases hs : sndE c with
  | some x =>
    rw [hs] at hWK
    refine hWK.mono ?_
    rintro e w3 ⟨rfl, V3⟩
    have HE := hid_ (below_then HV1.out V3)
    clear hs hWK hl1 V3 dc
    rw [show (some x : Option (Int × Int)).isNone = false from rfl]
    go_wp2
    go_ret
    exact ⟨rfl, HE.out⟩
  | none =>
    rw [hs] at hWK
    have hg := sndE_good hs
    have HG := hid_ hg
    have HSN := hid_ hs
    have hfn := snd_faulty hs
    refine hWK.mono ?_
    rintro e w3 ⟨rfl, V3⟩
    have HV3 := hid_ (below_then HV1.out V3)
    have HK3 := hid_ (HK1.out.same (V3.block _ HK1.out.lt))
    have HL3 := hid_ (hl1.fr (Fr.of_below V3 (fun _ => False)) (fun h => h))
    have n0 := hg.rg.n0
    have n1 := hg.rg.n1
    have f0 := hg.rg.f0
    obtain ⟨n, hn⟩ := Int.eq_ofNat_of_zero_le (show 0 ≤ c.nodes by omega)
    obtain ⟨f, hf⟩ := Int.eq_ofNat_of_zero_le f0
    obtain ⟨s, hsn, hsr⟩ := rem_u64 self n (by omega) (by omega)
    obtain ⟨r, hr⟩ : ∃ r, rate.tmod 201 = r := ⟨_, rfl⟩
    have hrr := tmod_rng rate 201 (by omega)
    rw [hr] at hrr
    have HRR := hid_ (show -200 ≤ r ∧ r ≤ 200 by omega)
    have HN := hid_ hn
    have HF := hid_ hf
    have d3 := HK3.out.cfg0
    rw [hn, hf] at d3
    have dc := d3
    clear d3
    have hn7 : n ≤ 7 := by omega
    have hn0 : 0 < n := by omega
    have HFN := hid_ (show 2 * f < n by omega)
    have HNW := hid_ (paceNew (fun _ => 0) 600 c HOK.out pv qv rv (s : Int) false 1000 r n HSN.out HG.out hn (by rw [hn]; exact me_ok s n hsn) (clk_ok r HRR.out) w3 HL3.out (fun _ _ => rfl))
    have a1 := u64_small n hn7
    have a2 : ((n : Int) == 0) = false := by simp; omega
    have a3 := u64_small s (by omega)
    have a4 : IntKind.i64.wrap (s : Int) = (s : Int) := IntWalk.i64_in _ (by omega)
    have a5 : wrap64 (s : Int) = (s : Int) := by unfold wrap64; omega
    have a6 : IntKind.i64.wrap r = r := IntWalk.i64_in _ (by omega)
    have a7 : wrap64 r = r := by unfold wrap64; omega
    have a8 : ¬ (n : Int) = 0 := by omega
    unfold Cfg.v at HNW
    rw [hn, hf] at HNW
    clear hs hWK hl1 V3 HV1 HK1 hn hf f0 n0 n1 hg hfn hrr
    go_wp2_with fail
    refine HNW.out.mono ?_
    rintro e w4 ⟨pb, kb, db, hb, C4, rfl, F4, P4⟩
    have HF4 := hid_ ((Fr.of_below (C := fun _ => 0) HV3.out (fun _ => False)).trans F4)
    have HK4 := hid_ (show Bk w4 w.heap.size 26 (c.cells pv qv rv) ∧ C4 w.heap.size = 0 from ⟨HK3.out.fr F4 (fun h => h), (F4.block _ HK3.out.lt (fun h => h)).2⟩)
    have HP4 := hid_ P4
    have dc := HK4.out.1.cfg0
    rw [HN.out, HF.out] at dc
    clear F4 P4 HNW HK3 HL3 HV3 a1 a2 a3 a4 a5 a6 a7 a8 hsr hr
    go_wp2_with fail
    go_loopw [13, 14, 15, 16, 17, 18, 19] (fun lov hiv qlv iv _ _ _ wr => ∃ (i q : Nat) (lo hi : Int) (devs : List Int) (has : List Bool), i ≤ n ∧ lov = .int .i64 lo ∧ hiv = .int .i64 hi ∧ qlv = .int .i64 q ∧ iv = .int .i64 i ∧ LieR s f n i q lo hi devs has ∧ Fr (· = 600) C4 C4 w4 wr ∧ IsPace wr C4 600 pb kb db hb c pv qv rv (s : Int) false 1000 r devs has) (fun _ _ _ iv _ _ _ _ => n - (intOf iv).toNat)
    case atStart => exact ⟨0, 0, 0, 0, _, _, Nat.zero_le _, rfl, rfl, rfl, rfl, LieR.start s f n, Fr.refl _ _ _, HP4.out⟩
    case round =>
      obtain ⟨i, q, lo, hi, devs, has, hin, rfl, rfl, rfl, rfl, R, F, P⟩ := hrel
      have KB : Bk wr w.heap.size 26 (c.cells pv qv rv) := HK4.out.1.fr F (by rw [HK4.out.2]; decide)
      have T : Fr (· = 600) (fun _ => 0) C4 w wr := (HF4.out.mono (K' := (· = 600)) (fun _ h => h.elim)).trans F
      have j0 : (0 : Int) ≤ (i : Int) := Int.natCast_nonneg _
      have dc := KB.cfg0
      rw [HN.out, HF.out] at dc
      have HR := hid_ R
      have HFR := hid_ F
      have HP := hid_ P
      have HKB := hid_ KB
      have HTT := hid_ T
      clear R F P KB T HP4
      by_cases hlt : i < n
      · have j1 : (i : Int) < (n : Int) := by omega
        by_cases hsi : i = s
        · have sb : ((i : Int) == (s : Int)) = true := by simp; omega
          clear hsi
          go_wp2
          go_roundw
          case rel => exact ⟨i + 1, q, lo, hi, devs, has, by omega, rfl, rfl, rfl, by go_num, HR.out.skip, HFR.out, HP.out⟩
          case measure => simp [intOf]; omega
        · have sb : ((i : Int) == (s : Int)) = false := by simp; omega
          have HSI := hid_ hsi
          have i7 : (i : Int) ≤ 7 := by omega
          clear hsi
          by_cases ho : i < offs.length
          · have jo : (i : Int) < (offs.length : Int) := by omega
            obtain ⟨bo, oo, rfl, hco⟩ := (HOF.out.fr HTT.out (by decide)).at ho
            have xo := hco i ho
            clear hco
            obtain ⟨ov, hov⟩ : ∃ x, (offs.getD i 0).tmod 100000 = x := ⟨_, rfl⟩
            have hor := tmod_rng (offs.getD i 0) 100000 (by omega)
            rw [hov] at hor
            obtain ⟨xx, hxx⟩ : ∃ x, offs.getD i 0 = x := ⟨_, rfl⟩
            rw [hxx] at xo hov
            obtain ⟨o0, o1⟩ := hor
            have q1 : wrap64 ov = ov := by unfold wrap64; omega
            have q2 : IntKind.i64.wrap ov = ov := IntWalk.i64_in _ (by omega)
            clear hxx
            go_upto_region 17 with fail
            clear hov xo q1 q2
            obtain ⟨sv, hsv⟩ : ∃ v, c.send (i : Int) = v := ⟨_, rfl⟩
            obtain ⟨mv, hmv⟩ : ∃ v, c.mean = v := ⟨_, rfl⟩
            have hs1 := send_rng HG.out.rg (i : Int) ⟨j0, i7⟩
            have hm1 := mean_rng HG.out.rg
            rw [hsv] at hs1
            rw [hmv] at hm1
            obtain ⟨s0, s1⟩ := hs1
            obtain ⟨m0, m1⟩ := hm1
            obtain ⟨A, hA⟩ : ∃ v, rclk 1000 r (sv + mv + ov) = v := ⟨_, rfl⟩
            have hAr := rclk_rng 1000 r (sv + mv + ov) HRR.out (by omega)
            rw [hA] at hAr
            obtain ⟨A0, A1⟩ := hAr
            have HSD := hid_ (fun (W : World) (V : Below wr.heap.size wr W) => ref6Send c pv qv rv HG.out.rg (i : Int) ⟨by omega, by omega⟩ W)
            have HMN := hid_ (fun (W : World) (V : Below wr.heap.size wr W) => ref6Mean c pv qv rv HG.out.rg W)
            have HRL := hid_ (fun (W : World) (V : Below wr.heap.size wr W) => paceReal C4 600 pb kb db hb c pv qv rv (s : Int) false 1000 r devs has (sv + mv + ov) HRR.out ⟨by omega, by omega⟩ ⟨by omega, by omega⟩ W (HP.out.below V))
            unfold Cfg.v at HSD HMN
            rw [HN.out, HF.out, hsv] at HSD
            rw [HN.out, HF.out, hmv] at HMN
            rw [hA] at HRL
            have q1 : wrap64 (sv + mv) = sv + mv := by unfold wrap64; omega
            have q2 : wrap64 (sv + mv + ov) = sv + mv + ov := by unfold wrap64; omega
            have q3 : IntKind.i64.wrap (sv + mv) = sv + mv := IntWalk.i64_in _ (by omega)
            have q4 : IntKind.i64.wrap (sv + mv + ov) = sv + mv + ov := IntWalk.i64_in _ (by omega)
            have HSV := hid_ hsv
            have HMV := hid_ hmv
            clear hsv hmv hA dc
            have dc : ∀ m : Aft wr, _ := fun m => (HKB.out.same (m.h.block _ HKB.out.lt)).cfg0
            rw [HN.out, HF.out] at dc
            refine wp_region_aft (by kernel_rfl) (by kernel_rfl) ?_
            repeat (go_big_quiet_step (first | exact Aft.calls _ (HSD.out _ (Aft.h _)) | exact Aft.calls _ (HMN.out _ (Aft.h _)) | exact Aft.calls _ (HRL.out _ (Aft.h _))))
            refine wpQuiet_nil ?_
            rintro _ ⟨m, rfl⟩
            go_upto_region 18 with fail
            refine gen_world (fun W => Below wr.heap.size wr W) m.h ?_
            rintro W1 VW1
            have HVW := hid_ VW1
            have hq9 := HR.out.hq
            clear dc q1 q2 q3 q4 m
            have dc := (HKB.out.same (VW1.block _ HKB.out.lt)).cfg0
            rw [HN.out, HF.out] at dc
            have HP1 := hid_ (HP.out.below VW1)
            have HF1 := hid_ (HFR.out.trans (Fr.of_below VW1 _))
            have HT1 := hid_ (HTT.out.trans (Fr.of_below VW1 _))
            clear VW1
            have hnew := (HR.out.new i (Nat.le_refl _)).2
            have HHB := hid_ (show hearB c.nodes (s : Int) false has (i : Int) = true from by unfold hearB; rw [HN.out, Int.toNat_natCast, hnew]; simp; have := HSI.out; omega)
            have HHC := hid_ (show hearB c.nodes (s : Int) false (has.set i true) (i : Int) = false from by unfold hearB; rw [Int.toNat_natCast, List.getD_eq_getElem?_getD, List.getElem?_set_self (by rw [HR.out.lh]; exact hlt)]; simp)
            clear hnew
            have k0 : (0 : Int) ≤ (q : Int) := Int.natCast_nonneg _
            by_cases hq : q < f ∧ q < lies.length
            · have u1 : (q : Int) < (f : Int) := by omega
              have u2 : (q : Int) < (lies.length : Int) := by omega
              obtain ⟨bl, ol, rfl, hcl⟩ := (HLI.out.fr HT1.out (by decide)).at hq.2
              have xl := hcl q hq.2
              have HQ := hid_ hq.1
              clear hcl
              obtain ⟨lv, hlv⟩ : ∃ x, (lies.getD q 0).tmod 1073741824 = x := ⟨_, rfl⟩
              have hlr := tmod_rng (lies.getD q 0) 1073741824 (by omega)
              rw [hlv] at hlr
              obtain ⟨xx, hxx⟩ : ∃ x, lies.getD q 0 = x := ⟨_, rfl⟩
              rw [hxx] at xl hlv
              obtain ⟨l0, l1⟩ := hlr
              have v1 : wrap64 lv = lv := by unfold wrap64; omega
              have v2 : IntKind.i64.wrap lv = lv := IntWalk.i64_in _ (by omega)
              have v3 : wrap64 (A + lv) = A + lv := by unfold wrap64; omega
              have v4 : IntKind.i64.wrap (A + lv) = A + lv := IntWalk.i64_in _ (by omega)
              have v5 : wrap64 (A + lv + 5) = A + lv + 5 := by unfold wrap64; omega
              have v6 : IntKind.i64.wrap (A + lv + 5) = A + lv + 5 := IntWalk.i64_in _ (by omega)
              clear hxx hq
              have HY := hid_ (paceHear_yes C4 600 pb kb db hb c pv qv rv (s : Int) false 1000 r devs has (i : Int) (A + lv) HG.out.rg HRR.out ⟨by omega, by omega⟩ W1 HP1.out HHB.out)
              have hdv := lclk_rng 1000 r (A + lv) HRR.out ⟨by omega, by omega⟩
              obtain ⟨dv, hdv2⟩ : ∃ v, devOf c 1000 r (i : Int) (A + lv) = v := ⟨_, rfl⟩
              have HDV := hid_ (show -2000000000000 ≤ dv ∧ dv ≤ 2000000000000 from by rw [← hdv2]; unfold devOf; rw [HSV.out, HMV.out]; omega)
              rw [hdv2, Int.toNat_natCast] at HY
              clear hdv hdv2
              go_wp2_with fail
              refine HY.out.mono ?_
              rintro e W2 ⟨rfl, F2, P2⟩
              have HN2 := hid_ (paceHear_no C4 600 pb kb db hb c pv qv rv (s : Int) false 1000 r _ (has.set i true) (i : Int) (A + lv + 5) W2 P2 HHC.out)
              have HF2 := hid_ (HF1.out.trans F2)
              have HP2 := hid_ P2
              clear F2 P2
              go_wp2_with fail
              refine HN2.out.mono ?_
              rintro e W3 ⟨rfl, rfl⟩
              go_wp2
              go_roundw
              case rel => exact ⟨i + 1, q + 1, lo, hi, _, _, by omega, rfl, rfl, by go_num, by go_num, HR.out.lie HQ.out dv HDV.out, HF2.out, HP2.out⟩
              case measure => simp [intOf]; omega
            · obtain ⟨dv, hdv2⟩ : ∃ v, devOf c 1000 r (i : Int) A = v := ⟨_, rfl⟩
              have hdv := lclk_rng 1000 r A HRR.out ⟨by omega, by omega⟩
              obtain ⟨lcv, hlcv⟩ : ∃ v, lclk 1000 r A = v := ⟨_, rfl⟩
              rw [hlcv] at hdv
              have hd2 : dv = lcv - sv - mv := by rw [← hdv2]; unfold devOf; rw [hlcv, HSV.out, HMV.out]
              have HLC := hid_ (fun (W : World) (V : Below W1.heap.size W1 W) => paceLocal C4 600 pb kb db hb c pv qv rv (s : Int) false 1000 r devs has A HRR.out ⟨by omega, by omega⟩ W (HP1.out.below V))
              rw [hlcv] at HLC
              have HDV := hid_ (show -2000000000000 ≤ dv ∧ dv ≤ 2000000000000 from by omega)
              have v1 : wrap64 (lcv - sv) = lcv - sv := by unfold wrap64; omega
              have v2 : IntKind.i64.wrap (lcv - sv) = lcv - sv := IntWalk.i64_in _ (by omega)
              have v3 : wrap64 (lcv - sv - mv) = dv := by unfold wrap64; omega
              have v4 : IntKind.i64.wrap (lcv - sv - mv) = dv := by rw [IntWalk.i64_in _ (by omega)]; omega
              have v5 : wrap64 (A + 5) = A + 5 := by unfold wrap64; omega
              have v6 : IntKind.i64.wrap (A + 5) = A + 5 := IntWalk.i64_in _ (by omega)
              have HY := hid_ (fun (W : World) (V : Below W1.heap.size W1 W) => paceHear_yes C4 600 pb kb db hb c pv qv rv (s : Int) false 1000 r devs has (i : Int) A HG.out.rg HRR.out ⟨by omega, by omega⟩ W (HP1.out.below V) HHB.out)
              rw [hdv2, Int.toNat_natCast] at HY
              obtain ⟨r0, r1⟩ := hdv
              rcases (by omega : (¬ (q : Int) < (f : Int)) ∨ ((q : Int) < (f : Int) ∧ ¬ (q : Int) < (lies.length : Int))) with u1 | ⟨u1, u2⟩
              all_goals
                clear hq hd2 hdv2 hlcv
                go_upto_region 21 with fail
                have HSD1 := hid_ (fun m : Aft W1 => HSD.out m.W (below_then HVW.out m.h))
                have HMN1 := hid_ (fun m : Aft W1 => HMN.out m.W (below_then HVW.out m.h))
                clear dc
                have dc : ∀ m : Aft W1, _ := fun m => (HKB.out.same ((below_then HVW.out m.h).block _ HKB.out.lt)).cfg0
                rw [HN.out, HF.out] at dc
                refine wp_region_aft (by kernel_rfl) (by kernel_rfl) ?_
                repeat (go_big_quiet_step (first | exact Aft.calls _ (HSD1.out _) | exact Aft.calls _ (HMN1.out _) | exact Aft.calls _ (HLC.out _ (Aft.h _))))
                refine wpQuiet_nil ?_
                rintro _ ⟨m, rfl⟩
                go_upto_region 22 with fail
                refine gen_world (fun W => Below W1.heap.size W1 W) m.h ?_
                rintro W2 VW2
                have HV2 := hid_ VW2
                have HY2 := hid_ (HY.out W2 VW2)
                clear dc v1 v2 v3 v4 m VW2
                go_wp2_with fail
                refine HY2.out.mono ?_
                rintro e W3 ⟨rfl, F3, P3⟩
                have HN2 := hid_ (paceHear_no C4 600 pb kb db hb c pv qv rv (s : Int) false 1000 r _ (has.set i true) (i : Int) (A + 5) W3 P3 HHC.out)
                have HF2 := hid_ ((HF1.out.trans (Fr.of_below HV2.out _)).trans F3)
                have HP2 := hid_ P3
                clear F3 P3
                go_wp2_with fail
                refine HN2.out.mono ?_
                rintro e W4 ⟨rfl, rfl⟩
                go_wp2
                go_roundw
                case rel => exact ⟨i + 1, q, _, _, _, _, by omega, rfl, rfl, rfl, by go_num, HR.out.good dv HDV.out _ _ (by first | rfl | (split <;> split <;> omega)) (by first | rfl | (split <;> split <;> omega)), HF2.out, HP2.out⟩
                case measure => simp [intOf]; omega
          · have jo : ¬ (i : Int) < (offs.length : Int) := by omega
            obtain ⟨ov, hov⟩ : ∃ x : Int, x = 0 := ⟨_, rfl⟩
            have o0 : -100000 < ov := by omega
            have o1 : ov < 100000 := by omega
            go_upto_region 17 with fail
            rw [← hov]
            clear hov
            obtain ⟨sv, hsv⟩ : ∃ v, c.send (i : Int) = v := ⟨_, rfl⟩
            obtain ⟨mv, hmv⟩ : ∃ v, c.mean = v := ⟨_, rfl⟩
            have hs1 := send_rng HG.out.rg (i : Int) ⟨j0, i7⟩
            have hm1 := mean_rng HG.out.rg
            rw [hsv] at hs1
            rw [hmv] at hm1
            obtain ⟨s0, s1⟩ := hs1
            obtain ⟨m0, m1⟩ := hm1
            obtain ⟨A, hA⟩ : ∃ v, rclk 1000 r (sv + mv + ov) = v := ⟨_, rfl⟩
            have hAr := rclk_rng 1000 r (sv + mv + ov) HRR.out (by omega)
            rw [hA] at hAr
            obtain ⟨A0, A1⟩ := hAr
            have HSD := hid_ (fun (W : World) (V : Below wr.heap.size wr W) => ref6Send c pv qv rv HG.out.rg (i : Int) ⟨by omega, by omega⟩ W)
            have HMN := hid_ (fun (W : World) (V : Below wr.heap.size wr W) => ref6Mean c pv qv rv HG.out.rg W)
            have HRL := hid_ (fun (W : World) (V : Below wr.heap.size wr W) => paceReal C4 600 pb kb db hb c pv qv rv (s : Int) false 1000 r devs has (sv + mv + ov) HRR.out ⟨by omega, by omega⟩ ⟨by omega, by omega⟩ W (HP.out.below V))
            unfold Cfg.v at HSD HMN
            rw [HN.out, HF.out, hsv] at HSD
            rw [HN.out, HF.out, hmv] at HMN
            rw [hA] at HRL
            have q1 : wrap64 (sv + mv) = sv + mv := by unfold wrap64; omega
            have q2 : wrap64 (sv + mv + ov) = sv + mv + ov := by unfold wrap64; omega
            have q3 : IntKind.i64.wrap (sv + mv) = sv + mv := IntWalk.i64_in _ (by omega)
            have q4 : IntKind.i64.wrap (sv + mv + ov) = sv + mv + ov := IntWalk.i64_in _ (by omega)
            have HSV := hid_ hsv
            have HMV := hid_ hmv
            clear hsv hmv hA dc
            have dc : ∀ m : Aft wr, _ := fun m => (HKB.out.same (m.h.block _ HKB.out.lt)).cfg0
            rw [HN.out, HF.out] at dc
            refine wp_region_aft (by kernel_rfl) (by kernel_rfl) ?_
            repeat (go_big_quiet_step (first | exact Aft.calls _ (HSD.out _ (Aft.h _)) | exact Aft.calls _ (HMN.out _ (Aft.h _)) | exact Aft.calls _ (HRL.out _ (Aft.h _))))
            refine wpQuiet_nil ?_
            rintro _ ⟨m, rfl⟩
            go_upto_region 18 with fail
            refine gen_world (fun W => Below wr.heap.size wr W) m.h ?_
            rintro W1 VW1
            have HVW := hid_ VW1
            have hq9 := HR.out.hq
            clear dc q1 q2 q3 q4 m
            have dc := (HKB.out.same (VW1.block _ HKB.out.lt)).cfg0
            rw [HN.out, HF.out] at dc
            have HP1 := hid_ (HP.out.below VW1)
            have HF1 := hid_ (HFR.out.trans (Fr.of_below VW1 _))
            have HT1 := hid_ (HTT.out.trans (Fr.of_below VW1 _))
            clear VW1
            have hnew := (HR.out.new i (Nat.le_refl _)).2
            have HHB := hid_ (show hearB c.nodes (s : Int) false has (i : Int) = true from by unfold hearB; rw [HN.out, Int.toNat_natCast, hnew]; simp; have := HSI.out; omega)
            have HHC := hid_ (show hearB c.nodes (s : Int) false (has.set i true) (i : Int) = false from by unfold hearB; rw [Int.toNat_natCast, List.getD_eq_getElem?_getD, List.getElem?_set_self (by rw [HR.out.lh]; exact hlt)]; simp)
            clear hnew
            have k0 : (0 : Int) ≤ (q : Int) := Int.natCast_nonneg _
            by_cases hq : q < f ∧ q < lies.length
            · have u1 : (q : Int) < (f : Int) := by omega
              have u2 : (q : Int) < (lies.length : Int) := by omega
              obtain ⟨bl, ol, rfl, hcl⟩ := (HLI.out.fr HT1.out (by decide)).at hq.2
              have xl := hcl q hq.2
              have HQ := hid_ hq.1
              clear hcl
              obtain ⟨lv, hlv⟩ : ∃ x, (lies.getD q 0).tmod 1073741824 = x := ⟨_, rfl⟩
              have hlr := tmod_rng (lies.getD q 0) 1073741824 (by omega)
              rw [hlv] at hlr
              obtain ⟨xx, hxx⟩ : ∃ x, lies.getD q 0 = x := ⟨_, rfl⟩
              rw [hxx] at xl hlv
              obtain ⟨l0, l1⟩ := hlr
              have v1 : wrap64 lv = lv := by unfold wrap64; omega
              have v2 : IntKind.i64.wrap lv = lv := IntWalk.i64_in _ (by omega)
              have v3 : wrap64 (A + lv) = A + lv := by unfold wrap64; omega
              have v4 : IntKind.i64.wrap (A + lv) = A + lv := IntWalk.i64_in _ (by omega)
              have v5 : wrap64 (A + lv + 5) = A + lv + 5 := by unfold wrap64; omega
              have v6 : IntKind.i64.wrap (A + lv + 5) = A + lv + 5 := IntWalk.i64_in _ (by omega)
              clear hxx hq
              have HY := hid_ (paceHear_yes C4 600 pb kb db hb c pv qv rv (s : Int) false 1000 r devs has (i : Int) (A + lv) HG.out.rg HRR.out ⟨by omega, by omega⟩ W1 HP1.out HHB.out)
              have hdv := lclk_rng 1000 r (A + lv) HRR.out ⟨by omega, by omega⟩
              obtain ⟨dv, hdv2⟩ : ∃ v, devOf c 1000 r (i : Int) (A + lv) = v := ⟨_, rfl⟩
              have HDV := hid_ (show -2000000000000 ≤ dv ∧ dv ≤ 2000000000000 from by rw [← hdv2]; unfold devOf; rw [HSV.out, HMV.out]; omega)
              rw [hdv2, Int.toNat_natCast] at HY
              clear hdv hdv2
              go_wp2_with fail
              refine HY.out.mono ?_
              rintro e W2 ⟨rfl, F2, P2⟩
              have HN2 := hid_ (paceHear_no C4 600 pb kb db hb c pv qv rv (s : Int) false 1000 r _ (has.set i true) (i : Int) (A + lv + 5) W2 P2 HHC.out)
              have HF2 := hid_ (HF1.out.trans F2)
              have HP2 := hid_ P2
              clear F2 P2
              go_wp2_with fail
              refine HN2.out.mono ?_
              rintro e W3 ⟨rfl, rfl⟩
              go_wp2
              go_roundw
              case rel => exact ⟨i + 1, q + 1, lo, hi, _, _, by omega, rfl, rfl, by go_num, by go_num, HR.out.lie HQ.out dv HDV.out, HF2.out, HP2.out⟩
              case measure => simp [intOf]; omega
            · obtain ⟨dv, hdv2⟩ : ∃ v, devOf c 1000 r (i : Int) A = v := ⟨_, rfl⟩
              have hdv := lclk_rng 1000 r A HRR.out ⟨by omega, by omega⟩
              obtain ⟨lcv, hlcv⟩ : ∃ v, lclk 1000 r A = v := ⟨_, rfl⟩
              rw [hlcv] at hdv
              have hd2 : dv = lcv - sv - mv := by rw [← hdv2]; unfold devOf; rw [hlcv, HSV.out, HMV.out]
              have HLC := hid_ (fun (W : World) (V : Below W1.heap.size W1 W) => paceLocal C4 600 pb kb db hb c pv qv rv (s : Int) false 1000 r devs has A HRR.out ⟨by omega, by omega⟩ W (HP1.out.below V))
              rw [hlcv] at HLC
              have HDV := hid_ (show -2000000000000 ≤ dv ∧ dv ≤ 2000000000000 from by omega)
              have v1 : wrap64 (lcv - sv) = lcv - sv := by unfold wrap64; omega
              have v2 : IntKind.i64.wrap (lcv - sv) = lcv - sv := IntWalk.i64_in _ (by omega)
              have v3 : wrap64 (lcv - sv - mv) = dv := by unfold wrap64; omega
              have v4 : IntKind.i64.wrap (lcv - sv - mv) = dv := by rw [IntWalk.i64_in _ (by omega)]; omega
              have v5 : wrap64 (A + 5) = A + 5 := by unfold wrap64; omega
              have v6 : IntKind.i64.wrap (A + 5) = A + 5 := IntWalk.i64_in _ (by omega)
              have HY := hid_ (fun (W : World) (V : Below W1.heap.size W1 W) => paceHear_yes C4 600 pb kb db hb c pv qv rv (s : Int) false 1000 r devs has (i : Int) A HG.out.rg HRR.out ⟨by omega, by omega⟩ W (HP1.out.below V) HHB.out)
              rw [hdv2, Int.toNat_natCast] at HY
              obtain ⟨r0, r1⟩ := hdv
              rcases (by omega : (¬ (q : Int) < (f : Int)) ∨ ((q : Int) < (f : Int) ∧ ¬ (q : Int) < (lies.length : Int))) with u1 | ⟨u1, u2⟩
              all_goals
                clear hq hd2 hdv2 hlcv
                go_upto_region 21 with fail
                have HSD1 := hid_ (fun m : Aft W1 => HSD.out m.W (below_then HVW.out m.h))
                have HMN1 := hid_ (fun m : Aft W1 => HMN.out m.W (below_then HVW.out m.h))
                clear dc
                have dc : ∀ m : Aft W1, _ := fun m => (HKB.out.same ((below_then HVW.out m.h).block _ HKB.out.lt)).cfg0
                rw [HN.out, HF.out] at dc
                refine wp_region_aft (by kernel_rfl) (by kernel_rfl) ?_
                repeat (go_big_quiet_step (first | exact Aft.calls _ (HSD1.out _) | exact Aft.calls _ (HMN1.out _) | exact Aft.calls _ (HLC.out _ (Aft.h _))))
                refine wpQuiet_nil ?_
                rintro _ ⟨m, rfl⟩
                go_upto_region 22 with fail
                refine gen_world (fun W => Below W1.heap.size W1 W) m.h ?_
                rintro W2 VW2
                have HV2 := hid_ VW2
                have HY2 := hid_ (HY.out W2 VW2)
                clear dc v1 v2 v3 v4 m VW2
                go_wp2_with fail
                refine HY2.out.mono ?_
                rintro e W3 ⟨rfl, F3, P3⟩
                have HN2 := hid_ (paceHear_no C4 600 pb kb db hb c pv qv rv (s : Int) false 1000 r _ (has.set i true) (i : Int) (A + 5) W3 P3 HHC.out)
                have HF2 := hid_ ((HF1.out.trans (Fr.of_below HV2.out _)).trans F3)
                have HP2 := hid_ P3
                clear F3 P3
                go_wp2_with fail
                refine HN2.out.mono ?_
                rintro e W4 ⟨rfl, rfl⟩
                go_wp2
                go_roundw
                case rel => exact ⟨i + 1, q, _, _, _, _, by omega, rfl, rfl, rfl, by go_num, HR.out.good dv HDV.out _ _ (by first | rfl | (split <;> split <;> omega)) (by first | rfl | (split <;> split <;> omega)), HF2.out, HP2.out⟩
                case measure => simp [intOf]; omega
      · have j1 : ¬ (i : Int) < (n : Int) := by omega
        obtain rfl : i = n := by omega
        have hout := HR.out.out
        have hlen := HR.out.ld
        have hq2 := HR.out.hq
        have hcn : ¬ CutNo devs (f : Int) := by have := HFN.out; unfold CutNo; omega
        have hmc := mid_count devs f lo hi (by have := HFN.out; omega) (by omega)
        have HT := hid_ (paceTurn C4 600 pb kb db hb (by decide) c pv qv rv (s : Int) false 1000 r devs has f HF.out (by have := HR.out.lh; omega) (fun x hx => by have := HR.out.z x hx; unfold Z64; omega) wr HP.out)
        rw [show turnL false (s : Int) devs has = devs from rfl] at HT
        unfold midV midE at HT
        rw [if_neg hcn, if_neg hcn] at HT
        obtain ⟨tv, htv⟩ : ∃ t, midz devs f = t := ⟨_, rfl⟩
        rw [htv] at HT hmc
        obtain ⟨t0, t1⟩ := hmc
        clear hcn hout hlen hq2 htv
        rw [show errN none = .nilIface from rfl] at HT
        go_wp2_with fail
        refine HT.out.mono ?_
        rintro e w6 ⟨rfl, V6⟩
        have HE := hid_ ((HTT.out.mono (K' := (· ≠ 0)) (fun x h => by omega)).trans (Fr.of_below V6 _)).old
        clear V6
        go_wp2
        go_ret
        exact ⟨by simp, HE.out⟩
end Go.Proofs.Ytnmhfdkmiblknaa
