/- PaceTurns where the tables work: for every beginning and all comings the law returns true, and leaves memory as it was. No condition. -/
import Derived.Test.YtnmhfdkmiblknaaTurns
import Derived.Test.YtnmhfdkmiblknaaHearA
import Derived.BigQuiet
import Derived.Deep.RegionHeld3
import Derived.Deep.QuietTactic
set_option linter.unusedSimpArgs false
set_option linter.unusedVariables false
namespace Go.Proofs.Ytnmhfdkmiblknaa
open Go.RowKit Go.Maps

theorem TC.fr {K : Nat → Prop} {C D : Nat → Nat} {w W W2 : World} {c : Cfg} {pv qv rv : Value} {me since rate : Int} {cold : Bool} (h : TC w c pv qv rv me since rate cold W) (f : Fr K C D W W2) (hC : ∀ b, b < w.heap.size + 2 → ¬ K (C b)) : TC w c pv qv rv me since rate cold W2 :=
  ⟨⟨f.os.trans h.V.os, f.tape.trans h.V.tape, f.output.trans h.V.output, Nat.le_trans h.V.size f.size, fun b hb => (f.block b (Nat.lt_of_lt_of_le hb h.V.size) (hC b (by omega))).1.trans (h.V.block b hb)⟩,
    h.K.same (f.block _ h.K.lt (hC _ (by omega))).1, h.U.same (f.block _ h.U.lt (hC _ (by omega))).1⟩
theorem bad_not {c : Cfg} {me since rate : Int} (h : ¬ paceBad c me since rate) : ¬ me < -1 ∧ ¬ c.nodes ≤ me ∧ ¬ since < 0 ∧ ¬ 1125899906842624 < since ∧ ¬ rate < -200 ∧ ¬ 200 < rate := by
  unfold paceBad clkBad at h
  omega
theorem tmod_rngD (x m : Int) (h : 0 < m) : -m < x.tmod m ∧ x.tmod m < m := ⟨Int.lt_tmod_of_pos x h, Int.tmod_lt_of_pos x h⟩
theorem TC.s19 {w W : World} {c : Cfg} {pv qv rv : Value} {me since rate : Int} {cold : Bool} (h : TC w c pv qv rv me since rate cold W) {a : Addr} {v : Value} (hv : w.cell? a = some v) : W.cell? ⟨w.heap.size + 1, 1, none⟩ = some (.int .i64 since) ∧ W.cell? ⟨w.heap.size + 1, 2, none⟩ = some (.int .i64 rate) ∧ W.cell? a = some v :=
  ⟨h.who.2.1, h.who.2.2.1, grown_cell h.V hv⟩
theorem heard_at {l : List (Int × Int)} {i : Nat} (hi : i < l.length) : (heardC l)[i * 2]? = some (.int .i64 (l.getD i (0, 0)).1) ∧ (heardC l)[i * 2 + 1]? = some (.int .i64 (l.getD i (0, 0)).2) := by
  have hx : l[i]? = some (l.getD i (0, 0)) := by rw [List.getD_eq_getElem?_getD, List.getElem?_eq_getElem hi]; rfl
  have h1 := flatMap_get 2 (fun x : Int × Int => [Value.int .i64 x.1, Value.int .i64 x.2]) (fun _ => rfl) l i 0 _ hx (by omega)
  have h2 := flatMap_get 2 (fun x : Int × Int => [Value.int .i64 x.1, Value.int .i64 x.2]) (fun _ => rfl) l i 1 _ hx (by omega)
  exact ⟨h1, h2⟩

set_option maxRecDepth 100000 in
set_option maxHeartbeats 16000000 in
theorem turns_d (c : Cfg) (hok : c.ok) (pv qv rv : Value) (me since rate : Int) (cold : Bool) (l : List (Int × Int)) (la : Option Addr) (lc : Nat) (w : World) (hl : Lists w (fun _ => 0) c pv qv rv) (hh : Rd w (fun _ => 0) (.slice la l.length lc) 2 l.length (heardC l)) (hL : longB c = false) (hs : sndE c = none) (hb : ¬ paceBad c me since rate) :
    Calls Try.prog 4 #[c.v pv qv rv, .agg #[.int .i64 me, .int .i64 since, .int .i64 rate, .bool cold], .slice la l.length lc] w fun e w' => e = .returned (.bool true) ∧ Below w.heap.size w w' := by
  have HL := hid_ hl
  have HH := hid_ hh
  have HOK := hid_ hok
  have HT0 := hid_ (show TC w c pv qv rv me since rate cold ((w.alloc (.cells (c.cells pv qv rv).toArray 26)).alloc (.cells #[.int .i64 me, .int .i64 since, .int .i64 rate, .bool cold] 45)) from
    ⟨((Below.refl _ w).alloc (Nat.le_refl _) _).alloc (by simp) _, (Bk.new _ _ _).alloc _, by have := Bk.new (w.alloc (.cells (c.cells pv qv rv).toArray 26)) 45 [.int .i64 me, .int .i64 since, .int .i64 rate, .bool cold]; rw [World.size_alloc] at this; exact this⟩)
  clear hl hh hok
  unfold Cfg.v
  go_enter Try.func4, Try.ntmps4
  go_upto_region 1 with fail
  refine gen_world (fun W => TC w c pv qv rv me since rate cold W) HT0.out ?_
  rintro W0 T0
  have HTC0 := hid_ T0
  clear T0 HT0
  go_wp2_with fail
  refine (awake11 W0).mono ?_
  rintro e w1 ⟨rfl, V1⟩
  have HTC1 := hid_ (HTC0.out.below V1)
  clear V1 HTC0
  have HLG := hid_ (law6Long c (fun _ => 0) pv qv rv w1 (HL.out.fr (Fr.of_below HTC1.out.V (fun _ => False)) (fun h => h)))
  unfold Cfg.v at HLG
  obtain ⟨c0, c1, c2, c3, c4, c5, c6, c7, c8, c9, c10, u0, u1, u2, u3⟩ := HTC1.out.cells
  have hg := sndE_good hs
  have n0 := hg.rg.n0
  have n1 := hg.rg.n1
  have f0 := hg.rg.f0
  obtain ⟨n, hn⟩ := Int.eq_ofNat_of_zero_le (show 0 ≤ c.nodes by omega)
  obtain ⟨f, hf⟩ := Int.eq_ofNat_of_zero_le f0
  obtain ⟨b1, b2, b3, b4, b5, b6⟩ := bad_not hb
  have HNW := hid_ (fun pv' qv' rv' W (hl : Lists W (fun _ => 0) c pv' qv' rv') => paceNew (fun _ => 0) 600 c HOK.out pv' qv' rv' me cold since rate n hs hg hn ⟨b1, b2⟩ (by unfold clkBad; omega) W hl (fun _ _ => rfl))
  unfold Cfg.v at HNW
  have HSN := hid_ hs
  have HG := hid_ hg
  have HN := hid_ hn
  have HFF := hid_ hf
  have HN7 := hid_ (show n ≤ 7 by omega)
  have HRR := hid_ (show -200 ≤ rate ∧ rate ≤ 200 by omega)
  have HSS := hid_ (show 0 ≤ since ∧ since ≤ 1125899906842624 by omega)
  clear hs hb hg n0 n1 f0 hn hf
  rw [hL] at HLG
  have HLL := hid_ hL
  go_wp2_with fail
  refine HLG.out.mono ?_
  rintro e w2 ⟨rfl, V2⟩
  have HTC2 := hid_ (HTC1.out.below V2)
  clear c0 c1 c2 c3 c4 c5 c6 c7 c8 c9 c10 u0 u1 u2 u3 V2 HTC1 HLG
  have HLS2 := hid_ (HL.out.fr (Fr.of_below HTC2.out.V (fun _ => False)) (fun h => h))
  go_upto_region 5 with fail
  have HCP := hid_ (refCopied c (fun _ => 0) pv qv rv w2.drew (HLS2.out.fr (Fr.of_below ((Below.refl _ w2).drew) (fun _ => False)) (fun h => h)) (fun _ _ => rfl) HLL.out)
  unfold Cfg.v at HCP
  have HTD := hid_ (HTC2.out.below ((Below.refl _ w2).drew))
  go_region_held3 (fun w' => w'.cell? ⟨w.heap.size, 0, none⟩ = some (.int .i64 c.nodes) ∧ w'.cell? ⟨w.heap.size, 1, none⟩ = some (.int .i64 c.faulty) ∧ w'.cell? ⟨w.heap.size, 2, none⟩ = some (.int .i64 c.slot) ∧ w'.cell? ⟨w.heap.size, 3, none⟩ = some (.int .i64 c.gap) ∧ w'.cell? ⟨w.heap.size, 4, none⟩ = some (.int .i64 c.rho) ∧ w'.cell? ⟨w.heap.size, 5, none⟩ = some (.int .i64 c.dmin) ∧ w'.cell? ⟨w.heap.size, 6, none⟩ = some (.int .i64 c.dmax) ∧ w'.cell? ⟨w.heap.size, 7, none⟩ = some (.int .i64 c.margin) ∧ w'.cell? ⟨w.heap.size, 8, none⟩ = some pv ∧ w'.cell? ⟨w.heap.size, 9, none⟩ = some qv ∧ w'.cell? ⟨w.heap.size, 10, none⟩ = some rv ∧ w'.cell? ⟨w.heap.size + 1, 0, none⟩ = some (.int .i64 me) ∧ w'.cell? ⟨w.heap.size + 1, 1, none⟩ = some (.int .i64 since) ∧ w'.cell? ⟨w.heap.size + 1, 2, none⟩ = some (.int .i64 rate) ∧ w'.cell? ⟨w.heap.size + 1, 3, none⟩ = some (.bool cold)) (first | exact TC.cells HTF.out | exact TC.cells HTE.out | exact TC.cells HTD.out) (first | ((with_reducible refine HCP.out.mono ?_); rintro e w3 ⟨pv', qv', rv', rfl, V3, HL3⟩; have HTE := hid_ (HTD.out.below V3); have HLS3 := hid_ HL3; clear HL3 V3) | ((with_reducible refine (HNW.out pv' qv' rv' _ HLS3.out).mono ?_); rintro e w4 ⟨pb, kb, db, hb, C4, rfl, F4, P4⟩; have HTF := hid_ (HTE.out.below (F4.below (fun _ _ h => h))); have HF4 := hid_ F4; have HP4 := hid_ P4; clear F4 P4))
  all_goals
    have HC4 := hid_ (show ∀ b, b < w.heap.size + 2 → C4 b = 0 from fun b hb => (HF4.out.block b (by have := HTE.out.U.lt; omega) (fun h => h)).2)
    have HFI4 := hid_ (HF4.out.Fin (fun _ _ => rfl))
    obtain ⟨c0, c1, c2, c3, c4, c5, c6, c7, c8, c9, c10, u0, u1, u2, u3⟩ := HTF.out.cells
    have HCK := hid_ (refCheck6 c HOK.out (fun _ => 0) pv qv rv w4 (HL.out.fr (Fr.of_below HTF.out.V (fun _ => False)) (fun h => h)) (fun _ _ => rfl))
    unfold Cfg.v at HCK
    rw [HSN.out, show refT none = [] from rfl] at HCK
    clear HCP HNW HTD HTE HTC2 HLS3 HLS2 HF4
    go_wp2_with fail
    refine HCK.out.mono ?_
    rintro e w5 ⟨rfl, V5⟩
    have HTG := hid_ (HTF.out.below V5)
    have HP5 := hid_ (HP4.out.below V5)
    have HFI5 := hid_ ((Fr.of_below (C := C4) V5 (fun _ => False)).Fin HFI4.out)
    clear c0 c1 c2 c3 c4 c5 c6 c7 c8 c9 c10 u0 u1 u2 u3 HCK V5 HP4 HFI4
    obtain ⟨c0, c1, c2, c3, c4, c5, c6, c7, c8, c9, c10, u0, u1, u2, u3⟩ := HTG.out.cells
    have HR5 := hid_ (read_nil w5)
    rw [show refT none = [] from rfl] at HR5
    go_wp2_with fail
    refine HR5.out.mono ?_
    rintro e w6 ⟨rfl, V6⟩
    have HTH := hid_ (HTG.out.below V6)
    have HP6 := hid_ (HP5.out.below V6)
    have HFI6 := hid_ ((Fr.of_below (C := C4) V6 (fun _ => False)).Fin HFI5.out)
    clear c0 c1 c2 c3 c4 c5 c6 c7 c8 c9 c10 u0 u1 u2 u3 V6 HR5 HP5 HFI5
    obtain ⟨c0, c1, c2, c3, c4, c5, c6, c7, c8, c9, c10, u0, u1, u2, u3⟩ := HTH.out.cells
    have HQ := hid_ (rpPaced C4 610 c pv qv rv me cold since rate n HN.out HN7.out w6 HFI6.out)
    unfold Cfg.v at HQ
    clear b1 b2 b3 b4 b5 b6
    go_wp2_with fail
    refine HQ.out.mono ?_
    rintro e w7 ⟨qb, eb, gb, C5, rfl, F7, Q7⟩
    have HTI := hid_ (HTH.out.fr F7 (fun _ _ h => h))
    have HC5 := hid_ (show ∀ b, b < w.heap.size + 2 → C5 b = 0 from fun b hb => (F7.block b (by have := HTH.out.U.lt; omega) (fun h => h)).2.trans (HC4.out b hb))
    have HP7 := hid_ (HP6.out.fr F7 (fun h => h))
    have HQ7 := hid_ Q7
    clear c0 c1 c2 c3 c4 c5 c6 c7 c8 c9 c10 u0 u1 u2 u3 F7 Q7 HQ HP6 HTH HTG HTF HC4 HFI6
    go_wp2_with fail
    go_loopw [13, 14] (fun iv _ wr => ∃ (i : Nat) (devs : List Int) (has : List Bool), i ≤ l.length ∧ iv = .int .i64 i ∧ DevOk devs ∧ TC w c pv qv rv me since rate cold wr ∧ IsPace wr C5 600 pb kb db hb c pv' qv' rv' me cold since rate devs has ∧ IsRP wr C5 610 qb eb gb c pv qv rv me cold since rate devs has) (fun iv _ _ => l.length - (intOf iv).toNat)
    case atStart => exact ⟨0, _, _, Nat.zero_le _, rfl, DevOk.zero n, HTI.out, HP7.out, HQ7.out⟩
    case round =>
      obtain ⟨i, devs, has, hin, rfl, D, T, P, Q⟩ := hrel
      have j0 : (0 : Int) ≤ (i : Int) := Int.natCast_nonneg _
      have HD := hid_ D
      have HT := hid_ T
      have HP := hid_ P
      have HQ := hid_ Q
      have HLE := hid_ hin
      clear D T P Q HTI HP7 HQ7
      rcases (by omega : (i < l.length ∧ i < 50) ∨ (¬ i < l.length ∨ (i < l.length ∧ ¬ i < 50))) with ⟨hlt, h50⟩ | hout
      · have j1 : (i : Int) < (l.length : Int) := by omega
        have j2 : (i : Int) < 50 := by omega
        obtain ⟨bo, oo, rfl, hco⟩ := HH.out.at hlt
        obtain ⟨x0, x1⟩ := heard_at hlt
        obtain ⟨nd, hnd⟩ : ∃ x, (l.getD i (0, 0)).1 = x := ⟨_, rfl⟩
        obtain ⟨bh, hbh⟩ : ∃ x, (l.getD i (0, 0)).2 = x := ⟨_, rfl⟩
        rw [hnd] at x0
        rw [hbh] at x1
        have y0w := hco _ _ x0
        have y1w := hco _ _ x1
        rw [← Nat.add_assoc] at y1w
        have HY0 := hid_ y0w
        have y1 := grown_cell HT.out.V y1w
        clear y0w y1w
        obtain ⟨bv, hbv⟩ : ∃ x, bh.tmod 4294967296 = x := ⟨_, rfl⟩
        have hbr := tmod_rngD bh 4294967296 (by omega)
        rw [hbv] at hbr
        obtain ⟨r0, r1⟩ := hbr
        have hss := HSS.out
        obtain ⟨R, hR⟩ : ∃ R, since + bv = R := ⟨_, rfl⟩
        have HRS := hid_ (show -4294967296 ≤ R - since ∧ R - since ≤ 4294967296 by omega)
        have q1 : wrap64 bv = bv := by unfold wrap64; omega
        have q2 : IntKind.i64.wrap bv = bv := IntWalk.i64_in _ (by omega)
        have q3 : wrap64 (since + bv) = R := by unfold wrap64; omega
        have q4 : IntKind.i64.wrap (since + bv) = R := by rw [IntWalk.i64_in _ (by omega)]; exact hR
        obtain ⟨u0, u1, u2, u3⟩ := HT.out.who
        clear hco x0 x1 hss hR r0 r1 hin hlt h50
        go_upto_region 18 with fail
        go_quiet (fail)
        clear q1 q2 q3 q4 hbv hnd hbh y1
        go_upto_region 19 with fail
        refine gen_world (fun W => Below wr.heap.size wr W) (below_drewN wr _) ?_
        rintro W1 VW
        have VD := VW.drew
        have HT2 := hid_ (HT.out.below VD)
        have HP2 := hid_ (HP.out.below VD)
        have HQ2 := hid_ (HQ.out.below VD)
        clear u0 u1 u2 u3 VW VD
        obtain ⟨B2, hB2⟩ : ∃ b, hearB c.nodes me cold has nd = b := ⟨_, rfl⟩
        obtain ⟨D2, hD2⟩ : ∃ b, hearD c me cold since rate devs has nd R = b := ⟨_, rfl⟩
        obtain ⟨H2, hH2⟩ : ∃ b, hearH c me cold has nd = b := ⟨_, rfl⟩
        obtain ⟨LC, hLC⟩ : ∃ b, lclk since rate R = b := ⟨_, rfl⟩
        have HDD := hid_ (HD.out.hear (c := c) (me := me) (cold := cold) (has := has) (node := nd) HG.out.rg HRR.out HRS.out)
        have hrs : -1000000000000 ≤ R - since ∧ R - since ≤ 1000000000000 := by have := HRS.out; omega
        have HA := hid_ (paceHear_any C5 600 pb kb db hb c pv' qv' rv' me cold since rate devs has nd R HG.out.rg HRR.out hrs W1.drew HP2.out)
        have HB := hid_ (fun W h => rpHear_any C5 610 qb eb gb c pv qv rv me cold since rate devs has nd R HG.out.rg HRR.out hrs W h)
        have HC := hid_ (fun W h => paceLocal C5 600 pb kb db hb c pv' qv' rv' me cold since rate D2 H2 R HRR.out hrs W h)
        have HR := hid_ (fun W => rLocal since rate R HRR.out hrs W)
        rw [hD2] at HDD
        rw [hB2, hD2, hH2] at HA HB
        rw [hLC] at HC HR
        have HK6 := hid_ (show ∀ b, b < w.heap.size + 2 → ¬ C5 b = 600 from fun b hb => by rw [HC5.out b hb]; decide)
        have HK7 := hid_ (show ∀ b, b < w.heap.size + 2 → ¬ C5 b = 610 from fun b hb => by rw [HC5.out b hb]; decide)
        clear hB2 hD2 hH2 hLC hrs
        go_region_held3 (fun w' => w'.cell? ⟨w.heap.size + 1, 1, none⟩ = some (.int .i64 since) ∧ w'.cell? ⟨w.heap.size + 1, 2, none⟩ = some (.int .i64 rate) ∧ w'.cell? ⟨bo, oo + i * 2, none⟩ = some (.int .i64 nd)) (first | exact TC.s19 HT6.out HY0.out | exact TC.s19 HT5.out HY0.out | exact TC.s19 HT4.out HY0.out | exact TC.s19 HT3.out HY0.out | exact TC.s19 HT2.out HY0.out) (first
          | ((with_reducible refine HA.out.mono ?_); rintro e W3 ⟨rfl, F3, P3⟩; have HT3 := hid_ (HT2.out.fr F3 HK6.out); have HP3 := hid_ P3; have HQ3 := hid_ (HQ2.out.fr F3 (by decide)); clear F3 P3)
          | ((with_reducible refine (HB.out _ HQ3.out).mono ?_); rintro e W4 ⟨rfl, F4, Q4⟩; have HT4 := hid_ (HT3.out.fr F4 HK7.out); have HQ4 := hid_ Q4; have HP4 := hid_ (HP3.out.fr F4 (by decide)); clear F4 Q4)
          | ((with_reducible refine (HC.out _ HP4.out).mono ?_); rintro e W5 ⟨rfl, V5⟩; have HT5 := hid_ (HT4.out.below V5); have HP5 := hid_ (HP4.out.below V5); have HQ5 := hid_ (HQ4.out.below V5); clear V5)
          | ((with_reducible refine (HR.out _).mono ?_); rintro e W6 ⟨rfl, rfl⟩))
        all_goals
          go_wp2
          go_roundw
          case rel => exact ⟨i + 1, D2, H2, by have := HLE.out; omega, by go_num, HDD.out, HT5.out, HP5.out, HQ5.out⟩
          case measure => simp [intOf]; omega
      · have HM := hid_ (HD.out.mid cold me has f)
        have HZ := hid_ HD.out.z
        have hlh := HP.out.lh
        have hn7 : has.length ≤ 7 := by have := HN.out; have := HN7.out; omega
        have HE := hid_ (midE_two (turnL cold me devs has) f)
        have HA := hid_ (fun W h => paceTurn C5 600 pb kb db hb (by decide) c pv' qv' rv' me cold since rate devs has f HFF.out hn7 HZ.out W h)
        have HB := hid_ (fun W h => rpTurn C5 610 qb eb gb c pv qv rv me cold since rate devs has f HFF.out hn7 HZ.out W h)
        have HX := hid_ (fun W h => paceNext C5 600 pb kb db hb (by decide) c pv' qv' rv' me cold since rate devs has f HG.out.rg HRR.out HSS.out HFF.out HZ.out HM.out W h)
        have HY := hid_ (fun W h => rpNext C5 610 qb eb gb c pv qv rv me cold since rate devs has f HG.out.rg HRR.out HSS.out HFF.out HZ.out HM.out W h)
        obtain ⟨TV, hTV⟩ : ∃ v, midV (turnL cold me devs has) f = v := ⟨_, rfl⟩
        obtain ⟨EV, hEV⟩ : ∃ v, midE (turnL cold me devs has) f = v := ⟨_, rfl⟩
        obtain ⟨XV, hXV⟩ : ∃ v, nextV c since rate (turnL cold me devs has) f = v := ⟨_, rfl⟩
        rw [hTV, hEV] at HA HB
        rw [hXV, hEV] at HX HY
        rw [hEV] at HE
        have HRE := hid_ (read_errN EV HE.out)
        obtain ⟨RV, hRV⟩ : ∃ v, errN EV = v := ⟨_, rfl⟩
        obtain ⟨NV, hNV⟩ : ∃ v, numN2 EV = v := ⟨_, rfl⟩
        rw [hRV] at HA HX
        rw [hNV] at HB HY
        rw [hRV, hNV] at HRE
        clear hTV hEV hXV hRV hNV hlh hn7 HE HZ HM hin
        rcases hout with g1 | ⟨g1, g2⟩
        all_goals
          go_wp2_with fail
          refine (HA.out wr HP.out).mono ?_
          rintro e w8 ⟨rfl, V8⟩
          have HT8 := hid_ (HT.out.below V8)
          have HP8 := hid_ (HP.out.below V8)
          have HQ8 := hid_ (HQ.out.below V8)
          clear V8
          go_wp2_with fail
          refine (HB.out w8 HQ8.out).mono ?_
          rintro e w9 ⟨rfl, V9⟩
          have HT9 := hid_ (HT8.out.below V9)
          have HP9 := hid_ (HP8.out.below V9)
          have HQ9 := hid_ (HQ8.out.below V9)
          clear V9
          go_wp2_with fail
          refine (HX.out w9 HP9.out).mono ?_
          rintro e w10 ⟨rfl, V10⟩
          have HT10 := hid_ (HT9.out.below V10)
          have HQ10 := hid_ (HQ9.out.below V10)
          clear V10
          go_wp2_with fail
          refine (HY.out w10 HQ10.out).mono ?_
          rintro e w11 ⟨rfl, V11⟩
          have HT11 := hid_ (HT10.out.below V11)
          clear V11
          go_wp2_with fail
          refine (HRE.out w11).mono ?_
          rintro e w12 ⟨rfl, V12⟩
          have HT12 := hid_ (HT11.out.below V12)
          clear V12
          go_wp2_with fail
          refine (HRE.out w12).mono ?_
          rintro e w13 ⟨rfl, V13⟩
          have HT13 := hid_ (HT12.out.below V13)
          clear V13
          go_wp2
          go_ret
          exact ⟨by simp, HT13.out.V⟩

theorem turns_walk (c : Cfg) (hok : c.ok) (pv qv rv : Value) (me since rate : Int) (cold : Bool) (l : List (Int × Int)) (lv : Value) (w : World) (hl : Lists w (fun _ => 0) c pv qv rv) (hh : Rd w (fun _ => 0) lv 2 l.length (heardC l)) :
    Calls Try.prog 4 #[c.v pv qv rv, .agg #[.int .i64 me, .int .i64 since, .int .i64 rate, .bool cold], lv] w fun e w' => e = .returned (.bool true) ∧ Below w.heap.size w w' := by
  obtain ⟨la, lc, rfl, -⟩ := id hh
  cases hL : longB c with
  | true => exact turns_a c hok pv qv rv me since rate cold l la lc w hl hh hL
  | false =>
    cases hs : sndE c with
    | some x => exact turns_b c hok pv qv rv me since rate cold l la lc w hl hh hL (by rw [hs]; rfl)
    | none =>
      by_cases hb : paceBad c me since rate
      · exact turns_c c hok pv qv rv me since rate cold l la lc w hl hh hL hs hb
      · exact turns_d c hok pv qv rv me since rate cold l la lc w hl hh hL hs hb
end Go.Proofs.Ytnmhfdkmiblknaa
