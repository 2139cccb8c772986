/- ApexStops' walk. No condition. -/
import Derived.Test.YtlgjaoijgkdmiaaDoorStopP
import Derived.Test.YtlgjaoijgkdmiaaDoorOpenK
set_option linter.unusedSimpArgs false
set_option linter.unusedVariables false
namespace Go.Proofs.YtlgjaoijgkdmiaaDoor
open Go.RowKit Go.Maps
theorem RunM.frB {K : Nat → Prop} {C C' : Nat → Nat} {w w' : World} {c : Cfg} {A : HA} {lb gb hb : Nat} {mpv v ov : Value} {rs : List Res} {cs : List Value} {lv : Nat → Value} {s : HSt} {m : MSt}
    (h : RunM c A lb gb mpv hb v rs cs ov lv s m w C) (f : Fr K C C' w w') (hk : ∀ x, K x → 400 ≤ x) : RunM c A lb gb mpv hb v rs cs ov lv s m w' C' := by
  have k0 : ¬ K 0 := fun h => by have := hk _ h; omega
  obtain ⟨a1, a2⟩ := h.host.frc h.hcol f k0
  obtain ⟨b1, b2⟩ := h.err.fr h.ecol f k0
  exact ⟨h.hw.fr f h.len (fun x hx => by have := hk _ hx; omega), h.len, h.mon.fr f ⟨k0, fun h => by have := hk _ h; omega, fun h => by have := hk _ h; omega⟩,
    h.sl.fr f (fun h => by have := hk _ h; omega), h.res.fr f k0, a1, a2, b1, b2, f.Fin h.fin⟩

set_option maxRecDepth 100000 in
set_option maxHeartbeats 16000000 in
theorem stops_walk1 (ahead behind a kind : Int) (ha : 0 ≤ a ∧ a < 256) (hkk : wrap64 ((IntKind.u64.wrap kind).tmod 3) = 0) (w : World) (hT : ErrT w) :
    Calls Tryd.prog 5 #[.int .i64 ahead, .int .i64 behind, .int .u8 a, .int .i64 kind] w fun e w' => e = .returned (.bool true) ∧ Below w.heap.size w w' := by
  have HT := hid_ hT
  clear hT
  obtain ⟨i9, z9, hi9, hz9, hzs9, his9, hby9⟩ := info_row (P := Tryd.prog) (e := 60) (size := 6) (bytes := 64) (by kernel_rfl)
  obtain ⟨A, hA, hA9⟩ : ∃ A : Nat, wrap64 ((IntKind.u64.wrap ahead).tmod 10) = (A : Int) ∧ A < 10 := by
    have := rem_small16 ahead 10 (by omega) (by omega)
    exact ⟨(wrap64 ((IntKind.u64.wrap ahead).tmod 10)).toNat, by omega, by omega⟩
  obtain ⟨Bh, hBh, hB9⟩ : ∃ A : Nat, wrap64 ((IntKind.u64.wrap behind).tmod 10) = (A : Int) ∧ A < 10 := by
    have := rem_small16 behind 10 (by omega) (by omega)
    exact ⟨(wrap64 ((IntKind.u64.wrap behind).tmod 10)).toNat, by omega, by omega⟩
  have hA2 : IntKind.i64.wrap ((IntKind.u64.wrap ahead).tmod 10) = (A : Int) := by rw [← hA]; exact IntWalk.i64_left _
  have hB2 : IntKind.i64.wrap ((IntKind.u64.wrap behind).tmod 10) = (Bh : Int) := by rw [← hBh]; exact IntWalk.i64_left _
  have hk2 : IntKind.i64.wrap ((IntKind.u64.wrap kind).tmod 3) = 0 := by rw [← hkk]; exact IntWalk.i64_left _
  obtain ⟨q, hq⟩ : ∃ q, a % 4 = q := ⟨_, rfl⟩
  have hq0 : 0 ≤ q ∧ q ≤ 3 := by omega
  have HQ := hid_ hq
  clear hq
  go_enter Tryd.func5, Tryd.ntmps5
  go_wp2_with fail
  refine (awake16 _ HT.out).mono ?_
  rintro e w0 ⟨rfl, V0⟩
  go_wp2_with fail
  clear hA hA2 hBh hB2 hkk hk2
  have hq := HQ.out
  refine (law13WiredB _).mono ?_
  rintro e w1 ⟨pb, qb, rb, rfl, V1, ⟨hp, hq, hr, -, -⟩, P1, Q1, R1⟩
  unfold Cfg.v
  have hne : pb ≠ w1.heap.size ∧ pb ≠ qb ∧ pb ≠ rb := ⟨by have := P1.lt; omega, P1.ne Q1 (by decide), P1.ne R1 (by decide)⟩
  go_upto_region 5 with fail
  have B1 := wired_box (below_then V0 V1) P1 Q1 R1
  have hpw : w.heap.size ≤ pb := Nat.le_trans V0.size hp
  refine gen_world (fun W => Below w.heap.size w W ∧ IsBox W w1.heap.size pb qb rb 9 2 0 0 0 0) B1 ?_
  clear B1 V1 P1 Q1 R1
  rintro W2 ⟨V2, B2⟩
  have c8 := B2.box.cell_ 8 rfl
  have f3 := fun i => B2.parts.frozen i
  have z3 := B2.parts.cell_ 3 rfl
  go_upto_region 6 with fail
  refine gen_world (fun W => Below w.heap.size w W ∧ IsBox W w1.heap.size pb qb rb 64 2 0 0 0 0) ⟨V2.setCell hpw _, IsBox.sets hne B2 [(3, .int .i64 64)] rfl⟩ ?_
  clear c8 f3 z3 V2 B2
  rintro W2 ⟨V2, B2⟩
  have c8 := B2.box.cell_ 8 rfl
  have f3 := fun i => B2.parts.frozen i
  have z6 := B2.parts.cell_ 6 rfl
  go_upto_region 7 with fail
  refine gen_world (fun W => Below w.heap.size w W ∧ IsBox W w1.heap.size pb qb rb 64 2 0 q 0 0) ⟨V2.setCell hpw _, IsBox.sets hne B2 [(6, .int .u8 q)] rfl⟩ ?_
  clear c8 f3 z6 V2 B2
  rintro W2 ⟨V2, B2⟩
  have HB3 := hid_ B2
  have hl3 : Lists W2 (fun _ => 0) (partC 64 2 0 q 0 0) _ _ _ := part_lists B2.parts B2.ports B2.routes rfl rfl rfl
  have c0 := B2.box.cell_ 0 rfl
  have c1 := B2.box.cell_ 1 rfl
  have c2 := B2.box.cell_ 2 rfl
  have c3 := B2.box.cell_ 3 rfl
  have c4 := B2.box.cell_ 4 rfl
  have c5 := B2.box.cell_ 5 rfl
  have c6 := B2.box.cell_ 6 rfl
  have c7 := B2.box.cell_ 7 rfl
  have c8 := B2.box.cell_ 8 rfl
  have c9 := B2.box.cell_ 9 rfl
  have c10 := B2.box.cell_ 10 rfl
  have hg := hid_ (part_good (show (0 : Int) ≤ 64 ∧ (64 : Int) ≤ 64 by omega) (show (0 : Int) ≤ 2 ∧ (2 : Int) ≤ 16 by omega) (show (0 : Int) ≤ 0 ∧ (0 : Int) ≤ 3 by omega) (show (0 : Int) ≤ q ∧ (q : Int) ≤ 3 by omega) (show (0 : Int) ≤ 0 ∧ (0 : Int) ≤ 3 by omega) (show (0 : Int) ≤ 0 ∧ (0 : Int) ≤ 3 by omega))
  have HN := hid_ (host_new (partC 64 2 0 q 0 0) hg.out (part_ok (show (0 : Int) ≤ 64 ∧ (64 : Int) ≤ 64 by omega) (show (0 : Int) ≤ 2 ∧ (2 : Int) ≤ 16 by omega) (show (0 : Int) ≤ 0 ∧ (0 : Int) ≤ 3 by omega) (show (0 : Int) ≤ q ∧ (q : Int) ≤ 3 by omega) (show (0 : Int) ≤ 0 ∧ (0 : Int) ≤ 3 by omega) (show (0 : Int) ≤ 0 ∧ (0 : Int) ≤ 3 by omega)) (part_snd (show (0 : Int) ≤ 64 ∧ (64 : Int) ≤ 64 by omega) (show (0 : Int) ≤ 2 ∧ (2 : Int) ≤ 16 by omega) (show (0 : Int) ≤ 0 ∧ (0 : Int) ≤ 3 by omega) (show (0 : Int) ≤ q ∧ (q : Int) ≤ 3 by omega) (show (0 : Int) ≤ 0 ∧ (0 : Int) ≤ 3 by omega) (show (0 : Int) ≤ 0 ∧ (0 : Int) ≤ 3 by omega)) rfl (fun _ => 0) _ _ _ 0 ⟨by omega, by show (0 : Int) < 2; omega⟩ W2 hl3 (fun _ _ => rfl))
  clear hl3 B2
  go_wp2_with fail
  refine HN.out.mono ?_
  clear c0 c1 c2 c3 c4 c5 c6 c7 c8 c9 c10
  rintro e W4 ⟨b, ab, tb, mb, lb, gb, cb, pv2, qv2, rv2, mpv, C4, rfl, F4, I4⟩
  have B4 := HB3.out.fr F4 ⟨rfl, rfl, rfl, rfl⟩ (fun h => h)
  have fin4 := F4.Fin (fun _ _ => rfl)
  have FW := hid_ ((Fr.of_below (C := fun _ => 0) V2 (fun _ => False)).trans F4)
  have B5 := B4.1.alloc (.cells #[.pointer (some ⟨b, 0, none⟩), .pointer (some ⟨tb, 0, none⟩), .pointer (some ⟨mb, 0, none⟩), .pointer (some ⟨cb, 0, none⟩)] 40)
  have HB4 := hid_ B4
  have HI4 := hid_ I4
  have HFN4 := hid_ fin4
  unfold hostV
  have c0 := B5.box.cell_ 0 rfl
  have c1 := B5.box.cell_ 1 rfl
  have c2 := B5.box.cell_ 2 rfl
  have c3 := B5.box.cell_ 3 rfl
  have c4 := B5.box.cell_ 4 rfl
  have c5 := B5.box.cell_ 5 rfl
  have c6 := B5.box.cell_ 6 rfl
  have c7 := B5.box.cell_ 7 rfl
  have c8 := B5.box.cell_ 8 rfl
  have c9 := B5.box.cell_ 9 rfl
  have c10 := B5.box.cell_ 10 rfl
  have fb := (Fr.refl (fun _ => False) C4 W4).alloc (.cells #[.pointer (some ⟨b, 0, none⟩), .pointer (some ⟨tb, 0, none⟩), .pointer (some ⟨mb, 0, none⟩), .pointer (some ⟨cb, 0, none⟩)] 40)
  have HNW := hid_ (apxNew (partC 64 2 0 q 0 0) C4 330 (by decide) _ _ _ 0 (show 0 < 2 by decide) ⟨show (0 : Int) ≤ 2 by omega, show (2 : Int) ≤ 16 by omega⟩ _ (part_lists (C := C4) B5.parts B5.ports B5.routes B4.2.2.1 B4.2.2.2.1 B4.2.2.2.2) (fb.Fin fin4))
  have HFB := hid_ fb
  have HBB := hid_ (Bk.new W4 40 [.pointer (some ⟨b, 0, none⟩), .pointer (some ⟨tb, 0, none⟩), .pointer (some ⟨mb, 0, none⟩), .pointer (some ⟨cb, 0, none⟩)])
  clear F4 B4 fin4 I4 B5 fb HB3 V2
  go_wp2_with fail
  refine HNW.out.mono ?_
  rintro e W6 ⟨pb6, xb6, C6, rfl, hpb6, F6, A6⟩
  have R6 := ready16 hg.out HI4.out (HFB.out.trans F6) A6 (HBB.out.frc (HFN4.out _ (Nat.le_refl _)) F6 (fun h => h)) (HT.out.fr (C := fun _ => 0) rfl (FW.out.trans (HFB.out.trans F6)) (fun h => h)) ((HFB.out.trans F6).Fin HFN4.out)
  have FW6 := FW.out.trans (HFB.out.trans F6)
  have B6 := HB4.out.1.fr (HFB.out.trans F6) HB4.out.2 (fun h => h)
  clear c0 c1 c2 c3 c4 c5 c6 c7 c8 c9 c10 F6 A6 hpb6 HNW HN HB4 HI4 HFB HBB FW HFN4
  go_upto_region 12 with fail
  refine gen_world (fun W => Below W6.heap.size W6 W ∧ Bk W (W6.heap.size + 1) 60 [.int .u8 4, .int .i64 0, .int .i64 99, .int .i64 0, .int .i64 0, .slice none 0 0]) ⟨((Below.refl _ _).alloc (Nat.le_refl _) _).alloc (by simp) _, bkM (by simp)⟩ ?_
  rintro W7 ⟨V7, K7⟩
  have f7 := Fr.of_below (C := C6) V7 (fun _ => False)
  have HR7 := hid_ (R6.fr f7 (fun x h => h.elim))
  have HC7 := hid_ (R6.fin _ (show W6.heap.size ≤ W6.heap.size + 1 by omega))
  have HK7 := hid_ K7
  have HFW7 := hid_ (FW6.trans f7)
  clear R6 FW6 f7 V7 K7 B6
  go_wp2_with fail
  go_loopw [15, 16] (fun ov iv wr => ∃ (i : Nat) (v : Value) (C' : Nat → Nat), i ≤ A + 1 + Bh ∧ iv = .int .i64 i ∧ v = ov ∧ Fr (· = 500) C6 C' W7 wr ∧ Sl wr C' 500 v 60 6 i ((stopOps A 1 i).flatMap oCell)) (fun _ iv _ => A + 1 + Bh - (intOf iv).toNat)
  case atStart => exact ⟨0, _, C6, Nat.zero_le _, rfl, rfl, Fr.refl _ _ _, Sl.nil _ _ _ _ _⟩
  case round =>
    obtain ⟨i, v, C', hi, rfl, rfl, F, S⟩ := hrel
    obtain ⟨va, vc, rfl, -⟩ := id S.form
    have j0 : (0 : Int) ≤ (i : Int) := Int.natCast_nonneg _
    by_cases hlt : i < A + 1 + Bh
    · by_cases hia : i = A
      · have hb : ((i : Int) == (A : Int)) = true := by simp; omega
        have kw := HK7.out.fr F (by rw [HC7.out]; omega)
        have x0 := kw.cell_ 0 rfl
        have x1 := kw.cell_ 1 rfl
        have x2 := kw.cell_ 2 rfl
        have x3 := kw.cell_ 3 rfl
        have x4 := kw.cell_ 4 rfl
        have x5 := kw.cell_ 5 rfl
        obtain ⟨v2, w2, C2, hr2, S2, F2, -, -⟩ := Sl.append (P := Tryd.prog) (t := 22) 0 Tryd.underlying22 hi9 his9 hz9 hzs9 (S.alloc (.cells #[.int .u8 4, .int .i64 0, .int .i64 99, .int .i64 0, .int .i64 0, .slice none 0 0] 60)) (Src.new wr 60 6 1 1 [.int .u8 4, .int .i64 0, .int .i64 99, .int .i64 0, .int .i64 0, .slice none 0 0] rfl) (by simp [Value.oneCell']) (by unfold maxLen; omega) (by rw [hby9]; omega)
        have HF2 := hid_ ((F.alloc (.cells #[.int .u8 4, .int .i64 0, .int .i64 99, .int .i64 0, .int .i64 0, .slice none 0 0] 60)).trans F2)
        have HS2 := hid_ S2
        have HRUN := hid_ hr2
        have HIA := hid_ hia
        clear hr2 S2 F2 kw F S hia
        go_wp2_with (refine wpList_append_run HRUN.out (by rfl) (by rfl) (by rfl) (by rfl) ?_)
        go_roundw
        case rel => exact ⟨i + 1, _, C2, by omega, by go_num, rfl, HF2.out, by rw [stopOps, if_pos HIA.out, List.flatMap_append]; exact HS2.out⟩
        case measure => simp [intOf]; omega
      · have hb : ((i : Int) == (A : Int)) = false := by simp; omega
        obtain ⟨v2, w2, C2, hr2, S2, F2, -, -⟩ := Sl.append (P := Tryd.prog) (t := 22) 0 Tryd.underlying22 hi9 his9 hz9 hzs9 (S.alloc (.cells #[.int .u8 5, .int .i64 0, .int .i64 0, .int .i64 0, .int .i64 0, .slice none 0 0] 60)) (Src.new wr 60 6 1 1 [.int .u8 5, .int .i64 0, .int .i64 0, .int .i64 0, .int .i64 0, .slice none 0 0] rfl) (by simp [Value.oneCell']) (by unfold maxLen; omega) (by rw [hby9]; omega)
        have HF2 := hid_ ((F.alloc (.cells #[.int .u8 5, .int .i64 0, .int .i64 0, .int .i64 0, .int .i64 0, .slice none 0 0] 60)).trans F2)
        have HS2 := hid_ S2
        have HRUN := hid_ hr2
        have HIA := hid_ hia
        clear hr2 S2 F2 F S hia
        go_wp2_with (refine wpList_append_run HRUN.out (by rfl) (by rfl) (by rfl) (by rfl) ?_)
        go_roundw
        case rel => exact ⟨i + 1, _, C2, by omega, by go_num, rfl, HF2.out, by rw [stopOps, if_neg HIA.out, List.flatMap_append]; exact HS2.out⟩
        case measure => simp [intOf]; omega
    · obtain rfl : i = A + 1 + Bh := by omega
      obtain ⟨D, fD, hD0⟩ : ∃ D : Nat → Nat, Fr (· = 500) C' D wr wr ∧ ∀ x, C' x = 500 → D x = 0 := by
        refine ⟨fun x => if C' x = 500 then 0 else C' x, ⟨rfl, rfl, rfl, Nat.le_refl _, fun x hx hk => ⟨rfl, if_neg hk⟩, fun h x hx => ?_⟩, fun x h => if_pos h⟩
        have := h x hx
        show (if C' x = 500 then 0 else C' x) = 0
        rw [if_neg (by omega)]
        exact this
      have HRW := hid_ (HR7.out.frB (F.trans fD) (fun x hx => by omega))
      have ho : Rd wr D (.slice va (stopOps A 1 (A + 1 + Bh)).length vc) 6 (stopOps A 1 (A + 1 + Bh)).length ((stopOps A 1 (A + 1 + Bh)).flatMap oCell) := by
        rw [stopOps_len]
        rcases S with ⟨_, h, _⟩ | ⟨b, hb, h⟩
        · omega
        · exact h.rd (hD0 _ hb)
      have hfc := stop_facts 1 (by omega) q hq0 A Bh hA9 hB9
      obtain ⟨X, hX⟩ : ∃ X, runR (stopC 1 q) 0 0 5 (stopOps A 1 (A + 1 + Bh)) (run16 (stopC 1 q) 0) = X := ⟨_, rfl⟩
      rw [hX] at hfc
      obtain ⟨A', hA'⟩ : ∃ A', mkA b ab tb mb cb pb6 xb6 pv2 qv2 rv2 (.slice (some ⟨pb, 0, none⟩) 2 2) (.slice (some ⟨qb, 0, none⟩) 4 4) (.slice (some ⟨rb, 0, none⟩) 2 2) 0 0 = A' := ⟨_, rfl⟩
      have hRW := HRW.out
      rw [hA'] at hRW
      have hRN : Calls Tryd.prog 12 #[.pointer (some ⟨pb6, 0, none⟩), .agg #[.pointer (some ⟨A'.b, 0, none⟩), .pointer (some ⟨A'.tb, 0, none⟩), .pointer (some ⟨A'.mb, 0, none⟩), .pointer (some ⟨A'.cb, 0, none⟩)], .int .u32 5, .slice va (A + 1 + Bh) vc] wr (RunMP (stopC 1 q) A' lb gb mpv W4.heap.size D wr 64 X) := by
        rw [← hX]
        rw [stopOps_len] at ho
        have := apxRunM (stopC 1 q) hg.out A' lb gb mpv _ D noLv (run16 (stopC 1 q) 0) 5 (by omega) (by omega) (.slice va (A + 1 + Bh) vc) (stopOps A 1 (A + 1 + Bh)) ((stopOps A 1 (A + 1 + Bh)).flatMap oCell) 0 (by rw [stopOps_len]; omega) (by rw [← hA']; exact show 0 < 2 by decide) (by rw [← hA']; exact ⟨show (0 : Int) ≤ 0 by omega, show (0 : Int) < 256 by omega⟩) wr hRW (by rw [stopOps_len]; exact ho) (opsIs_plain _ _ _ (stopOps_plain A 1 _)) (part_recs (show (0 : Int) ≤ 0 ∧ (0 : Int) ≤ 3 by omega) (show (0 : Int) ≤ q ∧ (q : Int) ≤ 3 by omega) (show (0 : Int) ≤ 0 ∧ (0 : Int) ≤ 3 by omega) (show (0 : Int) ≤ 0 ∧ (0 : Int) ≤ 3 by omega)) (by rw [← hA']; rfl) (by rw [← hA']; exact run16_ok hg.out (show 0 < 2 by decide) 0 (by omega))
        rw [← hA'] at this ⊢
        exact this
      obtain ⟨rs, act, sF⟩ := X
      obtain ⟨f1, f2, f3, f4⟩ := hfc
      simp only at f1 f2 f3 f4
      obtain rfl : q = act := f2.symm
      have h0 := hRW.host.cell_ 0 rfl
      have h1 := hRW.host.cell_ 1 rfl
      have h2 := hRW.host.cell_ 2 rfl
      have h3 := hRW.host.cell_ 3 rfl
      have HT7 := hid_ ((HFW7.out.mono (K' := (· = 500)) (fun _ h => h.elim)).trans (F.trans fD))
      have HRN := hid_ hRN
      have HF1 := hid_ f1
      have HF3 := hid_ f3
      have HF4 := hid_ f4
      clear hX hA' hRW hRN ho f1 f3 f4 fD hD0 F S
      go_wp2_with fail
      refine HRN.out.mono ?_
      rintro e W9 ⟨v9, C9, lv9, ov9, cs9, rfl, F9, R9⟩
      rw [show (64 : Int) - ((rs, q, sF) : List Res × Int × RSt).2.2.left = (rs.length : Int) by show (64 : Int) - sF.left = _; rw [HF3.out]; omega]
      try dsimp only
      obtain ⟨wa, wcp, rfl, -⟩ := R9.sl.form
      obtain ⟨oa9, oc9, rfl⟩ : ∃ a c, ov9 = .slice a 1 c := by
        obtain ⟨a, c, h, -⟩ := R9.mon.out.form
        rw [HF4.out] at h
        exact ⟨a, c, h⟩
      have hold : Fr (· ≠ 0) (fun _ => 0) C9 w W9 := (HT7.out.mono (K' := (· ≠ 0)) (fun x h => by omega)).trans (F9.mono (K' := (· ≠ 0)) (fun x h => by unfold KRun at h; omega))
      have h2 := R9.host.cell_ 2 rfl
      have HSEAL := hid_ (monSeal C9 310 A'.mb lb gb (by decide) A'.node (stopC 1 q).parts mpv (.slice oa9 1 oc9) sF.m W9 R9.mon)
      obtain ⟨N, hN⟩ : ∃ N, rs.length = N := ⟨_, rfl⟩
      have hf := HF1.out
      rw [hN] at hf ⊢
      have HOLD := hid_ hold
      have HFIN9 := hid_ R9.fin
      clear R9 F9 hN hold h0 h1 h3
      by_cases hz : q = 0
      · rw [if_pos hz] at hf
        have hb1 : (q != 0) = false := by simpa using hz
        have g1 : ((N : Int) == (A : Int) + 1 + (Bh : Int)) = true := by rw [hf]; simp
        clear hf hz
        go_wp2_with fail
        refine HSEAL.out.mono ?_
        rintro e w10 ⟨rfl, F10, -, -⟩
        go_wp2
        go_ret
        exact ⟨rfl, Fr.old (HOLD.out.trans (F10.mono (K' := (· ≠ 0)) (fun x h => by omega)))⟩
      · rw [if_neg hz] at hf
        have hb1 : (q != 0) = true := by simpa using hz
        have g1 : ((N : Int) == (A : Int) + 1) = true := by rw [hf]; simp
        clear hf hz
        go_wp2_with fail
        refine HSEAL.out.mono ?_
        rintro e w10 ⟨rfl, F10, -, -⟩
        go_wp2
        go_ret
        exact ⟨rfl, Fr.old (HOLD.out.trans (F10.mono (K' := (· ≠ 0)) (fun x h => by omega)))⟩

set_option maxRecDepth 100000 in
set_option maxHeartbeats 16000000 in
theorem stops_walk2 (ahead behind a kind : Int) (ha : 0 ≤ a ∧ a < 256) (hkk : wrap64 ((IntKind.u64.wrap kind).tmod 3) = 1) (w : World) (hT : ErrT w) :
    Calls Tryd.prog 5 #[.int .i64 ahead, .int .i64 behind, .int .u8 a, .int .i64 kind] w fun e w' => e = .returned (.bool true) ∧ Below w.heap.size w w' := by
  have HT := hid_ hT
  clear hT
  obtain ⟨i9, z9, hi9, hz9, hzs9, his9, hby9⟩ := info_row (P := Tryd.prog) (e := 60) (size := 6) (bytes := 64) (by kernel_rfl)
  obtain ⟨A, hA, hA9⟩ : ∃ A : Nat, wrap64 ((IntKind.u64.wrap ahead).tmod 10) = (A : Int) ∧ A < 10 := by
    have := rem_small16 ahead 10 (by omega) (by omega)
    exact ⟨(wrap64 ((IntKind.u64.wrap ahead).tmod 10)).toNat, by omega, by omega⟩
  obtain ⟨Bh, hBh, hB9⟩ : ∃ A : Nat, wrap64 ((IntKind.u64.wrap behind).tmod 10) = (A : Int) ∧ A < 10 := by
    have := rem_small16 behind 10 (by omega) (by omega)
    exact ⟨(wrap64 ((IntKind.u64.wrap behind).tmod 10)).toNat, by omega, by omega⟩
  have hA2 : IntKind.i64.wrap ((IntKind.u64.wrap ahead).tmod 10) = (A : Int) := by rw [← hA]; exact IntWalk.i64_left _
  have hB2 : IntKind.i64.wrap ((IntKind.u64.wrap behind).tmod 10) = (Bh : Int) := by rw [← hBh]; exact IntWalk.i64_left _
  have hk2 : IntKind.i64.wrap ((IntKind.u64.wrap kind).tmod 3) = 1 := by rw [← hkk]; exact IntWalk.i64_left _
  obtain ⟨q, hq⟩ : ∃ q, a % 4 = q := ⟨_, rfl⟩
  have hq0 : 0 ≤ q ∧ q ≤ 3 := by omega
  have HQ := hid_ hq
  clear hq
  go_enter Tryd.func5, Tryd.ntmps5
  go_wp2_with fail
  refine (awake16 _ HT.out).mono ?_
  rintro e w0 ⟨rfl, V0⟩
  go_wp2_with fail
  clear hA hA2 hBh hB2 hkk hk2
  have hq := HQ.out
  refine (law13WiredB _).mono ?_
  rintro e w1 ⟨pb, qb, rb, rfl, V1, ⟨hp, hq, hr, -, -⟩, P1, Q1, R1⟩
  unfold Cfg.v
  have hne : pb ≠ w1.heap.size ∧ pb ≠ qb ∧ pb ≠ rb := ⟨by have := P1.lt; omega, P1.ne Q1 (by decide), P1.ne R1 (by decide)⟩
  go_upto_region 5 with fail
  have B1 := wired_box (below_then V0 V1) P1 Q1 R1
  have hpw : w.heap.size ≤ pb := Nat.le_trans V0.size hp
  refine gen_world (fun W => Below w.heap.size w W ∧ IsBox W w1.heap.size pb qb rb 9 2 0 0 0 0) B1 ?_
  clear B1 V1 P1 Q1 R1
  rintro W2 ⟨V2, B2⟩
  have c8 := B2.box.cell_ 8 rfl
  have f3 := fun i => B2.parts.frozen i
  have z3 := B2.parts.cell_ 3 rfl
  go_upto_region 6 with fail
  refine gen_world (fun W => Below w.heap.size w W ∧ IsBox W w1.heap.size pb qb rb 64 2 0 0 0 0) ⟨V2.setCell hpw _, IsBox.sets hne B2 [(3, .int .i64 64)] rfl⟩ ?_
  clear c8 f3 z3 V2 B2
  rintro W2 ⟨V2, B2⟩
  have c8 := B2.box.cell_ 8 rfl
  have f3 := fun i => B2.parts.frozen i
  have z7 := B2.parts.cell_ 7 rfl
  go_upto_region 7 with fail
  refine gen_world (fun W => Below w.heap.size w W ∧ IsBox W w1.heap.size pb qb rb 64 2 0 0 q 0) ⟨V2.setCell hpw _, IsBox.sets hne B2 [(7, .int .u8 q)] rfl⟩ ?_
  clear c8 f3 z7 V2 B2
  rintro W2 ⟨V2, B2⟩
  have HB3 := hid_ B2
  have hl3 : Lists W2 (fun _ => 0) (partC 64 2 0 0 q 0) _ _ _ := part_lists B2.parts B2.ports B2.routes rfl rfl rfl
  have c0 := B2.box.cell_ 0 rfl
  have c1 := B2.box.cell_ 1 rfl
  have c2 := B2.box.cell_ 2 rfl
  have c3 := B2.box.cell_ 3 rfl
  have c4 := B2.box.cell_ 4 rfl
  have c5 := B2.box.cell_ 5 rfl
  have c6 := B2.box.cell_ 6 rfl
  have c7 := B2.box.cell_ 7 rfl
  have c8 := B2.box.cell_ 8 rfl
  have c9 := B2.box.cell_ 9 rfl
  have c10 := B2.box.cell_ 10 rfl
  have hg := hid_ (part_good (show (0 : Int) ≤ 64 ∧ (64 : Int) ≤ 64 by omega) (show (0 : Int) ≤ 2 ∧ (2 : Int) ≤ 16 by omega) (show (0 : Int) ≤ 0 ∧ (0 : Int) ≤ 3 by omega) (show (0 : Int) ≤ 0 ∧ (0 : Int) ≤ 3 by omega) (show (0 : Int) ≤ q ∧ (q : Int) ≤ 3 by omega) (show (0 : Int) ≤ 0 ∧ (0 : Int) ≤ 3 by omega))
  have HN := hid_ (host_new (partC 64 2 0 0 q 0) hg.out (part_ok (show (0 : Int) ≤ 64 ∧ (64 : Int) ≤ 64 by omega) (show (0 : Int) ≤ 2 ∧ (2 : Int) ≤ 16 by omega) (show (0 : Int) ≤ 0 ∧ (0 : Int) ≤ 3 by omega) (show (0 : Int) ≤ 0 ∧ (0 : Int) ≤ 3 by omega) (show (0 : Int) ≤ q ∧ (q : Int) ≤ 3 by omega) (show (0 : Int) ≤ 0 ∧ (0 : Int) ≤ 3 by omega)) (part_snd (show (0 : Int) ≤ 64 ∧ (64 : Int) ≤ 64 by omega) (show (0 : Int) ≤ 2 ∧ (2 : Int) ≤ 16 by omega) (show (0 : Int) ≤ 0 ∧ (0 : Int) ≤ 3 by omega) (show (0 : Int) ≤ 0 ∧ (0 : Int) ≤ 3 by omega) (show (0 : Int) ≤ q ∧ (q : Int) ≤ 3 by omega) (show (0 : Int) ≤ 0 ∧ (0 : Int) ≤ 3 by omega)) rfl (fun _ => 0) _ _ _ 0 ⟨by omega, by show (0 : Int) < 2; omega⟩ W2 hl3 (fun _ _ => rfl))
  clear hl3 B2
  go_wp2_with fail
  refine HN.out.mono ?_
  clear c0 c1 c2 c3 c4 c5 c6 c7 c8 c9 c10
  rintro e W4 ⟨b, ab, tb, mb, lb, gb, cb, pv2, qv2, rv2, mpv, C4, rfl, F4, I4⟩
  have B4 := HB3.out.fr F4 ⟨rfl, rfl, rfl, rfl⟩ (fun h => h)
  have fin4 := F4.Fin (fun _ _ => rfl)
  have FW := hid_ ((Fr.of_below (C := fun _ => 0) V2 (fun _ => False)).trans F4)
  have B5 := B4.1.alloc (.cells #[.pointer (some ⟨b, 0, none⟩), .pointer (some ⟨tb, 0, none⟩), .pointer (some ⟨mb, 0, none⟩), .pointer (some ⟨cb, 0, none⟩)] 40)
  have HB4 := hid_ B4
  have HI4 := hid_ I4
  have HFN4 := hid_ fin4
  unfold hostV
  have c0 := B5.box.cell_ 0 rfl
  have c1 := B5.box.cell_ 1 rfl
  have c2 := B5.box.cell_ 2 rfl
  have c3 := B5.box.cell_ 3 rfl
  have c4 := B5.box.cell_ 4 rfl
  have c5 := B5.box.cell_ 5 rfl
  have c6 := B5.box.cell_ 6 rfl
  have c7 := B5.box.cell_ 7 rfl
  have c8 := B5.box.cell_ 8 rfl
  have c9 := B5.box.cell_ 9 rfl
  have c10 := B5.box.cell_ 10 rfl
  have fb := (Fr.refl (fun _ => False) C4 W4).alloc (.cells #[.pointer (some ⟨b, 0, none⟩), .pointer (some ⟨tb, 0, none⟩), .pointer (some ⟨mb, 0, none⟩), .pointer (some ⟨cb, 0, none⟩)] 40)
  have HNW := hid_ (apxNew (partC 64 2 0 0 q 0) C4 330 (by decide) _ _ _ 0 (show 0 < 2 by decide) ⟨show (0 : Int) ≤ 2 by omega, show (2 : Int) ≤ 16 by omega⟩ _ (part_lists (C := C4) B5.parts B5.ports B5.routes B4.2.2.1 B4.2.2.2.1 B4.2.2.2.2) (fb.Fin fin4))
  have HFB := hid_ fb
  have HBB := hid_ (Bk.new W4 40 [.pointer (some ⟨b, 0, none⟩), .pointer (some ⟨tb, 0, none⟩), .pointer (some ⟨mb, 0, none⟩), .pointer (some ⟨cb, 0, none⟩)])
  clear F4 B4 fin4 I4 B5 fb HB3 V2
  go_wp2_with fail
  refine HNW.out.mono ?_
  rintro e W6 ⟨pb6, xb6, C6, rfl, hpb6, F6, A6⟩
  have R6 := ready16 hg.out HI4.out (HFB.out.trans F6) A6 (HBB.out.frc (HFN4.out _ (Nat.le_refl _)) F6 (fun h => h)) (HT.out.fr (C := fun _ => 0) rfl (FW.out.trans (HFB.out.trans F6)) (fun h => h)) ((HFB.out.trans F6).Fin HFN4.out)
  have FW6 := FW.out.trans (HFB.out.trans F6)
  have B6 := HB4.out.1.fr (HFB.out.trans F6) HB4.out.2 (fun h => h)
  clear c0 c1 c2 c3 c4 c5 c6 c7 c8 c9 c10 F6 A6 hpb6 HNW HN HB4 HI4 HFB HBB FW HFN4
  go_upto_region 12 with fail
  refine gen_world (fun W => Below W6.heap.size W6 W ∧ Bk W (W6.heap.size + 1) 60 [.int .u8 6, .int .i64 0, .int .i64 0, .int .i64 0, .int .i64 0, .slice none 0 0]) ⟨((Below.refl _ _).alloc (Nat.le_refl _) _).alloc (by simp) _, bkM (by simp)⟩ ?_
  rintro W7 ⟨V7, K7⟩
  have f7 := Fr.of_below (C := C6) V7 (fun _ => False)
  have HR7 := hid_ (R6.fr f7 (fun x h => h.elim))
  have HC7 := hid_ (R6.fin _ (show W6.heap.size ≤ W6.heap.size + 1 by omega))
  have HK7 := hid_ K7
  have HFW7 := hid_ (FW6.trans f7)
  clear R6 FW6 f7 V7 K7 B6
  go_wp2_with fail
  go_loopw [15, 16] (fun ov iv wr => ∃ (i : Nat) (v : Value) (C' : Nat → Nat), i ≤ A + 1 + Bh ∧ iv = .int .i64 i ∧ v = ov ∧ Fr (· = 500) C6 C' W7 wr ∧ Sl wr C' 500 v 60 6 i ((stopOps A 2 i).flatMap oCell)) (fun _ iv _ => A + 1 + Bh - (intOf iv).toNat)
  case atStart => exact ⟨0, _, C6, Nat.zero_le _, rfl, rfl, Fr.refl _ _ _, Sl.nil _ _ _ _ _⟩
  case round =>
    obtain ⟨i, v, C', hi, rfl, rfl, F, S⟩ := hrel
    obtain ⟨va, vc, rfl, -⟩ := id S.form
    have j0 : (0 : Int) ≤ (i : Int) := Int.natCast_nonneg _
    by_cases hlt : i < A + 1 + Bh
    · by_cases hia : i = A
      · have hb : ((i : Int) == (A : Int)) = true := by simp; omega
        have kw := HK7.out.fr F (by rw [HC7.out]; omega)
        have x0 := kw.cell_ 0 rfl
        have x1 := kw.cell_ 1 rfl
        have x2 := kw.cell_ 2 rfl
        have x3 := kw.cell_ 3 rfl
        have x4 := kw.cell_ 4 rfl
        have x5 := kw.cell_ 5 rfl
        obtain ⟨v2, w2, C2, hr2, S2, F2, -, -⟩ := Sl.append (P := Tryd.prog) (t := 22) 0 Tryd.underlying22 hi9 his9 hz9 hzs9 (S.alloc (.cells #[.int .u8 6, .int .i64 0, .int .i64 0, .int .i64 0, .int .i64 0, .slice none 0 0] 60)) (Src.new wr 60 6 1 1 [.int .u8 6, .int .i64 0, .int .i64 0, .int .i64 0, .int .i64 0, .slice none 0 0] rfl) (by simp [Value.oneCell']) (by unfold maxLen; omega) (by rw [hby9]; omega)
        have HF2 := hid_ ((F.alloc (.cells #[.int .u8 6, .int .i64 0, .int .i64 0, .int .i64 0, .int .i64 0, .slice none 0 0] 60)).trans F2)
        have HS2 := hid_ S2
        have HRUN := hid_ hr2
        have HIA := hid_ hia
        clear hr2 S2 F2 kw F S hia
        go_wp2_with (refine wpList_append_run HRUN.out (by rfl) (by rfl) (by rfl) (by rfl) ?_)
        go_roundw
        case rel => exact ⟨i + 1, _, C2, by omega, by go_num, rfl, HF2.out, by rw [stopOps, if_pos HIA.out, List.flatMap_append]; exact HS2.out⟩
        case measure => simp [intOf]; omega
      · have hb : ((i : Int) == (A : Int)) = false := by simp; omega
        obtain ⟨v2, w2, C2, hr2, S2, F2, -, -⟩ := Sl.append (P := Tryd.prog) (t := 22) 0 Tryd.underlying22 hi9 his9 hz9 hzs9 (S.alloc (.cells #[.int .u8 5, .int .i64 0, .int .i64 0, .int .i64 0, .int .i64 0, .slice none 0 0] 60)) (Src.new wr 60 6 1 1 [.int .u8 5, .int .i64 0, .int .i64 0, .int .i64 0, .int .i64 0, .slice none 0 0] rfl) (by simp [Value.oneCell']) (by unfold maxLen; omega) (by rw [hby9]; omega)
        have HF2 := hid_ ((F.alloc (.cells #[.int .u8 5, .int .i64 0, .int .i64 0, .int .i64 0, .int .i64 0, .slice none 0 0] 60)).trans F2)
        have HS2 := hid_ S2
        have HRUN := hid_ hr2
        have HIA := hid_ hia
        clear hr2 S2 F2 F S hia
        go_wp2_with (refine wpList_append_run HRUN.out (by rfl) (by rfl) (by rfl) (by rfl) ?_)
        go_roundw
        case rel => exact ⟨i + 1, _, C2, by omega, by go_num, rfl, HF2.out, by rw [stopOps, if_neg HIA.out, List.flatMap_append]; exact HS2.out⟩
        case measure => simp [intOf]; omega
    · obtain rfl : i = A + 1 + Bh := by omega
      obtain ⟨D, fD, hD0⟩ : ∃ D : Nat → Nat, Fr (· = 500) C' D wr wr ∧ ∀ x, C' x = 500 → D x = 0 := by
        refine ⟨fun x => if C' x = 500 then 0 else C' x, ⟨rfl, rfl, rfl, Nat.le_refl _, fun x hx hk => ⟨rfl, if_neg hk⟩, fun h x hx => ?_⟩, fun x h => if_pos h⟩
        have := h x hx
        show (if C' x = 500 then 0 else C' x) = 0
        rw [if_neg (by omega)]
        exact this
      have HRW := hid_ (HR7.out.frB (F.trans fD) (fun x hx => by omega))
      have ho : Rd wr D (.slice va (stopOps A 2 (A + 1 + Bh)).length vc) 6 (stopOps A 2 (A + 1 + Bh)).length ((stopOps A 2 (A + 1 + Bh)).flatMap oCell) := by
        rw [stopOps_len]
        rcases S with ⟨_, h, _⟩ | ⟨b, hb, h⟩
        · omega
        · exact h.rd (hD0 _ hb)
      have hfc := stop_facts 2 (by omega) q hq0 A Bh hA9 hB9
      obtain ⟨X, hX⟩ : ∃ X, runR (stopC 2 q) 0 0 5 (stopOps A 2 (A + 1 + Bh)) (run16 (stopC 2 q) 0) = X := ⟨_, rfl⟩
      rw [hX] at hfc
      obtain ⟨A', hA'⟩ : ∃ A', mkA b ab tb mb cb pb6 xb6 pv2 qv2 rv2 (.slice (some ⟨pb, 0, none⟩) 2 2) (.slice (some ⟨qb, 0, none⟩) 4 4) (.slice (some ⟨rb, 0, none⟩) 2 2) 0 0 = A' := ⟨_, rfl⟩
      have hRW := HRW.out
      rw [hA'] at hRW
      have hRN : Calls Tryd.prog 12 #[.pointer (some ⟨pb6, 0, none⟩), .agg #[.pointer (some ⟨A'.b, 0, none⟩), .pointer (some ⟨A'.tb, 0, none⟩), .pointer (some ⟨A'.mb, 0, none⟩), .pointer (some ⟨A'.cb, 0, none⟩)], .int .u32 5, .slice va (A + 1 + Bh) vc] wr (RunMP (stopC 2 q) A' lb gb mpv W4.heap.size D wr 64 X) := by
        rw [← hX]
        rw [stopOps_len] at ho
        have := apxRunM (stopC 2 q) hg.out A' lb gb mpv _ D noLv (run16 (stopC 2 q) 0) 5 (by omega) (by omega) (.slice va (A + 1 + Bh) vc) (stopOps A 2 (A + 1 + Bh)) ((stopOps A 2 (A + 1 + Bh)).flatMap oCell) 0 (by rw [stopOps_len]; omega) (by rw [← hA']; exact show 0 < 2 by decide) (by rw [← hA']; exact ⟨show (0 : Int) ≤ 0 by omega, show (0 : Int) < 256 by omega⟩) wr hRW (by rw [stopOps_len]; exact ho) (opsIs_plain _ _ _ (stopOps_plain A 2 _)) (part_recs (show (0 : Int) ≤ 0 ∧ (0 : Int) ≤ 3 by omega) (show (0 : Int) ≤ 0 ∧ (0 : Int) ≤ 3 by omega) (show (0 : Int) ≤ q ∧ (q : Int) ≤ 3 by omega) (show (0 : Int) ≤ 0 ∧ (0 : Int) ≤ 3 by omega)) (by rw [← hA']; rfl) (by rw [← hA']; exact run16_ok hg.out (show 0 < 2 by decide) 0 (by omega))
        rw [← hA'] at this ⊢
        exact this
      obtain ⟨rs, act, sF⟩ := X
      obtain ⟨f1, f2, f3, f4⟩ := hfc
      simp only at f1 f2 f3 f4
      obtain rfl : q = act := f2.symm
      have h0 := hRW.host.cell_ 0 rfl
      have h1 := hRW.host.cell_ 1 rfl
      have h2 := hRW.host.cell_ 2 rfl
      have h3 := hRW.host.cell_ 3 rfl
      have HT7 := hid_ ((HFW7.out.mono (K' := (· = 500)) (fun _ h => h.elim)).trans (F.trans fD))
      have HRN := hid_ hRN
      have HF1 := hid_ f1
      have HF3 := hid_ f3
      have HF4 := hid_ f4
      clear hX hA' hRW hRN ho f1 f3 f4 fD hD0 F S
      go_wp2_with fail
      refine HRN.out.mono ?_
      rintro e W9 ⟨v9, C9, lv9, ov9, cs9, rfl, F9, R9⟩
      rw [show (64 : Int) - ((rs, q, sF) : List Res × Int × RSt).2.2.left = (rs.length : Int) by show (64 : Int) - sF.left = _; rw [HF3.out]; omega]
      try dsimp only
      obtain ⟨wa, wcp, rfl, -⟩ := R9.sl.form
      obtain ⟨oa9, oc9, rfl⟩ : ∃ a c, ov9 = .slice a 1 c := by
        obtain ⟨a, c, h, -⟩ := R9.mon.out.form
        rw [HF4.out] at h
        exact ⟨a, c, h⟩
      have hold : Fr (· ≠ 0) (fun _ => 0) C9 w W9 := (HT7.out.mono (K' := (· ≠ 0)) (fun x h => by omega)).trans (F9.mono (K' := (· ≠ 0)) (fun x h => by unfold KRun at h; omega))
      have h2 := R9.host.cell_ 2 rfl
      have HSEAL := hid_ (monSeal C9 310 A'.mb lb gb (by decide) A'.node (stopC 2 q).parts mpv (.slice oa9 1 oc9) sF.m W9 R9.mon)
      obtain ⟨N, hN⟩ : ∃ N, rs.length = N := ⟨_, rfl⟩
      have hf := HF1.out
      rw [hN] at hf ⊢
      have HOLD := hid_ hold
      have HFIN9 := hid_ R9.fin
      clear R9 F9 hN hold h0 h1 h3
      by_cases hz : q = 0
      · rw [if_pos hz] at hf
        have hb1 : (q != 0) = false := by simpa using hz
        have g1 : ((N : Int) == (A : Int) + 1 + (Bh : Int)) = true := by rw [hf]; simp
        clear hf hz
        go_wp2_with fail
        refine HSEAL.out.mono ?_
        rintro e w10 ⟨rfl, F10, -, -⟩
        go_wp2
        go_ret
        exact ⟨rfl, Fr.old (HOLD.out.trans (F10.mono (K' := (· ≠ 0)) (fun x h => by omega)))⟩
      · rw [if_neg hz] at hf
        have hb1 : (q != 0) = true := by simpa using hz
        have g1 : ((N : Int) == (A : Int) + 1) = true := by rw [hf]; simp
        clear hf hz
        go_wp2_with fail
        refine HSEAL.out.mono ?_
        rintro e w10 ⟨rfl, F10, -, -⟩
        go_wp2
        go_ret
        exact ⟨rfl, Fr.old (HOLD.out.trans (F10.mono (K' := (· ≠ 0)) (fun x h => by omega)))⟩

set_option maxRecDepth 100000 in
set_option maxHeartbeats 16000000 in
theorem stops_walk3 (ahead behind a kind : Int) (ha : 0 ≤ a ∧ a < 256) (hkk : wrap64 ((IntKind.u64.wrap kind).tmod 3) = 2) (w : World) (hT : ErrT w) :
    Calls Tryd.prog 5 #[.int .i64 ahead, .int .i64 behind, .int .u8 a, .int .i64 kind] w fun e w' => e = .returned (.bool true) ∧ Below w.heap.size w w' := by
  have HT := hid_ hT
  clear hT
  obtain ⟨i9, z9, hi9, hz9, hzs9, his9, hby9⟩ := info_row (P := Tryd.prog) (e := 60) (size := 6) (bytes := 64) (by kernel_rfl)
  obtain ⟨A, hA, hA9⟩ : ∃ A : Nat, wrap64 ((IntKind.u64.wrap ahead).tmod 10) = (A : Int) ∧ A < 10 := by
    have := rem_small16 ahead 10 (by omega) (by omega)
    exact ⟨(wrap64 ((IntKind.u64.wrap ahead).tmod 10)).toNat, by omega, by omega⟩
  obtain ⟨Bh, hBh, hB9⟩ : ∃ A : Nat, wrap64 ((IntKind.u64.wrap behind).tmod 10) = (A : Int) ∧ A < 10 := by
    have := rem_small16 behind 10 (by omega) (by omega)
    exact ⟨(wrap64 ((IntKind.u64.wrap behind).tmod 10)).toNat, by omega, by omega⟩
  have hA2 : IntKind.i64.wrap ((IntKind.u64.wrap ahead).tmod 10) = (A : Int) := by rw [← hA]; exact IntWalk.i64_left _
  have hB2 : IntKind.i64.wrap ((IntKind.u64.wrap behind).tmod 10) = (Bh : Int) := by rw [← hBh]; exact IntWalk.i64_left _
  have hk2 : IntKind.i64.wrap ((IntKind.u64.wrap kind).tmod 3) = 2 := by rw [← hkk]; exact IntWalk.i64_left _
  obtain ⟨q, hq⟩ : ∃ q, a % 4 = q := ⟨_, rfl⟩
  have hq0 : 0 ≤ q ∧ q ≤ 3 := by omega
  have HQ := hid_ hq
  clear hq
  go_enter Tryd.func5, Tryd.ntmps5
  go_wp2_with fail
  refine (awake16 _ HT.out).mono ?_
  rintro e w0 ⟨rfl, V0⟩
  go_wp2_with fail
  clear hA hA2 hBh hB2 hkk hk2
  have hq := HQ.out
  refine (law13WiredB _).mono ?_
  rintro e w1 ⟨pb, qb, rb, rfl, V1, ⟨hp, hq, hr, -, -⟩, P1, Q1, R1⟩
  unfold Cfg.v
  have hne : pb ≠ w1.heap.size ∧ pb ≠ qb ∧ pb ≠ rb := ⟨by have := P1.lt; omega, P1.ne Q1 (by decide), P1.ne R1 (by decide)⟩
  go_upto_region 5 with fail
  have B1 := wired_box (below_then V0 V1) P1 Q1 R1
  have hpw : w.heap.size ≤ pb := Nat.le_trans V0.size hp
  refine gen_world (fun W => Below w.heap.size w W ∧ IsBox W w1.heap.size pb qb rb 9 2 0 0 0 0) B1 ?_
  clear B1 V1 P1 Q1 R1
  rintro W2 ⟨V2, B2⟩
  have c8 := B2.box.cell_ 8 rfl
  have f3 := fun i => B2.parts.frozen i
  have z3 := B2.parts.cell_ 3 rfl
  go_upto_region 6 with fail
  refine gen_world (fun W => Below w.heap.size w W ∧ IsBox W w1.heap.size pb qb rb 64 2 0 0 0 0) ⟨V2.setCell hpw _, IsBox.sets hne B2 [(3, .int .i64 64)] rfl⟩ ?_
  clear c8 f3 z3 V2 B2
  rintro W2 ⟨V2, B2⟩
  have c8 := B2.box.cell_ 8 rfl
  have f3 := fun i => B2.parts.frozen i
  have z8 := B2.parts.cell_ 8 rfl
  go_upto_region 7 with fail
  refine gen_world (fun W => Below w.heap.size w W ∧ IsBox W w1.heap.size pb qb rb 64 2 0 0 0 q) ⟨V2.setCell hpw _, IsBox.sets hne B2 [(8, .int .u8 q)] rfl⟩ ?_
  clear c8 f3 z8 V2 B2
  rintro W2 ⟨V2, B2⟩
  have HB3 := hid_ B2
  have hl3 : Lists W2 (fun _ => 0) (partC 64 2 0 0 0 q) _ _ _ := part_lists B2.parts B2.ports B2.routes rfl rfl rfl
  have c0 := B2.box.cell_ 0 rfl
  have c1 := B2.box.cell_ 1 rfl
  have c2 := B2.box.cell_ 2 rfl
  have c3 := B2.box.cell_ 3 rfl
  have c4 := B2.box.cell_ 4 rfl
  have c5 := B2.box.cell_ 5 rfl
  have c6 := B2.box.cell_ 6 rfl
  have c7 := B2.box.cell_ 7 rfl
  have c8 := B2.box.cell_ 8 rfl
  have c9 := B2.box.cell_ 9 rfl
  have c10 := B2.box.cell_ 10 rfl
  have hg := hid_ (part_good (show (0 : Int) ≤ 64 ∧ (64 : Int) ≤ 64 by omega) (show (0 : Int) ≤ 2 ∧ (2 : Int) ≤ 16 by omega) (show (0 : Int) ≤ 0 ∧ (0 : Int) ≤ 3 by omega) (show (0 : Int) ≤ 0 ∧ (0 : Int) ≤ 3 by omega) (show (0 : Int) ≤ 0 ∧ (0 : Int) ≤ 3 by omega) (show (0 : Int) ≤ q ∧ (q : Int) ≤ 3 by omega))
  have HN := hid_ (host_new (partC 64 2 0 0 0 q) hg.out (part_ok (show (0 : Int) ≤ 64 ∧ (64 : Int) ≤ 64 by omega) (show (0 : Int) ≤ 2 ∧ (2 : Int) ≤ 16 by omega) (show (0 : Int) ≤ 0 ∧ (0 : Int) ≤ 3 by omega) (show (0 : Int) ≤ 0 ∧ (0 : Int) ≤ 3 by omega) (show (0 : Int) ≤ 0 ∧ (0 : Int) ≤ 3 by omega) (show (0 : Int) ≤ q ∧ (q : Int) ≤ 3 by omega)) (part_snd (show (0 : Int) ≤ 64 ∧ (64 : Int) ≤ 64 by omega) (show (0 : Int) ≤ 2 ∧ (2 : Int) ≤ 16 by omega) (show (0 : Int) ≤ 0 ∧ (0 : Int) ≤ 3 by omega) (show (0 : Int) ≤ 0 ∧ (0 : Int) ≤ 3 by omega) (show (0 : Int) ≤ 0 ∧ (0 : Int) ≤ 3 by omega) (show (0 : Int) ≤ q ∧ (q : Int) ≤ 3 by omega)) rfl (fun _ => 0) _ _ _ 0 ⟨by omega, by show (0 : Int) < 2; omega⟩ W2 hl3 (fun _ _ => rfl))
  clear hl3 B2
  go_wp2_with fail
  refine HN.out.mono ?_
  clear c0 c1 c2 c3 c4 c5 c6 c7 c8 c9 c10
  rintro e W4 ⟨b, ab, tb, mb, lb, gb, cb, pv2, qv2, rv2, mpv, C4, rfl, F4, I4⟩
  have B4 := HB3.out.fr F4 ⟨rfl, rfl, rfl, rfl⟩ (fun h => h)
  have fin4 := F4.Fin (fun _ _ => rfl)
  have FW := hid_ ((Fr.of_below (C := fun _ => 0) V2 (fun _ => False)).trans F4)
  have B5 := B4.1.alloc (.cells #[.pointer (some ⟨b, 0, none⟩), .pointer (some ⟨tb, 0, none⟩), .pointer (some ⟨mb, 0, none⟩), .pointer (some ⟨cb, 0, none⟩)] 40)
  have HB4 := hid_ B4
  have HI4 := hid_ I4
  have HFN4 := hid_ fin4
  unfold hostV
  have c0 := B5.box.cell_ 0 rfl
  have c1 := B5.box.cell_ 1 rfl
  have c2 := B5.box.cell_ 2 rfl
  have c3 := B5.box.cell_ 3 rfl
  have c4 := B5.box.cell_ 4 rfl
  have c5 := B5.box.cell_ 5 rfl
  have c6 := B5.box.cell_ 6 rfl
  have c7 := B5.box.cell_ 7 rfl
  have c8 := B5.box.cell_ 8 rfl
  have c9 := B5.box.cell_ 9 rfl
  have c10 := B5.box.cell_ 10 rfl
  have fb := (Fr.refl (fun _ => False) C4 W4).alloc (.cells #[.pointer (some ⟨b, 0, none⟩), .pointer (some ⟨tb, 0, none⟩), .pointer (some ⟨mb, 0, none⟩), .pointer (some ⟨cb, 0, none⟩)] 40)
  have HNW := hid_ (apxNew (partC 64 2 0 0 0 q) C4 330 (by decide) _ _ _ 0 (show 0 < 2 by decide) ⟨show (0 : Int) ≤ 2 by omega, show (2 : Int) ≤ 16 by omega⟩ _ (part_lists (C := C4) B5.parts B5.ports B5.routes B4.2.2.1 B4.2.2.2.1 B4.2.2.2.2) (fb.Fin fin4))
  have HFB := hid_ fb
  have HBB := hid_ (Bk.new W4 40 [.pointer (some ⟨b, 0, none⟩), .pointer (some ⟨tb, 0, none⟩), .pointer (some ⟨mb, 0, none⟩), .pointer (some ⟨cb, 0, none⟩)])
  clear F4 B4 fin4 I4 B5 fb HB3 V2
  go_wp2_with fail
  refine HNW.out.mono ?_
  rintro e W6 ⟨pb6, xb6, C6, rfl, hpb6, F6, A6⟩
  have R6 := ready16 hg.out HI4.out (HFB.out.trans F6) A6 (HBB.out.frc (HFN4.out _ (Nat.le_refl _)) F6 (fun h => h)) (HT.out.fr (C := fun _ => 0) rfl (FW.out.trans (HFB.out.trans F6)) (fun h => h)) ((HFB.out.trans F6).Fin HFN4.out)
  have FW6 := FW.out.trans (HFB.out.trans F6)
  have B6 := HB4.out.1.fr (HFB.out.trans F6) HB4.out.2 (fun h => h)
  clear c0 c1 c2 c3 c4 c5 c6 c7 c8 c9 c10 F6 A6 hpb6 HNW HN HB4 HI4 HFB HBB FW HFN4
  go_upto_region 12 with fail
  refine gen_world (fun W => Below W6.heap.size W6 W ∧ Bk W (W6.heap.size + 1) 60 [.int .u8 2, .int .i64 99, .int .i64 0, .int .i64 0, .int .i64 0, .slice none 0 0]) ⟨((Below.refl _ _).alloc (Nat.le_refl _) _).alloc (by simp) _, bkM (by simp)⟩ ?_
  rintro W7 ⟨V7, K7⟩
  have f7 := Fr.of_below (C := C6) V7 (fun _ => False)
  have HR7 := hid_ (R6.fr f7 (fun x h => h.elim))
  have HC7 := hid_ (R6.fin _ (show W6.heap.size ≤ W6.heap.size + 1 by omega))
  have HK7 := hid_ K7
  have HFW7 := hid_ (FW6.trans f7)
  clear R6 FW6 f7 V7 K7 B6
  go_wp2_with fail
  go_loopw [15, 16] (fun ov iv wr => ∃ (i : Nat) (v : Value) (C' : Nat → Nat), i ≤ A + 1 + Bh ∧ iv = .int .i64 i ∧ v = ov ∧ Fr (· = 500) C6 C' W7 wr ∧ Sl wr C' 500 v 60 6 i ((stopOps A 3 i).flatMap oCell)) (fun _ iv _ => A + 1 + Bh - (intOf iv).toNat)
  case atStart => exact ⟨0, _, C6, Nat.zero_le _, rfl, rfl, Fr.refl _ _ _, Sl.nil _ _ _ _ _⟩
  case round =>
    obtain ⟨i, v, C', hi, rfl, rfl, F, S⟩ := hrel
    obtain ⟨va, vc, rfl, -⟩ := id S.form
    have j0 : (0 : Int) ≤ (i : Int) := Int.natCast_nonneg _
    by_cases hlt : i < A + 1 + Bh
    · by_cases hia : i = A
      · have hb : ((i : Int) == (A : Int)) = true := by simp; omega
        have kw := HK7.out.fr F (by rw [HC7.out]; omega)
        have x0 := kw.cell_ 0 rfl
        have x1 := kw.cell_ 1 rfl
        have x2 := kw.cell_ 2 rfl
        have x3 := kw.cell_ 3 rfl
        have x4 := kw.cell_ 4 rfl
        have x5 := kw.cell_ 5 rfl
        obtain ⟨v2, w2, C2, hr2, S2, F2, -, -⟩ := Sl.append (P := Tryd.prog) (t := 22) 0 Tryd.underlying22 hi9 his9 hz9 hzs9 (S.alloc (.cells #[.int .u8 2, .int .i64 99, .int .i64 0, .int .i64 0, .int .i64 0, .slice none 0 0] 60)) (Src.new wr 60 6 1 1 [.int .u8 2, .int .i64 99, .int .i64 0, .int .i64 0, .int .i64 0, .slice none 0 0] rfl) (by simp [Value.oneCell']) (by unfold maxLen; omega) (by rw [hby9]; omega)
        have HF2 := hid_ ((F.alloc (.cells #[.int .u8 2, .int .i64 99, .int .i64 0, .int .i64 0, .int .i64 0, .slice none 0 0] 60)).trans F2)
        have HS2 := hid_ S2
        have HRUN := hid_ hr2
        have HIA := hid_ hia
        clear hr2 S2 F2 kw F S hia
        go_wp2_with (refine wpList_append_run HRUN.out (by rfl) (by rfl) (by rfl) (by rfl) ?_)
        go_roundw
        case rel => exact ⟨i + 1, _, C2, by omega, by go_num, rfl, HF2.out, by rw [stopOps, if_pos HIA.out, List.flatMap_append]; exact HS2.out⟩
        case measure => simp [intOf]; omega
      · have hb : ((i : Int) == (A : Int)) = false := by simp; omega
        obtain ⟨v2, w2, C2, hr2, S2, F2, -, -⟩ := Sl.append (P := Tryd.prog) (t := 22) 0 Tryd.underlying22 hi9 his9 hz9 hzs9 (S.alloc (.cells #[.int .u8 5, .int .i64 0, .int .i64 0, .int .i64 0, .int .i64 0, .slice none 0 0] 60)) (Src.new wr 60 6 1 1 [.int .u8 5, .int .i64 0, .int .i64 0, .int .i64 0, .int .i64 0, .slice none 0 0] rfl) (by simp [Value.oneCell']) (by unfold maxLen; omega) (by rw [hby9]; omega)
        have HF2 := hid_ ((F.alloc (.cells #[.int .u8 5, .int .i64 0, .int .i64 0, .int .i64 0, .int .i64 0, .slice none 0 0] 60)).trans F2)
        have HS2 := hid_ S2
        have HRUN := hid_ hr2
        have HIA := hid_ hia
        clear hr2 S2 F2 F S hia
        go_wp2_with (refine wpList_append_run HRUN.out (by rfl) (by rfl) (by rfl) (by rfl) ?_)
        go_roundw
        case rel => exact ⟨i + 1, _, C2, by omega, by go_num, rfl, HF2.out, by rw [stopOps, if_neg HIA.out, List.flatMap_append]; exact HS2.out⟩
        case measure => simp [intOf]; omega
    · obtain rfl : i = A + 1 + Bh := by omega
      obtain ⟨D, fD, hD0⟩ : ∃ D : Nat → Nat, Fr (· = 500) C' D wr wr ∧ ∀ x, C' x = 500 → D x = 0 := by
        refine ⟨fun x => if C' x = 500 then 0 else C' x, ⟨rfl, rfl, rfl, Nat.le_refl _, fun x hx hk => ⟨rfl, if_neg hk⟩, fun h x hx => ?_⟩, fun x h => if_pos h⟩
        have := h x hx
        show (if C' x = 500 then 0 else C' x) = 0
        rw [if_neg (by omega)]
        exact this
      have HRW := hid_ (HR7.out.frB (F.trans fD) (fun x hx => by omega))
      have ho : Rd wr D (.slice va (stopOps A 3 (A + 1 + Bh)).length vc) 6 (stopOps A 3 (A + 1 + Bh)).length ((stopOps A 3 (A + 1 + Bh)).flatMap oCell) := by
        rw [stopOps_len]
        rcases S with ⟨_, h, _⟩ | ⟨b, hb, h⟩
        · omega
        · exact h.rd (hD0 _ hb)
      have hfc := stop_facts 3 (by omega) q hq0 A Bh hA9 hB9
      obtain ⟨X, hX⟩ : ∃ X, runR (stopC 3 q) 0 0 5 (stopOps A 3 (A + 1 + Bh)) (run16 (stopC 3 q) 0) = X := ⟨_, rfl⟩
      rw [hX] at hfc
      obtain ⟨A', hA'⟩ : ∃ A', mkA b ab tb mb cb pb6 xb6 pv2 qv2 rv2 (.slice (some ⟨pb, 0, none⟩) 2 2) (.slice (some ⟨qb, 0, none⟩) 4 4) (.slice (some ⟨rb, 0, none⟩) 2 2) 0 0 = A' := ⟨_, rfl⟩
      have hRW := HRW.out
      rw [hA'] at hRW
      have hRN : Calls Tryd.prog 12 #[.pointer (some ⟨pb6, 0, none⟩), .agg #[.pointer (some ⟨A'.b, 0, none⟩), .pointer (some ⟨A'.tb, 0, none⟩), .pointer (some ⟨A'.mb, 0, none⟩), .pointer (some ⟨A'.cb, 0, none⟩)], .int .u32 5, .slice va (A + 1 + Bh) vc] wr (RunMP (stopC 3 q) A' lb gb mpv W4.heap.size D wr 64 X) := by
        rw [← hX]
        rw [stopOps_len] at ho
        have := apxRunM (stopC 3 q) hg.out A' lb gb mpv _ D noLv (run16 (stopC 3 q) 0) 5 (by omega) (by omega) (.slice va (A + 1 + Bh) vc) (stopOps A 3 (A + 1 + Bh)) ((stopOps A 3 (A + 1 + Bh)).flatMap oCell) 0 (by rw [stopOps_len]; omega) (by rw [← hA']; exact show 0 < 2 by decide) (by rw [← hA']; exact ⟨show (0 : Int) ≤ 0 by omega, show (0 : Int) < 256 by omega⟩) wr hRW (by rw [stopOps_len]; exact ho) (opsIs_plain _ _ _ (stopOps_plain A 3 _)) (part_recs (show (0 : Int) ≤ 0 ∧ (0 : Int) ≤ 3 by omega) (show (0 : Int) ≤ 0 ∧ (0 : Int) ≤ 3 by omega) (show (0 : Int) ≤ 0 ∧ (0 : Int) ≤ 3 by omega) (show (0 : Int) ≤ q ∧ (q : Int) ≤ 3 by omega)) (by rw [← hA']; rfl) (by rw [← hA']; exact run16_ok hg.out (show 0 < 2 by decide) 0 (by omega))
        rw [← hA'] at this ⊢
        exact this
      obtain ⟨rs, act, sF⟩ := X
      obtain ⟨f1, f2, f3, f4⟩ := hfc
      simp only at f1 f2 f3 f4
      obtain rfl : q = act := f2.symm
      have h0 := hRW.host.cell_ 0 rfl
      have h1 := hRW.host.cell_ 1 rfl
      have h2 := hRW.host.cell_ 2 rfl
      have h3 := hRW.host.cell_ 3 rfl
      have HT7 := hid_ ((HFW7.out.mono (K' := (· = 500)) (fun _ h => h.elim)).trans (F.trans fD))
      have HRN := hid_ hRN
      have HF1 := hid_ f1
      have HF3 := hid_ f3
      have HF4 := hid_ f4
      clear hX hA' hRW hRN ho f1 f3 f4 fD hD0 F S
      go_wp2_with fail
      refine HRN.out.mono ?_
      rintro e W9 ⟨v9, C9, lv9, ov9, cs9, rfl, F9, R9⟩
      rw [show (64 : Int) - ((rs, q, sF) : List Res × Int × RSt).2.2.left = (rs.length : Int) by show (64 : Int) - sF.left = _; rw [HF3.out]; omega]
      try dsimp only
      obtain ⟨wa, wcp, rfl, -⟩ := R9.sl.form
      obtain ⟨oa9, oc9, rfl⟩ : ∃ a c, ov9 = .slice a 1 c := by
        obtain ⟨a, c, h, -⟩ := R9.mon.out.form
        rw [HF4.out] at h
        exact ⟨a, c, h⟩
      have hold : Fr (· ≠ 0) (fun _ => 0) C9 w W9 := (HT7.out.mono (K' := (· ≠ 0)) (fun x h => by omega)).trans (F9.mono (K' := (· ≠ 0)) (fun x h => by unfold KRun at h; omega))
      have h2 := R9.host.cell_ 2 rfl
      have HSEAL := hid_ (monSeal C9 310 A'.mb lb gb (by decide) A'.node (stopC 3 q).parts mpv (.slice oa9 1 oc9) sF.m W9 R9.mon)
      obtain ⟨N, hN⟩ : ∃ N, rs.length = N := ⟨_, rfl⟩
      have hf := HF1.out
      rw [hN] at hf ⊢
      have HOLD := hid_ hold
      have HFIN9 := hid_ R9.fin
      clear R9 F9 hN hold h0 h1 h3
      by_cases hz : q = 0
      · rw [if_pos hz] at hf
        have hb1 : (q != 0) = false := by simpa using hz
        have g1 : ((N : Int) == (A : Int) + 1 + (Bh : Int)) = true := by rw [hf]; simp
        clear hf hz
        go_wp2_with fail
        refine HSEAL.out.mono ?_
        rintro e w10 ⟨rfl, F10, -, -⟩
        go_wp2
        go_ret
        exact ⟨rfl, Fr.old (HOLD.out.trans (F10.mono (K' := (· ≠ 0)) (fun x h => by omega)))⟩
      · rw [if_neg hz] at hf
        have hb1 : (q != 0) = true := by simpa using hz
        have g1 : ((N : Int) == (A : Int) + 1) = true := by rw [hf]; simp
        clear hf hz
        go_wp2_with fail
        refine HSEAL.out.mono ?_
        rintro e w10 ⟨rfl, F10, -, -⟩
        go_wp2
        go_ret
        exact ⟨rfl, Fr.old (HOLD.out.trans (F10.mono (K' := (· ≠ 0)) (fun x h => by omega)))⟩
end Go.Proofs.YtlgjaoijgkdmiaaDoor
