/- ApexMemory's walk. No condition. -/
import Derived.Test.YtlgjaoijgkdmiaaDoorMemP
import Derived.Test.YtlgjaoijgkdmiaaDoorOpenK
import Derived.BigQuiet
import Derived.Deep.QuietTactic
set_option linter.unusedSimpArgs false
set_option linter.unusedVariables false
namespace Go.Proofs.YtlgjaoijgkdmiaaDoor
open Go.RowKit Go.Maps
theorem IsBox.drew {w : World} {xb pb qb rb : Nat} {bu wo r0 r1 r2 r3 : Int} (h : IsBox w xb pb qb rb bu wo r0 r1 r2 r3) : IsBox w.drew xb pb qb rb bu wo r0 r1 r2 r3 := ⟨h.box.drew, h.parts.drew, h.ports.drew, h.routes.drew⟩
theorem wordsAt_bk {W : World} {b : Nat} {l : List Int} (h : Bk W b 63 (u16s l)) (hl : l.length = 5) : WordsAt W (.slice (some ⟨b, 0, none⟩) 5 5) l :=
  ⟨_, 5, by rw [hl], by omega, by unfold maxLen; omega, fun hn => ⟨_, _, rfl, fun k hk => by rw [Nat.zero_add]; exact h.cell_ _ (by unfold u16s; rw [List.getElem?_map, List.getElem?_eq_getElem hk]; rfl)⟩⟩

set_option maxRecDepth 100000 in
set_option maxHeartbeats 16000000 in
theorem memory_walk (av : Value) (acts : List (Int × Int)) (w : World) (hT : ErrT w) (ha : Rd w (fun _ => 0) av 2 acts.length (acts.flatMap pairC)) :
    Calls Tryd.prog 6 #[av] w fun e w' => e = .returned (.bool true) ∧ Below w.heap.size w w' := by
  obtain ⟨aa, ac, rfl, hac, ham, -⟩ := id ha
  unfold maxLen at ham
  have HACT := hid_ ha
  have HT := hid_ hT
  clear ha hT
  go_enter Tryd.func6, Tryd.ntmps6
  go_wp2_with fail
  refine (awake16 _ HT.out).mono ?_
  rintro e w0 ⟨rfl, V0⟩
  go_wp2_with fail
  refine (law13WiredB _).mono ?_
  rintro e w1 ⟨pb, qb, rb, rfl, V1, ⟨hp, hq, hr, -, -⟩, P1, Q1, R1⟩
  unfold Cfg.v
  have hne : pb ≠ w1.heap.size ∧ pb ≠ qb ∧ pb ≠ rb := ⟨by have := P1.lt; omega, P1.ne Q1 (by decide), P1.ne R1 (by decide)⟩
  go_upto_region 4 with fail
  have B1 := wired_box (below_then V0 V1) P1 Q1 R1
  have hpw : w.heap.size ≤ pb := Nat.le_trans V0.size hp
  refine gen_world (fun W => Below w.heap.size w W ∧ IsBox W w1.heap.size pb qb rb 9 2 0 0 0 0) B1 ?_
  clear B1 V1 P1 Q1 R1
  rintro W2 ⟨V2, B2⟩
  have c8 := B2.box.cell_ 8 rfl
  have z3 := B2.parts.cell_ 3 rfl
  have z4 := B2.parts.cell_ 4 rfl
  have f3 := B2.parts.frozen 3
  have f4 := B2.parts.frozen 4
  have HV2 := hid_ V2
  have HB2 := hid_ B2
  clear V2 B2
  go_cut [3] (fun pv W => pv = .pointer (some ⟨w1.heap.size, 0, none⟩) ∧ Below w.heap.size w W ∧ IsBox W w1.heap.size pb qb rb 64 5 0 0 0 0)
  case first =>
   go_region
   all_goals
    go_wp2_with fail
    go_simp
    go_meet
    case rel => first
      | exact ⟨rfl, ((HV2.out.setCell (show w.heap.size ≤ (⟨pb, 3, none⟩ : Addr).block from hpw) _).setCell (show w.heap.size ≤ (⟨pb, 4, none⟩ : Addr).block from hpw) _).drew, (IsBox.sets hne HB2.out [(3, .int .i64 64), (4, .int .i64 5)] rfl).drew⟩
      | exact ⟨rfl, ((HV2.out.setCell (show w.heap.size ≤ (⟨pb, 4, none⟩ : Addr).block from hpw) _).setCell (show w.heap.size ≤ (⟨pb, 3, none⟩ : Addr).block from hpw) _).drew, (IsBox.sets hne HB2.out [(4, .int .i64 5), (3, .int .i64 64)] (show _ = (partC 64 5 0 0 0 0).parts.flatMap Part.cells from rfl)).drew⟩
  obtain ⟨rfl, V2, B2⟩ := hcut
  clear HV2 HB2 c8 z3 z4 f3 f4
  have HB3 := hid_ B2
  have hl3 : Lists wc (fun _ => 0) (partC 64 5 0 0 0 0) _ _ _ := part_lists B2.parts B2.ports B2.routes rfl rfl rfl
  have c0 := B2.box.cell_ 0 rfl
  have c1 := B2.box.cell_ 1 rfl
  have c2 := B2.box.cell_ 2 rfl
  have c3 := B2.box.cell_ 3 rfl
  have c4 := B2.box.cell_ 4 rfl
  have c5 := B2.box.cell_ 5 rfl
  have c6 := B2.box.cell_ 6 rfl
  have c7 := B2.box.cell_ 7 rfl
  have c8 := B2.box.cell_ 8 rfl
  have c9 := B2.box.cell_ 9 rfl
  have c10 := B2.box.cell_ 10 rfl
  have hg := hid_ (part_good (show (0 : Int) ≤ 64 ∧ (64 : Int) ≤ 64 by omega) (show (0 : Int) ≤ 5 ∧ (5 : Int) ≤ 16 by omega) (show (0 : Int) ≤ 0 ∧ (0 : Int) ≤ 3 by omega) (show (0 : Int) ≤ 0 ∧ (0 : Int) ≤ 3 by omega) (show (0 : Int) ≤ 0 ∧ (0 : Int) ≤ 3 by omega) (show (0 : Int) ≤ 0 ∧ (0 : Int) ≤ 3 by omega))
  have HN := hid_ (host_new (partC 64 5 0 0 0 0) hg.out (part_ok (show (0 : Int) ≤ 64 ∧ (64 : Int) ≤ 64 by omega) (show (0 : Int) ≤ 5 ∧ (5 : Int) ≤ 16 by omega) (show (0 : Int) ≤ 0 ∧ (0 : Int) ≤ 3 by omega) (show (0 : Int) ≤ 0 ∧ (0 : Int) ≤ 3 by omega) (show (0 : Int) ≤ 0 ∧ (0 : Int) ≤ 3 by omega) (show (0 : Int) ≤ 0 ∧ (0 : Int) ≤ 3 by omega)) (part_snd (show (0 : Int) ≤ 64 ∧ (64 : Int) ≤ 64 by omega) (show (0 : Int) ≤ 5 ∧ (5 : Int) ≤ 16 by omega) (show (0 : Int) ≤ 0 ∧ (0 : Int) ≤ 3 by omega) (show (0 : Int) ≤ 0 ∧ (0 : Int) ≤ 3 by omega) (show (0 : Int) ≤ 0 ∧ (0 : Int) ≤ 3 by omega) (show (0 : Int) ≤ 0 ∧ (0 : Int) ≤ 3 by omega)) rfl (fun _ => 0) _ _ _ 0 ⟨by omega, by show (0 : Int) < 2; omega⟩ wc hl3 (fun _ _ => rfl))
  clear hl3 B2
  go_wp2_with fail
  refine HN.out.mono ?_
  clear c0 c1 c2 c3 c4 c5 c6 c7 c8 c9 c10
  rintro e W4 ⟨b, ab, tb, mb, lb, gb, cb, pv2, qv2, rv2, mpv, C4, rfl, F4, I4⟩
  have B4 := HB3.out.fr F4 ⟨rfl, rfl, rfl, rfl⟩ (fun h => h)
  have fin4 := F4.Fin (fun _ _ => rfl)
  have FW := hid_ ((Fr.of_below (C := fun _ => 0) V2 (fun _ => False)).trans F4)
  have B5 := B4.1.alloc (.cells #[.pointer (some ⟨b, 0, none⟩), .pointer (some ⟨tb, 0, none⟩), .pointer (some ⟨mb, 0, none⟩), .pointer (some ⟨cb, 0, none⟩)] 40)
  have HB4 := hid_ B4
  have HI4 := hid_ I4
  have HFN4 := hid_ fin4
  unfold hostV
  have c0 := B5.box.cell_ 0 rfl
  have c1 := B5.box.cell_ 1 rfl
  have c2 := B5.box.cell_ 2 rfl
  have c3 := B5.box.cell_ 3 rfl
  have c4 := B5.box.cell_ 4 rfl
  have c5 := B5.box.cell_ 5 rfl
  have c6 := B5.box.cell_ 6 rfl
  have c7 := B5.box.cell_ 7 rfl
  have c8 := B5.box.cell_ 8 rfl
  have c9 := B5.box.cell_ 9 rfl
  have c10 := B5.box.cell_ 10 rfl
  have fb := (Fr.refl (fun _ => False) C4 W4).alloc (.cells #[.pointer (some ⟨b, 0, none⟩), .pointer (some ⟨tb, 0, none⟩), .pointer (some ⟨mb, 0, none⟩), .pointer (some ⟨cb, 0, none⟩)] 40)
  have HNW := hid_ (apxNew (partC 64 5 0 0 0 0) C4 330 (by decide) _ _ _ 0 (show 0 < 2 by decide) ⟨show (0 : Int) ≤ 5 by omega, show (5 : Int) ≤ 16 by omega⟩ _ (part_lists (C := C4) B5.parts B5.ports B5.routes B4.2.2.1 B4.2.2.2.1 B4.2.2.2.2) (fb.Fin fin4))
  have HFB := hid_ fb
  have HBB := hid_ (Bk.new W4 40 [.pointer (some ⟨b, 0, none⟩), .pointer (some ⟨tb, 0, none⟩), .pointer (some ⟨mb, 0, none⟩), .pointer (some ⟨cb, 0, none⟩)])
  clear F4 B4 fin4 I4 B5 fb HB3 V2
  go_wp2_with fail
  refine HNW.out.mono ?_
  rintro e W6 ⟨pb6, xb6, C6, rfl, hpb6, F6, A6⟩
  have R6 := ready16 hg.out HI4.out (HFB.out.trans F6) A6 (HBB.out.frc (HFN4.out _ (Nat.le_refl _)) F6 (fun h => h)) (HT.out.fr (C := fun _ => 0) rfl (FW.out.trans (HFB.out.trans F6)) (fun h => h)) ((HFB.out.trans F6).Fin HFN4.out)
  have FW6 := FW.out.trans (HFB.out.trans F6)
  have B6 := HB4.out.1.fr (HFB.out.trans F6) HB4.out.2 (fun h => h)
  clear c0 c1 c2 c3 c4 c5 c6 c7 c8 c9 c10 F6 A6 hpb6 HNW HN HB4 HI4 HFB HBB FW HFN4
  obtain ⟨A, hA⟩ : ∃ A, mkA b ab tb mb cb pb6 xb6 pv2 qv2 rv2 (.slice (some ⟨pb, 0, none⟩) 2 2) (.slice (some ⟨qb, 0, none⟩) 4 4) (.slice (some ⟨rb, 0, none⟩) 2 2) 0 0 = A := ⟨_, rfl⟩
  rw [hA] at R6
  have hAp : A.pb = pb6 := by rw [← hA]; rfl
  have hAn : A.node = 0 := by rw [← hA]; rfl
  have hAq : A.part = 0 := by rw [← hA]; rfl
  clear hA
  have hmk : ∀ W, (Instr.makeSlice 71 (.int .i64 5) (.int .i64 5)).run Tryd.prog W = .ok (.slice (some ⟨W.heap.size, 0, none⟩) 5 5) (W.alloc (.cells (u16s [0, 0, 0, 0, 0]).toArray 63)) := fun W => make_u16 5 (by omega) W
  obtain ⟨C7, f7, hc7⟩ := newCol R6.fin (.cells (u16s [0, 0, 0, 0, 0]).toArray 63) 500
  have HR7 := hid_ (R6.fr f7 (fun x h => h.elim))
  have HN7 := hid_ (Bk.new W6 63 (u16s [0, 0, 0, 0, 0]))
  have HT7 := hid_ ((FW6.trans f7).mono (K' := KMem) (fun _ h => h.elim))
  have HC7 := hid_ hc7
  have HAP := hid_ hAp
  have HAN := hid_ hAn
  have HAQ := hid_ hAq
  obtain ⟨nb, hnb⟩ : ∃ n, W6.heap.size = n := ⟨_, rfl⟩
  have hnw : w.heap.size ≤ nb := by rw [← hnb]; exact FW6.size
  have HK0 := hid_ (run16_ok hg.out (show 0 < 2 by decide) 0 (by omega))
  clear R6 FW6 B6 f7 hc7 hAp hAn hAq
  go_wp2_with fail
  rw [hnb] at HN7 HC7
  go_loopw [9, 10, 11, 12, 13, 14, 15, 17] (fun iv _ _ _ _ _ _ _ wr => ∃ (i : Nat) (h : HSt) (m : MSt) (v : Value) (rs : List Res) (cs : List Value) (ov : Value) (lv : Nat → Value) (C' : Nat → Nat), i ≤ acts.length ∧ i ≤ 100 ∧ iv = .int .i64 i ∧ RunM memC A lb gb mpv W4.heap.size v rs cs ov lv h m wr C' ∧ RunOk memC 0 ⟨h, m, 64⟩ (2 * (i : Int)) ∧ h.mem.length = 5 ∧ Bk wr nb 63 (u16s h.mem) ∧ C' nb = 500 ∧ Fr KMem (fun _ => 0) C' w wr)
    (fun iv _ _ _ _ _ _ _ _ => acts.length - (intOf iv).toNat)
  case atStart => exact ⟨0, _, _, _, _, _, _, _, _, Nat.zero_le _, Nat.zero_le _, rfl, HR7.out, HK0.out, rfl, HN7.out, HC7.out, HT7.out⟩
  case round =>
    obtain ⟨i, h, m, v, rs, cs, ov, lv, C', hi, h100, rfl, R, K, hl, N, cN, F⟩ := hrel
    have k0 : ¬ KMem 0 := by unfold KMem KRun; omega
    have j0 : (0 : Int) ≤ (i : Int) := Int.natCast_nonneg _
    clear HR7 HN7 HT7 HC7 HK0
    by_cases hlt : i < acts.length
    · have j1 : (i : Int) < (acts.length : Int) := by omega
      by_cases hlt100 : i < 100
      · have j2 : (i : Int) < 100 := by omega
        obtain ⟨tb7, tf7, rfl, -, hrow⟩ := (show Rd wr C' (.slice aa acts.length ac) 2 acts.length (acts.flatMap pairC) from HACT.out.fr F k0).row (fun _ => rfl) hlt
        obtain ⟨a, b7, hab⟩ : ∃ a b, acts.getD i default = (a, b) := ⟨_, _, rfl⟩
        rw [hab] at hrow
        have x0 : wr.cell? ⟨tb7, tf7 + i * 2, none⟩ = some (.int .i64 a) := hrow 0 _ rfl
        have x1 := hrow 1 _ rfl
        have HR := hid_ R
        have HK := hid_ K
        have HL := hid_ hl
        have HN := hid_ N
        have HCN := hid_ cN
        have HF := hid_ F
        have HKZ := hid_ k0
        clear R K hl N cN F k0 hrow hab
        go_wp2_with fail
        go_region
        go_upto_region 14 with fail
        refine gen_world (fun W => RunM memC A lb gb mpv W4.heap.size v rs cs ov lv h m W C' ∧ Bk W nb 63 (u16s h.mem) ∧ Fr KMem (fun _ => 0) C' w W) ⟨HR.out.fr ((Fr.refl (fun _ => False) C' wr).drew) (fun x h => h.elim), HN.out, HF.out.drew⟩ ?_
        rintro W7 ⟨R, N, F⟩
        clear HR HN HF x0 x1
        rcases (by omega : a < 0 ∨ (0 ≤ a ∧ 5 ≤ a) ∨ (0 ≤ a ∧ a < 5)) with q1 | ⟨q1, q2⟩ | ⟨q1, q2⟩
        · have hX : memX h a b7 = ([⟨150, 0, none⟩, ⟨150, 0, none⟩], h) := if_pos (.inl q1)
          have HR7 := hid_ R
          have HN7 := hid_ N
          have HF7 := hid_ F
          clear R N F
          go_upto_region 17 with fail
          refine gen_world (fun W => RunM memC A lb gb mpv W4.heap.size v rs cs ov lv h m W C' ∧ Bk W nb 63 (u16s h.mem) ∧ Fr KMem (fun _ => 0) C' w W) ⟨HR7.out, HN7.out, HF7.out⟩ ?_
          rintro W8 ⟨R8, N8, F8⟩
          have R := R8
          have N := N8
          have F := F8
          clear R8 N8 F8 HR7 HN7 HF7
          have h0 := R.host.cell_ 0 rfl
          have h1 := R.host.cell_ 1 rfl
          have h2 := R.host.cell_ 2 rfl
          have h3 := R.host.cell_ 3 rfl
          have h0' := fun o => cell_alloc_keep o h0
          have h1' := fun o => cell_alloc_keep o h1
          have h2' := fun o => cell_alloc_keep o h2
          have h3' := fun o => cell_alloc_keep o h3
          have HRUN := hid_ (mem_runM hg.out A HAN.out HAQ.out lb gb mpv W4.heap.size v rs cs ov lv h m a b7 (2 * (i : Int)) (by omega) W8 C' R HK.out HL.out)
          rw [hX, HAP.out] at HRUN
          have HN8 := hid_ N
          have HF8 := hid_ F
          clear R N F hX
          go_wp2_with fail
          refine HRUN.out.mono ?_
          rintro e W9 ⟨v9, C9, lv9, ov9, cs9, m9, n9, rfl, F9, R9, K9⟩
          try dsimp only
          have F9' := F9.mono (K' := KMem) (fun _ h => .inl h)
          have n500 : ¬ KRun 500 := by unfold KRun; omega
          have N9 := HN8.out.frc HCN.out F9 n500
          have T9 := HF8.out.trans F9'
          obtain ⟨wa, wcp, rfl, -, hwm, -⟩ := R9.sl.form
          unfold maxLen at hwm
          have y0 := fun k (hk : k < 2) => R9.res.get (i := k) (r := ⟨150, 0, none⟩) (by rcases (by omega : k = 0 ∨ k = 1) with rfl | rfl <;> rfl)
          obtain ⟨rb9, ro9, rfl, -, -, hcell9⟩ := R9.sl.at (show 0 < 2 by omega)
          have hrow9 : ∀ k, k < 2 → W9.cell? ⟨rb9, ro9 + k * 4, none⟩ = some (.int .i64 150) ∧ W9.cell? ⟨rb9, ro9 + k * 4 + 1, none⟩ = some (.int .i64 0) ∧ W9.cell? ⟨rb9, ro9 + k * 4 + 2, none⟩ = some (.slice none 0 0) ∧ W9.cell? ⟨rb9, ro9 + k * 4 + 3, none⟩ = some (.bool false) := fun k hk => by
            obtain ⟨dv, fv, z0, z1, z2, z3, z4⟩ := y0 k hk
            obtain ⟨rfl, rfl⟩ := z4
            exact ⟨hcell9 _ _ z0, by rw [Nat.add_assoc]; exact hcell9 _ _ z1, by rw [Nat.add_assoc]; exact hcell9 _ _ z2, by rw [Nat.add_assoc]; exact hcell9 _ _ z3⟩
          have HROW := hid_ hrow9
          have HR9 := hid_ R9
          have HK9 := hid_ K9
          have HN9 := hid_ N9
          have HC9n := hid_ N9.2
          have HT9 := hid_ T9
          clear F9 F9' R9 K9 N9 T9 y0 hcell9 hrow9 h0 h1 h2 h3 h0' h1' h2' h3' HRUN HN8 HF8
          go_wp2_with fail
          try simp only [List.length_cons, List.length_nil]
          go_loopw [17, 96] (fun _ kv wx => ∃ k : Nat, k ≤ 2 ∧ kv = .int .i64 k ∧ Below W9.heap.size W9 wx) (fun _ kv _ => 2 - (intOf kv).toNat)
          case atStart => exact ⟨0, by omega, rfl, Below.refl _ _⟩
          case round =>
            obtain ⟨k, hk, rfl, hWX⟩ := hrel
            have i0 : (0 : Int) ≤ (k : Int) := Int.natCast_nonneg _
            by_cases hk2 : k < 2
            · have i2 : (k : Int) < 2 := by omega
              obtain ⟨z0, z1, z2, z3⟩ := HROW.out k hk2
              have z0 := grown_cell hWX z0
              have z1 := grown_cell hWX z1
              have z2 := grown_cell hWX z2
              have z3 := grown_cell hWX z3
              have HWX := hid_ hWX
              clear hWX
              go_upto_region 21 with fail
              refine gen_world (fun W => W.cell? ⟨wr.heap.size, 0, none⟩ = some (.int .i64 150) ∧ W.cell? ⟨wr.heap.size, 1, none⟩ = some (.int .i64 0) ∧ Below W9.heap.size W9 W) ⟨(Bk.new wr 56 [.int .i64 150, .int .i64 0, .slice none 0 0, .bool false]).cell_ 0 rfl, (Bk.new wr 56 [.int .i64 150, .int .i64 0, .slice none 0 0, .bool false]).cell_ 1 rfl, HWX.out.alloc HWX.out.size _⟩ ?_
              rintro WX ⟨c0, c1, VX⟩
              clear z0 z1 z2 z3
              go_quiet (fail)

              go_wp2
              go_roundw
              case rel => exact ⟨k + 1, by omega, by go_num, ⟨VX.os, VX.tape, VX.output, VX.size, VX.block⟩⟩
              case measure => simp [intOf]; omega
            · obtain rfl : k = 2 := by omega
              have GB := Fr.of_below (C := C9) hWX (fun _ => False)
              have R10 := HR9.out.fr GB (fun x h => h.elim)
              have N10 := HN9.out.1.fr GB (fun h => h)
              have T10 := HT9.out.trans (GB.mono (K' := KMem) (fun _ h => h.elim))
              have HM := hid_ (apxMemory C9 330 A.pb A.xb memC A.pv2 A.qv2 A.rv2 A.part _ wr R10.fin R10.hw.apx (by first | (rw [HL.out]; omega) | (rw [HML.out]; omega)))
              rw [HAP.out] at HM
              have HR10 := hid_ R10
              have HN10 := hid_ N10
              have HT10 := hid_ T10
              clear R10 N10 T10 GB hWX HR9 HN9 HT9
              go_wp2_with fail
              refine HM.out.mono ?_
              rintro e w6 ⟨b6, o6, c6, rfl, V6, hb6, R6m⟩
              have A6 := wordsAt_of_rd (R6m.rd (C := fun _ => 0) rfl)
              have B6w := (wordsAt_bk HN10.out (by first | exact HL.out | exact HML.out)).grown V6
              have HSW := hid_ (sameWords _ _ _ _ w6 A6 B6w)
              have HV6 := hid_ V6
              clear A6 B6w V6 R6m
              go_wp2_with fail
              refine HSW.out.mono ?_
              rintro e w7 ⟨rfl, V7⟩
              try rw [decide_eq_true (rfl : h.mem = h.mem)]
              try rw [show decide True = true from rfl]
              have V67 := hid_ (below_then HV6.out V7)
              clear V7
              go_wp2
              go_roundw
              case rel =>
                have G7 := Fr.of_below (C := C9) V67.out (fun _ => False)
                exact ⟨i + 1, h, m9, _, _, _, _, _, C9, by omega, by omega, by go_num, HR10.out.fr G7 (fun x h => h.elim), by have := HK9.out; rw [show (2 * ((i + 1 : Nat) : Int)) = 2 * (i : Int) + 2 by omega]; exact this, HL.out, HN10.out.fr G7 (fun h => h), (G7.block _ HN10.out.lt (fun h => h)).2.trans HC9n.out, HT10.out.trans (G7.mono (K' := KMem) (fun _ h => h.elim))⟩
              case measure => simp [intOf]; omega
        · have q3 : ¬ a < 5 := by omega
          have hX : memX h a b7 = ([⟨150, 0, none⟩, ⟨150, 0, none⟩], h) := if_pos (.inr q2)
          have HR7 := hid_ R
          have HN7 := hid_ N
          have HF7 := hid_ F
          clear R N F
          go_upto_region 17 with fail
          refine gen_world (fun W => RunM memC A lb gb mpv W4.heap.size v rs cs ov lv h m W C' ∧ Bk W nb 63 (u16s h.mem) ∧ Fr KMem (fun _ => 0) C' w W) ⟨HR7.out, HN7.out, HF7.out⟩ ?_
          rintro W8 ⟨R8, N8, F8⟩
          have R := R8
          have N := N8
          have F := F8
          clear R8 N8 F8 HR7 HN7 HF7
          have h0 := R.host.cell_ 0 rfl
          have h1 := R.host.cell_ 1 rfl
          have h2 := R.host.cell_ 2 rfl
          have h3 := R.host.cell_ 3 rfl
          have h0' := fun o => cell_alloc_keep o h0
          have h1' := fun o => cell_alloc_keep o h1
          have h2' := fun o => cell_alloc_keep o h2
          have h3' := fun o => cell_alloc_keep o h3
          have HRUN := hid_ (mem_runM hg.out A HAN.out HAQ.out lb gb mpv W4.heap.size v rs cs ov lv h m a b7 (2 * (i : Int)) (by omega) W8 C' R HK.out HL.out)
          rw [hX, HAP.out] at HRUN
          have HN8 := hid_ N
          have HF8 := hid_ F
          clear R N F hX
          go_wp2_with fail
          refine HRUN.out.mono ?_
          rintro e W9 ⟨v9, C9, lv9, ov9, cs9, m9, n9, rfl, F9, R9, K9⟩
          try dsimp only
          have F9' := F9.mono (K' := KMem) (fun _ h => .inl h)
          have n500 : ¬ KRun 500 := by unfold KRun; omega
          have N9 := HN8.out.frc HCN.out F9 n500
          have T9 := HF8.out.trans F9'
          obtain ⟨wa, wcp, rfl, -, hwm, -⟩ := R9.sl.form
          unfold maxLen at hwm
          have y0 := fun k (hk : k < 2) => R9.res.get (i := k) (r := ⟨150, 0, none⟩) (by rcases (by omega : k = 0 ∨ k = 1) with rfl | rfl <;> rfl)
          obtain ⟨rb9, ro9, rfl, -, -, hcell9⟩ := R9.sl.at (show 0 < 2 by omega)
          have hrow9 : ∀ k, k < 2 → W9.cell? ⟨rb9, ro9 + k * 4, none⟩ = some (.int .i64 150) ∧ W9.cell? ⟨rb9, ro9 + k * 4 + 1, none⟩ = some (.int .i64 0) ∧ W9.cell? ⟨rb9, ro9 + k * 4 + 2, none⟩ = some (.slice none 0 0) ∧ W9.cell? ⟨rb9, ro9 + k * 4 + 3, none⟩ = some (.bool false) := fun k hk => by
            obtain ⟨dv, fv, z0, z1, z2, z3, z4⟩ := y0 k hk
            obtain ⟨rfl, rfl⟩ := z4
            exact ⟨hcell9 _ _ z0, by rw [Nat.add_assoc]; exact hcell9 _ _ z1, by rw [Nat.add_assoc]; exact hcell9 _ _ z2, by rw [Nat.add_assoc]; exact hcell9 _ _ z3⟩
          have HROW := hid_ hrow9
          have HR9 := hid_ R9
          have HK9 := hid_ K9
          have HN9 := hid_ N9
          have HC9n := hid_ N9.2
          have HT9 := hid_ T9
          clear F9 F9' R9 K9 N9 T9 y0 hcell9 hrow9 h0 h1 h2 h3 h0' h1' h2' h3' HRUN HN8 HF8
          go_wp2_with fail
          try simp only [List.length_cons, List.length_nil]
          go_loopw [17, 96] (fun _ kv wx => ∃ k : Nat, k ≤ 2 ∧ kv = .int .i64 k ∧ Below W9.heap.size W9 wx) (fun _ kv _ => 2 - (intOf kv).toNat)
          case atStart => exact ⟨0, by omega, rfl, Below.refl _ _⟩
          case round =>
            obtain ⟨k, hk, rfl, hWX⟩ := hrel
            have i0 : (0 : Int) ≤ (k : Int) := Int.natCast_nonneg _
            by_cases hk2 : k < 2
            · have i2 : (k : Int) < 2 := by omega
              obtain ⟨z0, z1, z2, z3⟩ := HROW.out k hk2
              have z0 := grown_cell hWX z0
              have z1 := grown_cell hWX z1
              have z2 := grown_cell hWX z2
              have z3 := grown_cell hWX z3
              have HWX := hid_ hWX
              clear hWX
              go_upto_region 21 with fail
              refine gen_world (fun W => W.cell? ⟨wr.heap.size, 0, none⟩ = some (.int .i64 150) ∧ W.cell? ⟨wr.heap.size, 1, none⟩ = some (.int .i64 0) ∧ Below W9.heap.size W9 W) ⟨(Bk.new wr 56 [.int .i64 150, .int .i64 0, .slice none 0 0, .bool false]).cell_ 0 rfl, (Bk.new wr 56 [.int .i64 150, .int .i64 0, .slice none 0 0, .bool false]).cell_ 1 rfl, HWX.out.alloc HWX.out.size _⟩ ?_
              rintro WX ⟨c0, c1, VX⟩
              clear z0 z1 z2 z3
              go_quiet (fail)

              go_wp2
              go_roundw
              case rel => exact ⟨k + 1, by omega, by go_num, ⟨VX.os, VX.tape, VX.output, VX.size, VX.block⟩⟩
              case measure => simp [intOf]; omega
            · obtain rfl : k = 2 := by omega
              have GB := Fr.of_below (C := C9) hWX (fun _ => False)
              have R10 := HR9.out.fr GB (fun x h => h.elim)
              have N10 := HN9.out.1.fr GB (fun h => h)
              have T10 := HT9.out.trans (GB.mono (K' := KMem) (fun _ h => h.elim))
              have HM := hid_ (apxMemory C9 330 A.pb A.xb memC A.pv2 A.qv2 A.rv2 A.part _ wr R10.fin R10.hw.apx (by first | (rw [HL.out]; omega) | (rw [HML.out]; omega)))
              rw [HAP.out] at HM
              have HR10 := hid_ R10
              have HN10 := hid_ N10
              have HT10 := hid_ T10
              clear R10 N10 T10 GB hWX HR9 HN9 HT9
              go_wp2_with fail
              refine HM.out.mono ?_
              rintro e w6 ⟨b6, o6, c6, rfl, V6, hb6, R6m⟩
              have A6 := wordsAt_of_rd (R6m.rd (C := fun _ => 0) rfl)
              have B6w := (wordsAt_bk HN10.out (by first | exact HL.out | exact HML.out)).grown V6
              have HSW := hid_ (sameWords _ _ _ _ w6 A6 B6w)
              have HV6 := hid_ V6
              clear A6 B6w V6 R6m
              go_wp2_with fail
              refine HSW.out.mono ?_
              rintro e w7 ⟨rfl, V7⟩
              try rw [decide_eq_true (rfl : h.mem = h.mem)]
              try rw [show decide True = true from rfl]
              have V67 := hid_ (below_then HV6.out V7)
              clear V7
              go_wp2
              go_roundw
              case rel =>
                have G7 := Fr.of_below (C := C9) V67.out (fun _ => False)
                exact ⟨i + 1, h, m9, _, _, _, _, _, C9, by omega, by omega, by go_num, HR10.out.fr G7 (fun x h => h.elim), by have := HK9.out; rw [show (2 * ((i + 1 : Nat) : Int)) = 2 * (i : Int) + 2 by omega]; exact this, HL.out, HN10.out.fr G7 (fun h => h), (G7.block _ HN10.out.lt (fun h => h)).2.trans HC9n.out, HT10.out.trans (G7.mono (K' := KMem) (fun _ h => h.elim))⟩
              case measure => simp [intOf]; omega
        · obtain ⟨n, rfl⟩ := Int.eq_ofNat_of_zero_le q1
          have hn5' : n < 5 := by omega
          have hX : memX h (n : Int) b7 = ([⟨0, w16 b7, none⟩, ⟨0, w16 b7, none⟩], ⟨h.st, h.f, h.cmd, h.mem.set n (w16 b7)⟩) := if_neg (by omega)
          obtain ⟨x16, hx16⟩ : ∃ x, w16 b7 = x := ⟨_, rfl⟩
          have hxr := w16_rng b7
          rw [hx16] at hxr
          obtain ⟨hx0, hx1⟩ := hxr
          have zs := N.cell_ n (show (u16s h.mem)[n]? = some (.int .u16 (h.mem.getD n 0)) by unfold u16s; rw [List.getElem?_map, List.getD_eq_getElem?_getD, List.getElem?_eq_getElem (by rw [HL.out]; exact hn5')]; rfl)
          obtain ⟨old, hold⟩ : ∃ x, h.mem.getD n 0 = x := ⟨_, rfl⟩
          rw [hold] at zs
          have zf := N.frozen n
          have hw16 : IntKind.u16.wrap b7 = x16 := hx16
          obtain ⟨M, hM⟩ : ∃ M, h.mem.set n x16 = M := ⟨_, rfl⟩
          have HML := hid_ (show M.length = 5 by rw [← hM, List.length_set]; exact HL.out)
          have HMN := hid_ (show (u16s M)[n]? = some (.int .u16 x16) by unfold u16s; rw [← hM, List.getElem?_map, List.getElem?_set_self (by rw [HL.out]; omega), Option.map_some])
          have HM16 := hid_ hM
          clear hold hM
          have HR7 := hid_ R
          have HN7 := hid_ N
          have HF7 := hid_ F
          clear R N F
          go_upto_region 17 with fail
          refine gen_world (fun W => RunM memC A lb gb mpv W4.heap.size v rs cs ov lv h m W C' ∧ Bk W nb 63 (u16s M) ∧ Fr KMem (fun _ => 0) C' w W) ⟨HR7.out.fr5 ((Fr.refl (· = 500) C' W7).setCell (.inr HCN.out) _) (fun x hx => by omega), (by have := HN7.out.set n (.int .u16 x16); unfold u16s at this ⊢; rw [← HM16.out, List.map_set]; exact this), HF7.out.setCell (.inl hnw) _⟩ ?_
          rintro W8 ⟨R8, N8, F8⟩
          have R := R8
          have N := N8
          have F := F8
          clear R8 N8 F8 HR7 HN7 HF7
          have h0 := R.host.cell_ 0 rfl
          have h1 := R.host.cell_ 1 rfl
          have h2 := R.host.cell_ 2 rfl
          have h3 := R.host.cell_ 3 rfl
          have h0' := fun o => cell_alloc_keep o h0
          have h1' := fun o => cell_alloc_keep o h1
          have h2' := fun o => cell_alloc_keep o h2
          have h3' := fun o => cell_alloc_keep o h3
          have HRUN := hid_ (mem_runM hg.out A HAN.out HAQ.out lb gb mpv W4.heap.size v rs cs ov lv h m (n : Int) b7 (2 * (i : Int)) (by omega) W8 C' R HK.out HL.out)
          rw [hX, HAP.out, hx16, HM16.out] at HRUN
          clear hx16 hw16
          have HN8 := hid_ N
          have HF8 := hid_ F
          clear R N F hX
          go_wp2_with fail
          refine HRUN.out.mono ?_
          rintro e W9 ⟨v9, C9, lv9, ov9, cs9, m9, n9, rfl, F9, R9, K9⟩
          try dsimp only
          have F9' := F9.mono (K' := KMem) (fun _ h => .inl h)
          have n500 : ¬ KRun 500 := by unfold KRun; omega
          have N9 := HN8.out.frc HCN.out F9 n500
          have T9 := HF8.out.trans F9'
          obtain ⟨wa, wcp, rfl, -, hwm, -⟩ := R9.sl.form
          unfold maxLen at hwm
          have y0 := fun k (hk : k < 2) => R9.res.get (i := k) (r := ⟨0, x16, none⟩) (by rcases (by omega : k = 0 ∨ k = 1) with rfl | rfl <;> rfl)
          obtain ⟨rb9, ro9, rfl, -, -, hcell9⟩ := R9.sl.at (show 0 < 2 by omega)
          have hrow9 : ∀ k, k < 2 → W9.cell? ⟨rb9, ro9 + k * 4, none⟩ = some (.int .i64 0) ∧ W9.cell? ⟨rb9, ro9 + k * 4 + 1, none⟩ = some (.int .i64 x16) ∧ W9.cell? ⟨rb9, ro9 + k * 4 + 2, none⟩ = some (.slice none 0 0) ∧ W9.cell? ⟨rb9, ro9 + k * 4 + 3, none⟩ = some (.bool false) := fun k hk => by
            obtain ⟨dv, fv, z0, z1, z2, z3, z4⟩ := y0 k hk
            obtain ⟨rfl, rfl⟩ := z4
            exact ⟨hcell9 _ _ z0, by rw [Nat.add_assoc]; exact hcell9 _ _ z1, by rw [Nat.add_assoc]; exact hcell9 _ _ z2, by rw [Nat.add_assoc]; exact hcell9 _ _ z3⟩
          have HROW := hid_ hrow9
          have HR9 := hid_ R9
          have HK9 := hid_ K9
          have HN9 := hid_ N9
          have HC9n := hid_ N9.2
          have HT9 := hid_ T9
          clear F9 F9' R9 K9 N9 T9 y0 hcell9 hrow9 h0 h1 h2 h3 h0' h1' h2' h3' HRUN HN8 HF8
          go_wp2_with fail
          try simp only [List.length_cons, List.length_nil]
          go_loopw [17, 96] (fun _ kv wx => ∃ k : Nat, k ≤ 2 ∧ kv = .int .i64 k ∧ Below W9.heap.size W9 wx) (fun _ kv _ => 2 - (intOf kv).toNat)
          case atStart => exact ⟨0, by omega, rfl, Below.refl _ _⟩
          case round =>
            obtain ⟨k, hk, rfl, hWX⟩ := hrel
            have i0 : (0 : Int) ≤ (k : Int) := Int.natCast_nonneg _
            by_cases hk2 : k < 2
            · have i2 : (k : Int) < 2 := by omega
              obtain ⟨z0, z1, z2, z3⟩ := HROW.out k hk2
              have z0 := grown_cell hWX z0
              have z1 := grown_cell hWX z1
              have z2 := grown_cell hWX z2
              have z3 := grown_cell hWX z3
              have HWX := hid_ hWX
              have zn : wr.cell? ⟨nb, n, none⟩ = some (.int .u16 x16) := grown_cell hWX (HN9.out.1.cell_ n HMN.out)
              have zn' := fun o => cell_alloc_keep o zn
              have hcv : IntKind.i64.wrap x16 = x16 := IntWalk.i64_in _ (by omega)
              clear hWX
              go_upto_region 21 with fail
              refine gen_world (fun W => W.cell? ⟨wr.heap.size, 0, none⟩ = some (.int .i64 0) ∧ W.cell? ⟨wr.heap.size, 1, none⟩ = some (.int .i64 x16) ∧ W.cell? ⟨nb, n, none⟩ = some (.int .u16 x16) ∧ Below W9.heap.size W9 W) ⟨(Bk.new wr 56 [.int .i64 0, .int .i64 x16, .slice none 0 0, .bool false]).cell_ 0 rfl, (Bk.new wr 56 [.int .i64 0, .int .i64 x16, .slice none 0 0, .bool false]).cell_ 1 rfl, zn' _, HWX.out.alloc HWX.out.size _⟩ ?_
              rintro WX ⟨c0, c1, c2, VX⟩
              clear z0 z1 z2 z3 zn zn'
              go_quiet (fail)

              go_wp2
              go_roundw
              case rel => exact ⟨k + 1, by omega, by go_num, ⟨VX.os, VX.tape, VX.output, VX.size, VX.block⟩⟩
              case measure => simp [intOf]; omega
            · obtain rfl : k = 2 := by omega
              have GB := Fr.of_below (C := C9) hWX (fun _ => False)
              have R10 := HR9.out.fr GB (fun x h => h.elim)
              have N10 := HN9.out.1.fr GB (fun h => h)
              have T10 := HT9.out.trans (GB.mono (K' := KMem) (fun _ h => h.elim))
              have HM := hid_ (apxMemory C9 330 A.pb A.xb memC A.pv2 A.qv2 A.rv2 A.part _ wr R10.fin R10.hw.apx (by first | (rw [HL.out]; omega) | (rw [HML.out]; omega)))
              rw [HAP.out] at HM
              have HR10 := hid_ R10
              have HN10 := hid_ N10
              have HT10 := hid_ T10
              clear R10 N10 T10 GB hWX HR9 HN9 HT9
              go_wp2_with fail
              refine HM.out.mono ?_
              rintro e w6 ⟨b6, o6, c6, rfl, V6, hb6, R6m⟩
              have A6 := wordsAt_of_rd (R6m.rd (C := fun _ => 0) rfl)
              have B6w := (wordsAt_bk HN10.out (by first | exact HL.out | exact HML.out)).grown V6
              have HSW := hid_ (sameWords _ _ _ _ w6 A6 B6w)
              have HV6 := hid_ V6
              clear A6 B6w V6 R6m
              go_wp2_with fail
              refine HSW.out.mono ?_
              rintro e w7 ⟨rfl, V7⟩
              try rw [decide_eq_true (rfl : (⟨h.st, h.f, h.cmd, M⟩ : HSt).mem = (⟨h.st, h.f, h.cmd, M⟩ : HSt).mem)]
              try rw [show decide True = true from rfl]
              have V67 := hid_ (below_then HV6.out V7)
              clear V7
              go_wp2
              go_roundw
              case rel =>
                have G7 := Fr.of_below (C := C9) V67.out (fun _ => False)
                exact ⟨i + 1, (⟨h.st, h.f, h.cmd, M⟩ : HSt), m9, _, _, _, _, _, C9, by omega, by omega, by go_num, HR10.out.fr G7 (fun x h => h.elim), by have := HK9.out; rw [show (2 * ((i + 1 : Nat) : Int)) = 2 * (i : Int) + 2 by omega]; exact this, HML.out, HN10.out.fr G7 (fun h => h), (G7.block _ HN10.out.lt (fun h => h)).2.trans HC9n.out, HT10.out.trans (G7.mono (K' := KMem) (fun _ h => h.elim))⟩
              case measure => simp [intOf]; omega
      · have j2 : ¬ (i : Int) < 100 := by omega
        have hmk5 : ∃ z5 : List Int, z5.length = 5 ∧ z5 = [0, 0, 0, 0, 0] := ⟨_, rfl, rfl⟩
        obtain ⟨z5, hz5l, hz5⟩ := hmk5
        rw [← hz5] at hmk
        have HM1 := hid_ (apxMemory C' 330 A.pb A.xb memC A.pv2 A.qv2 A.rv2 A.part _ wr R.fin R.hw.apx (by rw [hl]; omega))
        rw [HAP.out, hl] at HM1
        have HR := hid_ R
        have HL := hid_ hl
        have HN := hid_ N
        have HF := hid_ F
        have HKZ := hid_ k0
        have HZ5 := hid_ hz5
        have HZL := hid_ hz5l
        clear R K hl N cN F k0 hz5 hz5l
        go_wp2_with fail
        refine HM1.out.mono ?_
        rintro e w6 ⟨b6, o6, c6, rfl, V6, hb6, R6m⟩
        obtain ⟨hR0, offR, capR, curR, hvR, h1R, h2R, h4R, h5R, h6R⟩ := id R6m
        simp only [Value.slice.injEq, Option.some.injEq, Addr.mk.injEq, true_and, and_true] at hvR
        have hc6 : 5 ≤ c6 ∧ c6 ≤ 9223372036854775807 := by
          obtain ⟨rfl, rfl⟩ := hvR
          unfold maxLen at h2R
          exact ⟨h1R, by omega⟩
        obtain ⟨hc5, hcm⟩ := hc6
        have HS6 := hid_ (show Sl w6 (fun _ => 500) 500 (.slice (some ⟨b6, o6, none⟩) 5 c6) 63 1 5 (u16s h.mem) from .inr ⟨b6, rfl, R6m⟩)
        have HV6 := hid_ V6
        have HB6 := hid_ hb6
        clear R6m V6 hb6 hR0 hvR h1R h2R h4R h5R h6R
        go_wp2_with fail
        go_loopw [19, 140] (fun _ kv wx => ∃ (k : Nat) (cs : List Value), k ≤ 5 ∧ kv = .int .i64 k ∧ Sl wx (fun _ => 500) 500 (.slice (some ⟨b6, o6, none⟩) 5 c6) 63 1 5 cs ∧ Below wr.heap.size wr wx) (fun _ kv _ => 5 - (intOf kv).toNat)
        case atStart => exact ⟨0, _, by omega, rfl, HS6.out, HV6.out⟩
        case round =>
          obtain ⟨k, cs6, hk, rfl, S6, W6x⟩ := hrel
          have i0 : (0 : Int) ≤ (k : Int) := Int.natCast_nonneg _
          by_cases hk5 : k < 5
          · have i5 : (k : Int) < 5 := by omega
            obtain ⟨bq, oq, hq, -, -, hcl⟩ := S6.at (by omega)
            obtain ⟨_, _, _, _, _, hlen6⟩ := S6.form
            cases hq
            obtain ⟨u0, hu0⟩ : ∃ u, cs6[k]? = some u := ⟨_, List.getElem?_eq_getElem (by omega)⟩
            have x0 := hcl _ _ hu0
            have xf := S6.frozen (o6 + k)
            have HS7 := hid_ (S6.set k (by omega) (.int .u16 999))
            have HW7 := hid_ (W6x.setCell (show _ ≤ (⟨b6, o6 + k, none⟩ : Addr).block from HB6.out) (.int .u16 999))
            clear S6 W6x hcl hu0 hlen6
            go_wp2
            go_roundw
            case rel => exact ⟨k + 1, _, by omega, by go_num, HS7.out, HW7.out⟩
            case measure => simp [intOf]; omega
          · obtain rfl : k = 5 := by omega
            rename_i wx
            have GB := Fr.of_below (C := C') W6x (fun _ => False)
            have R10 := HR.out.fr GB (fun x h => h.elim)
            have N10 := HN.out.fr GB (fun h => h)
            have T10 := HF.out.trans (GB.mono (K' := KMem) (fun _ h => h.elim))
            have HM2 := hid_ (apxMemory C' 330 A.pb A.xb memC A.pv2 A.qv2 A.rv2 A.part _ _ R10.fin R10.hw.apx (by rw [HL.out]; omega))
            rw [HAP.out, HL.out] at HM2
            have HR10 := hid_ R10
            have HN10 := hid_ N10
            have HT10 := hid_ T10
            clear R10 N10 T10 GB W6x S6
            go_wp2_with fail
            refine HM2.out.mono ?_
            rintro e w7 ⟨b7', o7, c7, rfl, V7, hb7, R7m⟩
            have A7 := wordsAt_of_rd (l := h.mem) (by rw [HL.out]; exact R7m.rd (C := fun _ => 0) rfl)
            try rw [HL.out] at A7
            have B7 := (wordsAt_bk HN10.out HL.out).grown V7
            have HSW := hid_ (sameWords _ _ _ _ w7 A7 B7)
            have HV7 := hid_ V7
            clear A7 B7 V7 R7m hb7
            go_wp2_with fail
            refine HSW.out.mono ?_
            rintro e w8 ⟨rfl, V8⟩
            try rw [decide_eq_true (rfl : h.mem = h.mem)]
            try rw [show decide True = true from rfl]
            have V78 := below_then HV7.out V8
            have G8 := Fr.of_below (C := C') V78 (fun _ => False)
            have R8 := HR10.out.fr G8 (fun x h => h.elim)
            have T8 := HT10.out.trans (G8.mono (K' := KMem) (fun _ h => h.elim))
            have HCL := hid_ (apxClear C' 330 A.pb A.xb (by decide) memC A.pv2 A.qv2 A.rv2 A.part _ w8 R8.hw.apx)
            rw [HAP.out, HL.out] at HCL
            have HFN := hid_ R8.fin
            have HT8 := hid_ T8
            clear V8 V78 G8 R8 T8 HSW HM2 HR10 HN10 HT10
            go_wp2_with fail
            refine HCL.out.mono ?_
            rintro e w9 ⟨rfl, F9, A9⟩
            have A9 : IsApx w9 C' 330 pb6 A.xb memC A.pv2 A.qv2 A.rv2 A.part z5 := by rw [HZ5.out]; exact A9
            have HF9 := hid_ (F9.Fin HFN.out)
            have HT9 := hid_ (HT8.out.trans (F9.mono (K' := KMem) (fun x h => by unfold KMem KRun; omega)))
            have HA9 := hid_ A9
            clear F9 A9
            go_upto_region 34 with fail
            have fd := (Fr.refl (fun _ => False) C' w9).drew
            have HBK := hid_ (fun (W : World) => wordsAt_bk (Bk.new W 63 (u16s z5)) HZL.out)
            have HM3 := hid_ (fun (W : World) (f : Fr (fun _ => False) C' C' w9 W) => show Calls Tryd.prog 17 #[.pointer (some ⟨pb6, 0, none⟩)] W fun e w' => ∃ b off cap, e = .returned (.slice (some ⟨b, off, none⟩) 5 cap) ∧ Below W.heap.size W w' ∧ WordsAt w' (.slice (some ⟨b, off, none⟩) 5 cap) z5 from by
              refine (apxMemory C' 330 pb6 A.xb memC A.pv2 A.qv2 A.rv2 A.part z5 W (f.Fin HF9.out) (HA9.out.fr f ⟨fun h => h, fun h => h⟩) (by rw [HZL.out]; omega)).mono ?_
              rintro e w' ⟨b, off, cap, rfl, V, hb, R⟩
              refine ⟨b, off, cap, by rw [HZL.out], V, ?_⟩
              have := wordsAt_of_rd (l := z5) (R.rd (C := fun _ => 0) rfl)
              rw [HZL.out] at this
              exact this)
            go_region_with (first
              | ((refine (HM3.out _ (by first | exact fd | exact fd.alloc _)).mono ?_); rintro e wm ⟨bm, om, cm, rfl, Vm, Wm⟩; have Xm := hid_ Vm)
              | ((refine (sameWords _ _ z5 z5 _ (by first | exact Wm | exact Wm.grown ((Below.refl _ _).alloc (Nat.le_refl _) _)) (by first | exact HBK.out _ | exact (HBK.out w9.drew).grown Xm.out | exact (HBK.out w9).grown Xm.out)).mono ?_); rintro e wn ⟨rfl, Vn⟩))
            all_goals
              have hm : Below w9.heap.size w9 wm := by first | exact below_then (Below.refl _ w9).drew Xm.out | exact below_then ((Below.refl _ w9).drew.alloc (Nat.le_refl _) _) Xm.out
              have hn : Below wm.heap.size wm wn := by first | exact Vn | exact below_then ((Below.refl _ wm).alloc (Nat.le_refl _) _) Vn
              have HEND := hid_ ((HT9.out.trans ((Fr.of_below (C := C') (below_then hm hn) (fun _ => False)).mono (K' := KMem) (fun _ h => h.elim))).mono (K' := (· ≠ 0)) (fun x h e => HKZ.out (e ▸ h))).old
              go_wp2_with fail
              go_simp
              go_ret
              exact ⟨by simp, HEND.out⟩
    · have j1 : ¬ (i : Int) < (acts.length : Int) := by omega
      have hmk5 : ∃ z5 : List Int, z5.length = 5 ∧ z5 = [0, 0, 0, 0, 0] := ⟨_, rfl, rfl⟩
      obtain ⟨z5, hz5l, hz5⟩ := hmk5
      rw [← hz5] at hmk
      have HM1 := hid_ (apxMemory C' 330 A.pb A.xb memC A.pv2 A.qv2 A.rv2 A.part _ wr R.fin R.hw.apx (by rw [hl]; omega))
      rw [HAP.out, hl] at HM1
      have HR := hid_ R
      have HL := hid_ hl
      have HN := hid_ N
      have HF := hid_ F
      have HKZ := hid_ k0
      have HZ5 := hid_ hz5
      have HZL := hid_ hz5l
      clear R K hl N cN F k0 hz5 hz5l
      go_wp2_with fail
      refine HM1.out.mono ?_
      rintro e w6 ⟨b6, o6, c6, rfl, V6, hb6, R6m⟩
      obtain ⟨hR0, offR, capR, curR, hvR, h1R, h2R, h4R, h5R, h6R⟩ := id R6m
      simp only [Value.slice.injEq, Option.some.injEq, Addr.mk.injEq, true_and, and_true] at hvR
      have hc6 : 5 ≤ c6 ∧ c6 ≤ 9223372036854775807 := by
        obtain ⟨rfl, rfl⟩ := hvR
        unfold maxLen at h2R
        exact ⟨h1R, by omega⟩
      obtain ⟨hc5, hcm⟩ := hc6
      have HS6 := hid_ (show Sl w6 (fun _ => 500) 500 (.slice (some ⟨b6, o6, none⟩) 5 c6) 63 1 5 (u16s h.mem) from .inr ⟨b6, rfl, R6m⟩)
      have HV6 := hid_ V6
      have HB6 := hid_ hb6
      clear R6m V6 hb6 hR0 hvR h1R h2R h4R h5R h6R
      go_wp2_with fail
      go_loopw [19, 140] (fun _ kv wx => ∃ (k : Nat) (cs : List Value), k ≤ 5 ∧ kv = .int .i64 k ∧ Sl wx (fun _ => 500) 500 (.slice (some ⟨b6, o6, none⟩) 5 c6) 63 1 5 cs ∧ Below wr.heap.size wr wx) (fun _ kv _ => 5 - (intOf kv).toNat)
      case atStart => exact ⟨0, _, by omega, rfl, HS6.out, HV6.out⟩
      case round =>
        obtain ⟨k, cs6, hk, rfl, S6, W6x⟩ := hrel
        have i0 : (0 : Int) ≤ (k : Int) := Int.natCast_nonneg _
        by_cases hk5 : k < 5
        · have i5 : (k : Int) < 5 := by omega
          obtain ⟨bq, oq, hq, -, -, hcl⟩ := S6.at (by omega)
          obtain ⟨_, _, _, _, _, hlen6⟩ := S6.form
          cases hq
          obtain ⟨u0, hu0⟩ : ∃ u, cs6[k]? = some u := ⟨_, List.getElem?_eq_getElem (by omega)⟩
          have x0 := hcl _ _ hu0
          have xf := S6.frozen (o6 + k)
          have HS7 := hid_ (S6.set k (by omega) (.int .u16 999))
          have HW7 := hid_ (W6x.setCell (show _ ≤ (⟨b6, o6 + k, none⟩ : Addr).block from HB6.out) (.int .u16 999))
          clear S6 W6x hcl hu0 hlen6
          go_wp2
          go_roundw
          case rel => exact ⟨k + 1, _, by omega, by go_num, HS7.out, HW7.out⟩
          case measure => simp [intOf]; omega
        · obtain rfl : k = 5 := by omega
          rename_i wx
          have GB := Fr.of_below (C := C') W6x (fun _ => False)
          have R10 := HR.out.fr GB (fun x h => h.elim)
          have N10 := HN.out.fr GB (fun h => h)
          have T10 := HF.out.trans (GB.mono (K' := KMem) (fun _ h => h.elim))
          have HM2 := hid_ (apxMemory C' 330 A.pb A.xb memC A.pv2 A.qv2 A.rv2 A.part _ _ R10.fin R10.hw.apx (by rw [HL.out]; omega))
          rw [HAP.out, HL.out] at HM2
          have HR10 := hid_ R10
          have HN10 := hid_ N10
          have HT10 := hid_ T10
          clear R10 N10 T10 GB W6x S6
          go_wp2_with fail
          refine HM2.out.mono ?_
          rintro e w7 ⟨b7', o7, c7, rfl, V7, hb7, R7m⟩
          have A7 := wordsAt_of_rd (l := h.mem) (by rw [HL.out]; exact R7m.rd (C := fun _ => 0) rfl)
          try rw [HL.out] at A7
          have B7 := (wordsAt_bk HN10.out HL.out).grown V7
          have HSW := hid_ (sameWords _ _ _ _ w7 A7 B7)
          have HV7 := hid_ V7
          clear A7 B7 V7 R7m hb7
          go_wp2_with fail
          refine HSW.out.mono ?_
          rintro e w8 ⟨rfl, V8⟩
          try rw [decide_eq_true (rfl : h.mem = h.mem)]
          try rw [show decide True = true from rfl]
          have V78 := below_then HV7.out V8
          have G8 := Fr.of_below (C := C') V78 (fun _ => False)
          have R8 := HR10.out.fr G8 (fun x h => h.elim)
          have T8 := HT10.out.trans (G8.mono (K' := KMem) (fun _ h => h.elim))
          have HCL := hid_ (apxClear C' 330 A.pb A.xb (by decide) memC A.pv2 A.qv2 A.rv2 A.part _ w8 R8.hw.apx)
          rw [HAP.out, HL.out] at HCL
          have HFN := hid_ R8.fin
          have HT8 := hid_ T8
          clear V8 V78 G8 R8 T8 HSW HM2 HR10 HN10 HT10
          go_wp2_with fail
          refine HCL.out.mono ?_
          rintro e w9 ⟨rfl, F9, A9⟩
          have A9 : IsApx w9 C' 330 pb6 A.xb memC A.pv2 A.qv2 A.rv2 A.part z5 := by rw [HZ5.out]; exact A9
          have HF9 := hid_ (F9.Fin HFN.out)
          have HT9 := hid_ (HT8.out.trans (F9.mono (K' := KMem) (fun x h => by unfold KMem KRun; omega)))
          have HA9 := hid_ A9
          clear F9 A9
          go_upto_region 34 with fail
          have fd := (Fr.refl (fun _ => False) C' w9).drew
          have HBK := hid_ (fun (W : World) => wordsAt_bk (Bk.new W 63 (u16s z5)) HZL.out)
          have HM3 := hid_ (fun (W : World) (f : Fr (fun _ => False) C' C' w9 W) => show Calls Tryd.prog 17 #[.pointer (some ⟨pb6, 0, none⟩)] W fun e w' => ∃ b off cap, e = .returned (.slice (some ⟨b, off, none⟩) 5 cap) ∧ Below W.heap.size W w' ∧ WordsAt w' (.slice (some ⟨b, off, none⟩) 5 cap) z5 from by
            refine (apxMemory C' 330 pb6 A.xb memC A.pv2 A.qv2 A.rv2 A.part z5 W (f.Fin HF9.out) (HA9.out.fr f ⟨fun h => h, fun h => h⟩) (by rw [HZL.out]; omega)).mono ?_
            rintro e w' ⟨b, off, cap, rfl, V, hb, R⟩
            refine ⟨b, off, cap, by rw [HZL.out], V, ?_⟩
            have := wordsAt_of_rd (l := z5) (R.rd (C := fun _ => 0) rfl)
            rw [HZL.out] at this
            exact this)
          go_region_with (first
            | ((refine (HM3.out _ (by first | exact fd | exact fd.alloc _)).mono ?_); rintro e wm ⟨bm, om, cm, rfl, Vm, Wm⟩; have Xm := hid_ Vm)
            | ((refine (sameWords _ _ z5 z5 _ (by first | exact Wm | exact Wm.grown ((Below.refl _ _).alloc (Nat.le_refl _) _)) (by first | exact HBK.out _ | exact (HBK.out w9.drew).grown Xm.out | exact (HBK.out w9).grown Xm.out)).mono ?_); rintro e wn ⟨rfl, Vn⟩))
          all_goals
            have hm : Below w9.heap.size w9 wm := by first | exact below_then (Below.refl _ w9).drew Xm.out | exact below_then ((Below.refl _ w9).drew.alloc (Nat.le_refl _) _) Xm.out
            have hn : Below wm.heap.size wm wn := by first | exact Vn | exact below_then ((Below.refl _ wm).alloc (Nat.le_refl _) _) Vn
            have HEND := hid_ ((HT9.out.trans ((Fr.of_below (C := C') (below_then hm hn) (fun _ => False)).mono (K' := KMem) (fun _ h => h.elim))).mono (K' := (· ≠ 0)) (fun x h e => HKZ.out (e ▸ h))).old
            go_wp2_with fail
            go_simp
            go_ret
            exact ⟨by simp, HEND.out⟩
end Go.Proofs.YtlgjaoijgkdmiaaDoor
