/- Chapter 13's PortsClear: the walk. No condition. -/
import Derived.Test.YtogfbeibpfdleaaPCPlain
import Derived.Test.YtogfbeibpfdleaaPSame
import Derived.Test.YtogfbeibpfdleaaPDeliver2
import Derived.Test.YtogfbeibpfdleaaPFresh
import Derived.Test.YtogfbeibpfdleaaGuard
import Derived.Test.YtogfbeibpfdleaaAwake13
set_option linter.unusedSimpArgs false
set_option linter.unusedVariables false
namespace Go.Proofs.Ytogfbeibpfdleaa
open Go.RowKit Go.Maps

/-- The first loop's relation. -/
def ClrS (w : World) (c : Cfg) (cb b ab : Nat) (pv qv rv : Value) (N : Int) (W : World) : Prop :=
  ∃ C lv st, Ctx w C W cb (c.cells pv qv rv) ∧ IsPorts W C 100 b ab c pv qv rv N lv st ∧ Inv c st
/-- The second loop's relation. -/
structure ClrT (w : World) (C : Nat → Nat) (c : Cfg) (cb b ab : Nat) (pv qv rv : Value) (N P : Int) (lv : Nat → Value) (st : List PSt) (iv : Value) (cs1 : List Value) (IM : List Msg) (k : Nat) (wv : Value) (W : World) : Prop where
  ctx : Ctx w C W cb (c.cells pv qv rv)
  p : IsPorts W C 100 b ab c pv qv rv N lv st
  s : Sl W C 600 iv 50 2 IM.length cs1
  m : IsMsgs W C cs1 IM
  t : ∃ cs2, Sl W C 700 wv 50 2 ((IM.take k).filter (keepB c P)).length cs2 ∧ IsMsgs W C cs2 ((IM.take k).filter (keepB c P))
theorem take_snoc {l : List Msg} {k : Nat} (h : k < l.length) : l.take (k + 1) = l.take k ++ [l.getD k default] := by
  rw [List.take_succ_eq_append_getElem h, List.getD_eq_getElem?_getD, List.getElem?_eq_getElem h]
  rfl

set_option maxRecDepth 100000 in
set_option maxHeartbeats 16000000 in
theorem clear_walk (c : Cfg) (hok : c.ok) (pv qv rv : Value) (node part : Int) (hnode : I64 node) (hpart : I64 part) (lv : Value) (cs : List Value) (ms : List Msg) (w : World) (hlst : Lists w (fun _ => 0) c pv qv rv) (hl : Rd w (fun _ => 0) lv 2 ms.length cs) (hM : IsMsgs w (fun _ => 0) cs ms) (hmd : ∀ i, i < ms.length → (ms.getD i default).d.length ≤ 140737488355328) :
    Calls Try.prog 8 #[c.v pv qv rv, .int .i64 node, .int .i64 part, lv] w fun e w' => e = .returned (.bool true) ∧ Below w.heap.size w w' := by
  obtain ⟨la, lc, rfl, hlc, hlm, -⟩ := id hl
  unfold maxLen at hlm
  obtain ⟨pa, pc, rfl, hpc, hpm, -⟩ := id hlst.parts
  unfold maxLen at hpm
  obtain ⟨qa, qc, rfl, hqc, hqm, -⟩ := id hlst.ports
  unfold maxLen at hqm
  have HL := hid_ hl
  have HM := hid_ hM
  have HD := hid_ hmd
  have HLS := hid_ hlst
  clear hl hM hmd hlst
  unfold Cfg.v
  go_enter Try.func8, Try.ntmps8
  go_upto_region 1 with (fail)
  refine gen_world (fun W => Below w.heap.size w W ∧ Bk W w.heap.size 28 (c.cells (.slice pa c.parts.length pc) (.slice qa c.ports.length qc) rv)) ⟨(Below.refl w.heap.size w).alloc (Nat.le_refl _) _, Bk.new _ _ _⟩ ?_
  rintro W0 ⟨V0, B0⟩
  go_wp2_with fail
  refine (awake13 _).mono ?_
  rintro e w1 ⟨rfl, V1⟩
  have VA := below_then V0 V1
  have B1 := B0.same (V1.block _ B0.lt)
  have dc := B1.cfg0
  have L1 := HLS.out.fr (Fr.of_below (C := fun _ => 0) VA (fun _ => False)) (fun h => h)
  clear V0 V1 B0
  have HL1 := hid_ L1
  clear L1
  go_wp2_with fail
  refine (law6Works c hok (fun _ => 0) (.slice pa c.parts.length pc) (.slice qa c.ports.length qc) rv _ HL1.out (fun _ _ => rfl)).mono ?_
  rintro e w2 ⟨rfl, V2⟩
  have VB := below_then VA V2
  have B2 := B1.same (V2.block _ B1.lt)
  clear dc
  have dc := B2.cfg0
  have L2 := hid_ (HL1.out.fr (Fr.of_below (C := fun _ => 0) V2 (fun _ => False)) (fun h => h))
  clear VA V2 B1 HL1
  by_cases hsn : (sndE c).isNone = false
  · rw [hsn]
    go_wp2_with fail
    go_ret
    exact ⟨rfl, VB⟩
  have hs : sndE c = none := by cases h : sndE c with
    | none => rfl
    | some x => exact absurd (by rw [h]; rfl) hsn
  rw [hs, show (none : Option (Int × Int)).isNone = true from rfl]
  clear hsn
  by_cases h60 : (60 : Int) < (ms.length : Int)
  · go_wp2_with fail
    go_ret
    exact ⟨rfl, VB⟩
  have l60 : ms.length ≤ 60 := by omega
  by_cases hp0 : c.parts.length = 0
  · have hp1 : (c.parts.length : Int) = 0 := by omega
    go_wp2_with fail
    go_ret
    exact ⟨rfl, VB⟩
  have hp1 : ¬ (c.parts.length : Int) = 0 := by omega
  have HG := hid_ (sndE_good hs)
  have qd1 : decide ((60 : Int) < (ms.length : Int)) = false := by simp; omega
  have qd2 : ((c.parts.length : Int) == 0) = false := by simpa using hp1
  have hnp := HG.out.np
  go_upto_region 5 with (fail)
  obtain ⟨N, hN, hN0, hN1⟩ : ∃ N : Int, wrap64 ((IntKind.u64.wrap node).tmod c.nodes) = N ∧ 0 ≤ N ∧ N < c.nodes := ⟨_, rfl, rem_small node c.nodes (by have := HG.out.rg.n0; omega) (by have := HG.out.rg.n1; omega)⟩
  obtain ⟨P, hP, hP0, hP1⟩ : ∃ P : Int, wrap64 ((IntKind.u64.wrap part).tmod (c.parts.length : Int)) = P ∧ 0 ≤ P ∧ P < c.parts.length := ⟨_, rfl, rem_small part c.parts.length (by omega) (by omega)⟩
  have hcn1 := HG.out.rg.n0
  have hcn2 := HG.out.rg.n1
  have hz1 : ¬ c.nodes = 0 := by omega
  have hu1 : IntKind.u64.wrap c.nodes = c.nodes := by simp [IntKind.wrap, IntKind.signed, IntKind.bits]; omega
  have hu2 : IntKind.u64.wrap (c.parts.length : Int) = (c.parts.length : Int) := by simp [IntKind.wrap, IntKind.signed, IntKind.bits]; omega
  go_quiet (fail)
  rw [hN, hP]
  have VC := below_drewN VB nq
  have B3 : Bk (w2.drewN nq) w.heap.size 28 (c.cells (.slice pa c.parts.length pc) (.slice qa c.ports.length qc) rv) := B2.drewN nq
  have L3 := hid_ (L2.out.fr ((Fr.refl (fun _ => False) (fun _ => 0) w2).drewN nq) (fun h => h))
  clear VB B2 L2 dc hN hP hu1 hu2 hz1 qd1 qd2
  generalize w2.drewN nq = w3 at *
  have dc := B3.cfg0
  go_wp2_with fail
  refine (portsNew c hok (fun _ => 0) 100 (by omega) (.slice pa c.parts.length pc) (.slice qa c.ports.length qc) rv N _ L3.out (fun _ _ => rfl)).mono ?_
  intro e w4 h
  unfold NewP at h
  rw [hs] at h
  rw [if_neg (by omega)] at h
  obtain ⟨b, ab, C4, rfl, nb, hb, hab, f4, p4⟩ := h
  have K4 : Ctx w C4 w4 w.heap.size (c.cells (.slice pa c.parts.length pc) (.slice qa c.ports.length qc) rv) := ⟨((Fr.of_below (C := fun _ => 0) VC (fun _ => False)).trans f4).mono (fun _ h => h.elim), f4.Fin (fun _ _ => rfl), B3.same (f4.block _ B3.lt (fun h => h)).1, (f4.block _ B3.lt (fun h => h)).2⟩
  have H4 : ClrS w c w.heap.size b ab (.slice pa c.parts.length pc) (.slice qa c.ports.length qc) rv N w4 := ⟨C4, noLv, _, K4, p4, inv0 c⟩
  have HH4 := hid_ H4
  clear H4 K4 p4 f4 hb hab L3 B3 VC dc
  go_upto_block 1 with (fail)
  go_loopw [11] (fun iv wr => ∃ k : Nat, (k : Int) ≤ c.nodes ∧ iv = .int .i64 k ∧ ClrS w c w.heap.size b ab (.slice pa c.parts.length pc) (.slice qa c.ports.length qc) rv N wr) (fun iv _ => c.nodes.toNat - (intOf iv).toNat)
  case atStart => exact ⟨0, by omega, rfl, HH4.out⟩
  case round =>
    obtain ⟨k, hk, rfl, C, lv, st, K, p, hinv⟩ := hrel
    clear HH4
    have d0 := K.blk.cell_ 0 rfl
    by_cases hlt : (k : Int) < c.nodes
    · go_wp2_with fail
      refine (copiedMsgs C 0 500 (by omega) _ cs ms _ K.fin (HL.out.fr K.tot (by simp)).rdk (HM.out.fr K.tot (by simp)) (by omega) HD.out).mono ?_
      rintro e w5 ⟨mv5, cs5, C5, rfl, f5, s5, m5⟩
      have p5 := p.fr f5 (fun x h => h.elim) (by rw [hinv.1]; exact HG.out.nq)
      have K5 := K.fr f5 (fun h => h)
      obtain ⟨ma5, mc5, rfl, hmc5, hmm5, -⟩ := s5.form
      clear K p f5 d0
      go_wp2_with fail
      refine (portsDeliver c HG.out C5 100 500 b ab (by omega) (by omega) nb (.slice pa c.parts.length pc) (.slice qa c.ports.length qc) rv N k lv st _ cs5 ms _ K5.fin p5 s5.rdk m5 (by omega)).mono ?_
      rintro e w6 ⟨C6, lv6, rfl, f6, p6⟩
      have H6 : ClrS w c w.heap.size b ab (.slice pa c.parts.length pc) (.slice qa c.ports.length qc) rv N w6 := ⟨C6, lv6, _, K5.fr f6 (by omega), p6, delivR_inv HG.out hinv N k ms ms.length⟩
      have HH6 := hid_ H6
      clear H6 K5 p5 s5 m5 f6 p6 hinv
      go_wp2_with fail
      go_roundw
      case rel => exact ⟨k + 1, by omega, by go_num, HH6.out⟩
      case measure => simp [intOf]; omega
    · go_wp2_with fail
      refine (portsImage c HG.out C 100 600 b ab (by omega) ⟨by omega, by omega⟩ (.slice pa c.parts.length pc) (.slice qa c.ports.length qc) rv N lv st _ K.fin p (fun i hi => (hinv.2 i hi).1) (fun i hi x hx => by have := (hinv.2 i hi).2 x hx; omega)).mono ?_
      rintro e w7 ⟨v7, cs7, C7, rfl, f7, s7, m7⟩
      have hst24 : st.length ≤ 24 := by rw [hinv.1]; exact HG.out.nq
      have hIl : (imageMs c N st st.length).length ≤ 96 := by have := imageMs_len c N st (fun i hi => (hinv.2 i hi).1) st.length (Nat.le_refl _); omega
      have hIp : ∀ m ∈ imageMs c N st st.length, 0 ≤ m.port ∧ m.port < (c.ports.length : Int) := fun m hm => by have h1 := image_port c N st st.length m hm; have h2 := hinv.1; omega
      have hId := image_d hinv N st.length (Nat.le_refl _)
      have hIc := image_clear c N P st st.length (Nat.le_refl _)
      generalize imageMs c N st st.length = IM at *
      obtain ⟨ia, ic, rfl, hic, him, -⟩ := s7.form
      have p7 := p.fr f7 (fun x h => by omega) hst24
      have K7 := K.fr f7 (by omega)
      have T7 : ClrT w C7 c w.heap.size b ab (.slice pa c.parts.length pc) (.slice qa c.ports.length qc) rv N P lv st (.slice ia IM.length ic) cs7 IM 0 (.slice none 0 0) w7 := ⟨K7, p7, s7, m7, [], Sl.nil _ _ _ _ _, trivial⟩
      have HT7 := hid_ T7
      have HIP := hid_ hIp
      have HID := hid_ hId
      have HIC := hid_ hIc
      have HINV := hid_ hinv
      clear T7 K7 p7 s7 m7 f7 K p hIp hId hIc hinv d0
      go_upto_block 3 with (fail)
      go_loopw [12, 68] (fun wv iv wr => ∃ (k : Nat) (C : Nat → Nat), k ≤ IM.length ∧ iv = .int .i64 k ∧ ClrT w C c w.heap.size b ab (.slice pa c.parts.length pc) (.slice qa c.ports.length qc) rv N P lv st (.slice ia IM.length ic) cs7 IM k wv wr) (fun _ iv _ => IM.length - (intOf iv).toNat)
      case atStart => exact ⟨0, C7, Nat.zero_le _, rfl, HT7.out⟩
      case round =>
        obtain ⟨k, C, hk, rfl, T⟩ := hrel
        clear HT7
        by_cases hlt : k < IM.length
        · have hk0 : (0 : Int) ≤ (k : Int) := Int.natCast_nonneg _
          have hk1 : (k : Int) < (IM.length : Int) := by omega
          obtain ⟨v0, hp0, hp1, hb0, -⟩ := T.m.get hlt
          have hmem : IM.getD k default ∈ IM := by rw [List.getD_eq_getElem?_getD, List.getElem?_eq_getElem hlt]; exact List.getElem_mem hlt
          have hpr := HIP.out _ hmem
          have hmd2 := HID.out _ hmem
          have htk := take_snoc hlt
          generalize IM.getD k default = m at *
          obtain ⟨mp, md⟩ := m
          simp only at hpr hmd2
          obtain ⟨pn, rfl⟩ := Int.eq_ofNat_of_zero_le hpr.1
          have hjp : pn < c.ports.length := by omega
          obtain ⟨bb, off, rfl, -, -, hcell⟩ := T.s.at (by omega)
          have e0 := hcell _ _ hp0
          have e1 := hcell _ _ hp1
          rw [← Nat.add_assoc] at e1
          obtain ⟨xa, xc, rfl, hxc, hxm, -⟩ := id hb0
          simp only at e0 e1 hxc
          unfold maxLen at hxm
          have HT := hid_ T
          clear hcell hp0 hp1 T
          go_upto_region 17 with (fail)
          refine gen_world (fun W => Fr (fun _ => False) C C wr W ∧ Bk W wr.heap.size 50 [.int .i64 (pn : Int), .slice xa md.length xc]) ⟨(Fr.refl _ C wr).alloc _, Bk.new _ _ _⟩ ?_
          rintro W6 ⟨F6, B6⟩
          have q0 := B6.cell_ 0 rfl
          have q1 := B6.cell_ 1 rfl
          have K6 := HT.out.ctx.fr F6 (fun h => h)
          have p6 := HT.out.p.fr F6 (fun x h => h.elim) hst24
          have s6 := HT.out.s.fr F6 (fun h => h)
          have m6 := HT.out.m.fr F6 (fun h => h)
          obtain ⟨cs2, t6, n6⟩ := HT.out.t
          have t6 := t6.fr F6 (fun h => h)
          have n6 := n6.fr F6 (fun h => h)
          obtain ⟨wa, wc, rfl, hwc, hwm, -⟩ := t6.form
          have b6 := Rd.fr hb0 F6 (fun h => h)
          have d9 := K6.blk.cell_ 9 rfl
          obtain ⟨qb, qo, e', -, hcell⟩ := (show Rd W6 C (.slice qa c.ports.length qc) 6 c.ports.length _ from p6.lists.ports).row (fun _ => rfl) hjp
          obtain rfl := e'
          rw [show c.ports.getD pn default = c.port pn from rfl] at hcell
          have g0 := hcell 0 _ rfl
          simp only [Nat.add_zero] at g0
          have pn0 : (0 : Int) ≤ (pn : Int) := Int.natCast_nonneg _
          have pn1 : (pn : Int) < (c.ports.length : Int) := by omega
          clear hcell e0 e1 HT hb0
          by_cases hkp : (c.port pn).part = P
          · have hkeep : (IM.take (k + 1)).filter (keepB c P) = (IM.take k).filter (keepB c P) := by
              rw [htk, List.filter_append, show [(⟨(pn : Int), md⟩ : Msg)].filter (keepB c P) = [] by simp [keepB, hkp], List.append_nil]
            have T9 : ClrT w C c w.heap.size b ab (.slice pa c.parts.length pc) (.slice (some ⟨qb, qo, none⟩) c.ports.length qc) rv N P lv st (.slice (some ⟨bb, off, none⟩) IM.length ic) cs7 IM (k + 1) (.slice wa ((IM.take k).filter (keepB c P)).length wc) W6 := ⟨K6, p6, s6, m6, cs2, by rw [hkeep]; exact t6, by rw [hkeep]; exact n6⟩
            have HT9 := hid_ T9
            clear T9 K6 p6 s6 m6 t6 n6 b6 B6
            go_wp2_with fail
            go_roundw
            case rel => exact ⟨k + 1, C, by omega, by go_num, HT9.out⟩
            case measure => simp [intOf]; omega
          · have hkeep : (IM.take (k + 1)).filter (keepB c P) = (IM.take k).filter (keepB c P) ++ [⟨(pn : Int), md⟩] := by
              rw [htk, List.filter_append, show [(⟨(pn : Int), md⟩ : Msg)].filter (keepB c P) = [⟨(pn : Int), md⟩] by simp [keepB, hkp]]
            have hwl : ((IM.take k).filter (keepB c P)).length ≤ 96 := by
              have h1 := List.length_filter_le (keepB c P) (IM.take k)
              have h2 := List.length_take_le k IM
              omega
            generalize (IM.take k).filter (keepB c P) = WM at *
            obtain ⟨i1, z1, hi1, hz1, hzs1, his1, hby1⟩ := info_row (P := Try.prog) (e := 50) (size := 2) (bytes := 32) info_msg2
            obtain ⟨v7, W7, C7, hr7, t7, F7, -, -⟩ := Sl.append (P := Try.prog) (t := 43) 0 Try.underlying43 hi1 his1 hz1 hzs1 (t6.alloc (.cells #[.int .i64 (pn : Int), .slice xa md.length xc] 50)) (Src.new W6 50 2 1 1 [.int .i64 (pn : Int), .slice xa md.length xc] rfl) (by simp [Value.oneCell']) (by unfold maxLen; omega) (by rw [hby1]; omega)
            have F67 : Fr (· = 700) C C7 W6 W7 := (((Fr.refl (fun _ => False) C W6).mono (K' := (· = 700)) (fun _ h => h.elim)).alloc (.cells #[.int .i64 (pn : Int), .slice xa md.length xc] 50)).trans F7
            have T9 : ClrT w C7 c w.heap.size b ab (.slice pa c.parts.length pc) (.slice (some ⟨qb, qo, none⟩) c.ports.length qc) rv N P lv st (.slice (some ⟨bb, off, none⟩) IM.length ic) cs7 IM (k + 1) v7 W7 := ⟨K6.fr F67 (by omega), p6.fr F67 (fun x h => by omega) hst24, s6.fr F67 (by omega), m6.fr F67 (by omega), _, by rw [hkeep, List.length_append]; exact t7, by rw [hkeep]; exact IsMsgs.snoc (m := ⟨(pn : Int), md⟩) (Rd.fr b6 F67 (by omega)) rfl (n6.fr F67 (by omega))⟩
            have HT9 := hid_ T9
            have HR7 := hid_ hr7
            clear hr7 T9 K6 p6 s6 m6 t6 n6 b6 t7 F7 F67 B6
            go_wp2_with (refine wpList_append_run HR7.out (by rfl) (by rfl) (by rfl) (by rfl) ?_)
            go_roundw
            case rel => exact ⟨k + 1, C7, by omega, by go_num, HT9.out⟩
            case measure => simp [intOf]; omega
        · obtain rfl : k = IM.length := by omega
          obtain ⟨K, p, -, -, cs2, t, n⟩ := T
          rw [List.take_length] at t n
          have hinv := HINV.out
          go_wp2_with fail
          refine (portsClear c HG.out C 100 b ab (by omega) nb (.slice pa c.parts.length pc) (.slice qa c.ports.length qc) rv N P lv st _ K.fin p).mono ?_
          rintro e w8 ⟨rfl, lv8, f8, p8⟩
          have K8 := K.fr f8 (by omega)
          have t8 := t.fr f8 (by omega)
          have n8 := n.fr f8 (by omega)
          have hinv8 := clear_inv hinv P
          have HIC8 := HIC.out
          generalize hst8 : clearSt c P st st.length = st8 at *
          clear K p t n f8
          go_wp2_with fail
          refine (portsClear c HG.out C 100 b ab (by omega) nb (.slice pa c.parts.length pc) (.slice qa c.ports.length qc) rv N (-1) lv8 st8 _ K8.fin p8).mono ?_
          rintro e w9 ⟨rfl, lv9, f9, p9⟩
          rw [clear_none c (-1) st8 st8.length (fun i hi h => by have := part_in HG.out (show i < c.ports.length by rw [← hinv8.1]; exact hi); omega)] at p9
          have K9 := K8.fr f9 (by omega)
          have t9 := t8.fr f9 (by omega)
          have n9 := n8.fr f9 (by omega)
          have d8 := K9.blk.cell_ 8 rfl
          clear K8 t8 n8 f9 p8
          go_wp2_with fail
          refine (portsClear c HG.out C 100 b ab (by omega) nb (.slice pa c.parts.length pc) (.slice qa c.ports.length qc) rv N (c.parts.length : Int) lv9 st8 _ K9.fin p9).mono ?_
          rintro e w10 ⟨rfl, lv10, f10, p10⟩
          rw [clear_none c (c.parts.length : Int) st8 st8.length (fun i hi h => by have := part_in HG.out (show i < c.ports.length by rw [← hinv8.1]; exact hi); omega)] at p10
          have K10 := K9.fr f10 (by omega)
          have t10 := t9.fr f10 (by omega)
          have n10 := n9.fr f10 (by omega)
          clear K9 t9 n9 f10 p9 d8
          go_wp2_with fail
          refine (portsImage c HG.out C 100 800 b ab (by omega) ⟨by omega, by omega⟩ (.slice pa c.parts.length pc) (.slice qa c.ports.length qc) rv N lv10 st8 _ K10.fin p10 (fun i hi => (hinv8.2 i hi).1) (fun i hi x hx => by have := (hinv8.2 i hi).2 x hx; omega)).mono ?_
          rintro e w11 ⟨v11, cs11, C11, rfl, f11, s11, m11⟩
          rw [show st8.length = st.length by rw [hinv8.1, hinv.1], HIC8] at s11 m11
          have K11 := K10.fr f11 (by omega)
          have t11 := t10.fr f11 (by omega)
          have n11 := n10.fr f11 (by omega)
          have hwl : (IM.filter (keepB c P)).length ≤ 96 := by
            have h1 := List.length_filter_le (keepB c P) IM
            omega
          generalize IM.filter (keepB c P) = WM at *
          clear K10 t10 n10 f11 p10
          go_wp2_with fail
          refine (sameMsgs C11 800 700 _ _ cs11 cs2 WM _ s11.rdk t11.rdk m11 n11 (by omega)).mono ?_
          rintro e w12 ⟨rfl, V12⟩
          have T12 := K11.tot.trans (Fr.of_below (C := C11) V12 (· ≠ 0))
          clear K11 t11 n11 s11 m11
          go_wp2_with fail
          go_ret
          exact ⟨rfl, T12.below (fun b _ h => h rfl)⟩
end Go.Proofs.Ytogfbeibpfdleaa
