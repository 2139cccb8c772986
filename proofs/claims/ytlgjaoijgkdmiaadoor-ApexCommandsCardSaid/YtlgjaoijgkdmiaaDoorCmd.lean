/- ApexCommands' walk. No condition. -/
import Derived.Test.YtlgjaoijgkdmiaaDoorCmdP
import Derived.Test.YtlgjaoijgkdmiaaDoorOpenK
import Derived.Deep.RegionHeld3
set_option linter.unusedSimpArgs false
set_option linter.unusedVariables false
namespace Go.Proofs.YtlgjaoijgkdmiaaDoor
open Go.RowKit Go.Maps
theorem RunM.frC {K : Nat → Prop} {C C' : Nat → Nat} {w w' : World} {c : Cfg} {A : HA} {lb gb hb : Nat} {mpv v ov : Value} {rs : List Res} {cs : List Value} {lv : Nat → Value} {s : HSt} {m : MSt}
    (h : RunM c A lb gb mpv hb v rs cs ov lv s m w C) (f : Fr K C C' w w') (hk : ∀ x, K x → 400 ≤ x) : RunM c A lb gb mpv hb v rs cs ov lv s m w' C' := by
  have k0 : ¬ K 0 := fun h => by have := hk _ h; omega
  obtain ⟨a1, a2⟩ := h.host.frc h.hcol f k0
  obtain ⟨b1, b2⟩ := h.err.fr h.ecol f k0
  exact ⟨h.hw.fr f h.len (fun x hx => by have := hk _ hx; omega), h.len, h.mon.fr f ⟨k0, fun h => by have := hk _ h; omega, fun h => by have := hk _ h; omega⟩,
    h.sl.fr f (fun h => by have := hk _ h; omega), h.res.fr f k0, a1, a2, b1, b2, f.Fin h.fin⟩
theorem OpsIs.snoc {w : World} {C : Nat → Nat} {dv : Value} {o : OpT} (hb : IsBytes w C dv o.d) (h1 : dv.oneCell' = true) : ∀ {l : List OpT} {cs : List Value}, OpsIs w C cs l → OpsIs w C (cs ++ o.cells dv) (l ++ [o])
  | [], cs, h => by
    obtain rfl : cs = [] := h
    exact ⟨dv, [], by simp, hb, h1, rfl⟩
  | x :: r, _, ⟨dv', cs', rfl, h2, h3, h4⟩ => ⟨dv', cs' ++ o.cells dv, by simp, h2, h3, OpsIs.snoc hb h1 h4⟩
theorem fstI_rng (ops : List OpT) : ∀ i, -1 ≤ fstI ops i ∧ fstI ops i ≤ i
  | 0 => by simp [fstI]
  | i + 1 => by
    have := fstI_rng ops i
    rw [fstI]
    split
    · omega
    · split <;> omega
theorem cmd_eql (w : World) : (binOp .eql 65 (.agg #[.int .u8 0, .int .u8 0, .int .u16 0, .int .u16 0]) (.agg #[.int .u8 0, .int .u8 0, .int .u16 0, .int .u16 0])).run Tryd.prog w = .ok (.bool true) w := by kernel_rfl
theorem cmd_grd (w : World) : (eqGuard .eql 65 (.tmp 113) (.tmp 114) (.agg #[.int .u8 0, .int .u8 0, .int .u16 0, .int .u16 0]) (.agg #[.int .u8 0, .int .u8 0, .int .u16 0, .int .u16 0])).run Tryd.prog w = .ok () w := by kernel_rfl
def onlyT (ops : List OpT) (i : Nat) : List OpT := (ops.take i).filter isCmd
theorem onlyT_len (ops : List OpT) (i : Nat) : (onlyT ops i).length ≤ i := by
  unfold onlyT
  exact Nat.le_trans (List.length_filter_le _ _) (by simp [List.length_take]; omega)
theorem onlyT_succ (ops : List OpT) (i : Nat) (h : i < ops.length) : onlyT ops (i + 1) = onlyT ops i ++ (if isCmd (ops.getD i default) then [ops.getD i default] else []) := by
  unfold onlyT
  rw [List.take_succ_eq_append_getElem h, List.filter_append, List.getD_eq_getElem?_getD, List.getElem?_eq_getElem h]
  simp [List.filter_cons]
theorem onlyT_cmd (ops : List OpT) (i : Nat) : ∀ o ∈ onlyT ops i, isCmd o = true := fun o h => (List.mem_filter.1 h).2

set_option maxRecDepth 100000 in
set_option maxHeartbeats 16000000 in
theorem commands_walk (opv : Value) (ocs : List Value) (ops : List OpT) (w : World) (hT : ErrT w) (ho : Rd w (fun _ => 0) opv 6 ops.length ocs) (hO : OpsIs w (fun _ => 0) ocs ops) :
    Calls Tryd.prog 4 #[opv] w fun e w' => e = .returned (.bool true) ∧ Below w.heap.size w w' := by
  obtain ⟨i9, z9, hi9, hz9, hzs9, his9, hby9⟩ := info_row (P := Tryd.prog) (e := 60) (size := 6) (bytes := 64) (by kernel_rfl)
  obtain ⟨oa, oc, rfl, hoc, hom, -⟩ := id ho
  unfold maxLen at hom
  have HO := hid_ ho
  have HOP := hid_ hO
  have HT := hid_ hT
  clear ho hO hT
  go_enter Tryd.func4, Tryd.ntmps4
  go_wp2_with fail
  refine (awake16 _ HT.out).mono ?_
  rintro e w0 ⟨rfl, V0⟩
  by_cases h60 : (60 : Int) < (ops.length : Int)
  · go_wp2
    go_ret
    exact ⟨rfl, V0⟩
  have l60 : ops.length ≤ 60 := by omega
  go_wp2_with fail
  refine (law13WiredB _).mono ?_
  rintro e w1 ⟨pb, qb, rb, rfl, V1, ⟨hp, hq, hr, -, -⟩, P1, Q1, R1⟩
  unfold Cfg.v
  have hne : pb ≠ w1.heap.size ∧ pb ≠ qb ∧ pb ≠ rb := ⟨by have := P1.lt; omega, P1.ne Q1 (by decide), P1.ne R1 (by decide)⟩
  go_upto_region 6 with fail
  have B1 := wired_box (below_then V0 V1) P1 Q1 R1
  have hpw : w.heap.size ≤ pb := Nat.le_trans V0.size hp
  refine gen_world (fun W => Below w.heap.size w W ∧ IsBox W w1.heap.size pb qb rb 9 2 0 0 0 0) B1 ?_
  clear B1 V1 P1 Q1 R1
  rintro W2 ⟨V2, B2⟩
  have c8 := B2.box.cell_ 8 rfl
  have f3 := fun i => B2.parts.frozen i
  have z3 := B2.parts.cell_ 3 rfl
  go_upto_region 7 with fail
  refine gen_world (fun W => Below w.heap.size w W ∧ IsBox W w1.heap.size pb qb rb 64 2 0 0 0 0) ⟨V2.setCell hpw _, IsBox.sets hne B2 [(3, .int .i64 64)] rfl⟩ ?_
  clear c8 f3 z3 V2 B2
  rintro W2 ⟨V2, B2⟩
  have HB3 := hid_ B2
  have hl3 : Lists W2 (fun _ => 0) (partC 64 2 0 0 0 0) _ _ _ := part_lists B2.parts B2.ports B2.routes rfl rfl rfl
  have c0 := B2.box.cell_ 0 rfl
  have c1 := B2.box.cell_ 1 rfl
  have c2 := B2.box.cell_ 2 rfl
  have c3 := B2.box.cell_ 3 rfl
  have c4 := B2.box.cell_ 4 rfl
  have c5 := B2.box.cell_ 5 rfl
  have c6 := B2.box.cell_ 6 rfl
  have c7 := B2.box.cell_ 7 rfl
  have c8 := B2.box.cell_ 8 rfl
  have c9 := B2.box.cell_ 9 rfl
  have c10 := B2.box.cell_ 10 rfl
  have hg := hid_ (part_good (show (0 : Int) ≤ 64 ∧ (64 : Int) ≤ 64 by omega) (show (0 : Int) ≤ 2 ∧ (2 : Int) ≤ 16 by omega) (show (0 : Int) ≤ 0 ∧ (0 : Int) ≤ 3 by omega) (show (0 : Int) ≤ 0 ∧ (0 : Int) ≤ 3 by omega) (show (0 : Int) ≤ 0 ∧ (0 : Int) ≤ 3 by omega) (show (0 : Int) ≤ 0 ∧ (0 : Int) ≤ 3 by omega))
  have HN := hid_ (host_new (partC 64 2 0 0 0 0) hg.out (part_ok (show (0 : Int) ≤ 64 ∧ (64 : Int) ≤ 64 by omega) (show (0 : Int) ≤ 2 ∧ (2 : Int) ≤ 16 by omega) (show (0 : Int) ≤ 0 ∧ (0 : Int) ≤ 3 by omega) (show (0 : Int) ≤ 0 ∧ (0 : Int) ≤ 3 by omega) (show (0 : Int) ≤ 0 ∧ (0 : Int) ≤ 3 by omega) (show (0 : Int) ≤ 0 ∧ (0 : Int) ≤ 3 by omega)) (part_snd (show (0 : Int) ≤ 64 ∧ (64 : Int) ≤ 64 by omega) (show (0 : Int) ≤ 2 ∧ (2 : Int) ≤ 16 by omega) (show (0 : Int) ≤ 0 ∧ (0 : Int) ≤ 3 by omega) (show (0 : Int) ≤ 0 ∧ (0 : Int) ≤ 3 by omega) (show (0 : Int) ≤ 0 ∧ (0 : Int) ≤ 3 by omega) (show (0 : Int) ≤ 0 ∧ (0 : Int) ≤ 3 by omega)) rfl (fun _ => 0) _ _ _ 0 ⟨by omega, by show (0 : Int) < 2; omega⟩ W2 hl3 (fun _ _ => rfl))
  clear hl3 B2
  go_wp2_with fail
  refine HN.out.mono ?_
  clear c0 c1 c2 c3 c4 c5 c6 c7 c8 c9 c10
  rintro e W4 ⟨b, ab, tb, mb, lb, gb, cb, pv2, qv2, rv2, mpv, C4, rfl, F4, I4⟩
  have B4 := HB3.out.fr F4 ⟨rfl, rfl, rfl, rfl⟩ (fun h => h)
  have fin4 := F4.Fin (fun _ _ => rfl)
  have FW := hid_ ((Fr.of_below (C := fun _ => 0) V2 (fun _ => False)).trans F4)
  have B5 := B4.1.alloc (.cells #[.pointer (some ⟨b, 0, none⟩), .pointer (some ⟨tb, 0, none⟩), .pointer (some ⟨mb, 0, none⟩), .pointer (some ⟨cb, 0, none⟩)] 40)
  have HB4 := hid_ B4
  have HI4 := hid_ I4
  have HFN4 := hid_ fin4
  unfold hostV
  have c0 := B5.box.cell_ 0 rfl
  have c1 := B5.box.cell_ 1 rfl
  have c2 := B5.box.cell_ 2 rfl
  have c3 := B5.box.cell_ 3 rfl
  have c4 := B5.box.cell_ 4 rfl
  have c5 := B5.box.cell_ 5 rfl
  have c6 := B5.box.cell_ 6 rfl
  have c7 := B5.box.cell_ 7 rfl
  have c8 := B5.box.cell_ 8 rfl
  have c9 := B5.box.cell_ 9 rfl
  have c10 := B5.box.cell_ 10 rfl
  have fb := (Fr.refl (fun _ => False) C4 W4).alloc (.cells #[.pointer (some ⟨b, 0, none⟩), .pointer (some ⟨tb, 0, none⟩), .pointer (some ⟨mb, 0, none⟩), .pointer (some ⟨cb, 0, none⟩)] 40)
  have HNW := hid_ (apxNew (partC 64 2 0 0 0 0) C4 330 (by decide) _ _ _ 0 (show 0 < 2 by decide) ⟨show (0 : Int) ≤ 2 by omega, show (2 : Int) ≤ 16 by omega⟩ _ (part_lists (C := C4) B5.parts B5.ports B5.routes B4.2.2.1 B4.2.2.2.1 B4.2.2.2.2) (fb.Fin fin4))
  have HFB := hid_ fb
  have HBB := hid_ (Bk.new W4 40 [.pointer (some ⟨b, 0, none⟩), .pointer (some ⟨tb, 0, none⟩), .pointer (some ⟨mb, 0, none⟩), .pointer (some ⟨cb, 0, none⟩)])
  clear F4 B4 fin4 I4 B5 fb HB3 V2
  go_wp2_with fail
  refine HNW.out.mono ?_
  rintro e W6 ⟨pb6, xb6, C6, rfl, hpb6, F6, A6⟩
  have R6 := ready16 hg.out HI4.out (HFB.out.trans F6) A6 (HBB.out.frc (HFN4.out _ (Nat.le_refl _)) F6 (fun h => h)) (HT.out.fr (C := fun _ => 0) rfl (FW.out.trans (HFB.out.trans F6)) (fun h => h)) ((HFB.out.trans F6).Fin HFN4.out)
  have FW6 := FW.out.trans (HFB.out.trans F6)
  have B6 := HB4.out.1.fr (HFB.out.trans F6) HB4.out.2 (fun h => h)
  clear c0 c1 c2 c3 c4 c5 c6 c7 c8 c9 c10 F6 A6 hpb6 HNW HN HB4 HI4 HFB HBB FW HFN4
  have HR6 := hid_ R6
  have HFW6 := hid_ FW6
  clear R6 FW6 B6
  go_wp2_with fail
  go_loopw [8, 46] (fun ov iv wr => ∃ (i : Nat) (v : Value) (C' : Nat → Nat) (cs : List Value), i ≤ ops.length ∧ iv = .int .i64 i ∧ v = ov ∧ Fr (· = 500) C6 C' W6 wr ∧ Sl wr C' 500 v 60 6 (onlyT ops i).length cs ∧ OpsIs wr C' cs (onlyT ops i)) (fun _ iv _ => ops.length - (intOf iv).toNat)
  case atStart => exact ⟨0, _, C6, [], Nat.zero_le _, rfl, rfl, Fr.refl _ _ _, Sl.nil _ _ _ _ _, rfl⟩
  case round =>
    obtain ⟨i, v, C', cs, hi, rfl, rfl, F, S, P⟩ := hrel
    obtain ⟨va, vc, rfl, -⟩ := id S.form
    have j0 : (0 : Int) ≤ (i : Int) := Int.natCast_nonneg _
    have hol := onlyT_len ops i
    by_cases hlt : i < ops.length
    · obtain ⟨dv, hdb, hd1, hcells⟩ := HOP.out.get hlt
      obtain ⟨oa', oc', hov, -, -, -, hor⟩ := HO.out.fr ((HFW6.out.mono (K' := (· = 500)) (fun _ h => h.elim)).trans F) (by omega)
      injection hov with e1 e2 e3
      subst e1
      clear e2 e3
      obtain ⟨ob, of, rfl, -, -, hoc2⟩ := hor (by omega)
      obtain ⟨ok, op, oa1, ob1, oc1, od, hopt⟩ : ∃ ok op oa ob oc od, ops.getD i default = ⟨ok, op, oa, ob, oc, od⟩ := ⟨_, _, _, _, _, _, rfl⟩
      have hsucc := onlyT_succ ops i hlt
      rw [hopt] at hdb hcells hsucc
      obtain ⟨da, dc, rfl, -⟩ := id hdb
      have hdw := (hdb.fr ((HFW6.out.mono (K' := (· = 500)) (fun _ h => h.elim)).trans F) (by omega))
      have hx : ∀ j v, ((OpT.mk ok op oa1 ob1 oc1 od).cells (.slice da od.length dc))[j]? = some v → wr.cell? ⟨ob, of + i * 6 + j, none⟩ = some v := fun j v hj => by rw [Nat.add_assoc]; exact hoc2 _ _ (hcells j v hj)
      have x0 : wr.cell? ⟨ob, of + i * 6, none⟩ = some (.int .u8 ok) := hx 0 _ rfl
      have x1 := hx 1 _ rfl
      have x2 := hx 2 _ rfl
      have x3 := hx 3 _ rfl
      have x4 := hx 4 _ rfl
      have x5 := hx 5 _ rfl
      have j1 : (i : Int) < (ops.length : Int) := by omega
      obtain ⟨m, hm⟩ : ∃ m, (onlyT ops i).length = m := ⟨_, rfl⟩
      rw [hm] at hol S ⊢
      have F1 := F.alloc (.cells #[.int .u8 ok, .int .i64 op, .int .i64 oa1, .int .i64 ob1, .int .i64 oc1, .slice da od.length dc] 60)
      have fa : Fr (fun _ => False) C' C' wr (wr.alloc (.cells #[.int .u8 ok, .int .i64 op, .int .i64 oa1, .int .i64 ob1, .int .i64 oc1, .slice da od.length dc] 60)) := (Fr.refl _ _ _).alloc _
      by_cases hin : 7 ≤ ok ∧ ok ≤ 9
      · obtain ⟨k7, k9⟩ := hin
        have hc : isCmd ⟨ok, op, oa1, ob1, oc1, od⟩ = true := by unfold isCmd; simp; omega
        rw [if_pos hc] at hsucc
        obtain ⟨v2, w2, C2, hr2, S2, F2, -, -⟩ := Sl.append (P := Tryd.prog) (t := 22) 0 Tryd.underlying22 hi9 his9 hz9 hzs9 ((S.alloc (.cells #[.int .u8 ok, .int .i64 op, .int .i64 oa1, .int .i64 ob1, .int .i64 oc1, .slice da od.length dc] 60)).alloc (.cells #[.int .u8 ok, .int .i64 op, .int .i64 oa1, .int .i64 ob1, .int .i64 oc1, .slice da od.length dc] 60)) (Src.new _ 60 6 1 1 [.int .u8 ok, .int .i64 op, .int .i64 oa1, .int .i64 ob1, .int .i64 oc1, .slice da od.length dc] rfl) (by simp [Value.oneCell']) (by unfold maxLen; omega) (by rw [hby9]; omega)
        have f2 := ((fa.alloc (.cells #[.int .u8 ok, .int .i64 op, .int .i64 oa1, .int .i64 ob1, .int .i64 oc1, .slice da od.length dc] 60)).mono (K' := (· = 500)) (fun _ h => h.elim)).trans F2
        have HF2 := hid_ (F.trans f2)
        have HS2 := hid_ S2
        have HRUN := hid_ hr2
        have HP2 := hid_ ((P.fr f2 (by omega)).snoc (o := ⟨ok, op, oa1, ob1, oc1, od⟩) (hdw.fr f2 (by omega)) rfl)
        have HSU := hid_ hsucc
        have HM := hid_ hm
        rw [World.size_alloc] at HRUN
        clear hr2 S2 F2 F S P f2 fa F1 hsucc hdb hdw hx hcells hoc2 hor hopt hc hm
        go_wp2_with (refine wpList_append_run HRUN.out (by rfl) (by rfl) (by rfl) (by rfl) ?_)
        go_roundw
        case rel => exact ⟨i + 1, _, C2, _, by omega, by go_num, rfl, HF2.out, by rw [HSU.out, List.length_append, HM.out]; exact HS2.out, by rw [HSU.out]; exact HP2.out⟩
        case measure => simp [intOf]; omega
      · have hc : ¬ isCmd ⟨ok, op, oa1, ob1, oc1, od⟩ = true := by unfold isCmd; simp; omega
        rw [if_neg hc, List.append_nil] at hsucc
        have HF2 := hid_ F1
        have HS2 := hid_ (S.fr fa (fun h => h))
        have HP2 := hid_ (P.fr fa (fun h => h))
        have HSU := hid_ hsucc
        have HM := hid_ hm
        clear F S P fa F1 hsucc hdb hdw hx hcells hoc2 hor hopt hc hm
        rcases (by omega : ok < 7 ∨ (7 ≤ ok ∧ 9 < ok)) with hq | ⟨hq, hq2⟩
        all_goals
          go_wp2
          go_roundw
          case rel => exact ⟨i + 1, _, C', _, by omega, by go_num, rfl, HF2.out, by rw [HSU.out, HM.out]; exact HS2.out, by rw [HSU.out]; exact HP2.out⟩
          case measure => simp [intOf]; omega
    · obtain rfl : i = ops.length := by omega
      obtain ⟨only, honly⟩ : ∃ l, onlyT ops ops.length = l := ⟨_, rfl⟩
      have hcmds : ∀ o ∈ only, isCmd o = true := honly ▸ onlyT_cmd ops ops.length
      rw [honly] at hol S P ⊢
      clear honly
      obtain ⟨m, hm⟩ : ∃ m, only.length = m := ⟨_, rfl⟩
      obtain ⟨D, fD, hD0⟩ : ∃ D : Nat → Nat, Fr (· = 500) C' D wr wr ∧ (∀ x, C' x = 500 → D x = 0) := by
        refine ⟨fun x => if C' x = 500 then 0 else C' x, ⟨rfl, rfl, rfl, Nat.le_refl _, fun x hx hk => ⟨rfl, if_neg hk⟩, fun h x hx => ?_⟩, fun x h => if_pos h⟩
        have := h x hx
        show (if C' x = 500 then 0 else C' x) = 0
        rw [if_neg (by omega)]
        exact this
      have HRW := hid_ (HR6.out.frC (F.trans fD) (fun x hx => by omega))
      have PD := P.fr fD (by omega)
      have hoD : Rd wr D (.slice va only.length vc) 6 only.length cs := by
        rcases S with ⟨h, h2, h3⟩ | ⟨b, hb, h⟩
        · rw [h, h2, h3]; exact rd_nil _ _ _
        · exact h.rd (hD0 _ hb)
      have hfc := cmd_main only (run16 cmdC 0) hcmds (by show (only.length : Int) ≤ 64; omega) (.inl rfl)
      obtain ⟨X, hX⟩ : ∃ X, runR cmdC 0 0 0 only (run16 cmdC 0) = X := ⟨_, rfl⟩
      rw [hX] at hfc
      obtain ⟨A', hA'⟩ : ∃ A', mkA b ab tb mb cb pb6 xb6 pv2 qv2 rv2 (.slice (some ⟨pb, 0, none⟩) 2 2) (.slice (some ⟨qb, 0, none⟩) 4 4) (.slice (some ⟨rb, 0, none⟩) 2 2) 0 0 = A' := ⟨_, rfl⟩
      have hRW := HRW.out
      rw [hA'] at hRW
      have hRN : Calls Tryd.prog 12 #[.pointer (some ⟨pb6, 0, none⟩), .agg #[.pointer (some ⟨A'.b, 0, none⟩), .pointer (some ⟨A'.tb, 0, none⟩), .pointer (some ⟨A'.mb, 0, none⟩), .pointer (some ⟨A'.cb, 0, none⟩)], .int .u32 0, .slice va m vc] wr (RunMP cmdC A' lb gb mpv W4.heap.size D wr 64 X) := by
        rw [← hX, ← hm]
        have := apxRunM cmdC hg.out A' lb gb mpv _ D noLv (run16 cmdC 0) 0 (by omega) (by omega) (.slice va only.length vc) only cs 0 (by omega) (by rw [← hA']; exact show 0 < 2 by decide) (by rw [← hA']; exact ⟨show (0 : Int) ≤ 0 by omega, show (0 : Int) < 256 by omega⟩) wr hRW hoD PD (part_recs (show (0 : Int) ≤ 0 ∧ (0 : Int) ≤ 3 by omega) (show (0 : Int) ≤ 0 ∧ (0 : Int) ≤ 3 by omega) (show (0 : Int) ≤ 0 ∧ (0 : Int) ≤ 3 by omega) (show (0 : Int) ≤ 0 ∧ (0 : Int) ≤ 3 by omega)) (by rw [← hA']; rfl) (by rw [← hA']; exact run16_ok hg.out (show 0 < 2 by decide) 0 (by omega))
        rw [← hA'] at this ⊢
        exact this
      obtain ⟨rs, act, sF⟩ := X
      obtain ⟨f1, f2⟩ := hfc
      have f1' : rs.map (·.code) = cds false only := f1
      have f2' : sF.h.cmd = only.foldl cmdM ⟨0, 0, 0, 0⟩ := f2
      have hrm : rs.length = m := by
        have := congrArg List.length f1'
        rwa [List.length_map, cds_len, hm] at this
      have h0 := hRW.host.cell_ 0 rfl
      have h1 := hRW.host.cell_ 1 rfl
      have h2 := hRW.host.cell_ 2 rfl
      have h3 := hRW.host.cell_ 3 rfl
      have HT7 := hid_ ((HFW6.out.mono (K' := (· = 500)) (fun _ h => h.elim)).trans (F.trans fD))
      have HRN := hid_ hRN
      have HF1 := hid_ f1'
      have HF2 := hid_ f2'
      have HOD := hid_ hoD
      have HPD := hid_ PD
      have HRM := hid_ hrm
      have HM := hid_ hm
      have HCM := hid_ hcmds
      rw [hm] at hol ⊢
      clear hX hA' hRW hRN hoD PD f1 f2 f1' f2' fD hD0 F S P hrm hm hcmds
      go_wp2_with fail
      refine HRN.out.mono ?_
      rintro e W9 ⟨v9, C9, lv9, ov9, cs9, rfl, F9, R9⟩
      try dsimp only
      obtain ⟨wa, wcp, rfl, -, hwm, -⟩ := R9.sl.form
      unfold maxLen at hwm
      have k0 : ¬ KRun 0 := by unfold KRun; omega
      have hold := (HT7.out.mono (K' := (· ≠ 0)) (fun x h => by omega)).trans (F9.mono (K' := (· ≠ 0)) (fun x h e => k0 (e ▸ h)))
      have HOLD := hid_ hold.old
      have HO9 := hid_ (HOD.out.fr F9 k0)
      have HP9 := hid_ (HPD.out.fr F9 k0)
      have HS9 := hid_ R9.sl
      have HE9 := hid_ R9.res
      have HC9 := hid_ R9.hw.cmd
      have h3 := R9.host.cell_ 3 rfl
      have HH3 := hid_ h3
      change (List (Res)) at rs
      have hwr : (((rs, act, sF) : List Res × Int × RSt).1).length = m := HRM.out
      rw [hwr]
      clear hold F9 R9 h0 h1 h2 h3 hwr
      go_wp2_with fail
      go_loopw [14, 15, 16, 17, 73] (fun fv _ _ _ iv wx => ∃ i : Nat, i ≤ m ∧ iv = .int .i64 i ∧ fv = .int .i64 (fstI only i) ∧ Below W9.heap.size W9 wx) (fun _ _ _ _ iv _ => m - (intOf iv).toNat)
      case atStart => exact ⟨0, Nat.zero_le _, rfl, rfl, Below.refl _ _⟩
      case round =>
        obtain ⟨i, hi, rfl, rfl, hW⟩ := hrel
        have HW := hid_ hW
        have hfr := fstI_rng only i
        obtain ⟨f, hf⟩ : ∃ x, fstI only i = x := ⟨_, rfl⟩
        rw [hf] at hfr ⊢
        have j0 : (0 : Int) ≤ (i : Int) := Int.natCast_nonneg _
        by_cases hlt : i < m
        · have hlr : i < rs.length := by rw [HRM.out]; exact hlt
          obtain ⟨cd, rval, rdata, hr⟩ : ∃ a b c, rs[i] = ⟨a, b, c⟩ := ⟨_, _, _, rfl⟩
          have hrs : rs[i]? = some ⟨cd, rval, rdata⟩ := by rw [List.getElem?_eq_getElem hlr, hr]
          obtain ⟨rdv, rfv, y0, y1, y2, y3, yr⟩ := HE9.out.get hrs
          obtain ⟨ra, rn, rm, rbl, rfl, rfl⟩ := yr.form
          obtain ⟨vb, vo, rfl, -, -, hvcell⟩ := HS9.out.at (show 0 < rs.length by omega)
          have x0 : wr.cell? ⟨vb, vo + i * 4, none⟩ = _ := grown_cell hW (hvcell _ _ y0)
          have x1 := grown_cell hW (hvcell _ _ y1)
          have x2 := grown_cell hW (hvcell _ _ y2)
          have x3 := grown_cell hW (hvcell _ _ y3)
          rw [← Nat.add_assoc] at x1 x2 x3
          have hlo : i < only.length := by rw [HM.out]; exact hlt
          obtain ⟨dv, -, -, hcells⟩ := HP9.out.get hlo
          obtain ⟨va', vc', hov, -, -, -, hor⟩ := HO9.out
          injection hov with e1 e2 e3
          subst e1
          clear e2 e3
          obtain ⟨ob, of, rfl, -, -, hoc2⟩ := hor (by omega)
          obtain ⟨ok, op, oa1, ob1, oc1, od, hopt⟩ : ∃ ok op oa ob oc od, only.getD i default = ⟨ok, op, oa, ob, oc, od⟩ := ⟨_, _, _, _, _, _, rfl⟩
          rw [hopt] at hcells
          have z2 : wr.cell? ⟨ob, of + i * 6 + 2, none⟩ = some (.int .i64 oa1) := by rw [Nat.add_assoc]; exact grown_cell hW (hoc2 _ _ (hcells 2 _ rfl))
          have z2' := fun o => cell_alloc_keep o z2
          have hcode : cd = if outR ⟨ok, op, oa1, ob1, oc1, od⟩ then 2 else if 0 ≤ f then 14 else 0 := by
            have h1 := cds_get only i hlo
            rw [← HF1.out, hopt, hf, List.getD_eq_getElem?_getD, List.getElem?_map, hrs] at h1
            exact h1
          have hnext : fstI only (i + 1) = if outR ⟨ok, op, oa1, ob1, oc1, od⟩ then f else if 0 ≤ f then f else (i : Int) := by rw [fstI, hopt, hf]
          have HNX := hid_ hnext
          have j1 : (i : Int) < (m : Int) := by omega
          have j2 : (i : Int) < (rs.length : Int) := by omega
          have hB : Below W9.heap.size W9 (wr.alloc (.cells #[.int .i64 cd, .int .i64 rval, .slice ra rn rm, .bool rbl] 56)) := hW.alloc hW.size _
          rcases (by omega : oa1 < 0 ∨ (¬ oa1 < 0 ∧ 7 < oa1) ∨ (¬ oa1 < 0 ∧ ¬ 7 < oa1 ∧ 0 ≤ f) ∨ (¬ oa1 < 0 ∧ ¬ 7 < oa1 ∧ f < 0)) with q1 | ⟨q1, q2⟩ | ⟨q1, q2, q3⟩ | ⟨q1, q2, q3⟩
          · have ho : outR ⟨ok, op, oa1, ob1, oc1, od⟩ := .inl q1
            rw [if_pos ho] at hcode hnext
            subst hcode
            have HX := hid_ hnext
            have HBB := hid_ hB
            clear hnext hf hr hrs y0 y1 y2 y3 yr hvcell hcells hoc2 hor hopt hW hB ho HNX
            go_wp2
            go_roundw
            case rel => exact ⟨i + 1, by omega, by go_num, by rw [HX.out], HBB.out⟩
            case measure => simp [intOf]; omega
          · have ho : outR ⟨ok, op, oa1, ob1, oc1, od⟩ := .inr (by show (8 : Int) ≤ oa1; omega)
            rw [if_pos ho] at hcode hnext
            subst hcode
            have HX := hid_ hnext
            have HBB := hid_ hB
            clear hnext hf hr hrs y0 y1 y2 y3 yr hvcell hcells hoc2 hor hopt hW hB ho HNX
            go_wp2
            go_roundw
            case rel => exact ⟨i + 1, by omega, by go_num, by rw [HX.out], HBB.out⟩
            case measure => simp [intOf]; omega
          · have ho : ¬ outR ⟨ok, op, oa1, ob1, oc1, od⟩ := by rintro (h | h); exact q1 h; exact q2 (by have : (8 : Int) ≤ oa1 := h; omega)
            rw [if_neg ho, if_pos q3] at hcode hnext
            subst hcode
            have HX := hid_ hnext
            have HBB := hid_ hB
            clear hnext hf hr hrs y0 y1 y2 y3 yr hvcell hcells hoc2 hor hopt hW hB ho HNX
            go_wp2
            go_roundw
            case rel => exact ⟨i + 1, by omega, by go_num, by rw [HX.out], HBB.out⟩
            case measure => simp [intOf]; omega
          · have ho : ¬ outR ⟨ok, op, oa1, ob1, oc1, od⟩ := by rintro (h | h); exact q1 h; exact q2 (by have : (8 : Int) ≤ oa1 := h; omega)
            have q3' : ¬ 0 ≤ f := by omega
            rw [if_neg ho, if_neg q3'] at hcode hnext
            subst hcode
            have HX := hid_ hnext
            have HBB := hid_ hB
            clear hnext hf hr hrs y0 y1 y2 y3 yr hvcell hcells hoc2 hor hopt hW hB ho HNX q3'
            go_wp2
            go_roundw
            case rel => exact ⟨i + 1, by omega, by go_num, by rw [HX.out], HBB.out⟩
            case measure => simp [intOf]; omega
        · obtain rfl : i = m := by omega
          have hfold := fold_get only
          rw [HM.out, hf, ← HF2.out] at hfold
          have HEND := hid_ (below_then (w := w) HOLD.out hW)
          have u3 := grown_cell hW HH3.out
          rcases hfold with ⟨q1, q2⟩ | ⟨j, q1, q2, q3, q4⟩
          · have hc9 := HC9.out
            rw [q2] at hc9
            have d0 := grown_cell hW (hc9.cell_ 0 rfl)
            have d1 := grown_cell hW (hc9.cell_ 1 rfl)
            have d2 := grown_cell hW (hc9.cell_ 2 rfl)
            have d3 := grown_cell hW (hc9.cell_ 3 rfl)
            have heq := cmd_eql
            have hgd := cmd_grd
            clear hf q2 hc9 hW
            go_wp2
            go_ret
            exact ⟨rfl, HEND.out⟩
          · obtain ⟨ok, op, oa1, ob1, oc1, od, hopt⟩ : ∃ ok op oa ob oc od, only.getD j default = ⟨ok, op, oa, ob, oc, od⟩ := ⟨_, _, _, _, _, _, rfl⟩
            have q2' : j < only.length := by rw [HM.out]; exact q2
            have hmem : only.getD j default ∈ only := by rw [List.getD_eq_getElem?_getD, List.getElem?_eq_getElem q2']; exact List.getElem_mem _
            have hcm := HCM.out _ hmem
            rw [hopt] at q3 q4 hcm
            obtain ⟨p1, p2⟩ := mapC_kind _ hcm
            have hok : 7 ≤ ok ∧ ok ≤ 9 := by unfold isCmd at hcm; simpa using hcm
            have hoa : 0 ≤ oa1 ∧ oa1 < 8 := by
              have n1 : ¬ oa1 < 0 := fun h => q3 (.inl h)
              have n2 : ¬ 8 ≤ oa1 := fun h => q3 (.inr h)
              omega
            obtain ⟨dv, -, -, hcells⟩ := HP9.out.get q2'
            rw [hopt] at hcells
            have hc9 := HC9.out
            rw [q4] at hc9
            have d0 := grown_cell hW (hc9.cell_ 0 (show _ = some (.int .u8 (mapC ⟨ok, op, oa1, ob1, oc1, od⟩).kind) from rfl))
            have d1 := grown_cell hW (hc9.cell_ 1 (show _ = some (.int .u8 (mapC ⟨ok, op, oa1, ob1, oc1, od⟩).key) from rfl))
            rw [p1] at d0
            rw [p2] at d1
            simp only at d0 d1
            obtain ⟨va', vc', hov, -, -, -, hor⟩ := HO9.out
            injection hov with e1 e2 e3
            subst e1
            clear e2 e3
            obtain ⟨ob, of, rfl, -, -, hoc2⟩ := hor (by omega)
            have z2 : wr.cell? ⟨ob, of + j * 6 + 2, none⟩ = some (.int .i64 oa1) := by rw [Nat.add_assoc]; exact grown_cell hW (hoc2 _ _ (hcells 2 _ rfl))
            have z0 : wr.cell? ⟨ob, of + j * 6, none⟩ = some (.int .u8 ok) := grown_cell hW (hoc2 _ _ (hcells 0 _ rfl))
            have hfj : f = (j : Int) := q1
            subst hfj
            have j0 : (0 : Int) ≤ (j : Int) := Int.natCast_nonneg _
            have j1 : (j : Int) < (i : Int) := by omega
            have w1 : IntKind.i64.wrap oa1 = oa1 := IntWalk.i64_in _ (by omega)
            have w2 : IntKind.i64.wrap ok = ok := IntWalk.i64_in _ (by omega)
            have w3 : IntKind.i64.wrap (ok - 6) = ok - 6 := IntWalk.i64_in _ (by omega)
            clear hf q1 q2 q2' q3 q4 hcm hmem p1 p2 hcells hc9 hor hoc2 hopt hW
            go_upto_region 34 with fail
            go_region_held3 (fun w' => w'.cell? ⟨W4.heap.size, 3, none⟩ = some (.pointer (some ⟨A'.cb, 0, none⟩)) ∧ w'.cell? ⟨A'.cb, 0, none⟩ = some (.int .u8 (ok - 6)) ∧ w'.cell? ⟨A'.cb, 1, none⟩ = some (.int .u8 oa1) ∧ w'.cell? ⟨ob, of + j * 6 + 2, none⟩ = some (.int .i64 oa1) ∧ w'.cell? ⟨ob, of + j * 6, none⟩ = some (.int .u8 ok)) (go_keep) (fail)
            all_goals
              go_wp2
              go_ret
              exact ⟨rfl, HEND.out.drew⟩
end Go.Proofs.YtlgjaoijgkdmiaaDoor
