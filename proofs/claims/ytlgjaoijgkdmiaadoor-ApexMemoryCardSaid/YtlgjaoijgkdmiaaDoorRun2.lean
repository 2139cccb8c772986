/- apex.Partition.Run. No condition but that the tables work. -/
import Derived.Test.YtlgjaoijgkdmiaaDoorRunK
import Derived.Deep.DeepCutAuto
import Derived.Deep.RegionLaw
set_option linter.unusedSimpArgs false
set_option linter.unusedVariables false
namespace Go.Proofs.YtlgjaoijgkdmiaaDoor
open Go.RowKit Go.Maps

/-- What Run leaves. -/
def RunP (c : Cfg) (A : HA) (lb gb : Nat) (mpv : Value) (C : Nat → Nat) (w : World) (budget : Int) (X : List Res × Int × RSt) (e : Ending) (w' : World) : Prop :=
  ∃ v C' lv' ov' cs, e = .returned (.tuple #[v, .int .u8 X.2.1, .int .i64 (budget - X.2.2.left)]) ∧ Fr KRun C C' w w' ∧ HW w' C' c A lv' X.2.2.h ∧ IsMon w' C' 310 A.mb lb gb A.node c.parts mpv ov' X.2.2.m ∧ Sl w' C' 340 v 56 4 X.1.length cs ∧ ResIs w' C' cs X.1
/-- At the loop's head. -/
def RunR (c : Cfg) (A : HA) (lb gb : Nat) (mpv : Value) (C : Nat → Nat) (w : World) (B : Int) (round : Int) (ops : List OpT) (s0 : RSt) (i : Nat) (v : Value) (left : Int) (W : World) : Prop :=
  ∃ (si : RSt) (rs : List Res) (C1 : Nat → Nat) (lv1 : Nat → Value) (ov1 : Value) (cs : List Value),
    runR c A.node A.part round ops s0 = (rs ++ (runR c A.node A.part round (ops.drop i) si).1, (runR c A.node A.part round (ops.drop i) si).2) ∧ rs.length = i ∧ si.left = left ∧ RunOk c A.part si (B + i) ∧
    Fr KRun C C1 w W ∧ RunM c A lb gb mpv w.heap.size v rs cs ov1 lv1 si.h si.m W C1
/-- Behind the op. -/
def RunA (c : Cfg) (A : HA) (lb gb : Nat) (mpv : Value) (hb : Nat) (v : Value) (rs : List Res) (cs : List Value) (ov : Value) (C1 : Nat → Nat) (wr : World) (si : RSt) (O : OpT) (lf ev : Value) (W : World) : Prop :=
  ∃ C3 lv3 V0 V1 dv fv, lf = .int .i64 (stepS c A.node A.part si O).left ∧ Fr KRun C1 C3 wr W ∧ RunM c A lb gb mpv hb v rs cs ov lv3 (stepS c A.node A.part si O).h si.m W C3 ∧
    Bk W (wr.heap.size + 1) 56 [.int .i64 V0, .int .i64 V1, dv, fv] ∧ C3 (wr.heap.size + 1) = 400 ∧ ErrO wr W ev (stepE c A.node A.part si O) ∧
    (stepE c A.node A.part si O = none → V0 = (opV si.h O).1 ∧ V1 = (opV si.h O).2 ∧ ReadV W C3 dv fv (opD c A.node A.part si.h O))
/-- The result is known. -/
def RunB (c : Cfg) (A : HA) (lb gb : Nat) (mpv : Value) (hb : Nat) (v : Value) (rs : List Res) (cs : List Value) (ov : Value) (C1 : Nat → Nat) (wr : World) (si : RSt) (O : OpT) (ev ev' : Value) (W : World) : Prop :=
  ∃ C3 lv3 dv fv, ev' = ev ∧ Fr KRun C1 C3 wr W ∧ RunM c A lb gb mpv hb v rs cs ov lv3 (stepS c A.node A.part si O).h si.m W C3 ∧
    Bk W (wr.heap.size + 1) 56 [.int .i64 (stepR c A.node A.part si O).code, .int .i64 (stepR c A.node A.part si O).val, dv, fv] ∧ ErrO wr W ev (stepE c A.node A.part si O) ∧ ReadV W C3 dv fv (stepR c A.node A.part si O).data

set_option maxRecDepth 100000 in
set_option maxHeartbeats 4000000 in
theorem apxRun (c : Cfg) (hg : Good c) (A : HA) (lb gb : Nat) (mpv ov : Value) (C : Nat → Nat) (lv : Nat → Value) (s0 : RSt) (round : Int) (r0 : 0 ≤ round) (r1 : round < 1048576) (opv : Value) (ops : List OpT) (ocs : List Value) (B : Int) (hB : B + ops.length ≤ 100000)
    (hpart : A.part < c.parts.length) (hnode : 0 ≤ A.node ∧ A.node < 256) (w : World) (hf : Fin C w) (h : HW w C c A lv s0.h) (hm : IsMon w C 310 A.mb lb gb A.node c.parts mpv ov s0.m) (ho : Rd w C opv 6 ops.length ocs) (hO : OpsIs w C ocs ops)
    (hT : ErrT w) (hTC : C 0 = 0) (h3 : ∀ p ∈ c.parts, 0 ≤ p.r0 ∧ 0 ≤ p.r1 ∧ 0 ≤ p.r2 ∧ 0 ≤ p.r3) (hs : s0.left = (c.part A.part).budget) (hk : RunOk c A.part s0 B) :
    Calls Tryd.prog 12 #[.pointer (some ⟨A.pb, 0, none⟩), A.v, .int .u32 round, opv] w (RunP c A lb gb mpv C w (c.part A.part).budget (runR c A.node A.part round ops s0)) := by
  have hl : s0.h.st.length ≤ 24 := by rw [h.ports.len]; exact nq24 hg
  obtain ⟨pa, pc, hpa, hpc, hpm, -⟩ := id h.apx.lists.parts
  obtain ⟨tb, tf, rfl, -, hrow⟩ := (show Rd w C (.slice pa c.parts.length pc) 9 c.parts.length (c.parts.flatMap Part.cells) from hpa ▸ h.apx.lists.parts).row (fun _ => rfl) hpart
  have HROW : Hid (∀ W' C', Rd W' C' (.slice (some ⟨tb, tf, none⟩) c.parts.length pc) 9 c.parts.length (c.parts.flatMap Part.cells) → W'.cell? ⟨tb, tf + A.part * 9 + 3, none⟩ = some (.int .i64 (c.part A.part).budget)) := hid_ (fun W' C' g => by
    obtain ⟨tb', tf', e, -, hr⟩ := g.row (fun _ => rfl) hpart
    cases e
    exact hr 3 _ rfl)
  have e3 := hrow 3 _ rfl
  rw [show c.parts.getD A.part default = c.part A.part from rfl] at e3
  have p8 := h.apx.cells.1
  rw [hpa] at p8
  have p11 := h.apx.cells.2.1
  obtain ⟨oa, oc, rfl, hoc, hom, hol⟩ := id ho
  have i0 : (0 : Int) ≤ (A.part : Int) := Int.natCast_nonneg _
  have i1 : (A.part : Int) < (c.parts.length : Int) := by omega
  obtain ⟨bud, hbud⟩ : ∃ x, (c.part A.part).budget = x := ⟨_, rfl⟩
  rw [hbud] at e3 hs HROW ⊢
  have HB := hid_ hbud
  have H := hid_ h
  have HM := hid_ hm
  have HO := hid_ ho
  have HOP := hid_ hO
  have HK := hid_ hk
  have HT := hid_ hT
  have HF := hid_ hf
  unfold maxLen at hpm hom
  unfold HA.v hostV
  have hpa := hid_ hpa
  clear h hm ho hO hk hT hf hrow hbud
  go_enter Tryd.func12, Tryd.ntmps12
  go_upto_region 4 with fail
  refine gen_world (fun W => Below w.heap.size w W ∧ W.heap.size = w.heap.size + 1 ∧ Bk W w.heap.size 40 [.pointer (some ⟨A.b, 0, none⟩), .pointer (some ⟨A.tb, 0, none⟩), .pointer (some ⟨A.mb, 0, none⟩), .pointer (some ⟨A.cb, 0, none⟩)])
    ⟨(Below.refl _ _).alloc (Nat.le_refl _) _, by simp, Bk.new _ _ _⟩ ?_
  rintro W ⟨hB, hsz, bh⟩
  have p8 := grown_cell hB p8
  have p11 := grown_cell hB p11
  have e3 := grown_cell hB e3
  have HBW := hid_ hB
  have HSZ := hid_ hsz
  have HBH := hid_ bh
  clear hB hsz bh
  go_region
  go_upto_region 6 with fail
  obtain ⟨R, hR⟩ : ∃ R, runR c A.node A.part round ops s0 = R := ⟨_, rfl⟩
  rw [hR]
  have HR := hid_ hR
  clear hR
  go_loopw [11, 12, 38] (fun v lf iv wr => ∃ (i : Nat) (left : Int), i ≤ ops.length ∧ iv = .int .i64 i ∧ lf = .int .i64 left ∧ RunR c A lb gb mpv C w B round ops s0 i v left wr) (fun _ _ iv _ => ops.length - (intOf iv).toNat)
  case atStart =>
    have f0 : Fr (fun _ => False) C C w W.drew := (Fr.of_below HBW.out _).drew
    obtain ⟨t1, t2⟩ := HT.out.fr hTC f0 (fun h => h)
    refine ⟨0, _, Nat.zero_le _, rfl, rfl, s0, [], C, lv, ov, [], ?_, rfl, hs, ?_, f0.mono (fun _ h => h.elim), ⟨H.out.fr f0 hl (fun x hx => hx.elim), hl, HM.out.fr f0 ⟨fun h => h, fun h => h, fun h => h⟩, Sl.nil _ _ _ _ _, rfl, HBH.out.drew, HF.out _ (Nat.le_refl _), t1, t2, f0.Fin HF.out⟩⟩
    · simp
    · simpa using HK.out
  case round =>
    obtain ⟨i, left, hi, rfl, rfl, si, rs, C1, lv1, ov1, cs, hrun, hrl, hsl, hok, F1, hM1⟩ := hrel
    have q8 := hM1.hw.apx.cells.1
    rw [hpa.out] at q8
    have q11 := hM1.hw.apx.cells.2.1
    have qb : 0 ≤ bud ∧ bud ≤ 64 := by have := part_words hg hpart; rw [HB.out] at this; omega
    have ql := hok.left
    rw [hsl] at ql
    have e3' : wr.cell? ⟨tb, tf + A.part * 9 + 3, none⟩ = some (.int .i64 bud) := by
      have := HROW.out wr C1 (hpa.out ▸ hM1.hw.apx.lists.parts)
      exact this
    have HM1 := hid_ hM1
    have HF1 := hid_ F1
    have HRUN := hid_ hrun
    have HOK := hid_ hok
    have HSL := hid_ hsl
    have HRL := hid_ hrl
    obtain ⟨va, vc, rfl, hvc, hvm, -⟩ := hM1.sl.form
    by_cases hlt : i < ops.length
    · obtain ⟨dv, hdb, hd1, hcells⟩ := HOP.out.get hlt
      obtain ⟨oa', oc', hov, -, -, -, hor⟩ := HO.out.fr F1 (by unfold KRun; omega)
      injection hov with e1 e2 e3
      subst e1
      clear e2 e3
      obtain ⟨ob, of, rfl, hCo, hobl, hoc2⟩ := hor (by omega)
      obtain ⟨ok, op, oa1, ob1, oc1, od, hopt⟩ : ∃ ok op oa ob oc od, ops.getD i default = ⟨ok, op, oa, ob, oc, od⟩ := ⟨_, _, _, _, _, _, rfl⟩
      have HDROP := hid_ (show ops.drop i = ⟨ok, op, oa1, ob1, oc1, od⟩ :: ops.drop (i + 1) by rw [List.drop_eq_getElem_cons hlt, ← hopt, List.getD_eq_getElem?_getD, List.getElem?_eq_getElem hlt]; rfl)
      rw [hopt] at hdb hcells
      obtain ⟨da, dc, rfl, -⟩ := id hdb
      have hx : ∀ j v, ((OpT.mk ok op oa1 ob1 oc1 od).cells (.slice da od.length dc))[j]? = some v → wr.cell? ⟨ob, of + i * 6 + j, none⟩ = some v := fun j v hj => by rw [Nat.add_assoc]; exact hoc2 _ _ (hcells j v hj)
      have x0 : wr.cell? ⟨ob, of + i * 6, none⟩ = some (.int .u8 ok) := hx 0 _ rfl
      have x1 := hx 1 _ rfl
      have x2 := hx 2 _ rfl
      have x3 := hx 3 _ rfl
      have x4 := hx 4 _ rfl
      have x5 := hx 5 _ rfl
      have j0 : (0 : Int) ≤ (i : Int) := Int.natCast_nonneg _
      have j1 : (i : Int) < (ops.length : Int) := by omega
      clear hsl hrl hopt hrun hok F1 hM1
      go_upto_region 10 with fail
      have hfin1 := HM1.out.fin
      refine gen_world (fun W2 => Below wr.heap.size wr W2 ∧ W2.heap.size = wr.heap.size + 2 ∧ Bk W2 wr.heap.size 60 [.int .u8 ok, .int .i64 op, .int .i64 oa1, .int .i64 ob1, .int .i64 oc1, .slice da od.length dc] ∧ Bk W2 (wr.heap.size + 1) 56 [.int .i64 0, .int .i64 0, .slice none 0 0, .bool false])
        ⟨((Below.refl _ _).alloc (Nat.le_refl _) _).alloc (by simp) _, by simp, (Bk.new _ _ _).alloc _, bkM (by simp)⟩ ?_
      rintro W2 ⟨hB2, hsz2, bo, br⟩
      obtain ⟨C2, F2, hC2, hC20⟩ : ∃ C2, Fr (fun _ => False) C1 C2 wr W2 ∧ C2 (wr.heap.size + 1) = 400 ∧ C2 wr.heap.size = 0 := ⟨fun x => if x = wr.heap.size + 1 then 400 else C1 x, (Fr.of_below hB2 _).recolour (fun x hx _ => if_neg (by omega)) (fun x hx => by rw [if_neg (by omega)]; exact hfin1 x (by omega)), if_pos rfl, (if_neg (by omega)).trans (hfin1 _ (Nat.le_refl _))⟩
      have o0 := bo.cell_ 0 rfl
      have o1 := bo.cell_ 1 rfl
      have o2 := bo.cell_ 2 rfl
      have o3 := bo.cell_ 3 rfl
      have o4 := bo.cell_ 4 rfl
      have o5 := bo.cell_ 5 rfl
      have HBO := hid_ bo
      have HBR := hid_ br
      have HF2 := hid_ F2
      have HC2 := hid_ hC2
      have HC20 := hid_ hC20
      have HDB := hid_ hdb
      have HSZ2 := hid_ hsz2
      clear x0 x1 x2 x3 x4 x5 hx hcells hoc2 hor q8 q11 e3' hdb bo br F2 hC2 hC20 hB2 hsz2
      go_wp2_with fail
      refine (apxCost ⟨ok, op, oa1, ob1, oc1, od⟩ (.slice da od.length dc) W2).mono ?_
      rintro e w3 ⟨rfl, hb3⟩
      have f3 : Fr (fun _ => False) C1 C2 wr w3 := HF2.out.trans (Fr.of_below hb3 _)
      have hM3 := HM1.out.fr f3 (fun x hx => hx.elim)
      have hd3 := ((HDB.out.fr HF1.out (by unfold KRun; omega)).fr f3 (fun h => h))
      have hbr3 := HBR.out.same (hb3.block _ HBR.out.lt)
      have hbo3 := HBO.out.same (hb3.block _ HBO.out.lt)
      have hsz3 : wr.heap.size + 2 ≤ w3.heap.size := by have := hb3.size; have := HSZ2.out; omega
      obtain ⟨n, hn⟩ : ∃ n, costO ⟨ok, op, oa1, ob1, oc1, od⟩ = n := ⟨_, rfl⟩
      have hn1 : 1 ≤ n := by rw [← hn]; exact costO_pos _
      rw [hn]
      have HN := hid_ hn
      have HF3 := hid_ f3
      have HM3 := hid_ hM3
      have HD3 := hid_ hd3
      have HBR3 := hid_ hbr3
      have y1 := hM3.hw.apx.cells.2.1
      have u0 := hM3.host.cell_ 0 rfl
      have u1 := hM3.host.cell_ 1 rfl
      have u2 := hM3.host.cell_ 2 rfl
      have u3 := hM3.host.cell_ 3 rfl
      have o0 := hbo3.cell_ 0 rfl
      have o1 := hbo3.cell_ 1 rfl
      have o2 := hbo3.cell_ 2 rfl
      have o3 := hbo3.cell_ 3 rfl
      have o4 := hbo3.cell_ 4 rfl
      have o5 := hbo3.cell_ 5 rfl
      clear hn f3 hM3 hd3 hbr3 hbo3 hb3
      have HLO := hid_ HOK.out.mem
      go_upto_if 46 with fail
      go_cut [12, 16] (fun lf ev W => RunA c A lb gb mpv w.heap.size (.slice va rs.length vc) rs cs ov1 C1 wr si ⟨ok, op, oa1, ob1, oc1, od⟩ lf ev W)
      case first =>
        by_cases hov : left < n
        · have hE : stepE c A.node A.part si ⟨ok, op, oa1, ob1, oc1, od⟩ = some (151, (A.part : Int)) := by unfold stepE; rw [HN.out, HSL.out, if_pos hov]
          have hS : stepS c A.node A.part si ⟨ok, op, oa1, ob1, oc1, od⟩ = ⟨si.h, si.m, 0⟩ := by unfold stepS; rw [HN.out, HSL.out, if_pos hov]
          have HE := hid_ hE
          have HS := hid_ hS
          clear hE hS
          go_wp2_with fail
          refine (faultNew 151 (A.part : Int) _ (by decide)).mono ?_
          rintro e w4 ⟨fb, rfl, hb4, hge, hB⟩
          rw [if_neg (by omega)] at hB
          unfold faultV
          have HB4 := hid_ hb4
          have HBF := hid_ hB
          clear hB hb4
          go_wp2
          go_meet
          case rel =>
            have f4 : Fr (fun _ => False) C2 C2 w3 w4 := Fr.of_below HB4.out _
            refine ⟨C2, lv1, 0, 0, .slice none 0 0, .bool false, by rw [HS.out], (HF3.out.trans f4).mono (fun _ h => h.elim), by rw [HS.out]; exact HM3.out.fr f4 (fun x hx => hx.elim), HBR3.out.same (HB4.out.block _ HBR3.out.lt), HC2.out, ?_, fun h => ?_⟩
            · rw [HE.out]; exact ⟨fb, rfl, by omega, HBF.out⟩
            · rw [HE.out] at h; cases h
        · have hE : stepE c A.node A.part si ⟨ok, op, oa1, ob1, oc1, od⟩ = opE c A.node A.part si.h ⟨ok, op, oa1, ob1, oc1, od⟩ := by unfold stepE; rw [HN.out, HSL.out, if_neg hov]
          have hS : stepS c A.node A.part si ⟨ok, op, oa1, ob1, oc1, od⟩ = ⟨opS c A.node A.part si.h ⟨ok, op, oa1, ob1, oc1, od⟩, si.m, left - n⟩ := by unfold stepS; rw [HN.out, HSL.out, if_neg hov]
          have HE := hid_ hE
          have HS := hid_ hS
          clear hE hS
          go_wp2_with fail
          refine (apxOp c hg A C2 lv1 si.h (.slice da od.length dc) ⟨ok, op, oa1, ob1, oc1, od⟩ w3 HM3.out.fin HM3.out.hw HD3.out HOK.out.q HOK.out.mem).mono ?_
          rintro e w4 ⟨dv4, fv4, ev4, C4, lv4, rfl, hR4, hE4, hF4, hW4⟩
          obtain ⟨hbr4, hc4⟩ := HBR3.out.frc HC2.out hF4 (by unfold KOp; omega)
          have z0 := hbr4.cell_ 0 rfl
          have z1 := hbr4.cell_ 1 rfl
          have z2 := hbr4.cell_ 2 rfl
          have z3 := hbr4.cell_ 3 rfl
          have a0 := hbr4.frozen 0
          have a1 := hbr4.frozen 1
          have a2 := hbr4.frozen 2
          have a3 := hbr4.frozen 3
          obtain ⟨V0, hV0⟩ : ∃ x, (opV si.h ⟨ok, op, oa1, ob1, oc1, od⟩).1 = x := ⟨_, rfl⟩
          obtain ⟨V1, hV1⟩ : ∃ x, (opV si.h ⟨ok, op, oa1, ob1, oc1, od⟩).2 = x := ⟨_, rfl⟩
          rw [hV0, hV1]
          obtain ⟨qa, qn, qm, qbl, rfl, rfl⟩ := hR4.form
          have HV0 := hid_ hV0
          have HV1 := hid_ hV1
          have HR4 := hid_ hR4
          have HE4 := hid_ hE4
          have HF4 := hid_ hF4
          have HW4 := hid_ hW4
          have HBR4 := hid_ hbr4
          have HC4 := hid_ hc4
          clear u0 u1 u2 u3 o0 o1 o2 o3 o4 o5 y1 hV0 hV1 hR4 hE4 hF4 hW4 hbr4 hc4
          go_wp2
          go_meet
          case rel =>
            have f5 := Fr.set4 (w := w4) HC4.out (.int .i64 V0) (.int .i64 V1) (.slice qa qn qm) (.bool qbl)
            have hl4 : (opS c A.node A.part si.h ⟨ok, op, oa1, ob1, oc1, od⟩).st.length ≤ 24 := by rw [HW4.out.ports.len]; exact nq24 hg
            refine ⟨C4, lv4, V0, V1, _, _, by rw [HS.out], (((((HF3.out.mono (K' := KRun) (fun _ h => h.elim)).trans (HF4.out.mono (fun _ h => KRun.op h))).setCell (.inl (by simp)) _).setCell (.inl (by simp)) _).setCell (.inl (by simp)) _).setCell (.inl (by simp)) _, ?_, HBR4.out.set4 _ _ _ _, HC4.out, ?_, fun _ => ⟨HV0.out.symm, HV1.out.symm, HR4.out.fr f5 (by omega)⟩⟩
            · rw [HS.out]; exact (HM3.out.op HF4.out HW4.out hl4).fr f5 (fun x hx => hx)
            · rw [HE.out]; exact (HE4.out.later (by omega) (fun _ _ => rfl)).fr400 _ HBR4.out (fun b _ hb => heap_set4 _ _ _ hb _ _ _ _)
      case rest =>
        obtain ⟨C3, lv3, V0, V1, dv3, fv3, rfl, F3, M3, hbr3, hcr3, hE3, hV3⟩ := hcut
        clear u0 u1 u2 u3 o0 o1 o2 o3 o4 o5 y1 HF3 HM3 HD3 HBR3 HBO HBR HF2 HC2 HC20 HDB HSZ2 HN hsz3
        obtain ⟨left1, hleft1⟩ : ∃ x, (stepS c A.node A.part si ⟨ok, op, oa1, ob1, oc1, od⟩).left = x := ⟨_, rfl⟩
        have hok1 := HOK.out.step hg (node := A.node) ⟨ok, op, oa1, ob1, oc1, od⟩
        have hl1 := hok1.left
        rw [hleft1] at hl1 ⊢
        obtain ⟨E, hEE⟩ : ∃ E, stepE c A.node A.part si ⟨ok, op, oa1, ob1, oc1, od⟩ = E := ⟨_, rfl⟩
        rw [hEE] at hE3 hV3
        have HLEFT1 := hid_ hleft1
        have HOK1 := hid_ hok1
        have HEE := hid_ hEE
        have HF3 := hid_ F3
        have HM3 := hid_ M3
        have HBR3 := hid_ hbr3
        have HE3 := hid_ hE3
        have HV3 := hid_ hV3
        have HCR3 := hid_ hcr3
        have z0 := hbr3.cell_ 0 rfl
        have z1 := hbr3.cell_ 1 rfl
        have z2 := hbr3.cell_ 2 rfl
        have z3 := hbr3.cell_ 3 rfl
        have a0 := hbr3.frozen 0
        have a1 := hbr3.frozen 1
        have a2 := hbr3.frozen 2
        have a3 := hbr3.frozen 3
        clear hleft1 hok1 hEE F3 M3 hbr3 hE3 hV3 hcr3
        have hneq := fun W => errO_neq HE3.out W
        have hgrd := fun W => errO_guard HE3.out 62 W
        go_upto_if 63 with fail
        clear hneq hgrd
        go_cut [16] (fun ev' W => RunB c A lb gb mpv w.heap.size (.slice va rs.length vc) rs cs ov1 C1 wr si ⟨ok, op, oa1, ob1, oc1, od⟩ u16 ev' W)
        case first =>
          cases E with
          | none =>
            obtain rfl : u16 = .nilIface := HE3.out
            obtain ⟨v0, v1, hR⟩ := HV3.out rfl
            have hS : stepR c A.node A.part si ⟨ok, op, oa1, ob1, oc1, od⟩ = ⟨V0, V1, opD c A.node A.part si.h ⟨ok, op, oa1, ob1, oc1, od⟩⟩ := by unfold stepR; rw [HEE.out, v0, v1]
            have HS := hid_ hS
            have HR := hid_ hR
            have HV0 := hid_ v0
            have HV1 := hid_ v1
            clear hS hR v0 v1
            go_wp2
            go_meet
            case rel => exact ⟨C3, lv3, dv3, fv3, rfl, HF3.out, HM3.out, by rw [HS.out]; exact HBR3.out, by rw [HEE.out]; rfl, by rw [HS.out]; exact HR.out⟩
          | some ea =>
            obtain ⟨ec, ea⟩ := ea
            have hS : stepR c A.node A.part si ⟨ok, op, oa1, ob1, oc1, od⟩ = ⟨ec, 0, none⟩ := by unfold stepR; rw [HEE.out]
            have HS := hid_ hS
            clear hS
            obtain ⟨fb, rfl, hge, hB⟩ := HE3.out
            have HBF := hid_ hB
            have HROOT := hid_ (fault_root _ _ _ _ HM3.out.err HE3.out.isErr (by simp [errL]))
            clear hB
            unfold faultV at HROOT ⊢
            go_wp2_with fail
            refine HROOT.out.mono ?_
            rintro e w4 ⟨rfl, hb4⟩
            rw [show rootE (errL (some (ec, ea))) = ec from rfl]
            have hbr4 := HBR3.out.same (hb4.block _ HBR3.out.lt)
            have z0 := hbr4.cell_ 0 rfl
            have z1 := hbr4.cell_ 1 rfl
            have z2 := hbr4.cell_ 2 rfl
            have z3 := hbr4.cell_ 3 rfl
            have a0 := hbr4.frozen 0
            have a1 := hbr4.frozen 1
            have a2 := hbr4.frozen 2
            have a3 := hbr4.frozen 3
            have HB4 := hid_ hb4
            have HBR4 := hid_ hbr4
            clear hb4 hbr4
            go_wp2
            go_meet
            case rel =>
              have f4 : Fr (fun _ => False) C3 C3 _ w4 := Fr.of_below HB4.out _
              have f5 := Fr.set4 (w := w4) HCR3.out (.int .i64 ec) (.int .i64 0) (.slice none 0 0) (.bool false)
              refine ⟨C3, lv3, .slice none 0 0, .bool false, rfl, (((((HF3.out.trans (f4.mono (fun _ h => h.elim))).setCell (.inl (by simp)) _).setCell (.inl (by simp)) _).setCell (.inl (by simp)) _).setCell (.inl (by simp)) _), (HM3.out.fr f4 (fun x hx => hx.elim)).fr f5 (fun x hx => hx), by rw [HS.out]; exact HBR4.out.set4 _ _ _ _, ?_, by rw [HS.out]; exact ⟨rfl, rfl⟩⟩
              rw [HEE.out]
              exact ((show ErrO wr _ (faultV fb) (some (ec, ea)) from ⟨fb, rfl, hge, HBF.out⟩).grown HB4.out).fr400 _ HBR4.out (fun b _ hb => heap_set4 _ _ _ hb _ _ _ _)
        case rest =>
          obtain ⟨C5, lv5, dv5, fv5, rfl, F5, M5, hbr5, hE5, hR5⟩ := hcut
          obtain ⟨ra, rn, rm, rbl, rfl, rfl⟩ := hR5.form
          clear z0 z1 z2 z3 a0 a1 a2 a3 HF3 HM3 HBR3 HE3 HV3 HCR3
          obtain ⟨R, hRR⟩ : ∃ x, stepR c A.node A.part si ⟨ok, op, oa1, ob1, oc1, od⟩ = x := ⟨_, rfl⟩
          rw [hRR] at hbr5 hR5
          obtain ⟨rcode, rval, rdata⟩ := R
          simp only at hbr5 hR5
          rw [HEE.out] at hE5
          have z0 := hbr5.cell_ 0 rfl
          have z1 := hbr5.cell_ 1 rfl
          have z2 := hbr5.cell_ 2 rfl
          have z3 := hbr5.cell_ 3 rfl
          obtain ⟨i9, z9, hi9, hz9, hzs9, his9, hby9⟩ := info_row (P := Tryd.prog) (e := 56) (size := 4) (bytes := 48) (by kernel_rfl)
          have hB0 := HK.out.again
          have hB1 := HOK.out.again
          have hlen : rs.length < ops.length := by have := HRL.out; omega
          have hol1 : ops.length ≤ 100000 := by omega
          have b5 : Below wc.heap.size wc (wc.alloc (.cells #[.int .i64 rcode, .int .i64 rval, .slice ra rn rm, .bool rbl] 56)) := (Below.refl _ _).alloc (Nat.le_refl _) _
          have M5' := M5.fr (Fr.of_below (C := C5) b5 (fun _ => False)) (fun x hx => hx.elim)
          obtain ⟨v6, w6, C6, hr6, S6, F6, ho6, far6⟩ := Sl.append (P := Tryd.prog) (t := 48) 0 Tryd.underlying48 hi9 his9 hz9 hzs9 M5'.sl (Src.new wc 56 4 1 1 [.int .i64 rcode, .int .i64 rval, .slice ra rn rm, .bool rbl] rfl) (by simp [Value.oneCell']) (by unfold maxLen; omega) (by rw [hby9]; omega)
          have hE6 := (hE5.grown b5).app M5'.sl (fun b hb hv => (far6 b hb hv).1)
          have M6 := M5'.app (r := ⟨rcode, rval, rdata⟩) F6 S6 ((hR5.fr (Fr.of_below (C := C5) b5 (fun _ => False)) (fun h => h)).fr F6 (by omega))
          have F6' : Fr KRun C1 C6 wr w6 := (F5.trans (Fr.of_below b5 _)).trans (F6.mono (fun x hx => by unfold KRun; omega))
          obtain ⟨u6, m6, rfl, -⟩ : ∃ a m, v6 = .slice a (rs.length + 1) m ∧ True := by obtain ⟨a, m, h, -⟩ := S6.form; exact ⟨a, m, h, trivial⟩
          have HKIND := hid_ (health_kind u16 (errL E) w6 hE6.isErr)
          have hu2 := M6.host.cell_ 2 rfl
          have hy1 := M6.hw.apx.cells.2.1
          have HR6 := hid_ hr6
          have HM6 := hid_ M6
          have HF6 := hid_ F6'
          have HRR := hid_ hRR
          have HOL := hid_ hol1
          clear hRR hr6 S6 F6 far6 hE6 M6 F6' M5 M5' hbr5 hE5 hR5 F5 b5 hol1
          go_wp2_with (refine wpList_append_run HR6.out (by rfl) (by rfl) (by rfl) (by rfl) ?_)
          cases hkk : kindE (errL E) with
          | none =>
            have HKN := hid_ (show Calls Tryd.prog 29 #[u16] w6 fun r w' => r = .returned (.tuple #[.int .u8 0, .bool false]) ∧ w6 = w' by have := HKIND.out; rw [hkk] at this; exact this)
            have HKK := hid_ hkk
            clear hkk HKIND
            refine HKN.out.mono ?_
            rintro e w7 ⟨rfl, rfl⟩
            go_wp2
            go_roundw
            case rel =>
              refine ⟨i + 1, left1, by omega, by go_num, rfl, stepS c A.node A.part si ⟨ok, op, oa1, ob1, oc1, od⟩, rs ++ [⟨rcode, rval, rdata⟩], C6, lv5, ov1, _, ?_, by rw [List.length_append, HRL.out]; rfl, HLEFT1.out, (HOK1.out).mono (by omega), HF1.out.trans HF6.out, by rw [stepS_m]; exact HM6.out⟩
              rw [HRUN.out, HDROP.out, runR_go1 (by rw [HEE.out]; exact HKK.out), HRR.out]
              simp
            case measure => simp [intOf]; omega
          | some kd =>
            obtain ⟨n4, rfl, hn4⟩ := kindE_rng _ _ hkk
            have HKN := hid_ (show Calls Tryd.prog 29 #[u16] w6 fun r w' => r = .returned (.tuple #[.int .u8 (n4 : Int), .bool true]) ∧ w6 = w' by have := HKIND.out; rw [hkk] at this; exact this)
            have HKK := hid_ hkk
            have hla := HOK.out.last
            have HREP := hid_ (monReport C6 310 A.mb lb gb (by decide) A.node hnode.1 hnode.2 c.parts hg.np mpv ov1 si.m round r0 r1 A.part n4 hpart hn4 (recsOk hg h3) ⟨hB1.1, by omega⟩ HOK.out.last w6.drew HM6.out.fin (HM6.out.fr (Fr.refl (fun _ => False) C6 w6).drew (fun x hx => hx.elim)).mon)
            clear hkk HKIND hla
            refine HKN.out.mono ?_
            rintro e w7 ⟨rfl, rfl⟩
            go_upto_region 21 with fail
            obtain ⟨act, hact⟩ : ∃ x, repA c.parts si.m round A.part n4 = x := ⟨_, rfl⟩
            obtain ⟨m7, hm7⟩ : ∃ x, repM A.node c.parts si.m round A.part n4 = x := ⟨_, rfl⟩
            have HREP2 := hid_ (show Calls Tryd.prog 30 #[.pointer (some ⟨A.mb, 0, none⟩), .int .u32 round, .int .i64 (A.part : Int), .int .u8 (n4 : Int)] w6.drew fun e w' => e = .returned (.tuple #[.int .u8 act, .nilIface]) ∧ ∃ C' ov', Fr (fun x => x = 310 ∨ x = 311) C6 C' w6.drew w' ∧ IsMon w' C' 310 A.mb lb gb A.node c.parts mpv ov' m7 from by
              have := HREP.out
              unfold MonRepP at this
              rw [hact, hm7] at this
              exact this)
            have HACT := hid_ hact
            have HM7 := hid_ hm7
            clear hact hm7 HREP
            go_region_with ((refine HREP2.out.mono ?_; rintro e w7 ⟨rfl, C7, ov7, F7, M7⟩))
            all_goals
              have hM7 := (HM6.out.fr (Fr.refl (fun _ => False) C6 w6).drew (fun x hx => hx.elim)).rep F7 M7
              have hF7 : Fr KRun C C7 w w7 := (HF1.out.trans HF6.out).drew.trans (F7.mono (fun x hx => by unfold KRun; omega))
              have q8 := hM7.hw.apx.cells.1
              rw [hpa.out] at q8
              have q11 := hM7.hw.apx.cells.2.1
              have e37 : w7.cell? ⟨tb, tf + A.part * 9 + 3, none⟩ = some (.int .i64 bud) := HROW.out w7 C7 (hpa.out ▸ hM7.hw.apx.lists.parts)
              have hsub : IntKind.i64.wrap (bud - left1) = bud - left1 := IntWalk.i64_in _ (by omega)
              have HM7' := hid_ hM7
              have HF7 := hid_ hF7
              have HR1 := hid_ (HRUN.out.trans (by rw [HDROP.out]))
              clear F7 M7 hM7 hF7
              have hstop : act ≠ 0 ∨ (n4 : Int) = 0 → runR c A.node A.part round ops s0 = (rs ++ [⟨rcode, rval, rdata⟩], act, ⟨(stepS c A.node A.part si ⟨ok, op, oa1, ob1, oc1, od⟩).h, m7, left1⟩) := fun h => by
                rw [HR1.out, runR_stop (kd := n4) (by rw [HEE.out]; exact HKK.out) (by rw [stepS_m, Int.toNat_natCast, HACT.out]; exact h), HRR.out, stepS_m, Int.toNat_natCast, HACT.out, HM7.out, HLEFT1.out]
              have HSTOP := hid_ hstop
              clear hstop
              rcases (by omega : ¬ act = 0 ∨ (act = 0 ∧ n4 = 0) ∨ (act = 0 ∧ ¬ n4 = 0)) with ha | ⟨ha, hk⟩ | ⟨ha, hk⟩
              · have hb : (act != 0) = true := by simpa using ha
                have hX := HSTOP.out (.inl ha)
                have HX := hid_ hX
                clear ha hX
                go_wp2_with fail
                go_region
                go_wp2_with fail
                go_ret3
                rw [show R = _ from HR.out.symm.trans HX.out]
                have hM := HM7'.out.fr (Fr.refl (fun _ => False) C7 w7).drew (fun x hx => hx.elim)
                exact ⟨_, C7, lv5, ov7, _, rfl, HF7.out.drew, hM.hw, hM.mon, hM.sl, hM.res⟩
              · have hb : (act != 0) = false := by simpa using ha
                have hb2 : ((n4 : Int) == 0) = true := by simpa using hk
                have hX := HSTOP.out (.inr (by omega))
                have HX := hid_ hX
                clear ha hX hk
                go_wp2_with fail
                go_region
                go_wp2_with fail
                go_ret3
                rw [show R = _ from HR.out.symm.trans HX.out]
                have hM := HM7'.out.fr (Fr.refl (fun _ => False) C7 w7).drew (fun x hx => hx.elim)
                exact ⟨_, C7, lv5, ov7, _, rfl, HF7.out.drew, hM.hw, hM.mon, hM.sl, hM.res⟩
              · have hb : (act != 0) = false := by simpa using ha
                have hb2 : ((n4 : Int) == 0) = false := by simpa using hk
                have hgo : runR c A.node A.part round ops s0 = (rs ++ (⟨rcode, rval, rdata⟩ :: (runR c A.node A.part round (ops.drop (i + 1)) ⟨(stepS c A.node A.part si ⟨ok, op, oa1, ob1, oc1, od⟩).h, m7, left1⟩).1), (runR c A.node A.part round (ops.drop (i + 1)) ⟨(stepS c A.node A.part si ⟨ok, op, oa1, ob1, oc1, od⟩).h, m7, left1⟩).2) := by
                  rw [HR1.out, runR_go2 (kd := n4) (by rw [HEE.out]; exact HKK.out) (by rw [stepS_m, Int.toNat_natCast, HACT.out]; omega), HRR.out, stepS_m, Int.toNat_natCast, HM7.out, HLEFT1.out]
                have HGO := hid_ hgo
                clear ha hgo hk
                go_wp2
                go_roundw
                case rel =>
                  refine ⟨i + 1, left1, by omega, by go_num, rfl, ⟨(stepS c A.node A.part si ⟨ok, op, oa1, ob1, oc1, od⟩).h, m7, left1⟩, rs ++ [⟨rcode, rval, rdata⟩], C7, lv5, ov7, _, ?_, by rw [List.length_append, HRL.out]; rfl, rfl, ?_, HF7.out, HM7'.out⟩
                  · rw [HGO.out]; simp
                  · have := (HOK1.out).rep (node := A.node) r0 r1 n4
                    rw [stepS_m, HM7.out, HLEFT1.out] at this
                    exact this.mono (by omega)
                case measure => simp [intOf]; omega
    · clear hrun hok F1
      obtain rfl : i = ops.length := by omega
      have hsub : IntKind.i64.wrap (bud - left) = bud - left := IntWalk.i64_in _ (by omega)
      clear hM1
      go_upto_region 25 with fail
      go_region
      go_wp2_with fail
      go_ret3
      have hX : runR c A.node A.part round ops s0 = (rs, 0, si) := by rw [HRUN.out, List.drop_length]; simp [runR]
      rw [hX]
      have hM := HM1.out.fr (Fr.refl (fun _ => False) C1 wr).drew (fun x hx => hx.elim)
      exact ⟨_, C1, lv1, ov1, cs, by rw [HSL.out]; rfl, HF1.out.drew, hM.hw, hM.mon, hM.sl, hM.res⟩
end Go.Proofs.YtlgjaoijgkdmiaaDoor
