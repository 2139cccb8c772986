/- apex.Partition.command. No condition. -/
import Derived.Test.YtlgjaoijgkdmiaaDoorApx
import Derived.Test.YtlgjaoijgkdmiaaDoorTab
import Derived.Test.YtlgjaoijgkdmiaaDoorTabCheck
set_option linter.unusedSimpArgs false
set_option linter.unusedVariables false
namespace Go.Proofs.YtlgjaoijgkdmiaaDoor
open Go.RowKit Go.Maps

def Cmd.cells4 (c : Cmd) : List Value := [.int .u8 c.kind, .int .u8 c.key, .int .u16 c.val, .int .u16 c.old]
def w16 (x : Int) : Int := IntKind.u16.wrap x
def cmdE (cmd : Cmd) (part : Nat) (o : OpT) : Option (Int × Int) :=
  if o.a < 0 ∨ 8 ≤ o.a then some (2, if o.a < -1 then -1 else o.a) else if cmd.kind ≠ 0 then some (14, (part : Int)) else none
def cmdM (cmd : Cmd) (o : OpT) : Cmd :=
  if o.a < 0 ∨ 8 ≤ o.a then cmd else if cmd.kind ≠ 0 then cmd else
  if o.kind = 8 then ⟨2, o.a, 0, 0⟩ else if o.kind = 9 then ⟨3, o.a, w16 o.b, w16 o.c⟩ else ⟨1, o.a, w16 o.b, 0⟩
def hostV (a b m cb : Nat) : Value := .agg #[.pointer (some ⟨a, 0, none⟩), .pointer (some ⟨b, 0, none⟩), .pointer (some ⟨m, 0, none⟩), .pointer (some ⟨cb, 0, none⟩)]

/-- What command leaves. -/
def CmdP (C : Nat → Nat) (kc cb : Nat) (w : World) (E : Option (Int × Int)) (M : Cmd) (e : Ending) (w' : World) : Prop :=
  ∃ ev, e = .returned ev ∧ ErrO w w' ev E ∧ Fr (· = kc) C C w w' ∧ Bk w' cb 65 M.cells4
theorem bkM {w : World} {n t : Nat} {cs : List Value} (h : w.heap.size = n) : Bk (w.alloc (.cells cs.toArray t)) n t cs := h ▸ Bk.new w t cs

set_option maxRecDepth 100000 in
set_option maxHeartbeats 4000000 in
theorem apxCommand (C : Nat → Nat) (k kc pb mb : Nat) (hk : k ≠ kc) (hkc : kc ≠ 0) (c : Cfg) (pv qv rv : Value) (part : Nat) (mem : List Int) (a b m cb : Nat) (o : OpT) (dv : Value) (cmd : Cmd) (w : World) (hkind : 7 ≤ o.kind ∧ o.kind ≤ 9) (hf : Fin C w)
    (h : IsApx w C k pb mb c pv qv rv part mem) (hc : Bk w cb 65 cmd.cells4) (hcc : C cb = kc) :
    Calls Tryd.prog 38 #[.pointer (some ⟨pb, 0, none⟩), hostV a b m cb, o.v dv] w (CmdP C kc cb w (cmdE cmd part o) (cmdM cmd o)) := by
  obtain ⟨ok, op, oa, ob, oc, od⟩ := o
  obtain ⟨ck, cx, cv, co⟩ := cmd
  unfold OpT.v hostV
  simp only at hkind ⊢
  have p11 := h.cells.2.1
  have hlt := hc.lt
  have H := hid_ h
  have HC := hid_ hc
  unfold Cmd.cells4 at HC
  simp only at HC
  clear h hc
  by_cases hr : oa < 0 ∨ 8 ≤ oa
  · have hE : cmdE ⟨ck, cx, cv, co⟩ part ⟨ok, op, oa, ob, oc, od⟩ = some (2, if oa < -1 then -1 else oa) := by unfold cmdE; rw [if_pos hr]
    have hM : cmdM ⟨ck, cx, cv, co⟩ ⟨ok, op, oa, ob, oc, od⟩ = ⟨ck, cx, cv, co⟩ := by unfold cmdM; rw [if_pos hr]
    have HE := hid_ hE
    have HM := hid_ hM
    have b0 : Below w.heap.size w ((w.alloc (.cells #[.pointer (some ⟨a, 0, none⟩), .pointer (some ⟨b, 0, none⟩), .pointer (some ⟨m, 0, none⟩), .pointer (some ⟨cb, 0, none⟩)] 40)).alloc (.cells #[.int .u8 ok, .int .i64 op, .int .i64 oa, .int .i64 ob, .int .i64 oc, dv] 60)) := ((Below.refl _ _).alloc (Nat.le_refl _) _).alloc (by simp) _
    have HB0 := hid_ b0
    clear hE hM b0
    rcases (by omega : oa < 0 ∨ (¬ oa < 0 ∧ 8 ≤ oa)) with q | ⟨q, q2⟩
    all_goals
      go_enter Tryd.func38, Tryd.ntmps38
      go_wp2_with fail
      refine (faultNew 2 oa _ (by decide)).mono ?_
      rintro e w' ⟨fb, rfl, hb, hge, hB⟩
      have hb2 := HB0.out.trans (hb.mono HB0.out.size)
      unfold faultV
      go_wp2
      go_ret
      exact ⟨_, rfl, by rw [HE.out]; exact ⟨fb, rfl, Nat.le_trans HB0.out.size hge, hB⟩, Fr.of_below hb2 _, by rw [HM.out]; exact HC.out.same (hb2.block _ hlt)⟩
  · have q : ¬ oa < 0 := by omega
    have q2 : ¬ 8 ≤ oa := by omega
    have b0 : Below w.heap.size w ((w.alloc (.cells #[.pointer (some ⟨a, 0, none⟩), .pointer (some ⟨b, 0, none⟩), .pointer (some ⟨m, 0, none⟩), .pointer (some ⟨cb, 0, none⟩)] 40)).alloc (.cells #[.int .u8 ok, .int .i64 op, .int .i64 oa, .int .i64 ob, .int .i64 oc, dv] 60)) := ((Below.refl _ _).alloc (Nat.le_refl _) _).alloc (by simp) _
    have HB0 := hid_ b0
    have c0 := cell_alloc_keep (.cells #[.int .u8 ok, .int .i64 op, .int .i64 oa, .int .i64 ob, .int .i64 oc, dv] 60) (cell_alloc_keep (.cells #[.pointer (some ⟨a, 0, none⟩), .pointer (some ⟨b, 0, none⟩), .pointer (some ⟨m, 0, none⟩), .pointer (some ⟨cb, 0, none⟩)] 40) (HC.out.cell_ 0 rfl))
    have p11A := cell_alloc_keep (.cells #[.int .u8 ok, .int .i64 op, .int .i64 oa, .int .i64 ob, .int .i64 oc, dv] 60) (cell_alloc_keep (.cells #[.pointer (some ⟨a, 0, none⟩), .pointer (some ⟨b, 0, none⟩), .pointer (some ⟨m, 0, none⟩), .pointer (some ⟨cb, 0, none⟩)] 40) p11)
    clear b0
    by_cases hk0 : ck = 0
    · have hE : cmdE ⟨ck, cx, cv, co⟩ part ⟨ok, op, oa, ob, oc, od⟩ = none := by unfold cmdE; rw [if_neg hr, if_neg (by simpa using hk0)]
      have hM : cmdM ⟨ck, cx, cv, co⟩ ⟨ok, op, oa, ob, oc, od⟩ = if ok = 8 then ⟨2, oa, 0, 0⟩ else if ok = 9 then ⟨3, oa, w16 ob, w16 oc⟩ else ⟨1, oa, w16 ob, 0⟩ := by unfold cmdM; rw [if_neg hr, if_neg (by simpa using hk0)]
      have hkb : (ck != 0) = false := by simpa using hk0
      have HE := hid_ hE
      have HM := hid_ hM
      have H0 := hid_ hk0
      clear hE hM hr hk0
      rcases (by omega : ok = 7 ∨ ok = 8 ∨ ok = 9) with rfl | rfl | rfl
      · go_enter Tryd.func38, Tryd.ntmps38
        go_upto_region 11 with fail
        refine gen_world (fun W => Below w.heap.size w W ∧ W.cell? ⟨w.heap.size, 3, none⟩ = some (.pointer (some ⟨cb, 0, none⟩)) ∧ Bk W (w.heap.size + 1 + 1) 65 [.int .u8 1, .int .u8 oa, .int .u16 (w16 ob), .int .u16 0]) ⟨(HB0.out.alloc (by simp; omega) _), cell_alloc_keep _ (cell_alloc_keep _ ((Bk.new w 40 [.pointer (some ⟨a, 0, none⟩), .pointer (some ⟨b, 0, none⟩), .pointer (some ⟨m, 0, none⟩), .pointer (some ⟨cb, 0, none⟩)]).cell_ 3 rfl)), bkM (by simp)⟩ ?_
        rintro W ⟨g1, g2, g3⟩
        have hcW := HC.out.same (g1.block _ hlt)
        have x0 := hcW.cell_ 0 rfl
        have x1 := hcW.cell_ 1 rfl
        have x2 := hcW.cell_ 2 rfl
        have x3 := hcW.cell_ 3 rfl
        have z0 := hcW.frozen 0
        have z1 := hcW.frozen 1
        have z2 := hcW.frozen 2
        have z3 := hcW.frozen 3
        have d0 := g3.cell_ 0 rfl
        have d1 := g3.cell_ 1 rfl
        have d2 := g3.cell_ 2 rfl
        have d3 := g3.cell_ 3 rfl
        have HW := hid_ hcW
        have HG := hid_ g1
        clear c0 p11A hcW g1 g3
        go_wp2
        go_ret
        exact ⟨_, rfl, by rw [HE.out]; rfl, ((((Fr.of_below HG.out (· = kc)).setCell (.inr hcc) _).setCell (.inr hcc) _).setCell (.inr hcc) _).setCell (.inr hcc) _, by rw [HM.out]; exact (((HW.out.set 0 _).set 1 _).set 2 _).set 3 _⟩
      · go_enter Tryd.func38, Tryd.ntmps38
        go_upto_region 11 with fail
        refine gen_world (fun W => Below w.heap.size w W ∧ W.cell? ⟨w.heap.size, 3, none⟩ = some (.pointer (some ⟨cb, 0, none⟩)) ∧ Bk W (w.heap.size + 1 + 1) 65 [.int .u8 2, .int .u8 oa, .int .u16 0, .int .u16 0]) ⟨(HB0.out.alloc (by simp; omega) _), cell_alloc_keep _ (cell_alloc_keep _ ((Bk.new w 40 [.pointer (some ⟨a, 0, none⟩), .pointer (some ⟨b, 0, none⟩), .pointer (some ⟨m, 0, none⟩), .pointer (some ⟨cb, 0, none⟩)]).cell_ 3 rfl)), bkM (by simp)⟩ ?_
        rintro W ⟨g1, g2, g3⟩
        have hcW := HC.out.same (g1.block _ hlt)
        have x0 := hcW.cell_ 0 rfl
        have x1 := hcW.cell_ 1 rfl
        have x2 := hcW.cell_ 2 rfl
        have x3 := hcW.cell_ 3 rfl
        have z0 := hcW.frozen 0
        have z1 := hcW.frozen 1
        have z2 := hcW.frozen 2
        have z3 := hcW.frozen 3
        have d0 := g3.cell_ 0 rfl
        have d1 := g3.cell_ 1 rfl
        have d2 := g3.cell_ 2 rfl
        have d3 := g3.cell_ 3 rfl
        have HW := hid_ hcW
        have HG := hid_ g1
        clear c0 p11A hcW g1 g3
        go_wp2
        go_ret
        exact ⟨_, rfl, by rw [HE.out]; rfl, ((((Fr.of_below HG.out (· = kc)).setCell (.inr hcc) _).setCell (.inr hcc) _).setCell (.inr hcc) _).setCell (.inr hcc) _, by rw [HM.out]; exact (((HW.out.set 0 _).set 1 _).set 2 _).set 3 _⟩
      · go_enter Tryd.func38, Tryd.ntmps38
        go_upto_region 10 with fail
        go_region
        go_upto_region 11 with fail
        refine gen_world (fun W => Below w.heap.size w W ∧ W.cell? ⟨w.heap.size, 3, none⟩ = some (.pointer (some ⟨cb, 0, none⟩)) ∧ Bk W (w.heap.size + 1 + 1) 65 [.int .u8 3, .int .u8 oa, .int .u16 (w16 ob), .int .u16 (w16 oc)]) ⟨(HB0.out.alloc (by simp; omega) _).drew, cell_alloc_keep _ (cell_alloc_keep _ ((Bk.new w 40 [.pointer (some ⟨a, 0, none⟩), .pointer (some ⟨b, 0, none⟩), .pointer (some ⟨m, 0, none⟩), .pointer (some ⟨cb, 0, none⟩)]).cell_ 3 rfl)), (bkM (by simp)).drew⟩ ?_
        rintro W ⟨g1, g2, g3⟩
        have hcW := HC.out.same (g1.block _ hlt)
        have x0 := hcW.cell_ 0 rfl
        have x1 := hcW.cell_ 1 rfl
        have x2 := hcW.cell_ 2 rfl
        have x3 := hcW.cell_ 3 rfl
        have z0 := hcW.frozen 0
        have z1 := hcW.frozen 1
        have z2 := hcW.frozen 2
        have z3 := hcW.frozen 3
        have d0 := g3.cell_ 0 rfl
        have d1 := g3.cell_ 1 rfl
        have d2 := g3.cell_ 2 rfl
        have d3 := g3.cell_ 3 rfl
        have HW := hid_ hcW
        have HG := hid_ g1
        clear c0 p11A hcW g1 g3
        go_wp2
        go_ret
        exact ⟨_, rfl, by rw [HE.out]; rfl, ((((Fr.of_below HG.out (· = kc)).setCell (.inr hcc) _).setCell (.inr hcc) _).setCell (.inr hcc) _).setCell (.inr hcc) _, by rw [HM.out]; exact (((HW.out.set 0 _).set 1 _).set 2 _).set 3 _⟩
    · have hE : cmdE ⟨ck, cx, cv, co⟩ part ⟨ok, op, oa, ob, oc, od⟩ = some (14, (part : Int)) := by unfold cmdE; rw [if_neg hr, if_pos (by simpa using hk0)]
      have hM : cmdM ⟨ck, cx, cv, co⟩ ⟨ok, op, oa, ob, oc, od⟩ = ⟨ck, cx, cv, co⟩ := by unfold cmdM; rw [if_neg hr, if_pos (by simpa using hk0)]
      have hkb : (ck != 0) = true := by simpa using hk0
      have HE := hid_ hE
      have HM := hid_ hM
      clear hE hM hr hk0
      go_enter Tryd.func38, Tryd.ntmps38
      go_wp2_with fail
      refine (faultNew 14 (part : Int) _ (by decide)).mono ?_
      rintro e w' ⟨fb, rfl, hb, hge, hB⟩
      rw [if_neg (by omega)] at hB
      have hb2 := HB0.out.trans (hb.mono HB0.out.size)
      unfold faultV
      go_wp2
      go_ret
      exact ⟨_, rfl, by rw [HE.out]; exact ⟨fb, rfl, Nat.le_trans HB0.out.size hge, hB⟩, Fr.of_below hb2 _, by rw [HM.out]; exact HC.out.same (hb2.block _ hlt)⟩
end Go.Proofs.YtlgjaoijgkdmiaaDoor
