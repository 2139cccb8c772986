/- apex.Partition.op: other kinds. Printed by gen_op.py. No condition but that the tables work. -/
import Derived.Test.YtlgjaoijgkdmiaaDoorOp0
import Derived.Deep.RegionLaw
import Derived.Deep.RegionHeld3
set_option linter.unusedSimpArgs false
set_option linter.unusedVariables false
namespace Go.Proofs.YtlgjaoijgkdmiaaDoor
open Go.RowKit Go.Maps

set_option maxRecDepth 100000 in
set_option maxHeartbeats 4000000 in
theorem op_spin (c : Cfg) (hg : Good c) (A : HA) (C : Nat → Nat) (lv : Nat → Value) (s : HSt) (dv : Value) (d : List UInt8) (w : World) (hf : Fin C w) (h : HW w C c A lv s) (op oa ob oc : Int)  :
    Calls Tryd.prog 27 #[.pointer (some ⟨A.pb, 0, none⟩), A.v, (OpT.mk 5 op oa ob oc d).v dv] w (OpP c A C w (opE c A.node A.part s ⟨5, op, oa, ob, oc, d⟩) (opV s ⟨5, op, oa, ob, oc, d⟩) (opD c A.node A.part s ⟨5, op, oa, ob, oc, d⟩) (opS c A.node A.part s ⟨5, op, oa, ob, oc, d⟩)) := by
  have hl : s.st.length ≤ 24 := by rw [h.ports.len]; exact nq24 hg
  unfold OpT.v HA.v hostV
  simp only
  have hE : opE c A.node A.part s ⟨5, op, oa, ob, oc, d⟩ = none := by unfold opE; simp
  have hV : opV s ⟨5, op, oa, ob, oc, d⟩ = (0, 0) := by unfold opV; simp
  have hD : opD c A.node A.part s ⟨5, op, oa, ob, oc, d⟩ = none := by unfold opD; simp
  have hS : opS c A.node A.part s ⟨5, op, oa, ob, oc, d⟩ = s := by unfold opS; simp
  rw [hE, hV, hD, hS]
  clear hE hV hD hS

  have H := hid_ h
  have HF := hid_ hf
  clear h hf
  go_enter Tryd.func27, Tryd.ntmps27
  go_upto_region 1 with fail
  refine gen_world (fun W => Below w.heap.size w W ∧ W.heap.size = w.heap.size + 3 ∧ Bk W w.heap.size 40 [.pointer (some ⟨A.b, 0, none⟩), .pointer (some ⟨A.tb, 0, none⟩), .pointer (some ⟨A.mb, 0, none⟩), .pointer (some ⟨A.cb, 0, none⟩)] ∧ Bk W (w.heap.size + 1) 60 [.int .u8 5, .int .i64 op, .int .i64 oa, .int .i64 ob, .int .i64 oc, dv] ∧ Bk W (w.heap.size + 1 + 1) 56 [.int .i64 0, .int .i64 0, .slice none 0 0, .bool false])
    ⟨(((Below.refl _ _).alloc (Nat.le_refl _) _).alloc (by simp) _).alloc (by simp; omega) _, by simp, ((Bk.new _ _ _).alloc _).alloc _, (bkM (by simp)).alloc _, bkM (by simp)⟩ ?_
  rintro W ⟨hB, hsz, bh, bo, br⟩
  have x0 := bh.cell_ 0 rfl
  have x1 := bh.cell_ 1 rfl
  have x2 := bh.cell_ 2 rfl
  have x3 := bh.cell_ 3 rfl
  have o0 := bo.cell_ 0 rfl
  have o1 := bo.cell_ 1 rfl
  have o2 := bo.cell_ 2 rfl
  have o3 := bo.cell_ 3 rfl
  have o4 := bo.cell_ 4 rfl
  have o5 := bo.cell_ 5 rfl
  have r0 := br.cell_ 0 rfl
  have r1 := br.cell_ 1 rfl
  have r2 := br.cell_ 2 rfl
  have r3 := br.cell_ 3 rfl
  have z := fun j => br.frozen j
  obtain ⟨C0, F0, hC0, hC1, hC2⟩ : ∃ C0, Fr (fun _ => False) C C0 w W ∧ C0 (w.heap.size + 1 + 1) = 400 ∧ C0 w.heap.size = 0 ∧ C0 (w.heap.size + 1) = 0 := ⟨fun x => if x = w.heap.size + 1 + 1 then 400 else C x, (Fr.of_below hB _).recolour (fun x hx _ => if_neg (by omega)) (fun x hx => by rw [if_neg (by omega)]; exact HF.out x (by omega)), if_pos rfl, (if_neg (by omega)).trans (HF.out _ (by omega)), (if_neg (by omega)).trans (HF.out _ (by omega))⟩
  have HC0 := hid_ hC0
  have Fd : Fr (fun _ => False) C C0 w W.drew := F0.drew
  have HH := hid_ (H.out.fr F0 hl (fun x hx => hx.elim))
  have HHd := hid_ (H.out.fr Fd hl (fun x hx => hx.elim))
  have p11 := HH.out.apx.cells.2.1
  have p12 := HH.out.apx.cells.2.2
  have HF0 := hid_ (F0.Fin HF.out)
  have HFd := hid_ (Fd.Fin HF.out)
  have hk4 : ¬ KOp 400 := by unfold KOp; omega
  have HS := hid_ hsz
  have HC1 := hid_ hC1
  have HC2 := hid_ hC2
  clear hC0 hC1 hC2
  go_wp2
  refine bodyPost_ret (v := .tuple #[.agg #[.int .i64 0, .int .i64 0, .slice none 0 0, .bool false], .nilIface]) ((results_cell2 rfl _ _ _).trans ?_) rfl (op_end (V := (0, 0)) (E := none) (D := none) (by omega) (by omega) F0 HC0.out (Fr.refl _ _ _) rfl ⟨rfl, rfl⟩ HH.out hl _ _ _ _)
  · go_simp

set_option maxRecDepth 100000 in
set_option maxHeartbeats 4000000 in
theorem op_read (c : Cfg) (hg : Good c) (A : HA) (C : Nat → Nat) (lv : Nat → Value) (s : HSt) (dv : Value) (d : List UInt8) (w : World) (hf : Fin C w) (h : HW w C c A lv s) (op oa ob oc : Int) (hq : ∀ j, ∀ x ∈ (s.st.getD j default).q, x.length ≤ 140737488355328) :
    Calls Tryd.prog 27 #[.pointer (some ⟨A.pb, 0, none⟩), A.v, (OpT.mk 2 op oa ob oc d).v dv] w (OpP c A C w (opE c A.node A.part s ⟨2, op, oa, ob, oc, d⟩) (opV s ⟨2, op, oa, ob, oc, d⟩) (opD c A.node A.part s ⟨2, op, oa, ob, oc, d⟩) (opS c A.node A.part s ⟨2, op, oa, ob, oc, d⟩)) := by
  have hl : s.st.length ≤ 24 := by rw [h.ports.len]; exact nq24 hg
  unfold OpT.v HA.v hostV
  simp only
  have hE : opE c A.node A.part s ⟨2, op, oa, ob, oc, d⟩ = readE c A.node A.part op s.st := by unfold opE; simp
  have hV : opV s ⟨2, op, oa, ob, oc, d⟩ = (0, 0) := by unfold opV; simp
  have hD : opD c A.node A.part s ⟨2, op, oa, ob, oc, d⟩ = readD c A.node A.part op s.st := by unfold opD; simp
  have hS : opS c A.node A.part s ⟨2, op, oa, ob, oc, d⟩ = ⟨readS c A.node A.part op s.st, s.f, s.cmd, s.mem⟩ := by unfold opS; simp
  rw [hE, hV, hD, hS]
  clear hE hV hD hS

  have H := hid_ h
  have HF := hid_ hf
  clear h hf
  go_enter Tryd.func27, Tryd.ntmps27
  go_upto_region 1 with fail
  refine gen_world (fun W => Below w.heap.size w W ∧ W.heap.size = w.heap.size + 3 ∧ Bk W w.heap.size 40 [.pointer (some ⟨A.b, 0, none⟩), .pointer (some ⟨A.tb, 0, none⟩), .pointer (some ⟨A.mb, 0, none⟩), .pointer (some ⟨A.cb, 0, none⟩)] ∧ Bk W (w.heap.size + 1) 60 [.int .u8 2, .int .i64 op, .int .i64 oa, .int .i64 ob, .int .i64 oc, dv] ∧ Bk W (w.heap.size + 1 + 1) 56 [.int .i64 0, .int .i64 0, .slice none 0 0, .bool false])
    ⟨(((Below.refl _ _).alloc (Nat.le_refl _) _).alloc (by simp) _).alloc (by simp; omega) _, by simp, ((Bk.new _ _ _).alloc _).alloc _, (bkM (by simp)).alloc _, bkM (by simp)⟩ ?_
  rintro W ⟨hB, hsz, bh, bo, br⟩
  have x0 := bh.cell_ 0 rfl
  have x1 := bh.cell_ 1 rfl
  have x2 := bh.cell_ 2 rfl
  have x3 := bh.cell_ 3 rfl
  have o0 := bo.cell_ 0 rfl
  have o1 := bo.cell_ 1 rfl
  have o2 := bo.cell_ 2 rfl
  have o3 := bo.cell_ 3 rfl
  have o4 := bo.cell_ 4 rfl
  have o5 := bo.cell_ 5 rfl
  have r0 := br.cell_ 0 rfl
  have r1 := br.cell_ 1 rfl
  have r2 := br.cell_ 2 rfl
  have r3 := br.cell_ 3 rfl
  have z := fun j => br.frozen j
  obtain ⟨C0, F0, hC0, hC1, hC2⟩ : ∃ C0, Fr (fun _ => False) C C0 w W ∧ C0 (w.heap.size + 1 + 1) = 400 ∧ C0 w.heap.size = 0 ∧ C0 (w.heap.size + 1) = 0 := ⟨fun x => if x = w.heap.size + 1 + 1 then 400 else C x, (Fr.of_below hB _).recolour (fun x hx _ => if_neg (by omega)) (fun x hx => by rw [if_neg (by omega)]; exact HF.out x (by omega)), if_pos rfl, (if_neg (by omega)).trans (HF.out _ (by omega)), (if_neg (by omega)).trans (HF.out _ (by omega))⟩
  have HC0 := hid_ hC0
  have Fd : Fr (fun _ => False) C C0 w W.drew := F0.drew
  have HH := hid_ (H.out.fr F0 hl (fun x hx => hx.elim))
  have HHd := hid_ (H.out.fr Fd hl (fun x hx => hx.elim))
  have p11 := HH.out.apx.cells.2.1
  have p12 := HH.out.apx.cells.2.2
  have HF0 := hid_ (F0.Fin HF.out)
  have HFd := hid_ (Fd.Fin HF.out)
  have hk4 : ¬ KOp 400 := by unfold KOp; omega
  have HS := hid_ hsz
  have HC1 := hid_ hC1
  have HC2 := hid_ hC2
  clear hC0 hC1 hC2
  have HP := hid_ (portsRead c hg C0 100 A.b A.ab (by decide) H.out.nab A.pv A.qv A.rv A.node A.part op lv s.st)
  go_upto_region 5 with fail
  go_region_with (refine (HP.out _ HFd.out HHd.out.ports hq).mono ?_; rintro e w1 ⟨v, fv, ev, C1, lv1, rfl, hv, hE, hFr, hPo⟩; obtain ⟨va, vn, vm, vb, rfl, rfl⟩ := hv.form; have br1 := br.drew.fr hFr (by rw [HC0.out]; omega); have r0 := br1.cell_ 0 rfl; have r1 := br1.cell_ 1 rfl; have r2 := br1.cell_ 2 rfl; have r3 := br1.cell_ 3 rfl; have z := fun j => br1.frozen j)
  all_goals
    have Q := op_end (c := c) (A := A) (V := (0, 0)) (D := readD c A.node A.part op s.st) (rb := w.heap.size + 1 + 1) (by omega) (by have := HS.out; simp; omega) Fd HC0.out (hFr.mono fun x hx => Or.inl (by omega)) hE hv (HHd.out.ports_ hFr hPo) (by show (readS c A.node A.part op s.st).length ≤ 24; rw [hPo.len]; exact nq24 hg)
    clear hv hE hFr hPo br1
    have Q := hid_ Q
    go_wp2_with fail
    refine bodyPost_ret ((results_cell2 rfl _ _ _).trans ?_) rfl (Q.out _ _ _ _)
    go_simp

set_option maxRecDepth 100000 in
set_option maxHeartbeats 4000000 in
theorem op_else (c : Cfg) (hg : Good c) (A : HA) (C : Nat → Nat) (lv : Nat → Value) (s : HSt) (dv : Value) (d : List UInt8) (w : World) (hf : Fin C w) (h : HW w C c A lv s) (op oa ob oc : Int) (ok : Int) (n1 : (ok == 1) = false) (n2 : (ok == 2) = false) (n3 : (ok == 3) = false) (n4 : (ok == 4) = false) (n5 : (ok == 5) = false) (n7 : (ok == 7) = false) (n8 : (ok == 8) = false) (n9 : (ok == 9) = false) (n10 : (ok == 10) = false) :
    Calls Tryd.prog 27 #[.pointer (some ⟨A.pb, 0, none⟩), A.v, (OpT.mk ok op oa ob oc d).v dv] w (OpP c A C w (opE c A.node A.part s ⟨ok, op, oa, ob, oc, d⟩) (opV s ⟨ok, op, oa, ob, oc, d⟩) (opD c A.node A.part s ⟨ok, op, oa, ob, oc, d⟩) (opS c A.node A.part s ⟨ok, op, oa, ob, oc, d⟩)) := by
  have hl : s.st.length ≤ 24 := by rw [h.ports.len]; exact nq24 hg
  unfold OpT.v HA.v hostV
  simp only
  have m1 : ¬ ok = 1 := by simpa using n1
  have m2 : ¬ ok = 2 := by simpa using n2
  have m3 : ¬ ok = 3 := by simpa using n3
  have m4 : ¬ ok = 4 := by simpa using n4
  have m5 : ¬ ok = 5 := by simpa using n5
  have m7 : ¬ ok = 7 := by simpa using n7
  have m8 : ¬ ok = 8 := by simpa using n8
  have m9 : ¬ ok = 9 := by simpa using n9
  have m10 : ¬ ok = 10 := by simpa using n10
  have hE : opE c A.node A.part s ⟨ok, op, oa, ob, oc, d⟩ = some (152, (A.part : Int)) := by unfold opE; simp [m1, m2, m3, m4, m5, m7, m8, m9, m10]
  have hV : opV s ⟨ok, op, oa, ob, oc, d⟩ = (0, 0) := by unfold opV; simp [m1, m2, m3, m4, m5, m7, m8, m9, m10]
  have hD : opD c A.node A.part s ⟨ok, op, oa, ob, oc, d⟩ = none := by unfold opD; simp [m1, m2, m3, m4, m5, m7, m8, m9, m10]
  have hS : opS c A.node A.part s ⟨ok, op, oa, ob, oc, d⟩ = s := by unfold opS; simp [m1, m2, m3, m4, m5, m7, m8, m9, m10]
  rw [hE, hV, hD, hS]
  clear hE hV hD hS
  clear m1 m2 m3 m4 m5 m7 m8 m9 m10

  have H := hid_ h
  have HF := hid_ hf
  clear h hf
  go_enter Tryd.func27, Tryd.ntmps27
  go_upto_region 1 with fail
  refine gen_world (fun W => Below w.heap.size w W ∧ W.heap.size = w.heap.size + 3 ∧ Bk W w.heap.size 40 [.pointer (some ⟨A.b, 0, none⟩), .pointer (some ⟨A.tb, 0, none⟩), .pointer (some ⟨A.mb, 0, none⟩), .pointer (some ⟨A.cb, 0, none⟩)] ∧ Bk W (w.heap.size + 1) 60 [.int .u8 ok, .int .i64 op, .int .i64 oa, .int .i64 ob, .int .i64 oc, dv] ∧ Bk W (w.heap.size + 1 + 1) 56 [.int .i64 0, .int .i64 0, .slice none 0 0, .bool false])
    ⟨(((Below.refl _ _).alloc (Nat.le_refl _) _).alloc (by simp) _).alloc (by simp; omega) _, by simp, ((Bk.new _ _ _).alloc _).alloc _, (bkM (by simp)).alloc _, bkM (by simp)⟩ ?_
  rintro W ⟨hB, hsz, bh, bo, br⟩
  have x0 := bh.cell_ 0 rfl
  have x1 := bh.cell_ 1 rfl
  have x2 := bh.cell_ 2 rfl
  have x3 := bh.cell_ 3 rfl
  have o0 := bo.cell_ 0 rfl
  have o1 := bo.cell_ 1 rfl
  have o2 := bo.cell_ 2 rfl
  have o3 := bo.cell_ 3 rfl
  have o4 := bo.cell_ 4 rfl
  have o5 := bo.cell_ 5 rfl
  have r0 := br.cell_ 0 rfl
  have r1 := br.cell_ 1 rfl
  have r2 := br.cell_ 2 rfl
  have r3 := br.cell_ 3 rfl
  have z := fun j => br.frozen j
  obtain ⟨C0, F0, hC0, hC1, hC2⟩ : ∃ C0, Fr (fun _ => False) C C0 w W ∧ C0 (w.heap.size + 1 + 1) = 400 ∧ C0 w.heap.size = 0 ∧ C0 (w.heap.size + 1) = 0 := ⟨fun x => if x = w.heap.size + 1 + 1 then 400 else C x, (Fr.of_below hB _).recolour (fun x hx _ => if_neg (by omega)) (fun x hx => by rw [if_neg (by omega)]; exact HF.out x (by omega)), if_pos rfl, (if_neg (by omega)).trans (HF.out _ (by omega)), (if_neg (by omega)).trans (HF.out _ (by omega))⟩
  have HC0 := hid_ hC0
  have Fd : Fr (fun _ => False) C C0 w W.drew := F0.drew
  have HH := hid_ (H.out.fr F0 hl (fun x hx => hx.elim))
  have HHd := hid_ (H.out.fr Fd hl (fun x hx => hx.elim))
  have p11 := HH.out.apx.cells.2.1
  have p12 := HH.out.apx.cells.2.2
  have HF0 := hid_ (F0.Fin HF.out)
  have HFd := hid_ (Fd.Fin HF.out)
  have hk4 : ¬ KOp 400 := by unfold KOp; omega
  have HS := hid_ hsz
  have HC1 := hid_ hC1
  have HC2 := hid_ hC2
  clear hC0 hC1 hC2
  have HP := hid_ (faultNew 152 (A.part : Int))
  have HL := hid_ hl
  go_wp2_with fail
  refine (HP.out _ (by decide)).mono ?_
  rintro e w1 ⟨fb, rfl, hb, hge, hB'⟩
  have hFr := (Fr.of_below hb KOp : Fr KOp C0 C0 W w1)
  have br1 := br.fr hFr (by rw [HC0.out]; exact hk4)
  have r0 := br1.cell_ 0 rfl
  have r1 := br1.cell_ 1 rfl
  have r2 := br1.cell_ 2 rfl
  have r3 := br1.cell_ 3 rfl
  have z := fun j => br1.frozen j
  rw [if_neg (by omega)] at hB'
  have Q := op_end (c := c) (A := A) (V := (0, 0)) (D := none) (E := some (152, (A.part : Int))) (rb := w.heap.size + 1 + 1) (by omega) (by have := HS.out; omega) F0 HC0.out hFr (show ErrO W w1 (faultV fb) (some (152, (A.part : Int))) from ⟨fb, rfl, hge, hB'⟩) (show ReadV w1 C0 (.slice none 0 0) (.bool false) none from ⟨rfl, rfl⟩) (HH.out.fr (Fr.of_below hb (fun _ => False)) HL.out (fun x hx => hx.elim)) HL.out
  clear hFr hB' br1 hb hge
  unfold faultV at Q ⊢
  have Q := hid_ Q
  go_wp2_with fail
  refine bodyPost_ret ((results_cell2 rfl _ _ _).trans ?_) rfl (Q.out _ _ _ _)
  go_simp

set_option maxRecDepth 100000 in
set_option maxHeartbeats 4000000 in
theorem op_m3lo (c : Cfg) (hg : Good c) (A : HA) (C : Nat → Nat) (lv : Nat → Value) (s : HSt) (dv : Value) (d : List UInt8) (w : World) (hf : Fin C w) (h : HW w C c A lv s) (op oa ob oc : Int) (q : oa < 0) :
    Calls Tryd.prog 27 #[.pointer (some ⟨A.pb, 0, none⟩), A.v, (OpT.mk 3 op oa ob oc d).v dv] w (OpP c A C w (opE c A.node A.part s ⟨3, op, oa, ob, oc, d⟩) (opV s ⟨3, op, oa, ob, oc, d⟩) (opD c A.node A.part s ⟨3, op, oa, ob, oc, d⟩) (opS c A.node A.part s ⟨3, op, oa, ob, oc, d⟩)) := by
  have hl : s.st.length ≤ 24 := by rw [h.ports.len]; exact nq24 hg
  unfold OpT.v HA.v hostV
  simp only
  have hE : opE c A.node A.part s ⟨3, op, oa, ob, oc, d⟩ = some (150, low oa) := by unfold opE; simp [q]
  have hV : opV s ⟨3, op, oa, ob, oc, d⟩ = (0, 0) := by unfold opV; simp [q]
  have hD : opD c A.node A.part s ⟨3, op, oa, ob, oc, d⟩ = none := by unfold opD; simp [q]
  have hS : opS c A.node A.part s ⟨3, op, oa, ob, oc, d⟩ = s := by unfold opS; simp [q]
  rw [hE, hV, hD, hS]
  clear hE hV hD hS

  have H := hid_ h
  have HF := hid_ hf
  clear h hf
  go_enter Tryd.func27, Tryd.ntmps27
  go_upto_region 1 with fail
  refine gen_world (fun W => Below w.heap.size w W ∧ W.heap.size = w.heap.size + 3 ∧ Bk W w.heap.size 40 [.pointer (some ⟨A.b, 0, none⟩), .pointer (some ⟨A.tb, 0, none⟩), .pointer (some ⟨A.mb, 0, none⟩), .pointer (some ⟨A.cb, 0, none⟩)] ∧ Bk W (w.heap.size + 1) 60 [.int .u8 3, .int .i64 op, .int .i64 oa, .int .i64 ob, .int .i64 oc, dv] ∧ Bk W (w.heap.size + 1 + 1) 56 [.int .i64 0, .int .i64 0, .slice none 0 0, .bool false])
    ⟨(((Below.refl _ _).alloc (Nat.le_refl _) _).alloc (by simp) _).alloc (by simp; omega) _, by simp, ((Bk.new _ _ _).alloc _).alloc _, (bkM (by simp)).alloc _, bkM (by simp)⟩ ?_
  rintro W ⟨hB, hsz, bh, bo, br⟩
  have x0 := bh.cell_ 0 rfl
  have x1 := bh.cell_ 1 rfl
  have x2 := bh.cell_ 2 rfl
  have x3 := bh.cell_ 3 rfl
  have o0 := bo.cell_ 0 rfl
  have o1 := bo.cell_ 1 rfl
  have o2 := bo.cell_ 2 rfl
  have o3 := bo.cell_ 3 rfl
  have o4 := bo.cell_ 4 rfl
  have o5 := bo.cell_ 5 rfl
  have r0 := br.cell_ 0 rfl
  have r1 := br.cell_ 1 rfl
  have r2 := br.cell_ 2 rfl
  have r3 := br.cell_ 3 rfl
  have z := fun j => br.frozen j
  obtain ⟨C0, F0, hC0, hC1, hC2⟩ : ∃ C0, Fr (fun _ => False) C C0 w W ∧ C0 (w.heap.size + 1 + 1) = 400 ∧ C0 w.heap.size = 0 ∧ C0 (w.heap.size + 1) = 0 := ⟨fun x => if x = w.heap.size + 1 + 1 then 400 else C x, (Fr.of_below hB _).recolour (fun x hx _ => if_neg (by omega)) (fun x hx => by rw [if_neg (by omega)]; exact HF.out x (by omega)), if_pos rfl, (if_neg (by omega)).trans (HF.out _ (by omega)), (if_neg (by omega)).trans (HF.out _ (by omega))⟩
  have HC0 := hid_ hC0
  have Fd : Fr (fun _ => False) C C0 w W.drew := F0.drew
  have HH := hid_ (H.out.fr F0 hl (fun x hx => hx.elim))
  have HHd := hid_ (H.out.fr Fd hl (fun x hx => hx.elim))
  have p11 := HH.out.apx.cells.2.1
  have p12 := HH.out.apx.cells.2.2
  have HF0 := hid_ (F0.Fin HF.out)
  have HFd := hid_ (Fd.Fin HF.out)
  have hk4 : ¬ KOp 400 := by unfold KOp; omega
  have HS := hid_ hsz
  have HC1 := hid_ hC1
  have HC2 := hid_ hC2
  clear hC0 hC1 hC2
  go_upto_region 9 with fail
  go_quiet (fail)
  go_upto_region 10 with fail
  refine gen_world (fun W2 => Fr (fun _ => False) C C0 w W2 ∧ W2.heap = W.heap) ⟨F0.drewN _, rfl⟩ ?_
  rintro W2 ⟨F2, h2⟩
  have bh := bh.same (show W2.heap[_]? = _ by rw [h2])
  have bo := bo.same (show W2.heap[_]? = _ by rw [h2])
  have br := br.same (show W2.heap[_]? = _ by rw [h2])
  clear x0 x1 x2 x3 o0 o1 o2 o3 o4 o5 r0 r1 r2 r3 z p11 p12 Fd HHd HFd
  have HS : Hid (W2.heap.size = w.heap.size + 3) := hid_ (by rw [h2]; exact HS.out)
  have x0 := bh.cell_ 0 rfl
  have x1 := bh.cell_ 1 rfl
  have x2 := bh.cell_ 2 rfl
  have x3 := bh.cell_ 3 rfl
  have o0 := bo.cell_ 0 rfl
  have o1 := bo.cell_ 1 rfl
  have o2 := bo.cell_ 2 rfl
  have o3 := bo.cell_ 3 rfl
  have o4 := bo.cell_ 4 rfl
  have o5 := bo.cell_ 5 rfl
  have r0 := br.cell_ 0 rfl
  have r1 := br.cell_ 1 rfl
  have r2 := br.cell_ 2 rfl
  have r3 := br.cell_ 3 rfl
  have z := fun j => br.frozen j
  have HH := hid_ (H.out.fr F2 hl (fun x hx => hx.elim))
  have p11 := HH.out.apx.cells.2.1
  have p12 := HH.out.apx.cells.2.2
  have HF2 := hid_ (F2.Fin HF.out)
  clear h2 HF0
  have HP := hid_ (faultNew 150 oa)
  have HL := hid_ hl
  go_wp2_with fail
  refine (HP.out _ (by decide)).mono ?_
  rintro e w1 ⟨fb, rfl, hb, hge, hB'⟩
  have hFr := (Fr.of_below hb KOp : Fr KOp C0 C0 W2 w1)
  have br1 := br.fr hFr (by rw [HC0.out]; exact hk4)
  have r0 := br1.cell_ 0 rfl
  have r1 := br1.cell_ 1 rfl
  have r2 := br1.cell_ 2 rfl
  have r3 := br1.cell_ 3 rfl
  have z := fun j => br1.frozen j
  
  have Q := op_end (c := c) (A := A) (V := (0, 0)) (D := none) (E := some (150, low oa)) (rb := w.heap.size + 1 + 1) (by omega) (by have := HS.out; omega) F2 HC0.out hFr (show ErrO W2 w1 (faultV fb) (some (150, low oa)) from ⟨fb, rfl, hge, hB'⟩) (show ReadV w1 C0 (.slice none 0 0) (.bool false) none from ⟨rfl, rfl⟩) (HH.out.fr (Fr.of_below hb (fun _ => False)) HL.out (fun x hx => hx.elim)) HL.out
  clear hFr hB' br1 hb hge
  unfold faultV at Q ⊢
  have Q := hid_ Q
  go_wp2_with fail
  refine bodyPost_ret ((results_cell2 rfl _ _ _).trans ?_) rfl (Q.out _ _ _ _)
  go_simp

set_option maxRecDepth 100000 in
set_option maxHeartbeats 4000000 in
theorem op_m3hi (c : Cfg) (hg : Good c) (A : HA) (C : Nat → Nat) (lv : Nat → Value) (s : HSt) (dv : Value) (d : List UInt8) (w : World) (hf : Fin C w) (h : HW w C c A lv s) (op oa ob oc : Int) (q : ¬ oa < 0) (q2 : (s.mem.length : Int) ≤ oa) :
    Calls Tryd.prog 27 #[.pointer (some ⟨A.pb, 0, none⟩), A.v, (OpT.mk 3 op oa ob oc d).v dv] w (OpP c A C w (opE c A.node A.part s ⟨3, op, oa, ob, oc, d⟩) (opV s ⟨3, op, oa, ob, oc, d⟩) (opD c A.node A.part s ⟨3, op, oa, ob, oc, d⟩) (opS c A.node A.part s ⟨3, op, oa, ob, oc, d⟩)) := by
  have hl : s.st.length ≤ 24 := by rw [h.ports.len]; exact nq24 hg
  unfold OpT.v HA.v hostV
  simp only
  have q3 : oa < 0 ∨ (s.mem.length : Int) ≤ oa := .inr q2
  have hE : opE c A.node A.part s ⟨3, op, oa, ob, oc, d⟩ = some (150, low oa) := by unfold opE; simp [q3]
  have hV : opV s ⟨3, op, oa, ob, oc, d⟩ = (0, 0) := by unfold opV; simp [q3]
  have hD : opD c A.node A.part s ⟨3, op, oa, ob, oc, d⟩ = none := by unfold opD; simp [q3]
  have hS : opS c A.node A.part s ⟨3, op, oa, ob, oc, d⟩ = s := by unfold opS; simp [q3]
  rw [hE, hV, hD, hS]
  clear hE hV hD hS
  clear q3

  have H := hid_ h
  have HF := hid_ hf
  clear h hf
  go_enter Tryd.func27, Tryd.ntmps27
  go_upto_region 1 with fail
  refine gen_world (fun W => Below w.heap.size w W ∧ W.heap.size = w.heap.size + 3 ∧ Bk W w.heap.size 40 [.pointer (some ⟨A.b, 0, none⟩), .pointer (some ⟨A.tb, 0, none⟩), .pointer (some ⟨A.mb, 0, none⟩), .pointer (some ⟨A.cb, 0, none⟩)] ∧ Bk W (w.heap.size + 1) 60 [.int .u8 3, .int .i64 op, .int .i64 oa, .int .i64 ob, .int .i64 oc, dv] ∧ Bk W (w.heap.size + 1 + 1) 56 [.int .i64 0, .int .i64 0, .slice none 0 0, .bool false])
    ⟨(((Below.refl _ _).alloc (Nat.le_refl _) _).alloc (by simp) _).alloc (by simp; omega) _, by simp, ((Bk.new _ _ _).alloc _).alloc _, (bkM (by simp)).alloc _, bkM (by simp)⟩ ?_
  rintro W ⟨hB, hsz, bh, bo, br⟩
  have x0 := bh.cell_ 0 rfl
  have x1 := bh.cell_ 1 rfl
  have x2 := bh.cell_ 2 rfl
  have x3 := bh.cell_ 3 rfl
  have o0 := bo.cell_ 0 rfl
  have o1 := bo.cell_ 1 rfl
  have o2 := bo.cell_ 2 rfl
  have o3 := bo.cell_ 3 rfl
  have o4 := bo.cell_ 4 rfl
  have o5 := bo.cell_ 5 rfl
  have r0 := br.cell_ 0 rfl
  have r1 := br.cell_ 1 rfl
  have r2 := br.cell_ 2 rfl
  have r3 := br.cell_ 3 rfl
  have z := fun j => br.frozen j
  obtain ⟨C0, F0, hC0, hC1, hC2⟩ : ∃ C0, Fr (fun _ => False) C C0 w W ∧ C0 (w.heap.size + 1 + 1) = 400 ∧ C0 w.heap.size = 0 ∧ C0 (w.heap.size + 1) = 0 := ⟨fun x => if x = w.heap.size + 1 + 1 then 400 else C x, (Fr.of_below hB _).recolour (fun x hx _ => if_neg (by omega)) (fun x hx => by rw [if_neg (by omega)]; exact HF.out x (by omega)), if_pos rfl, (if_neg (by omega)).trans (HF.out _ (by omega)), (if_neg (by omega)).trans (HF.out _ (by omega))⟩
  have HC0 := hid_ hC0
  have Fd : Fr (fun _ => False) C C0 w W.drew := F0.drew
  have HH := hid_ (H.out.fr F0 hl (fun x hx => hx.elim))
  have HHd := hid_ (H.out.fr Fd hl (fun x hx => hx.elim))
  have p11 := HH.out.apx.cells.2.1
  have p12 := HH.out.apx.cells.2.2
  have HF0 := hid_ (F0.Fin HF.out)
  have HFd := hid_ (Fd.Fin HF.out)
  have hk4 : ¬ KOp 400 := by unfold KOp; omega
  have HS := hid_ hsz
  have HC1 := hid_ hC1
  have HC2 := hid_ hC2
  clear hC0 hC1 hC2
  go_upto_region 9 with fail
  go_quiet (fail)
  go_upto_region 10 with fail
  refine gen_world (fun W2 => Fr (fun _ => False) C C0 w W2 ∧ W2.heap = W.heap) ⟨F0.drewN _, rfl⟩ ?_
  rintro W2 ⟨F2, h2⟩
  have bh := bh.same (show W2.heap[_]? = _ by rw [h2])
  have bo := bo.same (show W2.heap[_]? = _ by rw [h2])
  have br := br.same (show W2.heap[_]? = _ by rw [h2])
  clear x0 x1 x2 x3 o0 o1 o2 o3 o4 o5 r0 r1 r2 r3 z p11 p12 Fd HHd HFd
  have HS : Hid (W2.heap.size = w.heap.size + 3) := hid_ (by rw [h2]; exact HS.out)
  have x0 := bh.cell_ 0 rfl
  have x1 := bh.cell_ 1 rfl
  have x2 := bh.cell_ 2 rfl
  have x3 := bh.cell_ 3 rfl
  have o0 := bo.cell_ 0 rfl
  have o1 := bo.cell_ 1 rfl
  have o2 := bo.cell_ 2 rfl
  have o3 := bo.cell_ 3 rfl
  have o4 := bo.cell_ 4 rfl
  have o5 := bo.cell_ 5 rfl
  have r0 := br.cell_ 0 rfl
  have r1 := br.cell_ 1 rfl
  have r2 := br.cell_ 2 rfl
  have r3 := br.cell_ 3 rfl
  have z := fun j => br.frozen j
  have HH := hid_ (H.out.fr F2 hl (fun x hx => hx.elim))
  have p11 := HH.out.apx.cells.2.1
  have p12 := HH.out.apx.cells.2.2
  have HF2 := hid_ (F2.Fin HF.out)
  clear h2 HF0
  have HP := hid_ (faultNew 150 oa)
  have HL := hid_ hl
  go_wp2_with fail
  refine (HP.out _ (by decide)).mono ?_
  rintro e w1 ⟨fb, rfl, hb, hge, hB'⟩
  have hFr := (Fr.of_below hb KOp : Fr KOp C0 C0 W2 w1)
  have br1 := br.fr hFr (by rw [HC0.out]; exact hk4)
  have r0 := br1.cell_ 0 rfl
  have r1 := br1.cell_ 1 rfl
  have r2 := br1.cell_ 2 rfl
  have r3 := br1.cell_ 3 rfl
  have z := fun j => br1.frozen j
  
  have Q := op_end (c := c) (A := A) (V := (0, 0)) (D := none) (E := some (150, low oa)) (rb := w.heap.size + 1 + 1) (by omega) (by have := HS.out; omega) F2 HC0.out hFr (show ErrO W2 w1 (faultV fb) (some (150, low oa)) from ⟨fb, rfl, hge, hB'⟩) (show ReadV w1 C0 (.slice none 0 0) (.bool false) none from ⟨rfl, rfl⟩) (HH.out.fr (Fr.of_below hb (fun _ => False)) HL.out (fun x hx => hx.elim)) HL.out
  clear hFr hB' br1 hb hge
  unfold faultV at Q ⊢
  have Q := hid_ Q
  go_wp2_with fail
  refine bodyPost_ret ((results_cell2 rfl _ _ _).trans ?_) rfl (Q.out _ _ _ _)
  go_simp

set_option maxRecDepth 100000 in
set_option maxHeartbeats 4000000 in
theorem op_m4lo (c : Cfg) (hg : Good c) (A : HA) (C : Nat → Nat) (lv : Nat → Value) (s : HSt) (dv : Value) (d : List UInt8) (w : World) (hf : Fin C w) (h : HW w C c A lv s) (op oa ob oc : Int) (q : oa < 0) :
    Calls Tryd.prog 27 #[.pointer (some ⟨A.pb, 0, none⟩), A.v, (OpT.mk 4 op oa ob oc d).v dv] w (OpP c A C w (opE c A.node A.part s ⟨4, op, oa, ob, oc, d⟩) (opV s ⟨4, op, oa, ob, oc, d⟩) (opD c A.node A.part s ⟨4, op, oa, ob, oc, d⟩) (opS c A.node A.part s ⟨4, op, oa, ob, oc, d⟩)) := by
  have hl : s.st.length ≤ 24 := by rw [h.ports.len]; exact nq24 hg
  unfold OpT.v HA.v hostV
  simp only
  have hE : opE c A.node A.part s ⟨4, op, oa, ob, oc, d⟩ = some (150, low oa) := by unfold opE; simp [q]
  have hV : opV s ⟨4, op, oa, ob, oc, d⟩ = (0, 0) := by unfold opV; simp [q]
  have hD : opD c A.node A.part s ⟨4, op, oa, ob, oc, d⟩ = none := by unfold opD; simp [q]
  have hS : opS c A.node A.part s ⟨4, op, oa, ob, oc, d⟩ = s := by unfold opS; simp [q]
  rw [hE, hV, hD, hS]
  clear hE hV hD hS

  have H := hid_ h
  have HF := hid_ hf
  clear h hf
  go_enter Tryd.func27, Tryd.ntmps27
  go_upto_region 1 with fail
  refine gen_world (fun W => Below w.heap.size w W ∧ W.heap.size = w.heap.size + 3 ∧ Bk W w.heap.size 40 [.pointer (some ⟨A.b, 0, none⟩), .pointer (some ⟨A.tb, 0, none⟩), .pointer (some ⟨A.mb, 0, none⟩), .pointer (some ⟨A.cb, 0, none⟩)] ∧ Bk W (w.heap.size + 1) 60 [.int .u8 4, .int .i64 op, .int .i64 oa, .int .i64 ob, .int .i64 oc, dv] ∧ Bk W (w.heap.size + 1 + 1) 56 [.int .i64 0, .int .i64 0, .slice none 0 0, .bool false])
    ⟨(((Below.refl _ _).alloc (Nat.le_refl _) _).alloc (by simp) _).alloc (by simp; omega) _, by simp, ((Bk.new _ _ _).alloc _).alloc _, (bkM (by simp)).alloc _, bkM (by simp)⟩ ?_
  rintro W ⟨hB, hsz, bh, bo, br⟩
  have x0 := bh.cell_ 0 rfl
  have x1 := bh.cell_ 1 rfl
  have x2 := bh.cell_ 2 rfl
  have x3 := bh.cell_ 3 rfl
  have o0 := bo.cell_ 0 rfl
  have o1 := bo.cell_ 1 rfl
  have o2 := bo.cell_ 2 rfl
  have o3 := bo.cell_ 3 rfl
  have o4 := bo.cell_ 4 rfl
  have o5 := bo.cell_ 5 rfl
  have r0 := br.cell_ 0 rfl
  have r1 := br.cell_ 1 rfl
  have r2 := br.cell_ 2 rfl
  have r3 := br.cell_ 3 rfl
  have z := fun j => br.frozen j
  obtain ⟨C0, F0, hC0, hC1, hC2⟩ : ∃ C0, Fr (fun _ => False) C C0 w W ∧ C0 (w.heap.size + 1 + 1) = 400 ∧ C0 w.heap.size = 0 ∧ C0 (w.heap.size + 1) = 0 := ⟨fun x => if x = w.heap.size + 1 + 1 then 400 else C x, (Fr.of_below hB _).recolour (fun x hx _ => if_neg (by omega)) (fun x hx => by rw [if_neg (by omega)]; exact HF.out x (by omega)), if_pos rfl, (if_neg (by omega)).trans (HF.out _ (by omega)), (if_neg (by omega)).trans (HF.out _ (by omega))⟩
  have HC0 := hid_ hC0
  have Fd : Fr (fun _ => False) C C0 w W.drew := F0.drew
  have HH := hid_ (H.out.fr F0 hl (fun x hx => hx.elim))
  have HHd := hid_ (H.out.fr Fd hl (fun x hx => hx.elim))
  have p11 := HH.out.apx.cells.2.1
  have p12 := HH.out.apx.cells.2.2
  have HF0 := hid_ (F0.Fin HF.out)
  have HFd := hid_ (Fd.Fin HF.out)
  have hk4 : ¬ KOp 400 := by unfold KOp; omega
  have HS := hid_ hsz
  have HC1 := hid_ hC1
  have HC2 := hid_ hC2
  clear hC0 hC1 hC2
  go_upto_region 9 with fail
  go_quiet (fail)
  go_upto_region 10 with fail
  refine gen_world (fun W2 => Fr (fun _ => False) C C0 w W2 ∧ W2.heap = W.heap) ⟨F0.drewN _, rfl⟩ ?_
  rintro W2 ⟨F2, h2⟩
  have bh := bh.same (show W2.heap[_]? = _ by rw [h2])
  have bo := bo.same (show W2.heap[_]? = _ by rw [h2])
  have br := br.same (show W2.heap[_]? = _ by rw [h2])
  clear x0 x1 x2 x3 o0 o1 o2 o3 o4 o5 r0 r1 r2 r3 z p11 p12 Fd HHd HFd
  have HS : Hid (W2.heap.size = w.heap.size + 3) := hid_ (by rw [h2]; exact HS.out)
  have x0 := bh.cell_ 0 rfl
  have x1 := bh.cell_ 1 rfl
  have x2 := bh.cell_ 2 rfl
  have x3 := bh.cell_ 3 rfl
  have o0 := bo.cell_ 0 rfl
  have o1 := bo.cell_ 1 rfl
  have o2 := bo.cell_ 2 rfl
  have o3 := bo.cell_ 3 rfl
  have o4 := bo.cell_ 4 rfl
  have o5 := bo.cell_ 5 rfl
  have r0 := br.cell_ 0 rfl
  have r1 := br.cell_ 1 rfl
  have r2 := br.cell_ 2 rfl
  have r3 := br.cell_ 3 rfl
  have z := fun j => br.frozen j
  have HH := hid_ (H.out.fr F2 hl (fun x hx => hx.elim))
  have p11 := HH.out.apx.cells.2.1
  have p12 := HH.out.apx.cells.2.2
  have HF2 := hid_ (F2.Fin HF.out)
  clear h2 HF0
  have HP := hid_ (faultNew 150 oa)
  have HL := hid_ hl
  go_wp2_with fail
  refine (HP.out _ (by decide)).mono ?_
  rintro e w1 ⟨fb, rfl, hb, hge, hB'⟩
  have hFr := (Fr.of_below hb KOp : Fr KOp C0 C0 W2 w1)
  have br1 := br.fr hFr (by rw [HC0.out]; exact hk4)
  have r0 := br1.cell_ 0 rfl
  have r1 := br1.cell_ 1 rfl
  have r2 := br1.cell_ 2 rfl
  have r3 := br1.cell_ 3 rfl
  have z := fun j => br1.frozen j
  
  have Q := op_end (c := c) (A := A) (V := (0, 0)) (D := none) (E := some (150, low oa)) (rb := w.heap.size + 1 + 1) (by omega) (by have := HS.out; omega) F2 HC0.out hFr (show ErrO W2 w1 (faultV fb) (some (150, low oa)) from ⟨fb, rfl, hge, hB'⟩) (show ReadV w1 C0 (.slice none 0 0) (.bool false) none from ⟨rfl, rfl⟩) (HH.out.fr (Fr.of_below hb (fun _ => False)) HL.out (fun x hx => hx.elim)) HL.out
  clear hFr hB' br1 hb hge
  unfold faultV at Q ⊢
  have Q := hid_ Q
  go_wp2_with fail
  refine bodyPost_ret ((results_cell2 rfl _ _ _).trans ?_) rfl (Q.out _ _ _ _)
  go_simp

set_option maxRecDepth 100000 in
set_option maxHeartbeats 4000000 in
theorem op_m4hi (c : Cfg) (hg : Good c) (A : HA) (C : Nat → Nat) (lv : Nat → Value) (s : HSt) (dv : Value) (d : List UInt8) (w : World) (hf : Fin C w) (h : HW w C c A lv s) (op oa ob oc : Int) (q : ¬ oa < 0) (q2 : (s.mem.length : Int) ≤ oa) :
    Calls Tryd.prog 27 #[.pointer (some ⟨A.pb, 0, none⟩), A.v, (OpT.mk 4 op oa ob oc d).v dv] w (OpP c A C w (opE c A.node A.part s ⟨4, op, oa, ob, oc, d⟩) (opV s ⟨4, op, oa, ob, oc, d⟩) (opD c A.node A.part s ⟨4, op, oa, ob, oc, d⟩) (opS c A.node A.part s ⟨4, op, oa, ob, oc, d⟩)) := by
  have hl : s.st.length ≤ 24 := by rw [h.ports.len]; exact nq24 hg
  unfold OpT.v HA.v hostV
  simp only
  have q3 : oa < 0 ∨ (s.mem.length : Int) ≤ oa := .inr q2
  have hE : opE c A.node A.part s ⟨4, op, oa, ob, oc, d⟩ = some (150, low oa) := by unfold opE; simp [q3]
  have hV : opV s ⟨4, op, oa, ob, oc, d⟩ = (0, 0) := by unfold opV; simp [q3]
  have hD : opD c A.node A.part s ⟨4, op, oa, ob, oc, d⟩ = none := by unfold opD; simp [q3]
  have hS : opS c A.node A.part s ⟨4, op, oa, ob, oc, d⟩ = s := by unfold opS; simp [q3]
  rw [hE, hV, hD, hS]
  clear hE hV hD hS
  clear q3

  have H := hid_ h
  have HF := hid_ hf
  clear h hf
  go_enter Tryd.func27, Tryd.ntmps27
  go_upto_region 1 with fail
  refine gen_world (fun W => Below w.heap.size w W ∧ W.heap.size = w.heap.size + 3 ∧ Bk W w.heap.size 40 [.pointer (some ⟨A.b, 0, none⟩), .pointer (some ⟨A.tb, 0, none⟩), .pointer (some ⟨A.mb, 0, none⟩), .pointer (some ⟨A.cb, 0, none⟩)] ∧ Bk W (w.heap.size + 1) 60 [.int .u8 4, .int .i64 op, .int .i64 oa, .int .i64 ob, .int .i64 oc, dv] ∧ Bk W (w.heap.size + 1 + 1) 56 [.int .i64 0, .int .i64 0, .slice none 0 0, .bool false])
    ⟨(((Below.refl _ _).alloc (Nat.le_refl _) _).alloc (by simp) _).alloc (by simp; omega) _, by simp, ((Bk.new _ _ _).alloc _).alloc _, (bkM (by simp)).alloc _, bkM (by simp)⟩ ?_
  rintro W ⟨hB, hsz, bh, bo, br⟩
  have x0 := bh.cell_ 0 rfl
  have x1 := bh.cell_ 1 rfl
  have x2 := bh.cell_ 2 rfl
  have x3 := bh.cell_ 3 rfl
  have o0 := bo.cell_ 0 rfl
  have o1 := bo.cell_ 1 rfl
  have o2 := bo.cell_ 2 rfl
  have o3 := bo.cell_ 3 rfl
  have o4 := bo.cell_ 4 rfl
  have o5 := bo.cell_ 5 rfl
  have r0 := br.cell_ 0 rfl
  have r1 := br.cell_ 1 rfl
  have r2 := br.cell_ 2 rfl
  have r3 := br.cell_ 3 rfl
  have z := fun j => br.frozen j
  obtain ⟨C0, F0, hC0, hC1, hC2⟩ : ∃ C0, Fr (fun _ => False) C C0 w W ∧ C0 (w.heap.size + 1 + 1) = 400 ∧ C0 w.heap.size = 0 ∧ C0 (w.heap.size + 1) = 0 := ⟨fun x => if x = w.heap.size + 1 + 1 then 400 else C x, (Fr.of_below hB _).recolour (fun x hx _ => if_neg (by omega)) (fun x hx => by rw [if_neg (by omega)]; exact HF.out x (by omega)), if_pos rfl, (if_neg (by omega)).trans (HF.out _ (by omega)), (if_neg (by omega)).trans (HF.out _ (by omega))⟩
  have HC0 := hid_ hC0
  have Fd : Fr (fun _ => False) C C0 w W.drew := F0.drew
  have HH := hid_ (H.out.fr F0 hl (fun x hx => hx.elim))
  have HHd := hid_ (H.out.fr Fd hl (fun x hx => hx.elim))
  have p11 := HH.out.apx.cells.2.1
  have p12 := HH.out.apx.cells.2.2
  have HF0 := hid_ (F0.Fin HF.out)
  have HFd := hid_ (Fd.Fin HF.out)
  have hk4 : ¬ KOp 400 := by unfold KOp; omega
  have HS := hid_ hsz
  have HC1 := hid_ hC1
  have HC2 := hid_ hC2
  clear hC0 hC1 hC2
  go_upto_region 9 with fail
  go_quiet (fail)
  go_upto_region 10 with fail
  refine gen_world (fun W2 => Fr (fun _ => False) C C0 w W2 ∧ W2.heap = W.heap) ⟨F0.drewN _, rfl⟩ ?_
  rintro W2 ⟨F2, h2⟩
  have bh := bh.same (show W2.heap[_]? = _ by rw [h2])
  have bo := bo.same (show W2.heap[_]? = _ by rw [h2])
  have br := br.same (show W2.heap[_]? = _ by rw [h2])
  clear x0 x1 x2 x3 o0 o1 o2 o3 o4 o5 r0 r1 r2 r3 z p11 p12 Fd HHd HFd
  have HS : Hid (W2.heap.size = w.heap.size + 3) := hid_ (by rw [h2]; exact HS.out)
  have x0 := bh.cell_ 0 rfl
  have x1 := bh.cell_ 1 rfl
  have x2 := bh.cell_ 2 rfl
  have x3 := bh.cell_ 3 rfl
  have o0 := bo.cell_ 0 rfl
  have o1 := bo.cell_ 1 rfl
  have o2 := bo.cell_ 2 rfl
  have o3 := bo.cell_ 3 rfl
  have o4 := bo.cell_ 4 rfl
  have o5 := bo.cell_ 5 rfl
  have r0 := br.cell_ 0 rfl
  have r1 := br.cell_ 1 rfl
  have r2 := br.cell_ 2 rfl
  have r3 := br.cell_ 3 rfl
  have z := fun j => br.frozen j
  have HH := hid_ (H.out.fr F2 hl (fun x hx => hx.elim))
  have p11 := HH.out.apx.cells.2.1
  have p12 := HH.out.apx.cells.2.2
  have HF2 := hid_ (F2.Fin HF.out)
  clear h2 HF0
  have HP := hid_ (faultNew 150 oa)
  have HL := hid_ hl
  go_wp2_with fail
  refine (HP.out _ (by decide)).mono ?_
  rintro e w1 ⟨fb, rfl, hb, hge, hB'⟩
  have hFr := (Fr.of_below hb KOp : Fr KOp C0 C0 W2 w1)
  have br1 := br.fr hFr (by rw [HC0.out]; exact hk4)
  have r0 := br1.cell_ 0 rfl
  have r1 := br1.cell_ 1 rfl
  have r2 := br1.cell_ 2 rfl
  have r3 := br1.cell_ 3 rfl
  have z := fun j => br1.frozen j
  
  have Q := op_end (c := c) (A := A) (V := (0, 0)) (D := none) (E := some (150, low oa)) (rb := w.heap.size + 1 + 1) (by omega) (by have := HS.out; omega) F2 HC0.out hFr (show ErrO W2 w1 (faultV fb) (some (150, low oa)) from ⟨fb, rfl, hge, hB'⟩) (show ReadV w1 C0 (.slice none 0 0) (.bool false) none from ⟨rfl, rfl⟩) (HH.out.fr (Fr.of_below hb (fun _ => False)) HL.out (fun x hx => hx.elim)) HL.out
  clear hFr hB' br1 hb hge
  unfold faultV at Q ⊢
  have Q := hid_ Q
  go_wp2_with fail
  refine bodyPost_ret ((results_cell2 rfl _ _ _).trans ?_) rfl (Q.out _ _ _ _)
  go_simp

set_option maxRecDepth 100000 in
set_option maxHeartbeats 4000000 in
theorem op_load (c : Cfg) (hg : Good c) (A : HA) (C : Nat → Nat) (lv : Nat → Value) (s : HSt) (dv : Value) (d : List UInt8) (w : World) (hf : Fin C w) (h : HW w C c A lv s) (op oa ob oc : Int) (q : ¬ oa < 0) (q2 : ¬ (s.mem.length : Int) ≤ oa) (hm : ∀ x ∈ s.mem, 0 ≤ x ∧ x < 65536) :
    Calls Tryd.prog 27 #[.pointer (some ⟨A.pb, 0, none⟩), A.v, (OpT.mk 4 op oa ob oc d).v dv] w (OpP c A C w (opE c A.node A.part s ⟨4, op, oa, ob, oc, d⟩) (opV s ⟨4, op, oa, ob, oc, d⟩) (opD c A.node A.part s ⟨4, op, oa, ob, oc, d⟩) (opS c A.node A.part s ⟨4, op, oa, ob, oc, d⟩)) := by
  have hl : s.st.length ≤ 24 := by rw [h.ports.len]; exact nq24 hg
  unfold OpT.v HA.v hostV
  simp only
  have q3 : ¬ (oa < 0 ∨ (s.mem.length : Int) ≤ oa) := by omega
  have hE : opE c A.node A.part s ⟨4, op, oa, ob, oc, d⟩ = none := by unfold opE; simp [q3]
  have hV : opV s ⟨4, op, oa, ob, oc, d⟩ = (0, s.mem.getD oa.toNat 0) := by unfold opV; simp [q3]
  have hD : opD c A.node A.part s ⟨4, op, oa, ob, oc, d⟩ = none := by unfold opD; simp [q3]
  have hS : opS c A.node A.part s ⟨4, op, oa, ob, oc, d⟩ = s := by unfold opS; simp [q3]
  rw [hE, hV, hD, hS]
  clear hE hV hD hS
  clear q3
  obtain ⟨xv, hxv⟩ : ∃ xv, s.mem.getD oa.toNat 0 = xv := ⟨_, rfl⟩
  rw [hxv]
  have HV := hid_ hxv
  clear hxv

  have H := hid_ h
  have HF := hid_ hf
  clear h hf
  go_enter Tryd.func27, Tryd.ntmps27
  go_upto_region 1 with fail
  refine gen_world (fun W => Below w.heap.size w W ∧ W.heap.size = w.heap.size + 3 ∧ Bk W w.heap.size 40 [.pointer (some ⟨A.b, 0, none⟩), .pointer (some ⟨A.tb, 0, none⟩), .pointer (some ⟨A.mb, 0, none⟩), .pointer (some ⟨A.cb, 0, none⟩)] ∧ Bk W (w.heap.size + 1) 60 [.int .u8 4, .int .i64 op, .int .i64 oa, .int .i64 ob, .int .i64 oc, dv] ∧ Bk W (w.heap.size + 1 + 1) 56 [.int .i64 0, .int .i64 0, .slice none 0 0, .bool false])
    ⟨(((Below.refl _ _).alloc (Nat.le_refl _) _).alloc (by simp) _).alloc (by simp; omega) _, by simp, ((Bk.new _ _ _).alloc _).alloc _, (bkM (by simp)).alloc _, bkM (by simp)⟩ ?_
  rintro W ⟨hB, hsz, bh, bo, br⟩
  have x0 := bh.cell_ 0 rfl
  have x1 := bh.cell_ 1 rfl
  have x2 := bh.cell_ 2 rfl
  have x3 := bh.cell_ 3 rfl
  have o0 := bo.cell_ 0 rfl
  have o1 := bo.cell_ 1 rfl
  have o2 := bo.cell_ 2 rfl
  have o3 := bo.cell_ 3 rfl
  have o4 := bo.cell_ 4 rfl
  have o5 := bo.cell_ 5 rfl
  have r0 := br.cell_ 0 rfl
  have r1 := br.cell_ 1 rfl
  have r2 := br.cell_ 2 rfl
  have r3 := br.cell_ 3 rfl
  have z := fun j => br.frozen j
  obtain ⟨C0, F0, hC0, hC1, hC2⟩ : ∃ C0, Fr (fun _ => False) C C0 w W ∧ C0 (w.heap.size + 1 + 1) = 400 ∧ C0 w.heap.size = 0 ∧ C0 (w.heap.size + 1) = 0 := ⟨fun x => if x = w.heap.size + 1 + 1 then 400 else C x, (Fr.of_below hB _).recolour (fun x hx _ => if_neg (by omega)) (fun x hx => by rw [if_neg (by omega)]; exact HF.out x (by omega)), if_pos rfl, (if_neg (by omega)).trans (HF.out _ (by omega)), (if_neg (by omega)).trans (HF.out _ (by omega))⟩
  have HC0 := hid_ hC0
  have Fd : Fr (fun _ => False) C C0 w W.drew := F0.drew
  have HH := hid_ (H.out.fr F0 hl (fun x hx => hx.elim))
  have HHd := hid_ (H.out.fr Fd hl (fun x hx => hx.elim))
  have p11 := HH.out.apx.cells.2.1
  have p12 := HH.out.apx.cells.2.2
  have HF0 := hid_ (F0.Fin HF.out)
  have HFd := hid_ (Fd.Fin HF.out)
  have hk4 : ¬ KOp 400 := by unfold KOp; omega
  have HS := hid_ hsz
  have HC1 := hid_ hC1
  have HC2 := hid_ hC2
  clear hC0 hC1 hC2
  go_upto_region 9 with fail
  go_quiet (fail)
  go_upto_region 13 with fail
  refine gen_world (fun W2 => Fr (fun _ => False) C C0 w W2 ∧ W2.heap = W.heap) ⟨F0.drewN _, rfl⟩ ?_
  rintro W2 ⟨F2, h2⟩
  have bh := bh.same (show W2.heap[_]? = _ by rw [h2])
  have bo := bo.same (show W2.heap[_]? = _ by rw [h2])
  have br := br.same (show W2.heap[_]? = _ by rw [h2])
  clear x0 x1 x2 x3 o0 o1 o2 o3 o4 o5 r0 r1 r2 r3 z p11 p12 Fd HHd HFd
  have HS : Hid (W2.heap.size = w.heap.size + 3) := hid_ (by rw [h2]; exact HS.out)
  have x0 := bh.cell_ 0 rfl
  have x1 := bh.cell_ 1 rfl
  have x2 := bh.cell_ 2 rfl
  have x3 := bh.cell_ 3 rfl
  have o0 := bo.cell_ 0 rfl
  have o1 := bo.cell_ 1 rfl
  have o2 := bo.cell_ 2 rfl
  have o3 := bo.cell_ 3 rfl
  have o4 := bo.cell_ 4 rfl
  have o5 := bo.cell_ 5 rfl
  have r0 := br.cell_ 0 rfl
  have r1 := br.cell_ 1 rfl
  have r2 := br.cell_ 2 rfl
  have r3 := br.cell_ 3 rfl
  have z := fun j => br.frozen j
  have HH := hid_ (H.out.fr F2 hl (fun x hx => hx.elim))
  have p11 := HH.out.apx.cells.2.1
  have p12 := HH.out.apx.cells.2.2
  have HF2 := hid_ (F2.Fin HF.out)
  clear h2 HF0
  obtain ⟨i, rfl⟩ := Int.eq_ofNat_of_zero_le (Int.not_lt.mp q)
  have hi : i < s.mem.length := by omega
  have hu : (u16s s.mem)[i]? = some (.int .u16 (s.mem.getD i 0)) := by unfold u16s; simp [hi]
  have hc := HH.out.apx.words.cell_ i hu
  have hz := fun j => HH.out.apx.words.frozen j
  have hr := hm _ (show s.mem.getD i 0 ∈ s.mem by rw [List.getD_eq_getElem?_getD, List.getElem?_eq_getElem hi]; exact List.getElem_mem hi)
  have hxv := HV.out
  rw [Int.toNat_natCast] at hxv
  rw [hxv] at hc hr
  clear hxv
  have HL := hid_ hl
  have Q := op_end (c := c) (A := A) (V := (0, xv)) (D := none) (E := none) (ev := .nilIface) (rb := w.heap.size + 1 + 1) (by omega) (by have := HS.out; omega) F2 HC0.out (Fr.refl _ _ _) rfl (show ReadV W2 C0 (.slice none 0 0) (.bool false) none from ⟨rfl, rfl⟩) (H.out.fr F2 HL.out (fun x hx => hx.elim)) HL.out
  have Q := hid_ Q
  go_region
  go_wp2_with fail
  refine bodyPost_ret ((results_cell2 rfl _ _ _).trans ?_) rfl ((Q.out _ _ _ _).drew HL.out)
  go_simp

set_option maxRecDepth 100000 in
set_option maxHeartbeats 4000000 in
theorem op_store (c : Cfg) (hg : Good c) (A : HA) (C : Nat → Nat) (lv : Nat → Value) (s : HSt) (dv : Value) (d : List UInt8) (w : World) (hf : Fin C w) (h : HW w C c A lv s) (op oa ob oc : Int) (q : ¬ oa < 0) (q2 : ¬ (s.mem.length : Int) ≤ oa) (hm : ∀ x ∈ s.mem, 0 ≤ x ∧ x < 65536) :
    Calls Tryd.prog 27 #[.pointer (some ⟨A.pb, 0, none⟩), A.v, (OpT.mk 3 op oa ob oc d).v dv] w (OpP c A C w (opE c A.node A.part s ⟨3, op, oa, ob, oc, d⟩) (opV s ⟨3, op, oa, ob, oc, d⟩) (opD c A.node A.part s ⟨3, op, oa, ob, oc, d⟩) (opS c A.node A.part s ⟨3, op, oa, ob, oc, d⟩)) := by
  have hl : s.st.length ≤ 24 := by rw [h.ports.len]; exact nq24 hg
  unfold OpT.v HA.v hostV
  simp only
  have q3 : ¬ (oa < 0 ∨ (s.mem.length : Int) ≤ oa) := by omega
  have hE : opE c A.node A.part s ⟨3, op, oa, ob, oc, d⟩ = none := by unfold opE; simp [q3]
  have hV : opV s ⟨3, op, oa, ob, oc, d⟩ = (0, w16 ob) := by unfold opV; simp [q3]
  have hD : opD c A.node A.part s ⟨3, op, oa, ob, oc, d⟩ = none := by unfold opD; simp [q3]
  have hS : opS c A.node A.part s ⟨3, op, oa, ob, oc, d⟩ = ⟨s.st, s.f, s.cmd, s.mem.set oa.toNat (w16 ob)⟩ := by unfold opS; simp [q3]
  rw [hE, hV, hD, hS]
  clear hE hV hD hS
  clear q3

  have H := hid_ h
  have HF := hid_ hf
  clear h hf
  go_enter Tryd.func27, Tryd.ntmps27
  go_upto_region 1 with fail
  refine gen_world (fun W => Below w.heap.size w W ∧ W.heap.size = w.heap.size + 3 ∧ Bk W w.heap.size 40 [.pointer (some ⟨A.b, 0, none⟩), .pointer (some ⟨A.tb, 0, none⟩), .pointer (some ⟨A.mb, 0, none⟩), .pointer (some ⟨A.cb, 0, none⟩)] ∧ Bk W (w.heap.size + 1) 60 [.int .u8 3, .int .i64 op, .int .i64 oa, .int .i64 ob, .int .i64 oc, dv] ∧ Bk W (w.heap.size + 1 + 1) 56 [.int .i64 0, .int .i64 0, .slice none 0 0, .bool false])
    ⟨(((Below.refl _ _).alloc (Nat.le_refl _) _).alloc (by simp) _).alloc (by simp; omega) _, by simp, ((Bk.new _ _ _).alloc _).alloc _, (bkM (by simp)).alloc _, bkM (by simp)⟩ ?_
  rintro W ⟨hB, hsz, bh, bo, br⟩
  have x0 := bh.cell_ 0 rfl
  have x1 := bh.cell_ 1 rfl
  have x2 := bh.cell_ 2 rfl
  have x3 := bh.cell_ 3 rfl
  have o0 := bo.cell_ 0 rfl
  have o1 := bo.cell_ 1 rfl
  have o2 := bo.cell_ 2 rfl
  have o3 := bo.cell_ 3 rfl
  have o4 := bo.cell_ 4 rfl
  have o5 := bo.cell_ 5 rfl
  have r0 := br.cell_ 0 rfl
  have r1 := br.cell_ 1 rfl
  have r2 := br.cell_ 2 rfl
  have r3 := br.cell_ 3 rfl
  have z := fun j => br.frozen j
  obtain ⟨C0, F0, hC0, hC1, hC2⟩ : ∃ C0, Fr (fun _ => False) C C0 w W ∧ C0 (w.heap.size + 1 + 1) = 400 ∧ C0 w.heap.size = 0 ∧ C0 (w.heap.size + 1) = 0 := ⟨fun x => if x = w.heap.size + 1 + 1 then 400 else C x, (Fr.of_below hB _).recolour (fun x hx _ => if_neg (by omega)) (fun x hx => by rw [if_neg (by omega)]; exact HF.out x (by omega)), if_pos rfl, (if_neg (by omega)).trans (HF.out _ (by omega)), (if_neg (by omega)).trans (HF.out _ (by omega))⟩
  have HC0 := hid_ hC0
  have Fd : Fr (fun _ => False) C C0 w W.drew := F0.drew
  have HH := hid_ (H.out.fr F0 hl (fun x hx => hx.elim))
  have HHd := hid_ (H.out.fr Fd hl (fun x hx => hx.elim))
  have p11 := HH.out.apx.cells.2.1
  have p12 := HH.out.apx.cells.2.2
  have HF0 := hid_ (F0.Fin HF.out)
  have HFd := hid_ (Fd.Fin HF.out)
  have hk4 : ¬ KOp 400 := by unfold KOp; omega
  have HS := hid_ hsz
  have HC1 := hid_ hC1
  have HC2 := hid_ hC2
  clear hC0 hC1 hC2
  go_upto_region 9 with fail
  go_quiet (fail)
  go_upto_region 12 with fail
  refine gen_world (fun W2 => Fr (fun _ => False) C C0 w W2 ∧ W2.heap = W.heap) ⟨F0.drewN _, rfl⟩ ?_
  rintro W2 ⟨F2, h2⟩
  have bh := bh.same (show W2.heap[_]? = _ by rw [h2])
  have bo := bo.same (show W2.heap[_]? = _ by rw [h2])
  have br := br.same (show W2.heap[_]? = _ by rw [h2])
  clear x0 x1 x2 x3 o0 o1 o2 o3 o4 o5 r0 r1 r2 r3 z p11 p12 Fd HHd HFd
  have HS : Hid (W2.heap.size = w.heap.size + 3) := hid_ (by rw [h2]; exact HS.out)
  have x0 := bh.cell_ 0 rfl
  have x1 := bh.cell_ 1 rfl
  have x2 := bh.cell_ 2 rfl
  have x3 := bh.cell_ 3 rfl
  have o0 := bo.cell_ 0 rfl
  have o1 := bo.cell_ 1 rfl
  have o2 := bo.cell_ 2 rfl
  have o3 := bo.cell_ 3 rfl
  have o4 := bo.cell_ 4 rfl
  have o5 := bo.cell_ 5 rfl
  have r0 := br.cell_ 0 rfl
  have r1 := br.cell_ 1 rfl
  have r2 := br.cell_ 2 rfl
  have r3 := br.cell_ 3 rfl
  have z := fun j => br.frozen j
  have HH := hid_ (H.out.fr F2 hl (fun x hx => hx.elim))
  have p11 := HH.out.apx.cells.2.1
  have p12 := HH.out.apx.cells.2.2
  have HF2 := hid_ (F2.Fin HF.out)
  clear h2 HF0
  obtain ⟨i, rfl⟩ := Int.eq_ofNat_of_zero_le (Int.not_lt.mp q)
  have hi : i < s.mem.length := by omega
  have hu : (u16s s.mem)[i]? = some (.int .u16 (s.mem.getD i 0)) := by unfold u16s; simp [hi]
  have hc := HH.out.apx.words.cell_ i hu
  have hz := fun j => HH.out.apx.words.frozen j
  have hr := hm _ (show s.mem.getD i 0 ∈ s.mem by rw [List.getD_eq_getElem?_getD, List.getElem?_eq_getElem hi]; exact List.getElem_mem hi)
  rw [Int.toNat_natCast]
  have hw := w16_rng ob
  obtain ⟨yv, hyv⟩ : ∃ yv, w16 ob = yv := ⟨_, rfl⟩
  have hyw : IntKind.u16.wrap ob = yv := hyv
  rw [hyv] at hw ⊢
  obtain ⟨G1, G2⟩ := HH.out.apx.set (by decide) i yv
  go_region
  go_upto_region 13 with fail
  refine gen_world (fun W3 => Fr (· = 330) C0 C0 W2 W3 ∧ W3.heap = (W2.setCell ⟨A.xb, i, none⟩ (.int .u16 yv)).heap) ⟨G1.drew, rfl⟩ ?_
  rintro W3 ⟨G3, h3⟩
  have bh := bh.fr G3 (by rw [HC1.out]; omega)
  have bo := bo.fr G3 (by rw [HC2.out]; omega)
  have br := br.fr G3 (by rw [HC0.out]; omega)
  have hxI : IsApx W3 C0 330 A.pb A.xb c A.pv2 A.qv2 A.rv2 A.part (s.mem.set i yv) := G2.fr_heap h3 (HH.out.apx.lists.fr G3 (by omega))
  have hH3 : HW W3 C0 c A lv ⟨s.st, s.f, s.cmd, s.mem.set i yv⟩ := ⟨HH.out.ports.fr G3 (by omega) hl, HH.out.nab, HH.out.tab.fr G3 (by omega), HH.out.cmd.fr G3 (by rw [HH.out.ccol]; omega), HH.out.ccol, hxI⟩
  have p12 := hxI.cells.2.2
  have hc : W3.cell? ⟨A.xb, i, none⟩ = some (.int .u16 yv) := hxI.words.cell_ i (by unfold u16s; simp [hi])
  have HL := hid_ hl
  have Q := op_end (c := c) (A := A) (V := (0, yv)) (D := none) (E := none) (ev := .nilIface) (rb := w.heap.size + 1 + 1) (by omega) (by have := HS.out; omega) F2 HC0.out (G3.mono fun x hx => .inr (.inr hx)) rfl (show ReadV W3 C0 (.slice none 0 0) (.bool false) none from ⟨rfl, rfl⟩) hH3 HL.out
  have Q := hid_ Q
  have r0 := br.cell_ 0 rfl
  have r1 := br.cell_ 1 rfl
  have r2 := br.cell_ 2 rfl
  have r3 := br.cell_ 3 rfl
  have z := fun j => br.frozen j
  have o0 := bo.cell_ 0 rfl
  have o2 := bo.cell_ 2 rfl
  clear G1 G2 h3 hH3 hxI
  go_region
  go_wp2_with fail
  refine bodyPost_ret ((results_cell2 rfl _ _ _).trans ?_) rfl ((Q.out _ _ _ _).drew HL.out)
  go_simp
end Go.Proofs.YtlgjaoijgkdmiaaDoor
