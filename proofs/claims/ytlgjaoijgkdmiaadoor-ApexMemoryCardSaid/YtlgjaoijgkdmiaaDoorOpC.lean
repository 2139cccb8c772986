/- apex.Partition.op: commands and asking. Printed by gen_op.py. No condition but that the tables work. -/
import Derived.Test.YtlgjaoijgkdmiaaDoorOp0
import Derived.Deep.RegionLaw
import Derived.Deep.RegionHeld3
set_option linter.unusedSimpArgs false
set_option linter.unusedVariables false
namespace Go.Proofs.YtlgjaoijgkdmiaaDoor
open Go.RowKit Go.Maps

set_option maxRecDepth 100000 in
set_option maxHeartbeats 4000000 in
theorem op_cmd7 (c : Cfg) (hg : Good c) (A : HA) (C : Nat → Nat) (lv : Nat → Value) (s : HSt) (dv : Value) (d : List UInt8) (w : World) (hf : Fin C w) (h : HW w C c A lv s) (op oa ob oc : Int)  :
    Calls Tryd.prog 27 #[.pointer (some ⟨A.pb, 0, none⟩), A.v, (OpT.mk 7 op oa ob oc d).v dv] w (OpP c A C w (opE c A.node A.part s ⟨7, op, oa, ob, oc, d⟩) (opV s ⟨7, op, oa, ob, oc, d⟩) (opD c A.node A.part s ⟨7, op, oa, ob, oc, d⟩) (opS c A.node A.part s ⟨7, op, oa, ob, oc, d⟩)) := by
  have hl : s.st.length ≤ 24 := by rw [h.ports.len]; exact nq24 hg
  unfold OpT.v HA.v hostV
  simp only
  have hE : opE c A.node A.part s ⟨7, op, oa, ob, oc, d⟩ = cmdE s.cmd A.part ⟨7, op, oa, ob, oc, d⟩ := by unfold opE; simp
  have hV : opV s ⟨7, op, oa, ob, oc, d⟩ = (0, 0) := by unfold opV; simp
  have hD : opD c A.node A.part s ⟨7, op, oa, ob, oc, d⟩ = none := by unfold opD; simp
  have hS : opS c A.node A.part s ⟨7, op, oa, ob, oc, d⟩ = ⟨s.st, s.f, cmdM s.cmd ⟨7, op, oa, ob, oc, d⟩, s.mem⟩ := by unfold opS; simp
  rw [hE, hV, hD, hS]
  clear hE hV hD hS

  have H := hid_ h
  have HF := hid_ hf
  clear h hf
  go_enter Tryd.func27, Tryd.ntmps27
  go_upto_region 1 with fail
  refine gen_world (fun W => Below w.heap.size w W ∧ W.heap.size = w.heap.size + 3 ∧ Bk W w.heap.size 40 [.pointer (some ⟨A.b, 0, none⟩), .pointer (some ⟨A.tb, 0, none⟩), .pointer (some ⟨A.mb, 0, none⟩), .pointer (some ⟨A.cb, 0, none⟩)] ∧ Bk W (w.heap.size + 1) 60 [.int .u8 7, .int .i64 op, .int .i64 oa, .int .i64 ob, .int .i64 oc, dv] ∧ Bk W (w.heap.size + 1 + 1) 56 [.int .i64 0, .int .i64 0, .slice none 0 0, .bool false])
    ⟨(((Below.refl _ _).alloc (Nat.le_refl _) _).alloc (by simp) _).alloc (by simp; omega) _, by simp, ((Bk.new _ _ _).alloc _).alloc _, (bkM (by simp)).alloc _, bkM (by simp)⟩ ?_
  rintro W ⟨hB, hsz, bh, bo, br⟩
  have x0 := bh.cell_ 0 rfl
  have x1 := bh.cell_ 1 rfl
  have x2 := bh.cell_ 2 rfl
  have x3 := bh.cell_ 3 rfl
  have o0 := bo.cell_ 0 rfl
  have o1 := bo.cell_ 1 rfl
  have o2 := bo.cell_ 2 rfl
  have o3 := bo.cell_ 3 rfl
  have o4 := bo.cell_ 4 rfl
  have o5 := bo.cell_ 5 rfl
  have r0 := br.cell_ 0 rfl
  have r1 := br.cell_ 1 rfl
  have r2 := br.cell_ 2 rfl
  have r3 := br.cell_ 3 rfl
  have z := fun j => br.frozen j
  obtain ⟨C0, F0, hC0, hC1, hC2⟩ : ∃ C0, Fr (fun _ => False) C C0 w W ∧ C0 (w.heap.size + 1 + 1) = 400 ∧ C0 w.heap.size = 0 ∧ C0 (w.heap.size + 1) = 0 := ⟨fun x => if x = w.heap.size + 1 + 1 then 400 else C x, (Fr.of_below hB _).recolour (fun x hx _ => if_neg (by omega)) (fun x hx => by rw [if_neg (by omega)]; exact HF.out x (by omega)), if_pos rfl, (if_neg (by omega)).trans (HF.out _ (by omega)), (if_neg (by omega)).trans (HF.out _ (by omega))⟩
  have HC0 := hid_ hC0
  have Fd : Fr (fun _ => False) C C0 w W.drew := F0.drew
  have HH := hid_ (H.out.fr F0 hl (fun x hx => hx.elim))
  have HHd := hid_ (H.out.fr Fd hl (fun x hx => hx.elim))
  have p11 := HH.out.apx.cells.2.1
  have p12 := HH.out.apx.cells.2.2
  have HF0 := hid_ (F0.Fin HF.out)
  have HFd := hid_ (Fd.Fin HF.out)
  have hk4 : ¬ KOp 400 := by unfold KOp; omega
  have HS := hid_ hsz
  have HC1 := hid_ hC1
  have HC2 := hid_ hC2
  clear hC0 hC1 hC2
  have HP := hid_ (apxCommand C0 330 320 A.pb A.xb (by decide) (by decide) c A.pv2 A.qv2 A.rv2 A.part s.mem A.b A.tb A.mb A.cb ⟨7, op, oa, ob, oc, d⟩ dv s.cmd W (by simp) HF0.out HH.out.apx HH.out.cmd HH.out.ccol)
  have HL := hid_ hl
  go_wp2_with fail
  refine HP.out.mono ?_
  rintro e w1 ⟨ev, rfl, hE, hFr, hB'⟩
  have br1 := br.fr hFr (by rw [HC0.out]; omega)
  have r0 := br1.cell_ 0 rfl
  have r1 := br1.cell_ 1 rfl
  have r2 := br1.cell_ 2 rfl
  have r3 := br1.cell_ 3 rfl
  have z := fun j => br1.frozen j
  have hH3 : HW w1 C0 c A lv ⟨s.st, s.f, cmdM s.cmd ⟨7, op, oa, ob, oc, d⟩, s.mem⟩ := ⟨HH.out.ports.fr hFr (by omega) HL.out, HH.out.nab, HH.out.tab.fr hFr (by omega), hB', HH.out.ccol, HH.out.apx.fr hFr ⟨by omega, by omega⟩⟩
  have Q := op_end (c := c) (A := A) (V := (0, 0)) (D := none) (rb := w.heap.size + 1 + 1) (by omega) (by have := HS.out; omega) F0 HC0.out (hFr.mono fun x hx => .inr (.inl hx)) hE (show ReadV w1 C0 (.slice none 0 0) (.bool false) none from ⟨rfl, rfl⟩) hH3 HL.out
  have Q := hid_ Q
  clear hE hFr hB' hH3 br1
  go_wp2_with fail
  refine bodyPost_ret ((results_cell2 rfl _ _ _).trans ?_) rfl (Q.out _ _ _ _)
  go_simp

set_option maxRecDepth 100000 in
set_option maxHeartbeats 4000000 in
theorem op_cmd8 (c : Cfg) (hg : Good c) (A : HA) (C : Nat → Nat) (lv : Nat → Value) (s : HSt) (dv : Value) (d : List UInt8) (w : World) (hf : Fin C w) (h : HW w C c A lv s) (op oa ob oc : Int)  :
    Calls Tryd.prog 27 #[.pointer (some ⟨A.pb, 0, none⟩), A.v, (OpT.mk 8 op oa ob oc d).v dv] w (OpP c A C w (opE c A.node A.part s ⟨8, op, oa, ob, oc, d⟩) (opV s ⟨8, op, oa, ob, oc, d⟩) (opD c A.node A.part s ⟨8, op, oa, ob, oc, d⟩) (opS c A.node A.part s ⟨8, op, oa, ob, oc, d⟩)) := by
  have hl : s.st.length ≤ 24 := by rw [h.ports.len]; exact nq24 hg
  unfold OpT.v HA.v hostV
  simp only
  have hE : opE c A.node A.part s ⟨8, op, oa, ob, oc, d⟩ = cmdE s.cmd A.part ⟨8, op, oa, ob, oc, d⟩ := by unfold opE; simp
  have hV : opV s ⟨8, op, oa, ob, oc, d⟩ = (0, 0) := by unfold opV; simp
  have hD : opD c A.node A.part s ⟨8, op, oa, ob, oc, d⟩ = none := by unfold opD; simp
  have hS : opS c A.node A.part s ⟨8, op, oa, ob, oc, d⟩ = ⟨s.st, s.f, cmdM s.cmd ⟨8, op, oa, ob, oc, d⟩, s.mem⟩ := by unfold opS; simp
  rw [hE, hV, hD, hS]
  clear hE hV hD hS

  have H := hid_ h
  have HF := hid_ hf
  clear h hf
  go_enter Tryd.func27, Tryd.ntmps27
  go_upto_region 1 with fail
  refine gen_world (fun W => Below w.heap.size w W ∧ W.heap.size = w.heap.size + 3 ∧ Bk W w.heap.size 40 [.pointer (some ⟨A.b, 0, none⟩), .pointer (some ⟨A.tb, 0, none⟩), .pointer (some ⟨A.mb, 0, none⟩), .pointer (some ⟨A.cb, 0, none⟩)] ∧ Bk W (w.heap.size + 1) 60 [.int .u8 8, .int .i64 op, .int .i64 oa, .int .i64 ob, .int .i64 oc, dv] ∧ Bk W (w.heap.size + 1 + 1) 56 [.int .i64 0, .int .i64 0, .slice none 0 0, .bool false])
    ⟨(((Below.refl _ _).alloc (Nat.le_refl _) _).alloc (by simp) _).alloc (by simp; omega) _, by simp, ((Bk.new _ _ _).alloc _).alloc _, (bkM (by simp)).alloc _, bkM (by simp)⟩ ?_
  rintro W ⟨hB, hsz, bh, bo, br⟩
  have x0 := bh.cell_ 0 rfl
  have x1 := bh.cell_ 1 rfl
  have x2 := bh.cell_ 2 rfl
  have x3 := bh.cell_ 3 rfl
  have o0 := bo.cell_ 0 rfl
  have o1 := bo.cell_ 1 rfl
  have o2 := bo.cell_ 2 rfl
  have o3 := bo.cell_ 3 rfl
  have o4 := bo.cell_ 4 rfl
  have o5 := bo.cell_ 5 rfl
  have r0 := br.cell_ 0 rfl
  have r1 := br.cell_ 1 rfl
  have r2 := br.cell_ 2 rfl
  have r3 := br.cell_ 3 rfl
  have z := fun j => br.frozen j
  obtain ⟨C0, F0, hC0, hC1, hC2⟩ : ∃ C0, Fr (fun _ => False) C C0 w W ∧ C0 (w.heap.size + 1 + 1) = 400 ∧ C0 w.heap.size = 0 ∧ C0 (w.heap.size + 1) = 0 := ⟨fun x => if x = w.heap.size + 1 + 1 then 400 else C x, (Fr.of_below hB _).recolour (fun x hx _ => if_neg (by omega)) (fun x hx => by rw [if_neg (by omega)]; exact HF.out x (by omega)), if_pos rfl, (if_neg (by omega)).trans (HF.out _ (by omega)), (if_neg (by omega)).trans (HF.out _ (by omega))⟩
  have HC0 := hid_ hC0
  have Fd : Fr (fun _ => False) C C0 w W.drew := F0.drew
  have HH := hid_ (H.out.fr F0 hl (fun x hx => hx.elim))
  have HHd := hid_ (H.out.fr Fd hl (fun x hx => hx.elim))
  have p11 := HH.out.apx.cells.2.1
  have p12 := HH.out.apx.cells.2.2
  have HF0 := hid_ (F0.Fin HF.out)
  have HFd := hid_ (Fd.Fin HF.out)
  have hk4 : ¬ KOp 400 := by unfold KOp; omega
  have HS := hid_ hsz
  have HC1 := hid_ hC1
  have HC2 := hid_ hC2
  clear hC0 hC1 hC2
  have HP := hid_ (apxCommand C0 330 320 A.pb A.xb (by decide) (by decide) c A.pv2 A.qv2 A.rv2 A.part s.mem A.b A.tb A.mb A.cb ⟨8, op, oa, ob, oc, d⟩ dv s.cmd W (by simp) HF0.out HH.out.apx HH.out.cmd HH.out.ccol)
  have HL := hid_ hl
  go_wp2_with fail
  refine HP.out.mono ?_
  rintro e w1 ⟨ev, rfl, hE, hFr, hB'⟩
  have br1 := br.fr hFr (by rw [HC0.out]; omega)
  have r0 := br1.cell_ 0 rfl
  have r1 := br1.cell_ 1 rfl
  have r2 := br1.cell_ 2 rfl
  have r3 := br1.cell_ 3 rfl
  have z := fun j => br1.frozen j
  have hH3 : HW w1 C0 c A lv ⟨s.st, s.f, cmdM s.cmd ⟨8, op, oa, ob, oc, d⟩, s.mem⟩ := ⟨HH.out.ports.fr hFr (by omega) HL.out, HH.out.nab, HH.out.tab.fr hFr (by omega), hB', HH.out.ccol, HH.out.apx.fr hFr ⟨by omega, by omega⟩⟩
  have Q := op_end (c := c) (A := A) (V := (0, 0)) (D := none) (rb := w.heap.size + 1 + 1) (by omega) (by have := HS.out; omega) F0 HC0.out (hFr.mono fun x hx => .inr (.inl hx)) hE (show ReadV w1 C0 (.slice none 0 0) (.bool false) none from ⟨rfl, rfl⟩) hH3 HL.out
  have Q := hid_ Q
  clear hE hFr hB' hH3 br1
  go_wp2_with fail
  refine bodyPost_ret ((results_cell2 rfl _ _ _).trans ?_) rfl (Q.out _ _ _ _)
  go_simp

set_option maxRecDepth 100000 in
set_option maxHeartbeats 4000000 in
theorem op_cmd9 (c : Cfg) (hg : Good c) (A : HA) (C : Nat → Nat) (lv : Nat → Value) (s : HSt) (dv : Value) (d : List UInt8) (w : World) (hf : Fin C w) (h : HW w C c A lv s) (op oa ob oc : Int)  :
    Calls Tryd.prog 27 #[.pointer (some ⟨A.pb, 0, none⟩), A.v, (OpT.mk 9 op oa ob oc d).v dv] w (OpP c A C w (opE c A.node A.part s ⟨9, op, oa, ob, oc, d⟩) (opV s ⟨9, op, oa, ob, oc, d⟩) (opD c A.node A.part s ⟨9, op, oa, ob, oc, d⟩) (opS c A.node A.part s ⟨9, op, oa, ob, oc, d⟩)) := by
  have hl : s.st.length ≤ 24 := by rw [h.ports.len]; exact nq24 hg
  unfold OpT.v HA.v hostV
  simp only
  have hE : opE c A.node A.part s ⟨9, op, oa, ob, oc, d⟩ = cmdE s.cmd A.part ⟨9, op, oa, ob, oc, d⟩ := by unfold opE; simp
  have hV : opV s ⟨9, op, oa, ob, oc, d⟩ = (0, 0) := by unfold opV; simp
  have hD : opD c A.node A.part s ⟨9, op, oa, ob, oc, d⟩ = none := by unfold opD; simp
  have hS : opS c A.node A.part s ⟨9, op, oa, ob, oc, d⟩ = ⟨s.st, s.f, cmdM s.cmd ⟨9, op, oa, ob, oc, d⟩, s.mem⟩ := by unfold opS; simp
  rw [hE, hV, hD, hS]
  clear hE hV hD hS

  have H := hid_ h
  have HF := hid_ hf
  clear h hf
  go_enter Tryd.func27, Tryd.ntmps27
  go_upto_region 1 with fail
  refine gen_world (fun W => Below w.heap.size w W ∧ W.heap.size = w.heap.size + 3 ∧ Bk W w.heap.size 40 [.pointer (some ⟨A.b, 0, none⟩), .pointer (some ⟨A.tb, 0, none⟩), .pointer (some ⟨A.mb, 0, none⟩), .pointer (some ⟨A.cb, 0, none⟩)] ∧ Bk W (w.heap.size + 1) 60 [.int .u8 9, .int .i64 op, .int .i64 oa, .int .i64 ob, .int .i64 oc, dv] ∧ Bk W (w.heap.size + 1 + 1) 56 [.int .i64 0, .int .i64 0, .slice none 0 0, .bool false])
    ⟨(((Below.refl _ _).alloc (Nat.le_refl _) _).alloc (by simp) _).alloc (by simp; omega) _, by simp, ((Bk.new _ _ _).alloc _).alloc _, (bkM (by simp)).alloc _, bkM (by simp)⟩ ?_
  rintro W ⟨hB, hsz, bh, bo, br⟩
  have x0 := bh.cell_ 0 rfl
  have x1 := bh.cell_ 1 rfl
  have x2 := bh.cell_ 2 rfl
  have x3 := bh.cell_ 3 rfl
  have o0 := bo.cell_ 0 rfl
  have o1 := bo.cell_ 1 rfl
  have o2 := bo.cell_ 2 rfl
  have o3 := bo.cell_ 3 rfl
  have o4 := bo.cell_ 4 rfl
  have o5 := bo.cell_ 5 rfl
  have r0 := br.cell_ 0 rfl
  have r1 := br.cell_ 1 rfl
  have r2 := br.cell_ 2 rfl
  have r3 := br.cell_ 3 rfl
  have z := fun j => br.frozen j
  obtain ⟨C0, F0, hC0, hC1, hC2⟩ : ∃ C0, Fr (fun _ => False) C C0 w W ∧ C0 (w.heap.size + 1 + 1) = 400 ∧ C0 w.heap.size = 0 ∧ C0 (w.heap.size + 1) = 0 := ⟨fun x => if x = w.heap.size + 1 + 1 then 400 else C x, (Fr.of_below hB _).recolour (fun x hx _ => if_neg (by omega)) (fun x hx => by rw [if_neg (by omega)]; exact HF.out x (by omega)), if_pos rfl, (if_neg (by omega)).trans (HF.out _ (by omega)), (if_neg (by omega)).trans (HF.out _ (by omega))⟩
  have HC0 := hid_ hC0
  have Fd : Fr (fun _ => False) C C0 w W.drew := F0.drew
  have HH := hid_ (H.out.fr F0 hl (fun x hx => hx.elim))
  have HHd := hid_ (H.out.fr Fd hl (fun x hx => hx.elim))
  have p11 := HH.out.apx.cells.2.1
  have p12 := HH.out.apx.cells.2.2
  have HF0 := hid_ (F0.Fin HF.out)
  have HFd := hid_ (Fd.Fin HF.out)
  have hk4 : ¬ KOp 400 := by unfold KOp; omega
  have HS := hid_ hsz
  have HC1 := hid_ hC1
  have HC2 := hid_ hC2
  clear hC0 hC1 hC2
  have HP := hid_ (apxCommand C0 330 320 A.pb A.xb (by decide) (by decide) c A.pv2 A.qv2 A.rv2 A.part s.mem A.b A.tb A.mb A.cb ⟨9, op, oa, ob, oc, d⟩ dv s.cmd W (by simp) HF0.out HH.out.apx HH.out.cmd HH.out.ccol)
  have HL := hid_ hl
  go_wp2_with fail
  refine HP.out.mono ?_
  rintro e w1 ⟨ev, rfl, hE, hFr, hB'⟩
  have br1 := br.fr hFr (by rw [HC0.out]; omega)
  have r0 := br1.cell_ 0 rfl
  have r1 := br1.cell_ 1 rfl
  have r2 := br1.cell_ 2 rfl
  have r3 := br1.cell_ 3 rfl
  have z := fun j => br1.frozen j
  have hH3 : HW w1 C0 c A lv ⟨s.st, s.f, cmdM s.cmd ⟨9, op, oa, ob, oc, d⟩, s.mem⟩ := ⟨HH.out.ports.fr hFr (by omega) HL.out, HH.out.nab, HH.out.tab.fr hFr (by omega), hB', HH.out.ccol, HH.out.apx.fr hFr ⟨by omega, by omega⟩⟩
  have Q := op_end (c := c) (A := A) (V := (0, 0)) (D := none) (rb := w.heap.size + 1 + 1) (by omega) (by have := HS.out; omega) F0 HC0.out (hFr.mono fun x hx => .inr (.inl hx)) hE (show ReadV w1 C0 (.slice none 0 0) (.bool false) none from ⟨rfl, rfl⟩) hH3 HL.out
  have Q := hid_ Q
  clear hE hFr hB' hH3 br1
  go_wp2_with fail
  refine bodyPost_ret ((results_cell2 rfl _ _ _).trans ?_) rfl (Q.out _ _ _ _)
  go_simp

set_option maxRecDepth 100000 in
set_option maxHeartbeats 4000000 in
theorem op_asklo (c : Cfg) (hg : Good c) (A : HA) (C : Nat → Nat) (lv : Nat → Value) (s : HSt) (dv : Value) (d : List UInt8) (w : World) (hf : Fin C w) (h : HW w C c A lv s) (op oa ob oc : Int) (q : oa < 0) :
    Calls Tryd.prog 27 #[.pointer (some ⟨A.pb, 0, none⟩), A.v, (OpT.mk 10 op oa ob oc d).v dv] w (OpP c A C w (opE c A.node A.part s ⟨10, op, oa, ob, oc, d⟩) (opV s ⟨10, op, oa, ob, oc, d⟩) (opD c A.node A.part s ⟨10, op, oa, ob, oc, d⟩) (opS c A.node A.part s ⟨10, op, oa, ob, oc, d⟩)) := by
  have hl : s.st.length ≤ 24 := by rw [h.ports.len]; exact nq24 hg
  unfold OpT.v HA.v hostV
  simp only
  have hE : opE c A.node A.part s ⟨10, op, oa, ob, oc, d⟩ = some (2, low oa) := by unfold opE; simp [q]
  have hV : opV s ⟨10, op, oa, ob, oc, d⟩ = (0, 0) := by unfold opV; simp [q]
  have hD : opD c A.node A.part s ⟨10, op, oa, ob, oc, d⟩ = none := by unfold opD; simp [q]
  have hS : opS c A.node A.part s ⟨10, op, oa, ob, oc, d⟩ = s := by unfold opS; simp [q]
  rw [hE, hV, hD, hS]
  clear hE hV hD hS

  have H := hid_ h
  have HF := hid_ hf
  clear h hf
  go_enter Tryd.func27, Tryd.ntmps27
  go_upto_region 1 with fail
  refine gen_world (fun W => Below w.heap.size w W ∧ W.heap.size = w.heap.size + 3 ∧ Bk W w.heap.size 40 [.pointer (some ⟨A.b, 0, none⟩), .pointer (some ⟨A.tb, 0, none⟩), .pointer (some ⟨A.mb, 0, none⟩), .pointer (some ⟨A.cb, 0, none⟩)] ∧ Bk W (w.heap.size + 1) 60 [.int .u8 10, .int .i64 op, .int .i64 oa, .int .i64 ob, .int .i64 oc, dv] ∧ Bk W (w.heap.size + 1 + 1) 56 [.int .i64 0, .int .i64 0, .slice none 0 0, .bool false])
    ⟨(((Below.refl _ _).alloc (Nat.le_refl _) _).alloc (by simp) _).alloc (by simp; omega) _, by simp, ((Bk.new _ _ _).alloc _).alloc _, (bkM (by simp)).alloc _, bkM (by simp)⟩ ?_
  rintro W ⟨hB, hsz, bh, bo, br⟩
  have x0 := bh.cell_ 0 rfl
  have x1 := bh.cell_ 1 rfl
  have x2 := bh.cell_ 2 rfl
  have x3 := bh.cell_ 3 rfl
  have o0 := bo.cell_ 0 rfl
  have o1 := bo.cell_ 1 rfl
  have o2 := bo.cell_ 2 rfl
  have o3 := bo.cell_ 3 rfl
  have o4 := bo.cell_ 4 rfl
  have o5 := bo.cell_ 5 rfl
  have r0 := br.cell_ 0 rfl
  have r1 := br.cell_ 1 rfl
  have r2 := br.cell_ 2 rfl
  have r3 := br.cell_ 3 rfl
  have z := fun j => br.frozen j
  obtain ⟨C0, F0, hC0, hC1, hC2⟩ : ∃ C0, Fr (fun _ => False) C C0 w W ∧ C0 (w.heap.size + 1 + 1) = 400 ∧ C0 w.heap.size = 0 ∧ C0 (w.heap.size + 1) = 0 := ⟨fun x => if x = w.heap.size + 1 + 1 then 400 else C x, (Fr.of_below hB _).recolour (fun x hx _ => if_neg (by omega)) (fun x hx => by rw [if_neg (by omega)]; exact HF.out x (by omega)), if_pos rfl, (if_neg (by omega)).trans (HF.out _ (by omega)), (if_neg (by omega)).trans (HF.out _ (by omega))⟩
  have HC0 := hid_ hC0
  have Fd : Fr (fun _ => False) C C0 w W.drew := F0.drew
  have HH := hid_ (H.out.fr F0 hl (fun x hx => hx.elim))
  have HHd := hid_ (H.out.fr Fd hl (fun x hx => hx.elim))
  have p11 := HH.out.apx.cells.2.1
  have p12 := HH.out.apx.cells.2.2
  have HF0 := hid_ (F0.Fin HF.out)
  have HFd := hid_ (Fd.Fin HF.out)
  have hk4 : ¬ KOp 400 := by unfold KOp; omega
  have HS := hid_ hsz
  have HC1 := hid_ hC1
  have HC2 := hid_ hC2
  clear hC0 hC1 hC2
  have HP := hid_ (faultNew 2 oa)
  have HL := hid_ hl
  go_wp2_with fail
  refine (HP.out _ (by decide)).mono ?_
  rintro e w1 ⟨fb, rfl, hb, hge, hB'⟩
  have hFr := (Fr.of_below hb KOp : Fr KOp C0 C0 W w1)
  have br1 := br.fr hFr (by rw [HC0.out]; exact hk4)
  have r0 := br1.cell_ 0 rfl
  have r1 := br1.cell_ 1 rfl
  have r2 := br1.cell_ 2 rfl
  have r3 := br1.cell_ 3 rfl
  have z := fun j => br1.frozen j
  
  have Q := op_end (c := c) (A := A) (V := (0, 0)) (D := none) (E := some (2, low oa)) (rb := w.heap.size + 1 + 1) (by omega) (by have := HS.out; omega) F0 HC0.out hFr (show ErrO W w1 (faultV fb) (some (2, low oa)) from ⟨fb, rfl, hge, hB'⟩) (show ReadV w1 C0 (.slice none 0 0) (.bool false) none from ⟨rfl, rfl⟩) (HH.out.fr (Fr.of_below hb (fun _ => False)) HL.out (fun x hx => hx.elim)) HL.out
  clear hFr hB' br1 hb hge
  unfold faultV at Q ⊢
  have Q := hid_ Q
  go_wp2_with fail
  refine bodyPost_ret ((results_cell2 rfl _ _ _).trans ?_) rfl (Q.out _ _ _ _)
  go_simp

set_option maxRecDepth 100000 in
set_option maxHeartbeats 4000000 in
theorem op_askhi (c : Cfg) (hg : Good c) (A : HA) (C : Nat → Nat) (lv : Nat → Value) (s : HSt) (dv : Value) (d : List UInt8) (w : World) (hf : Fin C w) (h : HW w C c A lv s) (op oa ob oc : Int) (q : ¬ oa < 0) (q2 : 8 ≤ oa) :
    Calls Tryd.prog 27 #[.pointer (some ⟨A.pb, 0, none⟩), A.v, (OpT.mk 10 op oa ob oc d).v dv] w (OpP c A C w (opE c A.node A.part s ⟨10, op, oa, ob, oc, d⟩) (opV s ⟨10, op, oa, ob, oc, d⟩) (opD c A.node A.part s ⟨10, op, oa, ob, oc, d⟩) (opS c A.node A.part s ⟨10, op, oa, ob, oc, d⟩)) := by
  have hl : s.st.length ≤ 24 := by rw [h.ports.len]; exact nq24 hg
  unfold OpT.v HA.v hostV
  simp only
  have q3 : oa < 0 ∨ 8 ≤ oa := .inr q2
  have hE : opE c A.node A.part s ⟨10, op, oa, ob, oc, d⟩ = some (2, low oa) := by unfold opE; simp [q3]
  have hV : opV s ⟨10, op, oa, ob, oc, d⟩ = (0, 0) := by unfold opV; simp [q3]
  have hD : opD c A.node A.part s ⟨10, op, oa, ob, oc, d⟩ = none := by unfold opD; simp [q3]
  have hS : opS c A.node A.part s ⟨10, op, oa, ob, oc, d⟩ = s := by unfold opS; simp [q3]
  rw [hE, hV, hD, hS]
  clear hE hV hD hS
  clear q3

  have H := hid_ h
  have HF := hid_ hf
  clear h hf
  go_enter Tryd.func27, Tryd.ntmps27
  go_upto_region 1 with fail
  refine gen_world (fun W => Below w.heap.size w W ∧ W.heap.size = w.heap.size + 3 ∧ Bk W w.heap.size 40 [.pointer (some ⟨A.b, 0, none⟩), .pointer (some ⟨A.tb, 0, none⟩), .pointer (some ⟨A.mb, 0, none⟩), .pointer (some ⟨A.cb, 0, none⟩)] ∧ Bk W (w.heap.size + 1) 60 [.int .u8 10, .int .i64 op, .int .i64 oa, .int .i64 ob, .int .i64 oc, dv] ∧ Bk W (w.heap.size + 1 + 1) 56 [.int .i64 0, .int .i64 0, .slice none 0 0, .bool false])
    ⟨(((Below.refl _ _).alloc (Nat.le_refl _) _).alloc (by simp) _).alloc (by simp; omega) _, by simp, ((Bk.new _ _ _).alloc _).alloc _, (bkM (by simp)).alloc _, bkM (by simp)⟩ ?_
  rintro W ⟨hB, hsz, bh, bo, br⟩
  have x0 := bh.cell_ 0 rfl
  have x1 := bh.cell_ 1 rfl
  have x2 := bh.cell_ 2 rfl
  have x3 := bh.cell_ 3 rfl
  have o0 := bo.cell_ 0 rfl
  have o1 := bo.cell_ 1 rfl
  have o2 := bo.cell_ 2 rfl
  have o3 := bo.cell_ 3 rfl
  have o4 := bo.cell_ 4 rfl
  have o5 := bo.cell_ 5 rfl
  have r0 := br.cell_ 0 rfl
  have r1 := br.cell_ 1 rfl
  have r2 := br.cell_ 2 rfl
  have r3 := br.cell_ 3 rfl
  have z := fun j => br.frozen j
  obtain ⟨C0, F0, hC0, hC1, hC2⟩ : ∃ C0, Fr (fun _ => False) C C0 w W ∧ C0 (w.heap.size + 1 + 1) = 400 ∧ C0 w.heap.size = 0 ∧ C0 (w.heap.size + 1) = 0 := ⟨fun x => if x = w.heap.size + 1 + 1 then 400 else C x, (Fr.of_below hB _).recolour (fun x hx _ => if_neg (by omega)) (fun x hx => by rw [if_neg (by omega)]; exact HF.out x (by omega)), if_pos rfl, (if_neg (by omega)).trans (HF.out _ (by omega)), (if_neg (by omega)).trans (HF.out _ (by omega))⟩
  have HC0 := hid_ hC0
  have Fd : Fr (fun _ => False) C C0 w W.drew := F0.drew
  have HH := hid_ (H.out.fr F0 hl (fun x hx => hx.elim))
  have HHd := hid_ (H.out.fr Fd hl (fun x hx => hx.elim))
  have p11 := HH.out.apx.cells.2.1
  have p12 := HH.out.apx.cells.2.2
  have HF0 := hid_ (F0.Fin HF.out)
  have HFd := hid_ (Fd.Fin HF.out)
  have hk4 : ¬ KOp 400 := by unfold KOp; omega
  have HS := hid_ hsz
  have HC1 := hid_ hC1
  have HC2 := hid_ hC2
  clear hC0 hC1 hC2
  have HP := hid_ (faultNew 2 oa)
  have HL := hid_ hl
  go_wp2_with fail
  refine (HP.out _ (by decide)).mono ?_
  rintro e w1 ⟨fb, rfl, hb, hge, hB'⟩
  have hFr := (Fr.of_below hb KOp : Fr KOp C0 C0 W w1)
  have br1 := br.fr hFr (by rw [HC0.out]; exact hk4)
  have r0 := br1.cell_ 0 rfl
  have r1 := br1.cell_ 1 rfl
  have r2 := br1.cell_ 2 rfl
  have r3 := br1.cell_ 3 rfl
  have z := fun j => br1.frozen j
  
  have Q := op_end (c := c) (A := A) (V := (0, 0)) (D := none) (E := some (2, low oa)) (rb := w.heap.size + 1 + 1) (by omega) (by have := HS.out; omega) F0 HC0.out hFr (show ErrO W w1 (faultV fb) (some (2, low oa)) from ⟨fb, rfl, hge, hB'⟩) (show ReadV w1 C0 (.slice none 0 0) (.bool false) none from ⟨rfl, rfl⟩) (HH.out.fr (Fr.of_below hb (fun _ => False)) HL.out (fun x hx => hx.elim)) HL.out
  clear hFr hB' br1 hb hge
  unfold faultV at Q ⊢
  have Q := hid_ Q
  go_wp2_with fail
  refine bodyPost_ret ((results_cell2 rfl _ _ _).trans ?_) rfl (Q.out _ _ _ _)
  go_simp

set_option maxRecDepth 100000 in
set_option maxHeartbeats 4000000 in
theorem op_ask0 (c : Cfg) (hg : Good c) (A : HA) (C : Nat → Nat) (lv : Nat → Value) (s : HSt) (dv : Value) (d : List UInt8) (w : World) (hf : Fin C w) (h : HW w C c A lv s) (op oa ob oc : Int) (q : ¬ oa < 0) (q2 : ¬ 8 ≤ oa) (hx : s.f oa = none) :
    Calls Tryd.prog 27 #[.pointer (some ⟨A.pb, 0, none⟩), A.v, (OpT.mk 10 op oa ob oc d).v dv] w (OpP c A C w (opE c A.node A.part s ⟨10, op, oa, ob, oc, d⟩) (opV s ⟨10, op, oa, ob, oc, d⟩) (opD c A.node A.part s ⟨10, op, oa, ob, oc, d⟩) (opS c A.node A.part s ⟨10, op, oa, ob, oc, d⟩)) := by
  have hl : s.st.length ≤ 24 := by rw [h.ports.len]; exact nq24 hg
  unfold OpT.v HA.v hostV
  simp only
  have q3 : ¬ (oa < 0 ∨ 8 ≤ oa) := by omega
  have hE : opE c A.node A.part s ⟨10, op, oa, ob, oc, d⟩ = none := by unfold opE; simp [q3, hx]
  have hV : opV s ⟨10, op, oa, ob, oc, d⟩ = (10, 0) := by unfold opV; simp [q3, hx]
  have hD : opD c A.node A.part s ⟨10, op, oa, ob, oc, d⟩ = none := by unfold opD; simp [q3, hx]
  have hS : opS c A.node A.part s ⟨10, op, oa, ob, oc, d⟩ = s := by unfold opS; simp [q3, hx]
  rw [hE, hV, hD, hS]
  clear hE hV hD hS
  clear q3
  have hu8 : IntKind.u8.wrap oa = oa := by have h : IntKind.u8.wrap oa = oa % 256 := rfl
                                           omega
  have HX := hid_ hx
  clear hx

  have H := hid_ h
  have HF := hid_ hf
  clear h hf
  go_enter Tryd.func27, Tryd.ntmps27
  go_upto_region 1 with fail
  refine gen_world (fun W => Below w.heap.size w W ∧ W.heap.size = w.heap.size + 3 ∧ Bk W w.heap.size 40 [.pointer (some ⟨A.b, 0, none⟩), .pointer (some ⟨A.tb, 0, none⟩), .pointer (some ⟨A.mb, 0, none⟩), .pointer (some ⟨A.cb, 0, none⟩)] ∧ Bk W (w.heap.size + 1) 60 [.int .u8 10, .int .i64 op, .int .i64 oa, .int .i64 ob, .int .i64 oc, dv] ∧ Bk W (w.heap.size + 1 + 1) 56 [.int .i64 0, .int .i64 0, .slice none 0 0, .bool false])
    ⟨(((Below.refl _ _).alloc (Nat.le_refl _) _).alloc (by simp) _).alloc (by simp; omega) _, by simp, ((Bk.new _ _ _).alloc _).alloc _, (bkM (by simp)).alloc _, bkM (by simp)⟩ ?_
  rintro W ⟨hB, hsz, bh, bo, br⟩
  have x0 := bh.cell_ 0 rfl
  have x1 := bh.cell_ 1 rfl
  have x2 := bh.cell_ 2 rfl
  have x3 := bh.cell_ 3 rfl
  have o0 := bo.cell_ 0 rfl
  have o1 := bo.cell_ 1 rfl
  have o2 := bo.cell_ 2 rfl
  have o3 := bo.cell_ 3 rfl
  have o4 := bo.cell_ 4 rfl
  have o5 := bo.cell_ 5 rfl
  have r0 := br.cell_ 0 rfl
  have r1 := br.cell_ 1 rfl
  have r2 := br.cell_ 2 rfl
  have r3 := br.cell_ 3 rfl
  have z := fun j => br.frozen j
  obtain ⟨C0, F0, hC0, hC1, hC2⟩ : ∃ C0, Fr (fun _ => False) C C0 w W ∧ C0 (w.heap.size + 1 + 1) = 400 ∧ C0 w.heap.size = 0 ∧ C0 (w.heap.size + 1) = 0 := ⟨fun x => if x = w.heap.size + 1 + 1 then 400 else C x, (Fr.of_below hB _).recolour (fun x hx _ => if_neg (by omega)) (fun x hx => by rw [if_neg (by omega)]; exact HF.out x (by omega)), if_pos rfl, (if_neg (by omega)).trans (HF.out _ (by omega)), (if_neg (by omega)).trans (HF.out _ (by omega))⟩
  have HC0 := hid_ hC0
  have Fd : Fr (fun _ => False) C C0 w W.drew := F0.drew
  have HH := hid_ (H.out.fr F0 hl (fun x hx => hx.elim))
  have HHd := hid_ (H.out.fr Fd hl (fun x hx => hx.elim))
  have p11 := HH.out.apx.cells.2.1
  have p12 := HH.out.apx.cells.2.2
  have HF0 := hid_ (F0.Fin HF.out)
  have HFd := hid_ (Fd.Fin HF.out)
  have hk4 : ¬ KOp 400 := by unfold KOp; omega
  have HS := hid_ hsz
  have HC1 := hid_ hC1
  have HC2 := hid_ hC2
  clear hC0 hC1 hC2
  have HP := hid_ (repAsk C0 300 A.tb s.f A.d oa W HH.out.tab (by omega) (by omega))
  have HL := hid_ hl
  go_wp2_with fail
  refine HP.out.mono ?_
  rintro e w1 ⟨rfl, rfl⟩
  rw [HX.out, show errv (askE (none)) = .iface 53 (.int .i64 17) from rfl, show (none : Option Int).getD 0 = 0 from rfl]
  have Q := op_end (c := c) (A := A) (V := (10, 0)) (D := none) (E := none) (ev := .nilIface) (rb := w.heap.size + 1 + 1) (by omega) (by have := HS.out; omega) F0 HC0.out (Fr.refl _ _ _) rfl (show ReadV W C0 (.slice none 0 0) (.bool false) none from ⟨rfl, rfl⟩) HH.out HL.out
  have Q := hid_ Q
  go_wp2_with fail
  refine bodyPost_ret ((results_cell2 rfl _ _ _).trans ?_) rfl (Q.out _ _ _ _)
  go_simp

set_option maxRecDepth 100000 in
set_option maxHeartbeats 4000000 in
theorem op_ask1 (c : Cfg) (hg : Good c) (A : HA) (C : Nat → Nat) (lv : Nat → Value) (s : HSt) (dv : Value) (d : List UInt8) (w : World) (hf : Fin C w) (h : HW w C c A lv s) (op oa ob oc : Int) (q : ¬ oa < 0) (q2 : ¬ 8 ≤ oa) (xv : Int) (hx : s.f oa = some xv) (hv : 0 ≤ xv ∧ xv < 65536) :
    Calls Tryd.prog 27 #[.pointer (some ⟨A.pb, 0, none⟩), A.v, (OpT.mk 10 op oa ob oc d).v dv] w (OpP c A C w (opE c A.node A.part s ⟨10, op, oa, ob, oc, d⟩) (opV s ⟨10, op, oa, ob, oc, d⟩) (opD c A.node A.part s ⟨10, op, oa, ob, oc, d⟩) (opS c A.node A.part s ⟨10, op, oa, ob, oc, d⟩)) := by
  have hl : s.st.length ≤ 24 := by rw [h.ports.len]; exact nq24 hg
  unfold OpT.v HA.v hostV
  simp only
  have q3 : ¬ (oa < 0 ∨ 8 ≤ oa) := by omega
  have hE : opE c A.node A.part s ⟨10, op, oa, ob, oc, d⟩ = none := by unfold opE; simp [q3, hx]
  have hV : opV s ⟨10, op, oa, ob, oc, d⟩ = (0, xv) := by unfold opV; simp [q3, hx]
  have hD : opD c A.node A.part s ⟨10, op, oa, ob, oc, d⟩ = none := by unfold opD; simp [q3, hx]
  have hS : opS c A.node A.part s ⟨10, op, oa, ob, oc, d⟩ = s := by unfold opS; simp [q3, hx]
  rw [hE, hV, hD, hS]
  clear hE hV hD hS
  clear q3
  have hu8 : IntKind.u8.wrap oa = oa := by have h : IntKind.u8.wrap oa = oa % 256 := rfl
                                           omega
  have HX := hid_ hx
  clear hx

  have H := hid_ h
  have HF := hid_ hf
  clear h hf
  go_enter Tryd.func27, Tryd.ntmps27
  go_upto_region 1 with fail
  refine gen_world (fun W => Below w.heap.size w W ∧ W.heap.size = w.heap.size + 3 ∧ Bk W w.heap.size 40 [.pointer (some ⟨A.b, 0, none⟩), .pointer (some ⟨A.tb, 0, none⟩), .pointer (some ⟨A.mb, 0, none⟩), .pointer (some ⟨A.cb, 0, none⟩)] ∧ Bk W (w.heap.size + 1) 60 [.int .u8 10, .int .i64 op, .int .i64 oa, .int .i64 ob, .int .i64 oc, dv] ∧ Bk W (w.heap.size + 1 + 1) 56 [.int .i64 0, .int .i64 0, .slice none 0 0, .bool false])
    ⟨(((Below.refl _ _).alloc (Nat.le_refl _) _).alloc (by simp) _).alloc (by simp; omega) _, by simp, ((Bk.new _ _ _).alloc _).alloc _, (bkM (by simp)).alloc _, bkM (by simp)⟩ ?_
  rintro W ⟨hB, hsz, bh, bo, br⟩
  have x0 := bh.cell_ 0 rfl
  have x1 := bh.cell_ 1 rfl
  have x2 := bh.cell_ 2 rfl
  have x3 := bh.cell_ 3 rfl
  have o0 := bo.cell_ 0 rfl
  have o1 := bo.cell_ 1 rfl
  have o2 := bo.cell_ 2 rfl
  have o3 := bo.cell_ 3 rfl
  have o4 := bo.cell_ 4 rfl
  have o5 := bo.cell_ 5 rfl
  have r0 := br.cell_ 0 rfl
  have r1 := br.cell_ 1 rfl
  have r2 := br.cell_ 2 rfl
  have r3 := br.cell_ 3 rfl
  have z := fun j => br.frozen j
  obtain ⟨C0, F0, hC0, hC1, hC2⟩ : ∃ C0, Fr (fun _ => False) C C0 w W ∧ C0 (w.heap.size + 1 + 1) = 400 ∧ C0 w.heap.size = 0 ∧ C0 (w.heap.size + 1) = 0 := ⟨fun x => if x = w.heap.size + 1 + 1 then 400 else C x, (Fr.of_below hB _).recolour (fun x hx _ => if_neg (by omega)) (fun x hx => by rw [if_neg (by omega)]; exact HF.out x (by omega)), if_pos rfl, (if_neg (by omega)).trans (HF.out _ (by omega)), (if_neg (by omega)).trans (HF.out _ (by omega))⟩
  have HC0 := hid_ hC0
  have Fd : Fr (fun _ => False) C C0 w W.drew := F0.drew
  have HH := hid_ (H.out.fr F0 hl (fun x hx => hx.elim))
  have HHd := hid_ (H.out.fr Fd hl (fun x hx => hx.elim))
  have p11 := HH.out.apx.cells.2.1
  have p12 := HH.out.apx.cells.2.2
  have HF0 := hid_ (F0.Fin HF.out)
  have HFd := hid_ (Fd.Fin HF.out)
  have hk4 : ¬ KOp 400 := by unfold KOp; omega
  have HS := hid_ hsz
  have HC1 := hid_ hC1
  have HC2 := hid_ hC2
  clear hC0 hC1 hC2
  have HP := hid_ (repAsk C0 300 A.tb s.f A.d oa W HH.out.tab (by omega) (by omega))
  have HL := hid_ hl
  go_wp2_with fail
  refine HP.out.mono ?_
  rintro e w1 ⟨rfl, rfl⟩
  rw [HX.out, show errv (askE (some xv)) = .nilIface from rfl, show (some xv : Option Int).getD 0 = xv from rfl]
  have Q := op_end (c := c) (A := A) (V := (0, xv)) (D := none) (E := none) (ev := .nilIface) (rb := w.heap.size + 1 + 1) (by omega) (by have := HS.out; omega) F0 HC0.out (Fr.refl _ _ _) rfl (show ReadV W C0 (.slice none 0 0) (.bool false) none from ⟨rfl, rfl⟩) HH.out HL.out
  have Q := hid_ Q
  go_wp2_with fail
  refine bodyPost_ret ((results_cell2 rfl _ _ _).trans ?_) rfl (Q.out _ _ _ _)
  go_simp
end Go.Proofs.YtlgjaoijgkdmiaaDoor
