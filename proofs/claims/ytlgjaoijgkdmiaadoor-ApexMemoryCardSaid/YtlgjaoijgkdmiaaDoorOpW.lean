/- apex.Partition.op: write. Printed by gen_op.py. No condition but that the tables work. -/
import Derived.Test.YtlgjaoijgkdmiaaDoorOp0
import Derived.Deep.RegionLaw
import Derived.Deep.RegionHeld3
set_option linter.unusedSimpArgs false
set_option linter.unusedVariables false
namespace Go.Proofs.YtlgjaoijgkdmiaaDoor
open Go.RowKit Go.Maps

set_option maxRecDepth 100000 in
set_option maxHeartbeats 4000000 in
theorem op_write (c : Cfg) (hg : Good c) (A : HA) (C : Nat → Nat) (lv : Nat → Value) (s : HSt) (dv : Value) (d : List UInt8) (w : World) (hf : Fin C w) (h : HW w C c A lv s) (op oa ob oc : Int) (hd : IsBytes w C dv d) :
    Calls Tryd.prog 27 #[.pointer (some ⟨A.pb, 0, none⟩), A.v, (OpT.mk 1 op oa ob oc d).v dv] w (OpP c A C w (opE c A.node A.part s ⟨1, op, oa, ob, oc, d⟩) (opV s ⟨1, op, oa, ob, oc, d⟩) (opD c A.node A.part s ⟨1, op, oa, ob, oc, d⟩) (opS c A.node A.part s ⟨1, op, oa, ob, oc, d⟩)) := by
  have hl : s.st.length ≤ 24 := by rw [h.ports.len]; exact nq24 hg
  unfold OpT.v HA.v hostV
  simp only
  have hE : opE c A.node A.part s ⟨1, op, oa, ob, oc, d⟩ = writeE c A.node A.part op d s.st := by unfold opE; simp
  have hV : opV s ⟨1, op, oa, ob, oc, d⟩ = (0, 0) := by unfold opV; simp
  have hD : opD c A.node A.part s ⟨1, op, oa, ob, oc, d⟩ = none := by unfold opD; simp
  have hS : opS c A.node A.part s ⟨1, op, oa, ob, oc, d⟩ = ⟨writeS c A.node A.part op d s.st, s.f, s.cmd, s.mem⟩ := by unfold opS; simp
  rw [hE, hV, hD, hS]
  clear hE hV hD hS

  have H := hid_ h
  have HF := hid_ hf
  clear h hf
  go_enter Tryd.func27, Tryd.ntmps27
  go_upto_region 1 with fail
  refine gen_world (fun W => Below w.heap.size w W ∧ W.heap.size = w.heap.size + 3 ∧ Bk W w.heap.size 40 [.pointer (some ⟨A.b, 0, none⟩), .pointer (some ⟨A.tb, 0, none⟩), .pointer (some ⟨A.mb, 0, none⟩), .pointer (some ⟨A.cb, 0, none⟩)] ∧ Bk W (w.heap.size + 1) 60 [.int .u8 1, .int .i64 op, .int .i64 oa, .int .i64 ob, .int .i64 oc, dv] ∧ Bk W (w.heap.size + 1 + 1) 56 [.int .i64 0, .int .i64 0, .slice none 0 0, .bool false])
    ⟨(((Below.refl _ _).alloc (Nat.le_refl _) _).alloc (by simp) _).alloc (by simp; omega) _, by simp, ((Bk.new _ _ _).alloc _).alloc _, (bkM (by simp)).alloc _, bkM (by simp)⟩ ?_
  rintro W ⟨hB, hsz, bh, bo, br⟩
  have x0 := bh.cell_ 0 rfl
  have x1 := bh.cell_ 1 rfl
  have x2 := bh.cell_ 2 rfl
  have x3 := bh.cell_ 3 rfl
  have o0 := bo.cell_ 0 rfl
  have o1 := bo.cell_ 1 rfl
  have o2 := bo.cell_ 2 rfl
  have o3 := bo.cell_ 3 rfl
  have o4 := bo.cell_ 4 rfl
  have o5 := bo.cell_ 5 rfl
  have r0 := br.cell_ 0 rfl
  have r1 := br.cell_ 1 rfl
  have r2 := br.cell_ 2 rfl
  have r3 := br.cell_ 3 rfl
  have z := fun j => br.frozen j
  obtain ⟨C0, F0, hC0, hC1, hC2⟩ : ∃ C0, Fr (fun _ => False) C C0 w W ∧ C0 (w.heap.size + 1 + 1) = 400 ∧ C0 w.heap.size = 0 ∧ C0 (w.heap.size + 1) = 0 := ⟨fun x => if x = w.heap.size + 1 + 1 then 400 else C x, (Fr.of_below hB _).recolour (fun x hx _ => if_neg (by omega)) (fun x hx => by rw [if_neg (by omega)]; exact HF.out x (by omega)), if_pos rfl, (if_neg (by omega)).trans (HF.out _ (by omega)), (if_neg (by omega)).trans (HF.out _ (by omega))⟩
  have HC0 := hid_ hC0
  have Fd : Fr (fun _ => False) C C0 w W.drew := F0.drew
  have HH := hid_ (H.out.fr F0 hl (fun x hx => hx.elim))
  have HHd := hid_ (H.out.fr Fd hl (fun x hx => hx.elim))
  have p11 := HH.out.apx.cells.2.1
  have p12 := HH.out.apx.cells.2.2
  have HF0 := hid_ (F0.Fin HF.out)
  have HFd := hid_ (Fd.Fin HF.out)
  have hk4 : ¬ KOp 400 := by unfold KOp; omega
  have HS := hid_ hsz
  have HC1 := hid_ hC1
  have HC2 := hid_ hC2
  clear hC0 hC1 hC2
  have HD := hid_ (hd.fr Fd (fun h => h))
  have HP := hid_ (portsWrite c hg C0 100 A.b A.ab (by decide) H.out.nab A.pv A.qv A.rv A.node A.part op lv s.st dv d)
  clear hd
  go_upto_region 3 with fail
  go_region_with (refine (HP.out _ HFd.out HHd.out.ports HD.out).mono ?_; rintro e w1 ⟨ev, C1, lv1, rfl, hE, hFr, hPo⟩; have br1 := br.drew.fr hFr (by rw [HC0.out]; omega); have r0 := br1.cell_ 0 rfl; have r1 := br1.cell_ 1 rfl; have r2 := br1.cell_ 2 rfl; have r3 := br1.cell_ 3 rfl; have z := fun j => br1.frozen j)
  all_goals
    go_wp2_with fail
    have Q := op_end (c := c) (A := A) (V := (0, 0)) (D := none) (rb := w.heap.size + 1 + 1) (by omega) (by have := HS.out; simp; omega) Fd HC0.out (hFr.mono fun x hx => Or.inl (by omega)) hE (show ReadV w1 C1 (.slice none 0 0) (.bool false) none from ⟨rfl, rfl⟩) (HHd.out.ports_ hFr hPo) (by show (writeS c A.node A.part op d s.st).length ≤ 24; rw [hPo.len]; exact nq24 hg)
    refine bodyPost_ret ((results_cell2 rfl _ _ _).trans ?_) rfl (Q _ _ _ _)
    go_simp
end Go.Proofs.YtlgjaoijgkdmiaaDoor
