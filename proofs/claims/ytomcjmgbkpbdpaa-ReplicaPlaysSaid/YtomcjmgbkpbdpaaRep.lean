/- The walks of package replica: New, Ask, Done, Apply. No condition but the arguments' own ranges. -/
import Derived.Test.YtomcjmgbkpbdpaaRep0
set_option linter.unusedSimpArgs false
set_option linter.unusedVariables false
namespace Go.Proofs.Ytomcjmgbkpbdpaa
open Go.RowKit Go.Maps


set_option maxRecDepth 100000 in
theorem repDone (C : Nat → Nat) (k tb : Nat) (f : Int → Option Int) (d : Int) (w : World) (h : IsTab w C k tb f d) :
    Calls Try.prog 16 #[.pointer (some ⟨tb, 0, none⟩)] w fun e w' => e = .returned (.int .i64 d) ∧ w = w' := by
  obtain ⟨mb, hb, _, _, _⟩ := h
  have c1 := hb.cell_ 1 rfl
  clear hb
  go_enter Try.func16, Try.ntmps16
  go_wp2
  go_ret
  exact ⟨rfl, rfl⟩

theorem Fr.mapTurned {K : Nat → Prop} {C : Nat → Nat} {w w' : World} {b : Nat} (h : w.mapTurned w' b) (hk : K (C b)) : Fr K C C w w' := by
  have g := h.grown
  exact ⟨g.os, g.tape, g.output, g.size, fun i hi hn => ⟨g.block i hi (by rintro ⟨rfl⟩; exact hn hk), rfl⟩, fun hf i hi => hf i (Nat.le_trans g.size hi)⟩

set_option maxRecDepth 100000 in
theorem repApply_3n (C : Nat → Nat) (k tb mb : Nat) (f : Int → Option Int) (d cx cv co : Int) (w : World) (hb : Bk w tb 59 [.map (some mb), .int .i64 d]) (hm : MapIs w mb f) (hc1 : C tb = k) (hc2 : C mb = k) (hne : mb ≠ tb)
    (x0 : 0 ≤ cx) (x8 : cx < 8) (hx : f cx = none) :
    Calls Try.prog 10 #[.pointer (some ⟨tb, 0, none⟩), .agg #[.int .u8 3, .int .u8 cx, .int .u16 cv, .int .u16 co]] w fun e w' =>
      e = .returned (.tuple #[.bool false, .nilIface]) ∧ Fr (· = k) C C w w' ∧ IsTab w' C k tb (f) (wrap64 (d + 1)) := by
  have x1 : cx < 256 := by omega
  go_enter Try.func10, Try.ntmps10
  go_upto_region 9 with (fail)
  refine gen_world (fun W => Fr (· = k) C C w W ∧ Bk W tb 59 [.map (some mb), .int .i64 d] ∧ MapIs W mb f ∧ Bk W w.heap.size 29 [.int .u8 3, .int .u8 cx, .int .u16 cv, .int .u16 co])
    ⟨(Fr.refl _ C w).alloc _, hb.alloc _, hm.alloc _, Bk.new _ _ _⟩ ?_
  rintro W ⟨HF, B1, HM, B2⟩
  have c0 := B1.cell_ 0 rfl
  have c1 := B1.cell_ 1 rfl
  have f1 := B1.frozen 1
  have b0 := B2.cell_ 0 rfl
  have b1 := B2.cell_ 1 rfl
  have b2 := B2.cell_ 2 rfl
  have b3 := B2.cell_ 3 rfl
  have hl := fun n => (HM.drewN n).look x0 x1
  rw [hx] at hl
  simp only [Option.getD_none, Option.isSome_none] at hl
  clear hx
  go_quiet (fail)
  go_wp2
  go_ret2
  exact ⟨rfl, HF.drewN _ |>.setCell (.inr hc1) _, mb, (B1.drewN _).set 1 _, (HM.drewN _).setCell hne _, hc1, hc2⟩

set_option maxRecDepth 100000 in
theorem repApply_3s (C : Nat → Nat) (k tb mb : Nat) (f : Int → Option Int) (d cx cv co c : Int) (w : World) (hb : Bk w tb 59 [.map (some mb), .int .i64 d]) (hm : MapIs w mb f) (hc1 : C tb = k) (hc2 : C mb = k) (hne : mb ≠ tb)
    (x0 : 0 ≤ cx) (x8 : cx < 8) (hx : f cx = some c) (hq : (c != co) = true) :
    Calls Try.prog 10 #[.pointer (some ⟨tb, 0, none⟩), .agg #[.int .u8 3, .int .u8 cx, .int .u16 cv, .int .u16 co]] w fun e w' =>
      e = .returned (.tuple #[.bool false, .nilIface]) ∧ Fr (· = k) C C w w' ∧ IsTab w' C k tb (f) (wrap64 (d + 1)) := by
  have x1 : cx < 256 := by omega
  go_enter Try.func10, Try.ntmps10
  go_upto_region 9 with (fail)
  refine gen_world (fun W => Fr (· = k) C C w W ∧ Bk W tb 59 [.map (some mb), .int .i64 d] ∧ MapIs W mb f ∧ Bk W w.heap.size 29 [.int .u8 3, .int .u8 cx, .int .u16 cv, .int .u16 co])
    ⟨(Fr.refl _ C w).alloc _, hb.alloc _, hm.alloc _, Bk.new _ _ _⟩ ?_
  rintro W ⟨HF, B1, HM, B2⟩
  have c0 := B1.cell_ 0 rfl
  have c1 := B1.cell_ 1 rfl
  have f1 := B1.frozen 1
  have b0 := B2.cell_ 0 rfl
  have b1 := B2.cell_ 1 rfl
  have b2 := B2.cell_ 2 rfl
  have b3 := B2.cell_ 3 rfl
  have hl := fun n => (HM.drewN n).look x0 x1
  rw [hx] at hl
  simp only [Option.getD_some, Option.isSome_some] at hl
  clear hx
  go_quiet (fail)
  go_wp2
  go_ret2
  exact ⟨rfl, HF.drewN _ |>.setCell (.inr hc1) _, mb, (B1.drewN _).set 1 _, (HM.drewN _).setCell hne _, hc1, hc2⟩

set_option maxRecDepth 100000 in
theorem repApply_3t (C : Nat → Nat) (k tb mb : Nat) (f : Int → Option Int) (d cx cv co : Int) (w : World) (hb : Bk w tb 59 [.map (some mb), .int .i64 d]) (hm : MapIs w mb f) (hc1 : C tb = k) (hc2 : C mb = k) (hne : mb ≠ tb)
    (x0 : 0 ≤ cx) (x8 : cx < 8) (v0 : 0 ≤ cv) (v1 : cv < 65536) (hx : f cx = some co) (_hq : (co != co) = false) (hr : (co != cv) = true) :
    Calls Try.prog 10 #[.pointer (some ⟨tb, 0, none⟩), .agg #[.int .u8 3, .int .u8 cx, .int .u16 cv, .int .u16 co]] w fun e w' =>
      e = .returned (.tuple #[.bool true, .nilIface]) ∧ Fr (· = k) C C w w' ∧ IsTab w' C k tb (upd f cx (some cv)) (wrap64 (d + 1)) := by
  have x1 : cx < 256 := by omega
  go_enter Try.func10, Try.ntmps10
  go_upto_region 9 with (fail)
  refine gen_world (fun W => Fr (· = k) C C w W ∧ Bk W tb 59 [.map (some mb), .int .i64 d] ∧ MapIs W mb f ∧ Bk W w.heap.size 29 [.int .u8 3, .int .u8 cx, .int .u16 cv, .int .u16 co])
    ⟨(Fr.refl _ C w).alloc _, hb.alloc _, hm.alloc _, Bk.new _ _ _⟩ ?_
  rintro W ⟨HF, B1, HM, B2⟩
  have c0 := B1.cell_ 0 rfl
  have c1 := B1.cell_ 1 rfl
  have f1 := B1.frozen 1
  have b0 := B2.cell_ 0 rfl
  have b1 := B2.cell_ 1 rfl
  have b2 := B2.cell_ 2 rfl
  have b3 := B2.cell_ 3 rfl
  have hl := fun n => (HM.drewN n).look x0 x1
  rw [hx] at hl
  simp only [Option.getD_some, Option.isSome_some] at hl
  clear hx
  go_quiet (fail)
  go_upto_region 16 with (fail)
  have hnb : tb ≠ w.heap.size := fun h => absurd hb.lt (by omega)
  refine gen_world (fun W => Fr (· = k) C C w W ∧ Bk W tb 59 [.map (some mb), .int .i64 (wrap64 (d + 1))] ∧ MapIs W mb f ∧ Bk W w.heap.size 29 [.int .u8 3, .int .u8 cx, .int .u16 cv, .int .u16 co])
    ⟨(HF.drewN _).setCell (.inr hc1) _, (B1.drewN _).set 1 _, (HM.drewN _).setCell hne _, (B2.drewN _).far (Ne.symm hnb) _⟩ ?_
  clear HF B1 HM B2 c0 c1 f1 b0 b1 b2 b3 hl
  rintro W ⟨HF, B1, HM, B2⟩
  have c0 := B1.drew.cell_ 0 rfl
  have b0 := B2.drew.cell_ 0 rfl
  have b1 := B2.drew.cell_ 1 rfl
  have b2 := B2.drew.cell_ 2 rfl
  have b3 := B2.drew.cell_ 3 rfl
  have HM' : MapIs W.drew mb f := HM.same rfl
  obtain ⟨W2, hrun, HM2, hturn⟩ := HM'.store x0 x8 v0 v1
  have HF2 : Fr (· = k) C C W.drew W2 := Fr.mapTurned hturn hc2
  have B3 : Bk W2 tb 59 [.map (some mb), .int .i64 (wrap64 (d + 1))] := B1.drew.same (hturn.grown.block tb B1.lt (by rintro ⟨h⟩; exact hne rfl))
  have B4 : Bk W2 w.heap.size 29 [.int .u8 3, .int .u8 cx, .int .u16 cv, .int .u16 co] := B2.drew.same (hturn.grown.block _ B2.lt (by rintro ⟨h⟩; exact absurd hm.lt (by omega)))
  have d2 := B4.cell_ 2 rfl
  go_region
  go_wp2
  go_ret2
  exact ⟨rfl, HF.drew.trans HF2, mb, B3, HM2, hc1, hc2⟩

set_option maxRecDepth 100000 in
theorem repApply_3f (C : Nat → Nat) (k tb mb : Nat) (f : Int → Option Int) (d cx cv co : Int) (w : World) (hb : Bk w tb 59 [.map (some mb), .int .i64 d]) (hm : MapIs w mb f) (hc1 : C tb = k) (hc2 : C mb = k) (hne : mb ≠ tb)
    (x0 : 0 ≤ cx) (x8 : cx < 8) (v0 : 0 ≤ cv) (v1 : cv < 65536) (hx : f cx = some co) (_hq : (co != co) = false) (hr : (co != cv) = false) :
    Calls Try.prog 10 #[.pointer (some ⟨tb, 0, none⟩), .agg #[.int .u8 3, .int .u8 cx, .int .u16 cv, .int .u16 co]] w fun e w' =>
      e = .returned (.tuple #[.bool false, .nilIface]) ∧ Fr (· = k) C C w w' ∧ IsTab w' C k tb (upd f cx (some cv)) (wrap64 (d + 1)) := by
  have x1 : cx < 256 := by omega
  go_enter Try.func10, Try.ntmps10
  go_upto_region 9 with (fail)
  refine gen_world (fun W => Fr (· = k) C C w W ∧ Bk W tb 59 [.map (some mb), .int .i64 d] ∧ MapIs W mb f ∧ Bk W w.heap.size 29 [.int .u8 3, .int .u8 cx, .int .u16 cv, .int .u16 co])
    ⟨(Fr.refl _ C w).alloc _, hb.alloc _, hm.alloc _, Bk.new _ _ _⟩ ?_
  rintro W ⟨HF, B1, HM, B2⟩
  have c0 := B1.cell_ 0 rfl
  have c1 := B1.cell_ 1 rfl
  have f1 := B1.frozen 1
  have b0 := B2.cell_ 0 rfl
  have b1 := B2.cell_ 1 rfl
  have b2 := B2.cell_ 2 rfl
  have b3 := B2.cell_ 3 rfl
  have hl := fun n => (HM.drewN n).look x0 x1
  rw [hx] at hl
  simp only [Option.getD_some, Option.isSome_some] at hl
  clear hx
  go_quiet (fail)
  go_upto_region 16 with (fail)
  have hnb : tb ≠ w.heap.size := fun h => absurd hb.lt (by omega)
  refine gen_world (fun W => Fr (· = k) C C w W ∧ Bk W tb 59 [.map (some mb), .int .i64 (wrap64 (d + 1))] ∧ MapIs W mb f ∧ Bk W w.heap.size 29 [.int .u8 3, .int .u8 cx, .int .u16 cv, .int .u16 co])
    ⟨(HF.drewN _).setCell (.inr hc1) _, (B1.drewN _).set 1 _, (HM.drewN _).setCell hne _, (B2.drewN _).far (Ne.symm hnb) _⟩ ?_
  clear HF B1 HM B2 c0 c1 f1 b0 b1 b2 b3 hl
  rintro W ⟨HF, B1, HM, B2⟩
  have c0 := B1.drew.cell_ 0 rfl
  have b0 := B2.drew.cell_ 0 rfl
  have b1 := B2.drew.cell_ 1 rfl
  have b2 := B2.drew.cell_ 2 rfl
  have b3 := B2.drew.cell_ 3 rfl
  have HM' : MapIs W.drew mb f := HM.same rfl
  obtain ⟨W2, hrun, HM2, hturn⟩ := HM'.store x0 x8 v0 v1
  have HF2 : Fr (· = k) C C W.drew W2 := Fr.mapTurned hturn hc2
  have B3 : Bk W2 tb 59 [.map (some mb), .int .i64 (wrap64 (d + 1))] := B1.drew.same (hturn.grown.block tb B1.lt (by rintro ⟨h⟩; exact hne rfl))
  have B4 : Bk W2 w.heap.size 29 [.int .u8 3, .int .u8 cx, .int .u16 cv, .int .u16 co] := B2.drew.same (hturn.grown.block _ B2.lt (by rintro ⟨h⟩; exact absurd hm.lt (by omega)))
  have d2 := B4.cell_ 2 rfl
  go_region
  go_wp2
  go_ret2
  exact ⟨rfl, HF.drew.trans HF2, mb, B3, HM2, hc1, hc2⟩

set_option maxRecDepth 100000 in
theorem repApply_1n (C : Nat → Nat) (k tb mb : Nat) (f : Int → Option Int) (d cx cv co : Int) (w : World) (hb : Bk w tb 59 [.map (some mb), .int .i64 d]) (hm : MapIs w mb f) (hc1 : C tb = k) (hc2 : C mb = k) (hne : mb ≠ tb)
    (x0 : 0 ≤ cx) (x8 : cx < 8) (v0 : 0 ≤ cv) (v1 : cv < 65536) (hx : f cx = none) :
    Calls Try.prog 10 #[.pointer (some ⟨tb, 0, none⟩), .agg #[.int .u8 1, .int .u8 cx, .int .u16 cv, .int .u16 co]] w fun e w' =>
      e = .returned (.tuple #[.bool true, .nilIface]) ∧ Fr (· = k) C C w w' ∧ IsTab w' C k tb (upd f cx (some cv)) (wrap64 (d + 1)) := by
  have x1 : cx < 256 := by omega
  go_enter Try.func10, Try.ntmps10
  go_upto_region 9 with (fail)
  refine gen_world (fun W => Fr (· = k) C C w W ∧ Bk W tb 59 [.map (some mb), .int .i64 d] ∧ MapIs W mb f ∧ Bk W w.heap.size 29 [.int .u8 1, .int .u8 cx, .int .u16 cv, .int .u16 co])
    ⟨(Fr.refl _ C w).alloc _, hb.alloc _, hm.alloc _, Bk.new _ _ _⟩ ?_
  rintro W ⟨HF, B1, HM, B2⟩
  have c0 := B1.cell_ 0 rfl
  have c1 := B1.cell_ 1 rfl
  have f1 := B1.frozen 1
  have b0 := B2.cell_ 0 rfl
  have b1 := B2.cell_ 1 rfl
  have b2 := B2.cell_ 2 rfl
  have b3 := B2.cell_ 3 rfl
  have hl := fun n => (HM.drewN n).look x0 x1
  rw [hx] at hl
  simp only [Option.getD_none, Option.isSome_none] at hl
  clear hx
  go_quiet (fail)
  go_upto_region 16 with (fail)
  have hnb : tb ≠ w.heap.size := fun h => absurd hb.lt (by omega)
  refine gen_world (fun W => Fr (· = k) C C w W ∧ Bk W tb 59 [.map (some mb), .int .i64 (wrap64 (d + 1))] ∧ MapIs W mb f ∧ Bk W w.heap.size 29 [.int .u8 1, .int .u8 cx, .int .u16 cv, .int .u16 co])
    ⟨(HF.drewN _).setCell (.inr hc1) _, (B1.drewN _).set 1 _, (HM.drewN _).setCell hne _, (B2.drewN _).far (Ne.symm hnb) _⟩ ?_
  clear HF B1 HM B2 c0 c1 f1 b0 b1 b2 b3 hl
  rintro W ⟨HF, B1, HM, B2⟩
  have c0 := B1.drew.cell_ 0 rfl
  have b0 := B2.drew.cell_ 0 rfl
  have b1 := B2.drew.cell_ 1 rfl
  have b2 := B2.drew.cell_ 2 rfl
  have b3 := B2.drew.cell_ 3 rfl
  have HM' : MapIs W.drew mb f := HM.same rfl
  obtain ⟨W2, hrun, HM2, hturn⟩ := HM'.store x0 x8 v0 v1
  have HF2 : Fr (· = k) C C W.drew W2 := Fr.mapTurned hturn hc2
  have B3 : Bk W2 tb 59 [.map (some mb), .int .i64 (wrap64 (d + 1))] := B1.drew.same (hturn.grown.block tb B1.lt (by rintro ⟨h⟩; exact hne rfl))
  have B4 : Bk W2 w.heap.size 29 [.int .u8 1, .int .u8 cx, .int .u16 cv, .int .u16 co] := B2.drew.same (hturn.grown.block _ B2.lt (by rintro ⟨h⟩; exact absurd hm.lt (by omega)))
  have d2 := B4.cell_ 2 rfl
  go_region
  go_wp2
  go_ret2
  exact ⟨rfl, HF.drew.trans HF2, mb, B3, HM2, hc1, hc2⟩

set_option maxRecDepth 100000 in
theorem repApply_1t (C : Nat → Nat) (k tb mb : Nat) (f : Int → Option Int) (d cx cv co c : Int) (w : World) (hb : Bk w tb 59 [.map (some mb), .int .i64 d]) (hm : MapIs w mb f) (hc1 : C tb = k) (hc2 : C mb = k) (hne : mb ≠ tb)
    (x0 : 0 ≤ cx) (x8 : cx < 8) (v0 : 0 ≤ cv) (v1 : cv < 65536) (hx : f cx = some c) (hr : (c != cv) = true) :
    Calls Try.prog 10 #[.pointer (some ⟨tb, 0, none⟩), .agg #[.int .u8 1, .int .u8 cx, .int .u16 cv, .int .u16 co]] w fun e w' =>
      e = .returned (.tuple #[.bool true, .nilIface]) ∧ Fr (· = k) C C w w' ∧ IsTab w' C k tb (upd f cx (some cv)) (wrap64 (d + 1)) := by
  have x1 : cx < 256 := by omega
  go_enter Try.func10, Try.ntmps10
  go_upto_region 9 with (fail)
  refine gen_world (fun W => Fr (· = k) C C w W ∧ Bk W tb 59 [.map (some mb), .int .i64 d] ∧ MapIs W mb f ∧ Bk W w.heap.size 29 [.int .u8 1, .int .u8 cx, .int .u16 cv, .int .u16 co])
    ⟨(Fr.refl _ C w).alloc _, hb.alloc _, hm.alloc _, Bk.new _ _ _⟩ ?_
  rintro W ⟨HF, B1, HM, B2⟩
  have c0 := B1.cell_ 0 rfl
  have c1 := B1.cell_ 1 rfl
  have f1 := B1.frozen 1
  have b0 := B2.cell_ 0 rfl
  have b1 := B2.cell_ 1 rfl
  have b2 := B2.cell_ 2 rfl
  have b3 := B2.cell_ 3 rfl
  have hl := fun n => (HM.drewN n).look x0 x1
  rw [hx] at hl
  simp only [Option.getD_some, Option.isSome_some] at hl
  clear hx
  go_quiet (fail)
  go_upto_region 16 with (fail)
  have hnb : tb ≠ w.heap.size := fun h => absurd hb.lt (by omega)
  refine gen_world (fun W => Fr (· = k) C C w W ∧ Bk W tb 59 [.map (some mb), .int .i64 (wrap64 (d + 1))] ∧ MapIs W mb f ∧ Bk W w.heap.size 29 [.int .u8 1, .int .u8 cx, .int .u16 cv, .int .u16 co])
    ⟨(HF.drewN _).setCell (.inr hc1) _, (B1.drewN _).set 1 _, (HM.drewN _).setCell hne _, (B2.drewN _).far (Ne.symm hnb) _⟩ ?_
  clear HF B1 HM B2 c0 c1 f1 b0 b1 b2 b3 hl
  rintro W ⟨HF, B1, HM, B2⟩
  have c0 := B1.drew.cell_ 0 rfl
  have b0 := B2.drew.cell_ 0 rfl
  have b1 := B2.drew.cell_ 1 rfl
  have b2 := B2.drew.cell_ 2 rfl
  have b3 := B2.drew.cell_ 3 rfl
  have HM' : MapIs W.drew mb f := HM.same rfl
  obtain ⟨W2, hrun, HM2, hturn⟩ := HM'.store x0 x8 v0 v1
  have HF2 : Fr (· = k) C C W.drew W2 := Fr.mapTurned hturn hc2
  have B3 : Bk W2 tb 59 [.map (some mb), .int .i64 (wrap64 (d + 1))] := B1.drew.same (hturn.grown.block tb B1.lt (by rintro ⟨h⟩; exact hne rfl))
  have B4 : Bk W2 w.heap.size 29 [.int .u8 1, .int .u8 cx, .int .u16 cv, .int .u16 co] := B2.drew.same (hturn.grown.block _ B2.lt (by rintro ⟨h⟩; exact absurd hm.lt (by omega)))
  have d2 := B4.cell_ 2 rfl
  go_region
  go_wp2
  go_ret2
  exact ⟨rfl, HF.drew.trans HF2, mb, B3, HM2, hc1, hc2⟩

set_option maxRecDepth 100000 in
theorem repApply_1f (C : Nat → Nat) (k tb mb : Nat) (f : Int → Option Int) (d cx cv co c : Int) (w : World) (hb : Bk w tb 59 [.map (some mb), .int .i64 d]) (hm : MapIs w mb f) (hc1 : C tb = k) (hc2 : C mb = k) (hne : mb ≠ tb)
    (x0 : 0 ≤ cx) (x8 : cx < 8) (v0 : 0 ≤ cv) (v1 : cv < 65536) (hx : f cx = some c) (hr : (c != cv) = false) :
    Calls Try.prog 10 #[.pointer (some ⟨tb, 0, none⟩), .agg #[.int .u8 1, .int .u8 cx, .int .u16 cv, .int .u16 co]] w fun e w' =>
      e = .returned (.tuple #[.bool false, .nilIface]) ∧ Fr (· = k) C C w w' ∧ IsTab w' C k tb (upd f cx (some cv)) (wrap64 (d + 1)) := by
  have x1 : cx < 256 := by omega
  go_enter Try.func10, Try.ntmps10
  go_upto_region 9 with (fail)
  refine gen_world (fun W => Fr (· = k) C C w W ∧ Bk W tb 59 [.map (some mb), .int .i64 d] ∧ MapIs W mb f ∧ Bk W w.heap.size 29 [.int .u8 1, .int .u8 cx, .int .u16 cv, .int .u16 co])
    ⟨(Fr.refl _ C w).alloc _, hb.alloc _, hm.alloc _, Bk.new _ _ _⟩ ?_
  rintro W ⟨HF, B1, HM, B2⟩
  have c0 := B1.cell_ 0 rfl
  have c1 := B1.cell_ 1 rfl
  have f1 := B1.frozen 1
  have b0 := B2.cell_ 0 rfl
  have b1 := B2.cell_ 1 rfl
  have b2 := B2.cell_ 2 rfl
  have b3 := B2.cell_ 3 rfl
  have hl := fun n => (HM.drewN n).look x0 x1
  rw [hx] at hl
  simp only [Option.getD_some, Option.isSome_some] at hl
  clear hx
  go_quiet (fail)
  go_upto_region 16 with (fail)
  have hnb : tb ≠ w.heap.size := fun h => absurd hb.lt (by omega)
  refine gen_world (fun W => Fr (· = k) C C w W ∧ Bk W tb 59 [.map (some mb), .int .i64 (wrap64 (d + 1))] ∧ MapIs W mb f ∧ Bk W w.heap.size 29 [.int .u8 1, .int .u8 cx, .int .u16 cv, .int .u16 co])
    ⟨(HF.drewN _).setCell (.inr hc1) _, (B1.drewN _).set 1 _, (HM.drewN _).setCell hne _, (B2.drewN _).far (Ne.symm hnb) _⟩ ?_
  clear HF B1 HM B2 c0 c1 f1 b0 b1 b2 b3 hl
  rintro W ⟨HF, B1, HM, B2⟩
  have c0 := B1.drew.cell_ 0 rfl
  have b0 := B2.drew.cell_ 0 rfl
  have b1 := B2.drew.cell_ 1 rfl
  have b2 := B2.drew.cell_ 2 rfl
  have b3 := B2.drew.cell_ 3 rfl
  have HM' : MapIs W.drew mb f := HM.same rfl
  obtain ⟨W2, hrun, HM2, hturn⟩ := HM'.store x0 x8 v0 v1
  have HF2 : Fr (· = k) C C W.drew W2 := Fr.mapTurned hturn hc2
  have B3 : Bk W2 tb 59 [.map (some mb), .int .i64 (wrap64 (d + 1))] := B1.drew.same (hturn.grown.block tb B1.lt (by rintro ⟨h⟩; exact hne rfl))
  have B4 : Bk W2 w.heap.size 29 [.int .u8 1, .int .u8 cx, .int .u16 cv, .int .u16 co] := B2.drew.same (hturn.grown.block _ B2.lt (by rintro ⟨h⟩; exact absurd hm.lt (by omega)))
  have d2 := B4.cell_ 2 rfl
  go_region
  go_wp2
  go_ret2
  exact ⟨rfl, HF.drew.trans HF2, mb, B3, HM2, hc1, hc2⟩

set_option maxRecDepth 100000 in
theorem repApply_2n (C : Nat → Nat) (k tb mb : Nat) (f : Int → Option Int) (d cx cv co : Int) (w : World) (hb : Bk w tb 59 [.map (some mb), .int .i64 d]) (hm : MapIs w mb f) (hc1 : C tb = k) (hc2 : C mb = k) (hne : mb ≠ tb)
    (x0 : 0 ≤ cx) (x8 : cx < 8) (hx : f cx = none) :
    Calls Try.prog 10 #[.pointer (some ⟨tb, 0, none⟩), .agg #[.int .u8 2, .int .u8 cx, .int .u16 cv, .int .u16 co]] w fun e w' =>
      e = .returned (.tuple #[.bool false, .nilIface]) ∧ Fr (· = k) C C w w' ∧ IsTab w' C k tb (upd f cx none) (wrap64 (d + 1)) := by
  have x1 : cx < 256 := by omega
  go_enter Try.func10, Try.ntmps10
  go_upto_region 9 with (fail)
  refine gen_world (fun W => Fr (· = k) C C w W ∧ Bk W tb 59 [.map (some mb), .int .i64 d] ∧ MapIs W mb f ∧ Bk W w.heap.size 29 [.int .u8 2, .int .u8 cx, .int .u16 cv, .int .u16 co])
    ⟨(Fr.refl _ C w).alloc _, hb.alloc _, hm.alloc _, Bk.new _ _ _⟩ ?_
  rintro W ⟨HF, B1, HM, B2⟩
  have c0 := B1.cell_ 0 rfl
  have c1 := B1.cell_ 1 rfl
  have f1 := B1.frozen 1
  have b0 := B2.cell_ 0 rfl
  have b1 := B2.cell_ 1 rfl
  have b2 := B2.cell_ 2 rfl
  have b3 := B2.cell_ 3 rfl
  have hl := fun n => (HM.drewN n).look x0 x1
  rw [hx] at hl
  simp only [Option.getD_none, Option.isSome_none] at hl
  clear hx
  go_quiet (fail)
  go_upto_region 18 with (fail)
  have hnb : tb ≠ w.heap.size := fun h => absurd hb.lt (by omega)
  refine gen_world (fun W => Fr (· = k) C C w W ∧ Bk W tb 59 [.map (some mb), .int .i64 (wrap64 (d + 1))] ∧ MapIs W mb f ∧ Bk W w.heap.size 29 [.int .u8 2, .int .u8 cx, .int .u16 cv, .int .u16 co])
    ⟨(HF.drewN _).setCell (.inr hc1) _, (B1.drewN _).set 1 _, (HM.drewN _).setCell hne _, (B2.drewN _).far (Ne.symm hnb) _⟩ ?_
  clear HF B1 HM B2 c0 c1 f1 b0 b1 b2 b3 hl
  rintro W ⟨HF, B1, HM, B2⟩
  have c0 := B1.drew.cell_ 0 rfl
  have b0 := B2.drew.cell_ 0 rfl
  have b1 := B2.drew.cell_ 1 rfl
  have b2 := B2.drew.cell_ 2 rfl
  have b3 := B2.drew.cell_ 3 rfl
  have HM' : MapIs W.drew mb f := HM.same rfl
  obtain ⟨W2, hrun, HM2, hturn⟩ := HM'.drop x0 x1 0
  have HF2 : Fr (· = k) C C W.drew W2 := Fr.mapTurned hturn hc2
  have B3 : Bk W2 tb 59 [.map (some mb), .int .i64 (wrap64 (d + 1))] := B1.drew.same (hturn.grown.block tb B1.lt (by rintro ⟨h⟩; exact hne rfl))
  have B4 : Bk W2 w.heap.size 29 [.int .u8 2, .int .u8 cx, .int .u16 cv, .int .u16 co] := B2.drew.same (hturn.grown.block _ B2.lt (by rintro ⟨h⟩; exact absurd hm.lt (by omega)))
  have d2 := B4.cell_ 2 rfl
  go_region
  go_wp2
  go_ret2
  exact ⟨rfl, HF.drew.trans HF2, mb, B3, HM2, hc1, hc2⟩

set_option maxRecDepth 100000 in
theorem repApply_2s (C : Nat → Nat) (k tb mb : Nat) (f : Int → Option Int) (d cx cv co c : Int) (w : World) (hb : Bk w tb 59 [.map (some mb), .int .i64 d]) (hm : MapIs w mb f) (hc1 : C tb = k) (hc2 : C mb = k) (hne : mb ≠ tb)
    (x0 : 0 ≤ cx) (x8 : cx < 8) (hx : f cx = some c) :
    Calls Try.prog 10 #[.pointer (some ⟨tb, 0, none⟩), .agg #[.int .u8 2, .int .u8 cx, .int .u16 cv, .int .u16 co]] w fun e w' =>
      e = .returned (.tuple #[.bool true, .nilIface]) ∧ Fr (· = k) C C w w' ∧ IsTab w' C k tb (upd f cx none) (wrap64 (d + 1)) := by
  have x1 : cx < 256 := by omega
  go_enter Try.func10, Try.ntmps10
  go_upto_region 9 with (fail)
  refine gen_world (fun W => Fr (· = k) C C w W ∧ Bk W tb 59 [.map (some mb), .int .i64 d] ∧ MapIs W mb f ∧ Bk W w.heap.size 29 [.int .u8 2, .int .u8 cx, .int .u16 cv, .int .u16 co])
    ⟨(Fr.refl _ C w).alloc _, hb.alloc _, hm.alloc _, Bk.new _ _ _⟩ ?_
  rintro W ⟨HF, B1, HM, B2⟩
  have c0 := B1.cell_ 0 rfl
  have c1 := B1.cell_ 1 rfl
  have f1 := B1.frozen 1
  have b0 := B2.cell_ 0 rfl
  have b1 := B2.cell_ 1 rfl
  have b2 := B2.cell_ 2 rfl
  have b3 := B2.cell_ 3 rfl
  have hl := fun n => (HM.drewN n).look x0 x1
  rw [hx] at hl
  simp only [Option.getD_some, Option.isSome_some] at hl
  clear hx
  go_quiet (fail)
  go_upto_region 18 with (fail)
  have hnb : tb ≠ w.heap.size := fun h => absurd hb.lt (by omega)
  refine gen_world (fun W => Fr (· = k) C C w W ∧ Bk W tb 59 [.map (some mb), .int .i64 (wrap64 (d + 1))] ∧ MapIs W mb f ∧ Bk W w.heap.size 29 [.int .u8 2, .int .u8 cx, .int .u16 cv, .int .u16 co])
    ⟨(HF.drewN _).setCell (.inr hc1) _, (B1.drewN _).set 1 _, (HM.drewN _).setCell hne _, (B2.drewN _).far (Ne.symm hnb) _⟩ ?_
  clear HF B1 HM B2 c0 c1 f1 b0 b1 b2 b3 hl
  rintro W ⟨HF, B1, HM, B2⟩
  have c0 := B1.drew.cell_ 0 rfl
  have b0 := B2.drew.cell_ 0 rfl
  have b1 := B2.drew.cell_ 1 rfl
  have b2 := B2.drew.cell_ 2 rfl
  have b3 := B2.drew.cell_ 3 rfl
  have HM' : MapIs W.drew mb f := HM.same rfl
  obtain ⟨W2, hrun, HM2, hturn⟩ := HM'.drop x0 x1 0
  have HF2 : Fr (· = k) C C W.drew W2 := Fr.mapTurned hturn hc2
  have B3 : Bk W2 tb 59 [.map (some mb), .int .i64 (wrap64 (d + 1))] := B1.drew.same (hturn.grown.block tb B1.lt (by rintro ⟨h⟩; exact hne rfl))
  have B4 : Bk W2 w.heap.size 29 [.int .u8 2, .int .u8 cx, .int .u16 cv, .int .u16 co] := B2.drew.same (hturn.grown.block _ B2.lt (by rintro ⟨h⟩; exact absurd hm.lt (by omega)))
  have d2 := B4.cell_ 2 rfl
  go_region
  go_wp2
  go_ret2
  exact ⟨rfl, HF.drew.trans HF2, mb, B3, HM2, hc1, hc2⟩

set_option maxRecDepth 100000 in
theorem repApply_no (C : Nat → Nat) (k tb mb : Nat) (f : Int → Option Int) (d ck cx cv co : Int) (w : World) (hb : Bk w tb 59 [.map (some mb), .int .i64 d]) (hm : MapIs w mb f) (hc1 : C tb = k) (hc2 : C mb = k) (n : Option Int)
    (h : ck = 0 ∧ n = none ∨ (ck == 0) = false ∧ 8 ≤ cx ∧ n = some 2 ∨ (ck == 0) = false ∧ cx < 8 ∧ 3 < ck ∧ n = some 7) :
    Calls Try.prog 10 #[.pointer (some ⟨tb, 0, none⟩), .agg #[.int .u8 ck, .int .u8 cx, .int .u16 cv, .int .u16 co]] w fun e w' =>
      e = .returned (.tuple #[.bool false, errv n]) ∧ Fr (· = k) C C w w' ∧ IsTab w' C k tb f d := by
  have fin : Fr (· = k) C C w (w.alloc (.cells #[.int .u8 ck, .int .u8 cx, .int .u16 cv, .int .u16 co] 29)) ∧ IsTab (w.alloc (.cells #[.int .u8 ck, .int .u8 cx, .int .u16 cv, .int .u16 co] 29)) C k tb f d := ⟨(Fr.refl _ C w).alloc _, mb, hb.alloc _, hm.alloc _, hc1, hc2⟩
  have c0 := hb.cell_ 0 rfl
  clear hb hm hc1 hc2
  rcases h with ⟨rfl, rfl⟩ | ⟨t0, h1, rfl⟩ | ⟨t0, h1, h2, rfl⟩
  · go_enter Try.func10, Try.ntmps10
    go_wp2
    go_ret2
    exact ⟨rfl, fin⟩
  · go_enter Try.func10, Try.ntmps10
    go_wp2
    go_ret2
    exact ⟨rfl, fin⟩
  · go_enter Try.func10, Try.ntmps10
    go_wp2
    go_ret2
    exact ⟨rfl, fin⟩

theorem repApply (C : Nat → Nat) (k tb : Nat) (f : Int → Option Int) (d : Int) (c : Cmd) (hc : c.ok) (w : World) (h : IsTab w C k tb f d) :
    Calls Try.prog 10 #[.pointer (some ⟨tb, 0, none⟩), c.v] w fun e w' =>
      e = .returned (.tuple #[.bool (applyB f c), errv (applyE c)]) ∧ Fr (· = k) C C w w' ∧ IsTab w' C k tb (applyF f c) (applyN d c) := by
  obtain ⟨mb, hb, hm, hc1, hc2⟩ := h
  obtain ⟨ck, cx, cv, co⟩ := c
  obtain ⟨⟨k0, k1⟩, ⟨x0, x1⟩, ⟨v0, v1⟩, ⟨o0, o1⟩⟩ := hc
  simp only at k0 k1 x0 x1 v0 v1 o0 o1
  have hne : mb ≠ tb := by
    rintro rfl
    obtain ⟨_, _, ⟨_, _, hh, _⟩, _⟩ := hm
    unfold Bk at hb
    rw [hb] at hh
    cases hh
  show Calls Try.prog 10 #[.pointer (some ⟨tb, 0, none⟩), .agg #[.int .u8 ck, .int .u8 cx, .int .u16 cv, .int .u16 co]] w _
  by_cases hno : ck = 0 ∨ 8 ≤ cx ∨ 3 < ck
  · have E2 : applied ⟨ck, cx, cv, co⟩ = false := by simp [applied]; omega
    have E3 : applyB f ⟨ck, cx, cv, co⟩ = false := by simp [applyB, E2]
    have E4 : applyF f ⟨ck, cx, cv, co⟩ = f := by simp [applyF, E2]
    have E5 : applyN d ⟨ck, cx, cv, co⟩ = d := by simp [applyN, E2]
    rw [E3, E4, E5]
    refine repApply_no C k tb mb f d ck cx cv co w hb hm hc1 hc2 _ ?_
    by_cases e0 : ck = 0
    · exact .inl ⟨e0, by simp [applyE, e0]⟩
    · by_cases e1 : 8 ≤ cx
      · exact .inr (.inl ⟨by simpa using e0, e1, by simp [applyE, e0, e1]⟩)
      · exact .inr (.inr ⟨by simpa using e0, by omega, by omega, by simp [applyE, e0, e1]; omega⟩)
  · have E1 : applyE ⟨ck, cx, cv, co⟩ = none := by simp only [applyE]; rw [if_neg (by omega), if_neg (by omega), if_neg (by omega)]
    have E2 : applied ⟨ck, cx, cv, co⟩ = true := by simp [applied]; omega
    have E5 : applyN d ⟨ck, cx, cv, co⟩ = wrap64 (d + 1) := by simp [applyN, E2]
    rw [E1, E5]
    have x8 : cx < 8 := by omega
    by_cases e3 : ck = 3
    · subst e3
      cases hx : f cx with
      | none =>
        rw [show applyB f ⟨3, cx, cv, co⟩ = false by simp [applyB, E2, hx], show applyF f ⟨3, cx, cv, co⟩ = f by simp [applyF, E2, hx]]
        exact repApply_3n C k tb mb f d cx cv co w hb hm hc1 hc2 hne x0 x8 hx
      | some c =>
        by_cases e4 : c = co
        · subst e4
          rw [show applyB f ⟨3, cx, cv, c⟩ = decide (c ≠ cv) by simp [applyB, E2, hx], show applyF f ⟨3, cx, cv, c⟩ = upd f cx (some cv) by simp [applyF, E2, hx]]
          by_cases e6 : c = cv
          · rw [show decide (c ≠ cv) = false by simp [e6]]
            exact repApply_3f C k tb mb f d cx cv c w hb hm hc1 hc2 hne x0 x8 v0 v1 hx (by simp) (by simp [e6])
          · rw [show decide (c ≠ cv) = true by simp [e6]]
            exact repApply_3t C k tb mb f d cx cv c w hb hm hc1 hc2 hne x0 x8 v0 v1 hx (by simp) (by simp [e6])
        · rw [show applyB f ⟨3, cx, cv, co⟩ = false by simp [applyB, E2, hx, e4], show applyF f ⟨3, cx, cv, co⟩ = f by simp [applyF, E2, hx, e4]]
          exact repApply_3s C k tb mb f d cx cv co c w hb hm hc1 hc2 hne x0 x8 hx (by simpa using e4)
    · by_cases e5 : ck = 1
      · subst e5
        rw [show applyF f ⟨1, cx, cv, co⟩ = upd f cx (some cv) by simp [applyF, E2]]
        cases hx : f cx with
        | none =>
          rw [show applyB f ⟨1, cx, cv, co⟩ = true by simp [applyB, E2, hx]]
          exact repApply_1n C k tb mb f d cx cv co w hb hm hc1 hc2 hne x0 x8 v0 v1 hx
        | some c =>
          by_cases e6 : c = cv
          · rw [show applyB f ⟨1, cx, cv, co⟩ = false by simp [applyB, E2, hx, e6]]
            exact repApply_1f C k tb mb f d cx cv co c w hb hm hc1 hc2 hne x0 x8 v0 v1 hx (by simp [e6])
          · rw [show applyB f ⟨1, cx, cv, co⟩ = true by simp [applyB, E2, hx, e6]]
            exact repApply_1t C k tb mb f d cx cv co c w hb hm hc1 hc2 hne x0 x8 v0 v1 hx (by simp [e6])
      · obtain rfl : ck = 2 := by omega
        rw [show applyF f ⟨2, cx, cv, co⟩ = upd f cx none by simp [applyF, E2]]
        cases hx : f cx with
        | none =>
          rw [show applyB f ⟨2, cx, cv, co⟩ = false by simp [applyB, E2, hx]]
          exact repApply_2n C k tb mb f d cx cv co w hb hm hc1 hc2 hne x0 x8 hx
        | some c =>
          rw [show applyB f ⟨2, cx, cv, co⟩ = true by simp [applyB, E2, hx]]
          exact repApply_2s C k tb mb f d cx cv co c w hb hm hc1 hc2 hne x0 x8 hx
end Go.Proofs.Ytomcjmgbkpbdpaa
