/- law06.Long, law06.Works, package guard's New, Due, Come: what they compute. No condition but the tables' own ranges. -/
import Derived.Test.YtnmhfdkmiblknaaRef6b
import Derived.Test.YtnmhfdkmiblknaaSl
set_option linter.unusedSimpArgs false
set_option linter.unusedVariables false
namespace Go.Proofs.Ytnmhfdkmiblknaa
open Go.RowKit Go.Maps

def longB (c : Cfg) : Bool := decide ((40 : Int) < c.parts.length) || decide ((60 : Int) < c.ports.length) || decide ((60 : Int) < c.routes.length)
theorem longB_false {c : Cfg} (h : Good c) : longB c = false := by
  have := h.np
  have := h.nq
  have := h.nr
  unfold longB
  rw [decide_eq_false (by omega), decide_eq_false (by omega), decide_eq_false (by omega)]
  rfl

set_option maxRecDepth 100000 in
theorem law6Long (c : Cfg) (C : Nat → Nat) (pv qv rv : Value) (w : World) (hl : Lists w C c pv qv rv) :
    Calls Try.prog 15 #[c.v pv qv rv] w fun e w' => e = .returned (.bool (longB c)) ∧ Below w.heap.size w w' := by
  obtain ⟨⟨pa, pc, rfl, p1, p2, p3, p4⟩, ⟨qa, qc, rfl, q1, q2, q3, q4⟩, ⟨ra, rc, rfl, r1, r2, r3, r4⟩⟩ := id hl
  unfold maxLen at p2 q2 r2
  have hb := fun o => (Below.refl w.heap.size w).alloc (Nat.le_refl _) o
  clear p3 p4 q3 q4 r3 r4 hl
  unfold Cfg.v
  go_enter Try.func15, Try.ntmps15
  go_wp2
  all_goals go_ret
  all_goals first
    | exact ⟨rfl, hb _⟩
    | exact ⟨congrArg (fun b => Ending.returned (.bool b)) (show true = longB c by symm; unfold longB; simp only [Bool.or_eq_true, decide_eq_true_eq]; omega), hb _⟩
    | exact ⟨congrArg (fun b => Ending.returned (.bool b)) (show decide _ = longB c by unfold longB; rw [Bool.eq_iff_iff]; simp only [Bool.or_eq_true, decide_eq_true_eq]; omega), hb _⟩

theorem sndE_good {c : Cfg} (h : sndE c = none) : Good c := by
  refine Good.of ?_
  unfold sndE at h
  cases ht : tabE c with
  | none => rfl
  | some x => rw [ht] at h; simp at h
theorem refT_none (o : Option (Int × Int)) : (refT o).isEmpty = o.isNone := by
  cases o with
  | none => rfl
  | some x => rw [ne_empty (refT_ne x)]; rfl

set_option maxRecDepth 100000 in
theorem law6Works (c : Cfg) (hok : c.ok) (C : Nat → Nat) (pv qv rv : Value) (w : World) (hl : Lists w C c pv qv rv) (hf : Fin C w) :
    Calls Try.prog 7 #[c.v pv qv rv] w fun e w' => e = .returned (.bool (sndE c).isNone) ∧ Below w.heap.size w w' := by
  unfold Cfg.v
  go_enter Try.func7, Try.ntmps7
  go_upto_region 1 with (fail)
  refine gen_world (fun W => Below w.heap.size w W ∧ Bk W w.heap.size 26 (c.cells pv qv rv)) ⟨(Below.refl w.heap.size w).alloc (Nat.le_refl _) _, Bk.new _ _ _⟩ ?_
  rintro W ⟨hW, hB⟩
  have dc := hB.cfg0
  have hlW : Lists W C c pv qv rv := hl.fr (Fr.of_below hW (fun _ => False)) (fun h => h)
  have hfW : Fin C W := (Fr.of_below hW (fun _ => False)).Fin hf
  go_wp2_with fail
  refine (law6Long c C pv qv rv W hlW).mono ?_
  cases hL : longB c with
  | true =>
    rintro e w1 ⟨rfl, hw1⟩
    have HN := hid_ (show (sndE c).isNone = false by
      cases h : sndE c with
      | none => rw [longB_false (sndE_good h)] at hL; cases hL
      | some x => rfl)
    clear hL
    go_wp2
    go_ret
    exact ⟨by rw [HN.out]; rfl, below_then hW hw1⟩
  | false =>
    rintro e w1 ⟨rfl, hw1⟩
    have hw1' := below_then hW hw1
    have hB1 : Bk w1 w.heap.size 26 (c.cells pv qv rv) := hB.same (hw1.block _ hB.lt)
    clear dc hL
    have dc := hB1.cfg0
    have hl1 : Lists w1 C c pv qv rv := hlW.fr (Fr.of_below hw1 (fun _ => False)) (fun h => h)
    have hf1 : Fin C w1 := (Fr.of_below hw1 (fun _ => False)).Fin hfW
    go_wp2_with fail
    refine (refCheck6 c hok C pv qv rv w1 hl1 hf1).mono ?_
    have HR := hid_ (refT_none (sndE c))
    rintro e w2 ⟨rfl, hw2⟩
    generalize refT (sndE c) = T at *
    cases T with
    | nil =>
      go_wp2
      go_ret
      exact ⟨by rw [← HR.out]; rfl, below_then hw1' hw2⟩
    | cons x T =>
      go_wp2
      go_ret
      exact ⟨by rw [← HR.out]; rfl, below_then hw1' hw2⟩
end Go.Proofs.Ytnmhfdkmiblknaa
namespace Go.Proofs.Ytnmhfdkmiblknaa
open Go.RowKit Go.Maps

theorem info_part : (Try.prog.info? 74).map (fun i => (i.zero.map (·.cells.size), i.size, i.bytes)) = some (some 9, 9, 48) := by kernel_rfl
theorem info_port : (Try.prog.info? 77).map (fun i => (i.zero.map (·.cells.size), i.size, i.bytes)) = some (some 6, 6, 40) := by kernel_rfl
theorem info_route : (Try.prog.info? 79).map (fun i => (i.zero.map (·.cells.size), i.size, i.bytes)) = some (some 2, 2, 16) := by kernel_rfl

theorem Lists.recolour {w : World} {C D : Nat → Nat} {c : Cfg} {pv qv rv : Value} (h : Lists w C c pv qv rv) (hD : ∀ b, b < w.heap.size → C b = 0 → D b = 0) : Lists w D c pv qv rv :=
  ⟨h.parts.recolour hD, h.ports.recolour hD, h.routes.recolour hD⟩
def zeroCfg : List Value := [.int .i64 0, .int .i64 0, .int .i64 0, .int .i64 0, .int .i64 0, .int .i64 0, .int .i64 0, .int .i64 0, .slice none 0 0, .slice none 0 0, .slice none 0 0]

set_option maxRecDepth 100000 in
set_option maxHeartbeats 4000000 in
theorem refCopied (c : Cfg) (C : Nat → Nat) (pv qv rv : Value) (w : World) (hl : Lists w C c pv qv rv) (hf : Fin C w) (hL : longB c = false) :
    Calls Try.prog 16 #[c.v pv qv rv] w fun e w' => ∃ pv' qv' rv', e = .returned (c.v pv' qv' rv') ∧ Below w.heap.size w w' ∧ Lists w' C c pv' qv' rv' := by
  have n1 : c.parts.length ≤ 40 := by unfold longB at hL; simp only [Bool.or_eq_false_iff, decide_eq_false_iff_not] at hL; omega
  have n2 : c.ports.length ≤ 60 := by unfold longB at hL; simp only [Bool.or_eq_false_iff, decide_eq_false_iff_not] at hL; omega
  have n3 : c.routes.length ≤ 60 := by unfold longB at hL; simp only [Bool.or_eq_false_iff, decide_eq_false_iff_not] at hL; omega
  unfold Cfg.v
  go_enter Try.func16, Try.ntmps16
  go_upto_region 1 with (fail)
  refine gen_world (fun W => Below w.heap.size w W ∧ Bk W w.heap.size 26 (c.cells pv qv rv) ∧ Bk W (w.heap.size + 1) 26 zeroCfg) ⟨((Below.refl w.heap.size w).alloc (Nat.le_refl _) _).alloc (by simp) _, (Bk.new _ _ _).alloc _, ?_⟩ ?_
  · have := Bk.new (w.alloc (.cells (c.cells pv qv rv).toArray 26)) 26 zeroCfg
    rw [World.size_alloc] at this
    exact this
  rintro W ⟨hW, hB, hZ⟩
  have hsz := hZ.lt
  obtain ⟨C1, hC1, hC2, hC5⟩ : ∃ C1 : Nat → Nat, C1 w.heap.size = 9 ∧ C1 (w.heap.size + 1) = 9 ∧ ∀ b, b ≠ w.heap.size → b ≠ w.heap.size + 1 → C1 b = C b :=
    ⟨fun x => if x = w.heap.size ∨ x = w.heap.size + 1 then 9 else C x, by simp, by simp, fun b h1 h2 => by simp only; rw [if_neg (by omega)]⟩
  have hback : ∀ b, C1 b = 0 → C b = 0 := fun b h => by rw [← hC5 b (by rintro rfl; rw [hC1] at h; cases h) (by rintro rfl; rw [hC2] at h; cases h)]; exact h
  have hforth : ∀ b, b < w.heap.size → C b = 0 → C1 b = 0 := fun b hb h => by rw [hC5 b (by omega) (by omega)]; exact h
  have hf0 : Fin C1 W := fun b hb => by rw [hC5 b (by omega) (by omega)]; exact hf b (by omega)
  have F0 : Fr (· = 9) C1 C1 w W := Fr.of_below hW _
  have P0 := (hl.parts.recolour hforth).fr F0 (by omega)
  have Q0 := (hl.ports.recolour hforth).fr F0 (by omega)
  have R0 := (hl.routes.recolour hforth).fr F0 (by omega)
  obtain ⟨b1, o1, p1, W1, hr1, X1, hb1, hge1, hraw1⟩ := copy_of (P := Try.prog) W hf0 Try.underlying22 info_part P0.src (by unfold maxLen; omega) (by omega)
  have HR1 := hid_ hr1
  clear hr1
  have B1 := hB.same (hb1.block _ hB.lt)
  have Z1 := hZ.same (hb1.block _ hZ.lt)
  have S1 : Fr (· = 9) C1 C1 W1 (W1.setCell ⟨w.heap.size, 8, none⟩ (.slice (some ⟨b1, o1, none⟩) c.parts.length p1)) := (Fr.refl (· = 9) C1 W1).setCell (.inr hC1) _
  have F1 := (Fr.of_below hb1 (· = 9)).trans S1
  have B1' : Bk (W1.setCell ⟨w.heap.size, 8, none⟩ (.slice (some ⟨b1, o1, none⟩) c.parts.length p1)) w.heap.size 26 (c.cells (.slice (some ⟨b1, o1, none⟩) c.parts.length p1) qv rv) := B1.set 8 (.slice (some ⟨b1, o1, none⟩) c.parts.length p1)
  have Z1' := Z1.far (a := ⟨w.heap.size, 8, none⟩) (by simp) (.slice (some ⟨b1, o1, none⟩) c.parts.length p1)
  have V1 := (below_then hW hb1).setCell (p := ⟨w.heap.size, 8, none⟩) (Nat.le_refl _) (.slice (some ⟨b1, o1, none⟩) c.parts.length p1)
  have f1 := F1.Fin hf0
  have P1 := X1.fr S1 (by omega)
  have Q1 := Q0.fr F1 (by omega)
  have R1 := R0.fr F1 (by omega)
  have c1 := fun o => (hB.alloc o).cell_ 8 rfl
  have d1 := B1.cell_ 8 rfl
  have e1 := B1.frozen 8
  obtain ⟨b2, o2, p2, W2, hr2, X2, hb2, hge2, hraw2⟩ := copy_of (P := Try.prog) (W1.setCell ⟨w.heap.size, 8, none⟩ (.slice (some ⟨b1, o1, none⟩) c.parts.length p1)) f1 Try.underlying23 info_port Q1.src (by unfold maxLen; omega) (by omega)
  rw [World.size_setCell] at hr2
  have HR2 := hid_ hr2
  clear hr2
  have B2 := B1'.same (hb2.block _ B1'.lt)
  have Z2 := Z1'.same (hb2.block _ Z1'.lt)
  have S2 : Fr (· = 9) C1 C1 W2 (W2.setCell ⟨w.heap.size, 9, none⟩ (.slice (some ⟨b2, o2, none⟩) c.ports.length p2)) := (Fr.refl (· = 9) C1 W2).setCell (.inr hC1) _
  have F2 := (Fr.of_below hb2 (· = 9)).trans S2
  have B2' : Bk (W2.setCell ⟨w.heap.size, 9, none⟩ (.slice (some ⟨b2, o2, none⟩) c.ports.length p2)) w.heap.size 26 (c.cells (.slice (some ⟨b1, o1, none⟩) c.parts.length p1) (.slice (some ⟨b2, o2, none⟩) c.ports.length p2) rv) := B2.set 9 (.slice (some ⟨b2, o2, none⟩) c.ports.length p2)
  have Z2' := Z2.far (a := ⟨w.heap.size, 9, none⟩) (by simp) (.slice (some ⟨b2, o2, none⟩) c.ports.length p2)
  have V2 := (below_then V1 hb2).setCell (p := ⟨w.heap.size, 9, none⟩) (Nat.le_refl _) (.slice (some ⟨b2, o2, none⟩) c.ports.length p2)
  have f2 := F2.Fin f1
  have P2 := P1.fr F2 (by omega)
  have Q2 := X2.fr S2 (by omega)
  have R2 := R1.fr F2 (by omega)
  have c2 := fun o => (B1'.alloc o).cell_ 9 rfl
  have d2 := B2.cell_ 9 rfl
  have e2 := B2.frozen 9
  obtain ⟨b3, o3, p3, W3, hr3, X3, hb3, hge3, hraw3⟩ := copy_of (P := Try.prog) (W2.setCell ⟨w.heap.size, 9, none⟩ (.slice (some ⟨b2, o2, none⟩) c.ports.length p2)) f2 Try.underlying24 info_route R2.src (by unfold maxLen; omega) (by omega)
  rw [World.size_setCell] at hr3
  have HR3 := hid_ hr3
  clear hr3
  have B3 := B2'.same (hb3.block _ B2'.lt)
  have Z3 := Z2'.same (hb3.block _ Z2'.lt)
  have S3 : Fr (· = 9) C1 C1 W3 (W3.setCell ⟨w.heap.size, 10, none⟩ (.slice (some ⟨b3, o3, none⟩) c.routes.length p3)) := (Fr.refl (· = 9) C1 W3).setCell (.inr hC1) _
  have F3 := (Fr.of_below hb3 (· = 9)).trans S3
  have B3' : Bk (W3.setCell ⟨w.heap.size, 10, none⟩ (.slice (some ⟨b3, o3, none⟩) c.routes.length p3)) w.heap.size 26 (c.cells (.slice (some ⟨b1, o1, none⟩) c.parts.length p1) (.slice (some ⟨b2, o2, none⟩) c.ports.length p2) (.slice (some ⟨b3, o3, none⟩) c.routes.length p3)) := B3.set 10 (.slice (some ⟨b3, o3, none⟩) c.routes.length p3)
  have Z3' := Z3.far (a := ⟨w.heap.size, 10, none⟩) (by simp) (.slice (some ⟨b3, o3, none⟩) c.routes.length p3)
  have V3 := (below_then V2 hb3).setCell (p := ⟨w.heap.size, 10, none⟩) (Nat.le_refl _) (.slice (some ⟨b3, o3, none⟩) c.routes.length p3)
  have f3 := F3.Fin f2
  have P3 := P2.fr F3 (by omega)
  have Q3 := Q2.fr F3 (by omega)
  have R3 := X3.fr S3 (by omega)
  have c3 := fun o => (B2'.alloc o).cell_ 10 rfl
  have d3 := B3.cell_ 10 rfl
  have e3 := B3.frozen 10
  clear F1 F2 F3 S1 S2 S3
  go_upto_region 2 with (refine wpList_append_run HR1.out (by rfl) (by rfl) (by rfl) (by rfl) ?_)
  clear c1 d1 e1
  go_upto_region 3 with (refine wpList_append_run HR2.out (by rfl) (by rfl) (by rfl) (by rfl) ?_)
  clear c2 d2 e2
  go_upto_region 4 with (refine wpList_append_run HR3.out (by rfl) (by rfl) (by rfl) (by rfl) ?_)
  clear c3 d3 e3
  refine gen_world (fun W4 => Below w.heap.size w W4 ∧ Bk W4 w.heap.size 26 (c.cells (.slice (some ⟨b1, o1, none⟩) c.parts.length p1) (.slice (some ⟨b2, o2, none⟩) c.ports.length p2) (.slice (some ⟨b3, o3, none⟩) c.routes.length p3)) ∧ Bk W4 (w.heap.size + 1) 26 zeroCfg ∧ Lists W4 C1 c (.slice (some ⟨b1, o1, none⟩) c.parts.length p1) (.slice (some ⟨b2, o2, none⟩) c.ports.length p2) (.slice (some ⟨b3, o3, none⟩) c.routes.length p3))
    ⟨V3, B3', Z3', ⟨P3, Q3, R3⟩⟩ ?_
  clear HR1 HR2 HR3 V1 V2 V3 B1 B2 B3 B1' B2' B3' Z1 Z2 Z3 Z1' Z2' Z3' P0 Q0 R0 P1 Q1 R1 P2 Q2 R2 P3 Q3 R3 X1 X2 X3 hb1 hb2 hb3 hge1 hge2 hge3 hraw1 hraw2 hraw3 f1 f2 f3
  rintro W4 ⟨V4, B4, Z4, L4⟩
  have dc := B4.cfg0
  have z0 := Z4.cell_ 0 rfl
  have z1 := Z4.cell_ 1 rfl
  have z2 := Z4.cell_ 2 rfl
  have z3 := Z4.cell_ 3 rfl
  have z4 := Z4.cell_ 4 rfl
  have z5 := Z4.cell_ 5 rfl
  have z6 := Z4.cell_ 6 rfl
  have z7 := Z4.cell_ 7 rfl
  have z8 := Z4.cell_ 8 rfl
  have z9 := Z4.cell_ 9 rfl
  have z10 := Z4.cell_ 10 rfl
  have zf := fun i => Z4.frozen i
  go_wp2
  refine bodyPost_ret (v := c.v (.slice (some ⟨b1, o1, none⟩) c.parts.length p1) (.slice (some ⟨b2, o2, none⟩) c.ports.length p2) (.slice (some ⟨b3, o3, none⟩) c.routes.length p3)) ((results_cell1 rfl _ _ _).trans ?_) rfl ⟨_, _, _, rfl, ?_, ?_⟩
  · unfold Cfg.v
    clear dc
    go_simp
  · repeat (refine Below.setCell ?_ (Nat.le_succ _) _)
    exact V4
  · refine Lists.recolour (C := C1) ?_ (fun b _ h => hback b h)
    refine L4.fr (K := (· = 9)) ?_ (by omega)
    repeat (refine Fr.setCell ?_ (.inr hC2) _)
    exact Fr.refl _ _ _
end Go.Proofs.Ytnmhfdkmiblknaa
