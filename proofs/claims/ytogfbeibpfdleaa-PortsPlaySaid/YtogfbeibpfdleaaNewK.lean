/- law06.Long, law06.Works, package guard's New, Due, Come: what they compute. No condition but the tables' own ranges. · Package ports: New. No condition but the tables' own ranges. · Chapter 13's fixed tables. No condition. · The references' copy of tables. No condition but lists of moderate length. -/
import Derived.Test.YtogfbeibpfdleaaRef6b
import Derived.Test.YtogfbeibpfdleaaPWrite
import Derived.Test.YtogfbeibpfdleaaSl
set_option linter.unusedSimpArgs false
set_option linter.unusedVariables false
namespace Go.Proofs.Ytogfbeibpfdleaa
open Go.RowKit Go.Maps

def longB (c : Cfg) : Bool := decide ((40 : Int) < c.parts.length) || decide ((60 : Int) < c.ports.length) || decide ((60 : Int) < c.routes.length)
theorem longB_false {c : Cfg} (h : Good c) : longB c = false := by
  have := h.np
  have := h.nq
  have := h.nr
  unfold longB
  rw [decide_eq_false (by omega), decide_eq_false (by omega), decide_eq_false (by omega)]
  rfl

set_option maxRecDepth 100000 in
theorem law6Long (c : Cfg) (C : Nat → Nat) (pv qv rv : Value) (w : World) (hl : Lists w C c pv qv rv) :
    Calls Try.prog 25 #[c.v pv qv rv] w fun e w' => e = .returned (.bool (longB c)) ∧ Below w.heap.size w w' := by
  obtain ⟨⟨pa, pc, rfl, p1, p2, p3, p4⟩, ⟨qa, qc, rfl, q1, q2, q3, q4⟩, ⟨ra, rc, rfl, r1, r2, r3, r4⟩⟩ := id hl
  unfold maxLen at p2 q2 r2
  have hb := fun o => (Below.refl w.heap.size w).alloc (Nat.le_refl _) o
  clear p3 p4 q3 q4 r3 r4 hl
  unfold Cfg.v
  go_enter Try.func25, Try.ntmps25
  go_wp2
  all_goals go_ret
  all_goals first
    | exact ⟨rfl, hb _⟩
    | exact ⟨congrArg (fun b => Ending.returned (.bool b)) (show true = longB c by symm; unfold longB; simp only [Bool.or_eq_true, decide_eq_true_eq]; omega), hb _⟩
    | exact ⟨congrArg (fun b => Ending.returned (.bool b)) (show decide _ = longB c by unfold longB; rw [Bool.eq_iff_iff]; simp only [Bool.or_eq_true, decide_eq_true_eq]; omega), hb _⟩

theorem sndE_good {c : Cfg} (h : sndE c = none) : Good c := by
  refine Good.of ?_
  unfold sndE at h
  cases ht : tabE c with
  | none => rfl
  | some x => rw [ht] at h; simp at h
theorem refT_none (o : Option (Int × Int)) : (refT o).isEmpty = o.isNone := by
  cases o with
  | none => rfl
  | some x => rw [ne_empty (refT_ne x)]; rfl

set_option maxRecDepth 100000 in
theorem law6Works (c : Cfg) (hok : c.ok) (C : Nat → Nat) (pv qv rv : Value) (w : World) (hl : Lists w C c pv qv rv) (hf : Fin C w) :
    Calls Try.prog 22 #[c.v pv qv rv] w fun e w' => e = .returned (.bool (sndE c).isNone) ∧ Below w.heap.size w w' := by
  unfold Cfg.v
  go_enter Try.func22, Try.ntmps22
  go_upto_region 1 with (fail)
  refine gen_world (fun W => Below w.heap.size w W ∧ Bk W w.heap.size 28 (c.cells pv qv rv)) ⟨(Below.refl w.heap.size w).alloc (Nat.le_refl _) _, Bk.new _ _ _⟩ ?_
  rintro W ⟨hW, hB⟩
  have dc := hB.cfg0
  have hlW : Lists W C c pv qv rv := hl.fr (Fr.of_below hW (fun _ => False)) (fun h => h)
  have hfW : Fin C W := (Fr.of_below hW (fun _ => False)).Fin hf
  go_wp2_with fail
  refine (law6Long c C pv qv rv W hlW).mono ?_
  cases hL : longB c with
  | true =>
    rintro e w1 ⟨rfl, hw1⟩
    have HN := hid_ (show (sndE c).isNone = false by
      cases h : sndE c with
      | none => rw [longB_false (sndE_good h)] at hL; cases hL
      | some x => rfl)
    clear hL
    go_wp2
    go_ret
    exact ⟨by rw [HN.out]; rfl, below_then hW hw1⟩
  | false =>
    rintro e w1 ⟨rfl, hw1⟩
    have hw1' := below_then hW hw1
    have hB1 : Bk w1 w.heap.size 28 (c.cells pv qv rv) := hB.same (hw1.block _ hB.lt)
    clear dc hL
    have dc := hB1.cfg0
    have hl1 : Lists w1 C c pv qv rv := hlW.fr (Fr.of_below hw1 (fun _ => False)) (fun h => h)
    have hf1 : Fin C w1 := (Fr.of_below hw1 (fun _ => False)).Fin hfW
    go_wp2_with fail
    refine (refCheck6 c hok C pv qv rv w1 hl1 hf1).mono ?_
    have HR := hid_ (refT_none (sndE c))
    rintro e w2 ⟨rfl, hw2⟩
    generalize refT (sndE c) = T at *
    cases T with
    | nil =>
      go_wp2
      go_ret
      exact ⟨by rw [← HR.out]; rfl, below_then hw1' hw2⟩
    | cons x T =>
      go_wp2
      go_ret
      exact ⟨by rw [← HR.out]; rfl, below_then hw1' hw2⟩
end Go.Proofs.Ytogfbeibpfdleaa
namespace Go.Proofs.Ytogfbeibpfdleaa
open Go.RowKit Go.Maps

def noLv : Nat → Value := fun _ => .slice none 0 0
def st0 (n : Nat) : List PSt := List.replicate n ⟨[], 0⟩
theorem make_states (n : Nat) (hn : n ≤ 24) (w : World) : (Instr.makeSlice 82 (.int .i64 n) (.int .i64 n)).run Try.prog w = .ok (.slice (some ⟨w.heap.size, 0, none⟩) n n) (w.alloc (.cells (pcells noLv (st0 n)).toArray 88)) := by
  rcases (by omega : n = 0 ∨ n = 1 ∨ n = 2 ∨ n = 3 ∨ n = 4 ∨ n = 5 ∨ n = 6 ∨ n = 7 ∨ n = 8 ∨ n = 9 ∨ n = 10 ∨ n = 11 ∨ n = 12 ∨ n = 13 ∨ n = 14 ∨ n = 15 ∨ n = 16 ∨ n = 17 ∨ n = 18 ∨ n = 19 ∨ n = 20 ∨ n = 21 ∨ n = 22 ∨ n = 23 ∨ n = 24) with rfl | rfl | rfl | rfl | rfl | rfl | rfl | rfl | rfl | rfl | rfl | rfl | rfl | rfl | rfl | rfl | rfl | rfl | rfl | rfl | rfl | rfl | rfl | rfl | rfl <;> kernel_rfl

/-- What New says. -/
def NewP (c : Cfg) (C : Nat → Nat) (k : Nat) (pv qv rv : Value) (node : Int) (w : World) (e : Ending) (w' : World) : Prop :=
  match sndE c with
  | some x => ∃ ev, e = .returned (.tuple #[.pointer none, ev]) ∧ Below w.heap.size w w' ∧ ErrO w w' ev (some x)
  | none => if node < 0 ∨ c.nodes ≤ node then e = .returned (.tuple #[.pointer none, .iface 81 (.int .i64 2)]) ∧ Below w.heap.size w w'
    else ∃ b ab C', e = .returned (.tuple #[.pointer (some ⟨b, 0, none⟩), .nilIface]) ∧ ab ≠ b ∧ w.heap.size ≤ b ∧ w.heap.size ≤ ab ∧ Fr (fun _ => False) C C' w w' ∧ IsPorts w' C' k b ab c pv qv rv node noLv (st0 c.ports.length)

set_option maxRecDepth 100000 in
set_option maxHeartbeats 4000000 in
theorem portsNew (c : Cfg) (hok : c.ok) (C : Nat → Nat) (k : Nat) (hk : k ≠ 0) (pv qv rv : Value) (node : Int) (w : World) (hl : Lists w C c pv qv rv) (hf : Fin C w) :
    Calls Try.prog 12 #[c.v pv qv rv, .int .i64 node] w (NewP c C k pv qv rv node w) := by
  obtain ⟨qa, qc, rfl, hqc, hqm, -⟩ := id hl.ports
  unfold maxLen at hqm
  have HC := hid_ (sndCheck c hok C pv (.slice qa c.ports.length qc) rv)
  unfold Cfg.v at HC ⊢
  go_enter Try.func12, Try.ntmps12
  go_upto_region 1 with (fail)
  refine gen_world (fun W => Below w.heap.size w W ∧ Bk W w.heap.size 28 (c.cells pv (.slice qa c.ports.length qc) rv)) ⟨(Below.refl w.heap.size w).alloc (Nat.le_refl _) _, Bk.new _ _ _⟩ ?_
  rintro W ⟨hW, hB⟩
  have dc := hB.cfg0
  have hlW := hl.fr (Fr.of_below (C := C) hW (fun _ => False)) (fun h => h)
  have hfW : Fin C W := (Fr.of_below hW (fun _ => False)).Fin hf
  go_wp2_with fail
  refine (HC.out W hlW hfW).mono ?_
  rintro e w1 ⟨ev, rfl, hw1, hE⟩
  have hw1' := below_then hW hw1
  have HN : Hid (∀ e w', NewP c C k pv (.slice qa c.ports.length qc) rv node w e w' = (match sndE c with
    | some x => ∃ ev, e = .returned (.tuple #[.pointer none, ev]) ∧ Below w.heap.size w w' ∧ ErrO w w' ev (some x)
    | none => if node < 0 ∨ c.nodes ≤ node then e = .returned (.tuple #[.pointer none, .iface 81 (.int .i64 2)]) ∧ Below w.heap.size w w'
      else ∃ b ab C', e = .returned (.tuple #[.pointer (some ⟨b, 0, none⟩), .nilIface]) ∧ ab ≠ b ∧ w.heap.size ≤ b ∧ w.heap.size ≤ ab ∧ Fr (fun _ => False) C C' w w' ∧ IsPorts w' C' k b ab c pv (.slice qa c.ports.length qc) rv node noLv (st0 c.ports.length))) := fun _ _ => rfl
  cases hs : sndE c with
  | some x =>
    rw [hs] at hE
    have hE' := hid_ (ErrO.mono hE hW.size)
    obtain ⟨cc, aa⟩ := x
    obtain ⟨b, rfl, _, _⟩ := hE
    unfold faultV
    have HS := hid_ hs
    clear dc hs
    go_wp2
    go_ret2
    rw [HN.out, HS.out]
    exact ⟨_, rfl, hw1', hE'.out⟩
  | none =>
    rw [hs] at hE
    have hE' : ev = .nilIface := hE
    subst hE'
    have HS := hid_ hs
    have hg := sndE_good hs
    have hnq := hg.nq
    have hB1 := hB.same (hw1.block _ hB.lt)
    clear dc hs hE hlW hfW
    have b0 := hB1.cell_ 0 rfl
    by_cases hn : node < 0 ∨ c.nodes ≤ node
    · have HNN := hid_ hn
      have hcases : node < 0 ∨ (0 ≤ node ∧ c.nodes ≤ node) := by omega
      clear hn
      rcases hcases with hn | ⟨hn0, hn⟩
      all_goals
        go_wp2
        go_ret2
        rw [HN.out, HS.out]
        simp only
        rw [if_pos HNN.out]
        exact ⟨rfl, hw1'⟩
    · have h0 : 0 ≤ node := by omega
      have h1 : node < c.nodes := by omega
      have HNN := hid_ hn
      clear hn b0
      have dc := hB1.cfg0
      have dcA := fun o => (hB1.alloc o).cfg0
      have hmk := make_states c.ports.length hnq
      go_upto_region 6 with (fail)
      go_region
      all_goals
        go_wp2_with fail
        go_ret2
        rw [HN.out, HS.out]
        simp only
        rw [if_neg HNN.out]
        have hsz := hw1'.size
        have G1 := Fr.of_below (C := C) hw1' (fun _ => False)
        have hPn := Bk.new (w1.alloc (.cells (pcells noLv (st0 c.ports.length)).toArray 88)) 84 (c.cells pv (.slice qa c.ports.length qc) rv ++ [Value.int .i64 node, Value.slice (some ⟨w1.heap.size, 0, none⟩) c.ports.length c.ports.length])
        rw [World.size_alloc] at hPn
        have hAl := (Bk.new w1 88 (pcells noLv (st0 c.ports.length))).alloc (.cells (c.cells pv (.slice qa c.ports.length qc) rv ++ [Value.int .i64 node, Value.slice (some ⟨w1.heap.size, 0, none⟩) c.ports.length c.ports.length]).toArray 84)
        have hst : (st0 c.ports.length).length = c.ports.length := by unfold st0; simp
        have G2 : Fr (fun _ => False) C (fun x => if x = w1.heap.size ∨ x = w1.heap.size + 1 then k else C x) w (((w1.alloc (.cells (pcells noLv (st0 c.ports.length)).toArray 88)).alloc (.cells (c.cells pv (.slice qa c.ports.length qc) rv ++ [Value.int .i64 node, Value.slice (some ⟨w1.heap.size, 0, none⟩) c.ports.length c.ports.length]).toArray 84)).drew) :=
          (((G1.alloc _).alloc _).drew).recolour (fun x hx _ => if_neg (by omega)) (fun x hx => by
            have hx' : w1.heap.size + 2 ≤ x := by simpa using hx
            rw [if_neg (by omega)]
            exact hf x (by omega))
        refine ⟨w1.heap.size + 1, w1.heap.size, (fun x => if x = w1.heap.size ∨ x = w1.heap.size + 1 then k else C x), rfl, by omega, by omega, by omega, G2, ?_⟩
        exact ⟨by rw [hst]; exact hPn.drew, by simp, hl.fr G2 (fun h => h), hAl.drew, by simp, hst, fun i hi => by
          unfold noLv st0
          rw [List.getD_eq_getElem?_getD, List.getElem?_replicate]
          split
          · exact IsList.nil _ _ _
          · exact IsList.nil _ _ _⟩
end Go.Proofs.Ytogfbeibpfdleaa
namespace Go.Proofs.Ytogfbeibpfdleaa
open Go.RowKit Go.Maps

def wiredC : Cfg := ⟨2, 0, 1000, 500, 0, 0, 0, 98, [⟨0, 0, 10, 9, 2, 0, 0, 0, 0⟩, ⟨1, 0, 10, 9, 2, 0, 0, 0, 0⟩],
  [⟨0, 2, true, 1, 2, 0⟩, ⟨1, 2, false, 1, 1, 0⟩, ⟨0, 1, true, 4, 0, 0⟩, ⟨1, 1, false, 4, 0, 1⟩], [⟨0, 1⟩, ⟨2, 3⟩]⟩
theorem wired_snd : sndE wiredC = none := by decide +kernel
theorem wired_good : Good wiredC := sndE_good wired_snd
theorem wired_ok : wiredC.ok := by
  constructor <;> first
    | (unfold I64 wiredC; simp)
    | (intro p hp; simp only [wiredC, List.mem_cons, List.not_mem_nil, or_false] at hp; rcases hp with rfl | rfl | rfl | rfl <;> (constructor <;> (first | (unfold I64; simp) | (unfold U8; simp))))
    | (intro p hp; simp only [wiredC, List.mem_cons, List.not_mem_nil, or_false] at hp; rcases hp with rfl | rfl <;> (constructor <;> (first | (unfold I64; simp) | (unfold U8; simp))))

def zeroCfg' : List Value := [.int .i64 0, .int .i64 0, .int .i64 0, .int .i64 0, .int .i64 0, .int .i64 0, .int .i64 0, .int .i64 0, .slice none 0 0, .slice none 0 0, .slice none 0 0]
theorem bk_new' (w : World) (n t : Nat) (cs : List Value) (h : w.heap.size = n) : Bk (w.alloc (.cells cs.toArray t)) n t cs := h ▸ Bk.new w t cs
theorem Bk.rd {w : World} {C : Nat → Nat} {b t sz n : Nat} {cs : List Value} (h : Bk w b t cs) (hC : C b = 0) (hl : cs.length = n * sz) (hn : n ≤ maxLen) : Rd w C (.slice (some ⟨b, 0, none⟩) n n) sz n cs :=
  ⟨_, _, rfl, Nat.le_refl _, hn, hl, fun _ => ⟨b, 0, rfl, hC, h.lt, fun i x hx => by rw [Nat.zero_add]; exact h.cell_ i hx⟩⟩

set_option maxRecDepth 100000 in
set_option maxHeartbeats 8000000 in
theorem law13WiredB (w : World) : Calls Try.prog 11 #[] w fun e w' => ∃ pb qb rb, e = .returned (wiredC.v (.slice (some ⟨pb, 0, none⟩) 2 2) (.slice (some ⟨qb, 0, none⟩) 4 4) (.slice (some ⟨rb, 0, none⟩) 2 2)) ∧ Below w.heap.size w w' ∧ (w.heap.size ≤ pb ∧ w.heap.size ≤ qb ∧ w.heap.size ≤ rb ∧ pb ≠ qb ∧ rb ≠ qb) ∧
    Bk w' pb 77 (wiredC.parts.flatMap Part.cells) ∧ Bk w' qb 33 (wiredC.ports.flatMap Port.cells) ∧ Bk w' rb 79 (wiredC.routes.flatMap Route.cells) := by
  go_enter Try.func11, Try.ntmps11
  go_upto_region 5 with (fail)
  refine gen_world (fun W => Below w.heap.size w W ∧ Bk W (w.heap.size + 1) 28 (wiredC.cells (.slice (some ⟨w.heap.size + 1 + 1, 0, none⟩) 2 2) (.slice (some ⟨w.heap.size + 1 + 1 + 1, 0, none⟩) 4 4) (.slice (some ⟨w.heap.size + 1 + 1 + 1 + 1, 0, none⟩) 2 2)) ∧ Bk W w.heap.size 28 zeroCfg' ∧
      Bk W (w.heap.size + 1 + 1) 77 (wiredC.parts.flatMap Part.cells) ∧ Bk W (w.heap.size + 1 + 1 + 1) 33 (wiredC.ports.flatMap Port.cells) ∧ Bk W (w.heap.size + 1 + 1 + 1 + 1) 79 (wiredC.routes.flatMap Route.cells))
    ⟨?_, ?_, ?_, ?_, ?_, ?_⟩ ?_
  · repeat (refine Below.alloc ?_ (by simp; try omega) _)
    exact Below.refl _ _
  · exact (((bk_new' _ _ _ _ (by simp)).alloc _).alloc _).alloc _
  · exact ((((bk_new' _ _ _ _ rfl).alloc _).alloc _).alloc _).alloc _
  · exact ((bk_new' _ _ _ _ (by simp)).alloc _).alloc _
  · exact (bk_new' _ _ _ _ (by simp)).alloc _
  · exact bk_new' _ _ _ _ (by simp)
  rintro W4 ⟨V4, B4, Z4, P4, Q4, R4⟩
  have hlp : wiredC.parts.length = 2 := rfl
  have hlq : wiredC.ports.length = 4 := rfl
  have hlr : wiredC.routes.length = 2 := rfl
  have hfp : (wiredC.parts.flatMap Part.cells).length = 2 * 9 := rfl
  have hfq : (wiredC.ports.flatMap Port.cells).length = 4 * 6 := rfl
  have hfr : (wiredC.routes.flatMap Route.cells).length = 2 * 2 := rfl
  obtain ⟨c, hc⟩ : ∃ c, c = wiredC := ⟨_, rfl⟩
  rw [← hc] at B4 P4 Q4 R4 hlp hlq hlr hfp hfq hfr
  have HC := hid_ hc
  clear hc
  have dc := B4.cfg0
  have z0 := Z4.cell_ 0 rfl
  have z1 := Z4.cell_ 1 rfl
  have z2 := Z4.cell_ 2 rfl
  have z3 := Z4.cell_ 3 rfl
  have z4 := Z4.cell_ 4 rfl
  have z5 := Z4.cell_ 5 rfl
  have z6 := Z4.cell_ 6 rfl
  have z7 := Z4.cell_ 7 rfl
  have z8 := Z4.cell_ 8 rfl
  have z9 := Z4.cell_ 9 rfl
  have z10 := Z4.cell_ 10 rfl
  have zf := fun i => Z4.frozen i
  have HLP := hid_ hlp
  have HLQ := hid_ hlq
  have HLR := hid_ hlr
  have HFP := hid_ hfp
  have HFQ := hid_ hfq
  have HFR := hid_ hfr
  clear hlp hlq hlr hfp hfq hfr
  go_wp2
  refine bodyPost_ret (v := c.v (.slice (some ⟨w.heap.size + 1 + 1, 0, none⟩) 2 2) (.slice (some ⟨w.heap.size + 1 + 1 + 1, 0, none⟩) 4 4) (.slice (some ⟨w.heap.size + 1 + 1 + 1 + 1, 0, none⟩) 2 2)) ((results_cell1 rfl _ _ _).trans ?_) rfl ⟨w.heap.size + 1 + 1, w.heap.size + 1 + 1 + 1, w.heap.size + 1 + 1 + 1 + 1, by rw [HC.out], ?_, ⟨by omega, by omega, by omega, by omega, by omega⟩, ?_⟩
  · unfold Cfg.v
    clear dc
    go_simp
  · iterate 11 (refine Below.setCell ?_ ?_ _; rotate_left; exact Nat.le_refl _)
    exact V4
  · have hP := hid_ P4
    have hQ := hid_ Q4
    have hR := hid_ R4
    rw [← HC.out]
    refine ⟨?_, ?_, ?_⟩
    · iterate 11 (refine Bk.far ?_ ?_ _; rotate_left; exact fun h => absurd (show _ = w.heap.size from h) (by omega))
      exact hP.out
    · iterate 11 (refine Bk.far ?_ ?_ _; rotate_left; exact fun h => absurd (show _ = w.heap.size from h) (by omega))
      exact hQ.out
    · iterate 11 (refine Bk.far ?_ ?_ _; rotate_left; exact fun h => absurd (show _ = w.heap.size from h) (by omega))
      exact hR.out

theorem law13Wired (C : Nat → Nat) (w : World) (hf : Fin C w) : Calls Try.prog 11 #[] w fun e w' => ∃ pv qv rv, e = .returned (wiredC.v pv qv rv) ∧ Below w.heap.size w w' ∧ Lists w' C wiredC pv qv rv := by
  refine (law13WiredB w).mono ?_
  rintro e w' ⟨pb, qb, rb, rfl, h, ⟨h1, h2, h3, -, -⟩, hp, hq, hr⟩
  exact ⟨_, _, _, rfl, h, hp.rd (hf _ h1) rfl (by unfold maxLen; omega), hq.rd (hf _ h2) rfl (by unfold maxLen; omega), hr.rd (hf _ h3) rfl (by unfold maxLen; omega)⟩
end Go.Proofs.Ytogfbeibpfdleaa
namespace Go.Proofs.Ytogfbeibpfdleaa
open Go.RowKit Go.Maps

theorem info_part : (Try.prog.info? 77).map (fun i => (i.zero.map (·.cells.size), i.size, i.bytes)) = some (some 9, 9, 48) := by kernel_rfl
theorem info_port : (Try.prog.info? 33).map (fun i => (i.zero.map (·.cells.size), i.size, i.bytes)) = some (some 6, 6, 40) := by kernel_rfl
theorem info_route : (Try.prog.info? 79).map (fun i => (i.zero.map (·.cells.size), i.size, i.bytes)) = some (some 2, 2, 16) := by kernel_rfl

theorem Lists.recolour {w : World} {C D : Nat → Nat} {c : Cfg} {pv qv rv : Value} (h : Lists w C c pv qv rv) (hD : ∀ b, b < w.heap.size → C b = 0 → D b = 0) : Lists w D c pv qv rv :=
  ⟨h.parts.recolour hD, h.ports.recolour hD, h.routes.recolour hD⟩
def zeroCfg : List Value := [.int .i64 0, .int .i64 0, .int .i64 0, .int .i64 0, .int .i64 0, .int .i64 0, .int .i64 0, .int .i64 0, .slice none 0 0, .slice none 0 0, .slice none 0 0]

set_option maxRecDepth 100000 in
set_option maxHeartbeats 4000000 in
theorem refCopied (c : Cfg) (C : Nat → Nat) (pv qv rv : Value) (w : World) (hl : Lists w C c pv qv rv) (hf : Fin C w) (hL : longB c = false) :
    Calls Try.prog 26 #[c.v pv qv rv] w fun e w' => ∃ pv' qv' rv', e = .returned (c.v pv' qv' rv') ∧ Below w.heap.size w w' ∧ Lists w' C c pv' qv' rv' := by
  have n1 : c.parts.length ≤ 40 := by unfold longB at hL; simp only [Bool.or_eq_false_iff, decide_eq_false_iff_not] at hL; omega
  have n2 : c.ports.length ≤ 60 := by unfold longB at hL; simp only [Bool.or_eq_false_iff, decide_eq_false_iff_not] at hL; omega
  have n3 : c.routes.length ≤ 60 := by unfold longB at hL; simp only [Bool.or_eq_false_iff, decide_eq_false_iff_not] at hL; omega
  unfold Cfg.v
  go_enter Try.func26, Try.ntmps26
  go_upto_region 1 with (fail)
  refine gen_world (fun W => Below w.heap.size w W ∧ Bk W w.heap.size 28 (c.cells pv qv rv) ∧ Bk W (w.heap.size + 1) 28 zeroCfg) ⟨((Below.refl w.heap.size w).alloc (Nat.le_refl _) _).alloc (by simp) _, (Bk.new _ _ _).alloc _, ?_⟩ ?_
  · have := Bk.new (w.alloc (.cells (c.cells pv qv rv).toArray 28)) 28 zeroCfg
    rw [World.size_alloc] at this
    exact this
  rintro W ⟨hW, hB, hZ⟩
  have hsz := hZ.lt
  obtain ⟨C1, hC1, hC2, hC5⟩ : ∃ C1 : Nat → Nat, C1 w.heap.size = 9 ∧ C1 (w.heap.size + 1) = 9 ∧ ∀ b, b ≠ w.heap.size → b ≠ w.heap.size + 1 → C1 b = C b :=
    ⟨fun x => if x = w.heap.size ∨ x = w.heap.size + 1 then 9 else C x, by simp, by simp, fun b h1 h2 => by simp only; rw [if_neg (by omega)]⟩
  have hback : ∀ b, C1 b = 0 → C b = 0 := fun b h => by rw [← hC5 b (by rintro rfl; rw [hC1] at h; cases h) (by rintro rfl; rw [hC2] at h; cases h)]; exact h
  have hforth : ∀ b, b < w.heap.size → C b = 0 → C1 b = 0 := fun b hb h => by rw [hC5 b (by omega) (by omega)]; exact h
  have hf0 : Fin C1 W := fun b hb => by rw [hC5 b (by omega) (by omega)]; exact hf b (by omega)
  have F0 : Fr (· = 9) C1 C1 w W := Fr.of_below hW _
  have P0 := (hl.parts.recolour hforth).fr F0 (by omega)
  have Q0 := (hl.ports.recolour hforth).fr F0 (by omega)
  have R0 := (hl.routes.recolour hforth).fr F0 (by omega)
  obtain ⟨b1, o1, p1, W1, hr1, X1, hb1, hge1, hraw1⟩ := copy_of (P := Try.prog) W hf0 Try.underlying24 info_part P0.src (by unfold maxLen; omega) (by omega)
  have HR1 := hid_ hr1
  clear hr1
  have B1 := hB.same (hb1.block _ hB.lt)
  have Z1 := hZ.same (hb1.block _ hZ.lt)
  have S1 : Fr (· = 9) C1 C1 W1 (W1.setCell ⟨w.heap.size, 8, none⟩ (.slice (some ⟨b1, o1, none⟩) c.parts.length p1)) := (Fr.refl (· = 9) C1 W1).setCell (.inr hC1) _
  have F1 := (Fr.of_below hb1 (· = 9)).trans S1
  have B1' : Bk (W1.setCell ⟨w.heap.size, 8, none⟩ (.slice (some ⟨b1, o1, none⟩) c.parts.length p1)) w.heap.size 28 (c.cells (.slice (some ⟨b1, o1, none⟩) c.parts.length p1) qv rv) := B1.set 8 (.slice (some ⟨b1, o1, none⟩) c.parts.length p1)
  have Z1' := Z1.far (a := ⟨w.heap.size, 8, none⟩) (by simp) (.slice (some ⟨b1, o1, none⟩) c.parts.length p1)
  have V1 := (below_then hW hb1).setCell (p := ⟨w.heap.size, 8, none⟩) (Nat.le_refl _) (.slice (some ⟨b1, o1, none⟩) c.parts.length p1)
  have f1 := F1.Fin hf0
  have P1 := X1.fr S1 (by omega)
  have Q1 := Q0.fr F1 (by omega)
  have R1 := R0.fr F1 (by omega)
  have c1 := fun o => (hB.alloc o).cell_ 8 rfl
  have d1 := B1.cell_ 8 rfl
  have e1 := B1.frozen 8
  obtain ⟨b2, o2, p2, W2, hr2, X2, hb2, hge2, hraw2⟩ := copy_of (P := Try.prog) (W1.setCell ⟨w.heap.size, 8, none⟩ (.slice (some ⟨b1, o1, none⟩) c.parts.length p1)) f1 Try.underlying25 info_port Q1.src (by unfold maxLen; omega) (by omega)
  rw [World.size_setCell] at hr2
  have HR2 := hid_ hr2
  clear hr2
  have B2 := B1'.same (hb2.block _ B1'.lt)
  have Z2 := Z1'.same (hb2.block _ Z1'.lt)
  have S2 : Fr (· = 9) C1 C1 W2 (W2.setCell ⟨w.heap.size, 9, none⟩ (.slice (some ⟨b2, o2, none⟩) c.ports.length p2)) := (Fr.refl (· = 9) C1 W2).setCell (.inr hC1) _
  have F2 := (Fr.of_below hb2 (· = 9)).trans S2
  have B2' : Bk (W2.setCell ⟨w.heap.size, 9, none⟩ (.slice (some ⟨b2, o2, none⟩) c.ports.length p2)) w.heap.size 28 (c.cells (.slice (some ⟨b1, o1, none⟩) c.parts.length p1) (.slice (some ⟨b2, o2, none⟩) c.ports.length p2) rv) := B2.set 9 (.slice (some ⟨b2, o2, none⟩) c.ports.length p2)
  have Z2' := Z2.far (a := ⟨w.heap.size, 9, none⟩) (by simp) (.slice (some ⟨b2, o2, none⟩) c.ports.length p2)
  have V2 := (below_then V1 hb2).setCell (p := ⟨w.heap.size, 9, none⟩) (Nat.le_refl _) (.slice (some ⟨b2, o2, none⟩) c.ports.length p2)
  have f2 := F2.Fin f1
  have P2 := P1.fr F2 (by omega)
  have Q2 := X2.fr S2 (by omega)
  have R2 := R1.fr F2 (by omega)
  have c2 := fun o => (B1'.alloc o).cell_ 9 rfl
  have d2 := B2.cell_ 9 rfl
  have e2 := B2.frozen 9
  obtain ⟨b3, o3, p3, W3, hr3, X3, hb3, hge3, hraw3⟩ := copy_of (P := Try.prog) (W2.setCell ⟨w.heap.size, 9, none⟩ (.slice (some ⟨b2, o2, none⟩) c.ports.length p2)) f2 Try.underlying26 info_route R2.src (by unfold maxLen; omega) (by omega)
  rw [World.size_setCell] at hr3
  have HR3 := hid_ hr3
  clear hr3
  have B3 := B2'.same (hb3.block _ B2'.lt)
  have Z3 := Z2'.same (hb3.block _ Z2'.lt)
  have S3 : Fr (· = 9) C1 C1 W3 (W3.setCell ⟨w.heap.size, 10, none⟩ (.slice (some ⟨b3, o3, none⟩) c.routes.length p3)) := (Fr.refl (· = 9) C1 W3).setCell (.inr hC1) _
  have F3 := (Fr.of_below hb3 (· = 9)).trans S3
  have B3' : Bk (W3.setCell ⟨w.heap.size, 10, none⟩ (.slice (some ⟨b3, o3, none⟩) c.routes.length p3)) w.heap.size 28 (c.cells (.slice (some ⟨b1, o1, none⟩) c.parts.length p1) (.slice (some ⟨b2, o2, none⟩) c.ports.length p2) (.slice (some ⟨b3, o3, none⟩) c.routes.length p3)) := B3.set 10 (.slice (some ⟨b3, o3, none⟩) c.routes.length p3)
  have Z3' := Z3.far (a := ⟨w.heap.size, 10, none⟩) (by simp) (.slice (some ⟨b3, o3, none⟩) c.routes.length p3)
  have V3 := (below_then V2 hb3).setCell (p := ⟨w.heap.size, 10, none⟩) (Nat.le_refl _) (.slice (some ⟨b3, o3, none⟩) c.routes.length p3)
  have f3 := F3.Fin f2
  have P3 := P2.fr F3 (by omega)
  have Q3 := Q2.fr F3 (by omega)
  have R3 := X3.fr S3 (by omega)
  have c3 := fun o => (B2'.alloc o).cell_ 10 rfl
  have d3 := B3.cell_ 10 rfl
  have e3 := B3.frozen 10
  clear F1 F2 F3 S1 S2 S3
  go_upto_region 2 with (refine wpList_append_run HR1.out (by rfl) (by rfl) (by rfl) (by rfl) ?_)
  clear c1 d1 e1
  go_upto_region 3 with (refine wpList_append_run HR2.out (by rfl) (by rfl) (by rfl) (by rfl) ?_)
  clear c2 d2 e2
  go_upto_region 4 with (refine wpList_append_run HR3.out (by rfl) (by rfl) (by rfl) (by rfl) ?_)
  clear c3 d3 e3
  refine gen_world (fun W4 => Below w.heap.size w W4 ∧ Bk W4 w.heap.size 28 (c.cells (.slice (some ⟨b1, o1, none⟩) c.parts.length p1) (.slice (some ⟨b2, o2, none⟩) c.ports.length p2) (.slice (some ⟨b3, o3, none⟩) c.routes.length p3)) ∧ Bk W4 (w.heap.size + 1) 28 zeroCfg ∧ Lists W4 C1 c (.slice (some ⟨b1, o1, none⟩) c.parts.length p1) (.slice (some ⟨b2, o2, none⟩) c.ports.length p2) (.slice (some ⟨b3, o3, none⟩) c.routes.length p3))
    ⟨V3, B3', Z3', ⟨P3, Q3, R3⟩⟩ ?_
  clear HR1 HR2 HR3 V1 V2 V3 B1 B2 B3 B1' B2' B3' Z1 Z2 Z3 Z1' Z2' Z3' P0 Q0 R0 P1 Q1 R1 P2 Q2 R2 P3 Q3 R3 X1 X2 X3 hb1 hb2 hb3 hge1 hge2 hge3 hraw1 hraw2 hraw3 f1 f2 f3
  rintro W4 ⟨V4, B4, Z4, L4⟩
  have dc := B4.cfg0
  have z0 := Z4.cell_ 0 rfl
  have z1 := Z4.cell_ 1 rfl
  have z2 := Z4.cell_ 2 rfl
  have z3 := Z4.cell_ 3 rfl
  have z4 := Z4.cell_ 4 rfl
  have z5 := Z4.cell_ 5 rfl
  have z6 := Z4.cell_ 6 rfl
  have z7 := Z4.cell_ 7 rfl
  have z8 := Z4.cell_ 8 rfl
  have z9 := Z4.cell_ 9 rfl
  have z10 := Z4.cell_ 10 rfl
  have zf := fun i => Z4.frozen i
  go_wp2
  refine bodyPost_ret (v := c.v (.slice (some ⟨b1, o1, none⟩) c.parts.length p1) (.slice (some ⟨b2, o2, none⟩) c.ports.length p2) (.slice (some ⟨b3, o3, none⟩) c.routes.length p3)) ((results_cell1 rfl _ _ _).trans ?_) rfl ⟨_, _, _, rfl, ?_, ?_⟩
  · unfold Cfg.v
    clear dc
    go_simp
  · repeat (refine Below.setCell ?_ (Nat.le_succ _) _)
    exact V4
  · refine Lists.recolour (C := C1) ?_ (fun b _ h => hback b h)
    refine L4.fr (K := (· = 9)) ?_ (by omega)
    repeat (refine Fr.setCell ?_ (.inr hC2) _)
    exact Fr.refl _ _ _
end Go.Proofs.Ytogfbeibpfdleaa
