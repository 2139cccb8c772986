/- Chapter 13's fixed tables. No condition. -/
import Derived.Test.YtogfbeibpfdleaaPNew
set_option linter.unusedSimpArgs false
set_option linter.unusedVariables false
namespace Go.Proofs.Ytogfbeibpfdleaa
open Go.RowKit Go.Maps

def wiredC : Cfg := ⟨2, 0, 1000, 500, 0, 0, 0, 98, [⟨0, 0, 10, 9, 2, 0, 0, 0, 0⟩, ⟨1, 0, 10, 9, 2, 0, 0, 0, 0⟩],
  [⟨0, 2, true, 1, 2, 0⟩, ⟨1, 2, false, 1, 1, 0⟩, ⟨0, 1, true, 4, 0, 0⟩, ⟨1, 1, false, 4, 0, 1⟩], [⟨0, 1⟩, ⟨2, 3⟩]⟩
theorem wired_snd : sndE wiredC = none := by decide +kernel
theorem wired_good : Good wiredC := sndE_good wired_snd
theorem wired_ok : wiredC.ok := by
  constructor <;> first
    | (unfold I64 wiredC; simp)
    | (intro p hp; simp only [wiredC, List.mem_cons, List.not_mem_nil, or_false] at hp; rcases hp with rfl | rfl | rfl | rfl <;> (constructor <;> (first | (unfold I64; simp) | (unfold U8; simp))))
    | (intro p hp; simp only [wiredC, List.mem_cons, List.not_mem_nil, or_false] at hp; rcases hp with rfl | rfl <;> (constructor <;> (first | (unfold I64; simp) | (unfold U8; simp))))

def zeroCfg' : List Value := [.int .i64 0, .int .i64 0, .int .i64 0, .int .i64 0, .int .i64 0, .int .i64 0, .int .i64 0, .int .i64 0, .slice none 0 0, .slice none 0 0, .slice none 0 0]
theorem bk_new' (w : World) (n t : Nat) (cs : List Value) (h : w.heap.size = n) : Bk (w.alloc (.cells cs.toArray t)) n t cs := h ▸ Bk.new w t cs
theorem Bk.rd {w : World} {C : Nat → Nat} {b t sz n : Nat} {cs : List Value} (h : Bk w b t cs) (hC : C b = 0) (hl : cs.length = n * sz) (hn : n ≤ maxLen) : Rd w C (.slice (some ⟨b, 0, none⟩) n n) sz n cs :=
  ⟨_, _, rfl, Nat.le_refl _, hn, hl, fun _ => ⟨b, 0, rfl, hC, h.lt, fun i x hx => by rw [Nat.zero_add]; exact h.cell_ i hx⟩⟩

set_option maxRecDepth 100000 in
set_option maxHeartbeats 8000000 in
theorem law13WiredB (w : World) : Calls Try.prog 11 #[] w fun e w' => ∃ pb qb rb, e = .returned (wiredC.v (.slice (some ⟨pb, 0, none⟩) 2 2) (.slice (some ⟨qb, 0, none⟩) 4 4) (.slice (some ⟨rb, 0, none⟩) 2 2)) ∧ Below w.heap.size w w' ∧ (w.heap.size ≤ pb ∧ w.heap.size ≤ qb ∧ w.heap.size ≤ rb ∧ pb ≠ qb ∧ rb ≠ qb) ∧
    Bk w' pb 77 (wiredC.parts.flatMap Part.cells) ∧ Bk w' qb 33 (wiredC.ports.flatMap Port.cells) ∧ Bk w' rb 79 (wiredC.routes.flatMap Route.cells) := by
  go_enter Try.func11, Try.ntmps11
  go_upto_region 5 with (fail)
  refine gen_world (fun W => Below w.heap.size w W ∧ Bk W (w.heap.size + 1) 28 (wiredC.cells (.slice (some ⟨w.heap.size + 1 + 1, 0, none⟩) 2 2) (.slice (some ⟨w.heap.size + 1 + 1 + 1, 0, none⟩) 4 4) (.slice (some ⟨w.heap.size + 1 + 1 + 1 + 1, 0, none⟩) 2 2)) ∧ Bk W w.heap.size 28 zeroCfg' ∧
      Bk W (w.heap.size + 1 + 1) 77 (wiredC.parts.flatMap Part.cells) ∧ Bk W (w.heap.size + 1 + 1 + 1) 33 (wiredC.ports.flatMap Port.cells) ∧ Bk W (w.heap.size + 1 + 1 + 1 + 1) 79 (wiredC.routes.flatMap Route.cells))
    ⟨?_, ?_, ?_, ?_, ?_, ?_⟩ ?_
  · repeat (refine Below.alloc ?_ (by simp; try omega) _)
    exact Below.refl _ _
  · exact (((bk_new' _ _ _ _ (by simp)).alloc _).alloc _).alloc _
  · exact ((((bk_new' _ _ _ _ rfl).alloc _).alloc _).alloc _).alloc _
  · exact ((bk_new' _ _ _ _ (by simp)).alloc _).alloc _
  · exact (bk_new' _ _ _ _ (by simp)).alloc _
  · exact bk_new' _ _ _ _ (by simp)
  rintro W4 ⟨V4, B4, Z4, P4, Q4, R4⟩
  have hlp : wiredC.parts.length = 2 := rfl
  have hlq : wiredC.ports.length = 4 := rfl
  have hlr : wiredC.routes.length = 2 := rfl
  have hfp : (wiredC.parts.flatMap Part.cells).length = 2 * 9 := rfl
  have hfq : (wiredC.ports.flatMap Port.cells).length = 4 * 6 := rfl
  have hfr : (wiredC.routes.flatMap Route.cells).length = 2 * 2 := rfl
  obtain ⟨c, hc⟩ : ∃ c, c = wiredC := ⟨_, rfl⟩
  rw [← hc] at B4 P4 Q4 R4 hlp hlq hlr hfp hfq hfr
  have HC := hid_ hc
  clear hc
  have dc := B4.cfg0
  have z0 := Z4.cell_ 0 rfl
  have z1 := Z4.cell_ 1 rfl
  have z2 := Z4.cell_ 2 rfl
  have z3 := Z4.cell_ 3 rfl
  have z4 := Z4.cell_ 4 rfl
  have z5 := Z4.cell_ 5 rfl
  have z6 := Z4.cell_ 6 rfl
  have z7 := Z4.cell_ 7 rfl
  have z8 := Z4.cell_ 8 rfl
  have z9 := Z4.cell_ 9 rfl
  have z10 := Z4.cell_ 10 rfl
  have zf := fun i => Z4.frozen i
  have HLP := hid_ hlp
  have HLQ := hid_ hlq
  have HLR := hid_ hlr
  have HFP := hid_ hfp
  have HFQ := hid_ hfq
  have HFR := hid_ hfr
  clear hlp hlq hlr hfp hfq hfr
  go_wp2
  refine bodyPost_ret (v := c.v (.slice (some ⟨w.heap.size + 1 + 1, 0, none⟩) 2 2) (.slice (some ⟨w.heap.size + 1 + 1 + 1, 0, none⟩) 4 4) (.slice (some ⟨w.heap.size + 1 + 1 + 1 + 1, 0, none⟩) 2 2)) ((results_cell1 rfl _ _ _).trans ?_) rfl ⟨w.heap.size + 1 + 1, w.heap.size + 1 + 1 + 1, w.heap.size + 1 + 1 + 1 + 1, by rw [HC.out], ?_, ⟨by omega, by omega, by omega, by omega, by omega⟩, ?_⟩
  · unfold Cfg.v
    clear dc
    go_simp
  · iterate 11 (refine Below.setCell ?_ ?_ _; rotate_left; exact Nat.le_refl _)
    exact V4
  · have hP := hid_ P4
    have hQ := hid_ Q4
    have hR := hid_ R4
    rw [← HC.out]
    refine ⟨?_, ?_, ?_⟩
    · iterate 11 (refine Bk.far ?_ ?_ _; rotate_left; exact fun h => absurd (show _ = w.heap.size from h) (by omega))
      exact hP.out
    · iterate 11 (refine Bk.far ?_ ?_ _; rotate_left; exact fun h => absurd (show _ = w.heap.size from h) (by omega))
      exact hQ.out
    · iterate 11 (refine Bk.far ?_ ?_ _; rotate_left; exact fun h => absurd (show _ = w.heap.size from h) (by omega))
      exact hR.out

theorem law13Wired (C : Nat → Nat) (w : World) (hf : Fin C w) : Calls Try.prog 11 #[] w fun e w' => ∃ pv qv rv, e = .returned (wiredC.v pv qv rv) ∧ Below w.heap.size w w' ∧ Lists w' C wiredC pv qv rv := by
  refine (law13WiredB w).mono ?_
  rintro e w' ⟨pb, qb, rb, rfl, h, ⟨h1, h2, h3, -, -⟩, hp, hq, hr⟩
  exact ⟨_, _, _, rfl, h, hp.rd (hf _ h1) rfl (by unfold maxLen; omega), hq.rd (hf _ h2) rfl (by unfold maxLen; omega), hr.rd (hf _ h3) rfl (by unfold maxLen; omega)⟩
end Go.Proofs.Ytogfbeibpfdleaa
