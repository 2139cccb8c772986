/- health.Monitor: Report, Seal. No condition but the arguments' ranges. -/
import Derived.Test.YtlgjaoijgkdmiaaDoorMon
import Derived.Deep.DeepCutAuto
set_option linter.unusedSimpArgs false
set_option linter.unusedVariables false
namespace Go.Proofs.YtlgjaoijgkdmiaaDoor
open Go.RowKit Go.Maps

def recov (p : Part) (kd : Nat) : Int := [p.r0, p.r1, p.r2, p.r3].getD kd 0
theorem recov_cell (p : Part) {kd : Nat} (h : kd < 4) : p.cells[5 + kd]? = some (.int .u8 (recov p kd)) := by
  rcases (by omega : kd = 0 ∨ kd = 1 ∨ kd = 2 ∨ kd = 3) with rfl | rfl | rfl | rfl <;> rfl
/-- The count of restarts in a row. -/
def agn (m : MSt) (round : Int) (i : Nat) : Int := if m.last.getD i 0 ≠ 0 ∧ round ≤ m.last.getD i 0 then m.again.getD i 0 + 1 else 1
def repA (ps : List Part) (m : MSt) (round : Int) (i kd : Nat) : Int :=
  if recov (ps.getD i default) kd = 1 then (if 3 ≤ agn m round i then 2 else 1) else recov (ps.getD i default) kd
def repM (node : Int) (ps : List Part) (m : MSt) (round : Int) (i kd : Nat) : MSt :=
  ⟨if recov (ps.getD i default) kd = 1 then m.last.set i (round + 1) else m.last, if recov (ps.getD i default) kd = 1 then m.again.set i (agn m round i) else m.again,
   if m.out.length < 4 then m.out ++ [⟨round, node, i, kd, repA ps m round i kd⟩] else m.out⟩

theorem IsMon.setAgain {w : World} {C : Nat → Nat} {k mb lb gb : Nat} {node : Int} {ps : List Part} {pv ov : Value} {m : MSt} (h : IsMon w C k mb lb gb node ps pv ov m) (hk : k ≠ 0) (i : Nat) (x : Int) :
    IsMon (w.setCell ⟨gb, i, none⟩ (.int .i64 x)) C k mb lb gb node ps pv ov { m with again := m.again.set i x } := by
  have f : Fr (· = k) C C w (w.setCell ⟨gb, i, none⟩ (.int .i64 x)) := (Fr.refl _ C w).setCell (.inr h.gcol) _
  refine ⟨h.head.far (h.head.ne h.again (by decide)) _, h.hcol, h.parts.fr f (fun e => hk e.symm), h.last.far (h.last.ne h.again (by decide)) _, h.lcol, h.llen, ?_, h.gcol, by rw [List.length_set]; exact h.glen, h.out.fr f (by omega)⟩
  have := h.again.set i (.int .i64 x)
  unfold i64s at this ⊢
  rw [List.map_set]
  exact this
theorem IsMon.setLast {w : World} {C : Nat → Nat} {k mb lb gb : Nat} {node : Int} {ps : List Part} {pv ov : Value} {m : MSt} (h : IsMon w C k mb lb gb node ps pv ov m) (hk : k ≠ 0) (i : Nat) (x : Int) :
    IsMon (w.setCell ⟨lb, i, none⟩ (.int .u32 x)) C k mb lb gb node ps pv ov { m with last := m.last.set i x } := by
  have f : Fr (· = k) C C w (w.setCell ⟨lb, i, none⟩ (.int .u32 x)) := (Fr.refl _ C w).setCell (.inr h.lcol) _
  refine ⟨h.head.far (h.head.ne h.last (by decide)) _, h.hcol, h.parts.fr f (fun e => hk e.symm), ?_, h.lcol, by rw [List.length_set]; exact h.llen, h.again.far (h.again.ne h.last (by decide)) _, h.gcol, h.glen, h.out.fr f (by omega)⟩
  have := h.last.set i (.int .u32 x)
  unfold u32s at this ⊢
  rw [List.map_set]
  exact this
theorem IsMon.setOut {w : World} {C : Nat → Nat} {k mb lb gb : Nat} {node : Int} {ps : List Part} {pv ov : Value} {m : MSt} (h : IsMon w C k mb lb gb node ps pv ov m) (hk : k ≠ 0) {v : Value} {o : List Rec} (hv : Sl w C (k + 1) v 127 5 o.length (o.flatMap Rec.cells)) :
    IsMon (w.setCell ⟨mb, 4, none⟩ v) C k mb lb gb node ps pv v { m with out := o } := by
  have f : Fr (· = k) C C w (w.setCell ⟨mb, 4, none⟩ v) := (Fr.refl _ C w).setCell (.inr h.hcol) _
  exact ⟨h.head.set 4 v, h.hcol, h.parts.fr f (fun e => hk e.symm), h.last.far (h.last.ne h.head (by decide)) _, h.lcol, h.llen, h.again.far (h.again.ne h.head (by decide)) _, h.gcol, h.glen, hv.fr f (by omega)⟩

theorem IsMon.turnOut {w w' : World} {C C' : Nat → Nat} {k mb lb gb : Nat} {node : Int} {ps : List Part} {pv ov : Value} {m : MSt} (h : IsMon w C k mb lb gb node ps pv ov m) (hk : k ≠ 0) (f : Fr (· = k + 1) C C' w w') {v : Value} {o : List Rec} (hv : Sl w' C' (k + 1) v 127 5 o.length (o.flatMap Rec.cells)) :
    Fr (fun x => x = k ∨ x = k + 1) C C' w (w'.setCell ⟨mb, 4, none⟩ v) ∧ IsMon (w'.setCell ⟨mb, 4, none⟩ v) C' k mb lb gb node ps pv v { m with out := o } := by
  have a1 := h.head.fr f (by rw [h.hcol]; omega)
  have a2 := (f.block mb h.head.lt (by rw [h.hcol]; omega)).2.trans h.hcol
  have b1 := h.last.fr f (by rw [h.lcol]; omega)
  have b2 := (f.block lb h.last.lt (by rw [h.lcol]; omega)).2.trans h.lcol
  have d1 := h.again.fr f (by rw [h.gcol]; omega)
  have d2 := (f.block gb h.again.lt (by rw [h.gcol]; omega)).2.trans h.gcol
  have g : Fr (· = k) C' C' w' (w'.setCell ⟨mb, 4, none⟩ v) := (Fr.refl _ C' w').setCell (.inr a2) _
  refine ⟨(f.mono (K' := fun x => x = k ∨ x = k + 1) (fun _ h => .inr h)).trans (g.mono (fun _ h => .inl h)), ?_⟩
  exact ⟨a1.set 4 v, a2, (h.parts.fr f (by omega)).fr g (fun e => hk e.symm), b1.far (b1.ne a1 (by decide)) _, b2, h.llen, d1.far (d1.ne a1 (by decide)) _, d2, h.glen, hv.fr g (by omega)⟩

def MonSealP (C : Nat → Nat) (k mb lb gb : Nat) (node : Int) (ps : List Part) (pv ov : Value) (m : MSt) (w : World) (e : Ending) (w' : World) : Prop :=
  e = .returned ov ∧ Fr (· = k) C C w w' ∧ IsMon w' C k mb lb gb node ps pv (.slice none 0 0) { m with out := [] } ∧ Sl w' C (k + 1) ov 127 5 m.out.length (m.out.flatMap Rec.cells)
set_option maxRecDepth 100000 in
set_option maxHeartbeats 1000000 in
theorem monSeal (C : Nat → Nat) (k mb lb gb : Nat) (hk : k ≠ 0) (node : Int) (ps : List Part) (pv ov : Value) (m : MSt) (w : World) (h : IsMon w C k mb lb gb node ps pv ov m) :
    Calls Tryd.prog 15 #[.pointer (some ⟨mb, 0, none⟩)] w (MonSealP C k mb lb gb node ps pv ov m w) := by
  have c4 := h.head.cell_ 4 rfl
  have fz := h.head.frozen 4
  obtain ⟨oa, oc, rfl, hoc, hom, -⟩ := h.out.form
  have H := hid_ h
  clear h
  go_enter Tryd.func15, Tryd.ntmps15
  go_wp2
  go_ret
  have f : Fr (· = k) C C w (w.setCell ⟨mb, 4, none⟩ (.slice none 0 0)) := (Fr.refl _ C w).setCell (.inr H.out.hcol) _
  exact ⟨rfl, f, H.out.setOut hk (o := []) (Sl.nil _ _ _ _ _), H.out.out.fr f (by omega)⟩

/-- What Report leaves. -/
def MonRepP (C : Nat → Nat) (k mb lb gb : Nat) (node : Int) (ps : List Part) (pv : Value) (m : MSt) (round : Int) (i kd : Nat) (w : World) (e : Ending) (w' : World) : Prop :=
  e = .returned (.tuple #[.int .u8 (repA ps m round i kd), .nilIface]) ∧ ∃ C' ov', Fr (fun x => x = k ∨ x = k + 1) C C' w w' ∧ IsMon w' C' k mb lb gb node ps pv ov' (repM node ps m round i kd)
theorem recOut (x : Rec) : (Value.agg #[.int .u32 x.round, .int .u8 x.node, .int .u8 x.part, .int .u8 x.kind, .int .u8 x.did]).cells.toList = x.cells := rfl

set_option maxRecDepth 100000 in
set_option maxHeartbeats 8000000 in
/-- From the spot where the record is written. -/
theorem monReport (C : Nat → Nat) (k mb lb gb : Nat) (hk : k ≠ 0) (node : Int) (n0 : 0 ≤ node) (n1 : node < 256) (ps : List Part) (hps : ps.length ≤ 12) (pv ov : Value) (m : MSt) (round : Int) (r0 : 0 ≤ round) (r1 : round < 1048576) (i kd : Nat) (hi : i < ps.length) (hkd : kd < 4)
    (hrec : ∀ p ∈ ps, 0 ≤ p.r0 ∧ p.r0 ≤ 3 ∧ 0 ≤ p.r1 ∧ p.r1 ≤ 3 ∧ 0 ≤ p.r2 ∧ p.r2 ≤ 3 ∧ 0 ≤ p.r3 ∧ p.r3 ≤ 3) (hag : 0 ≤ m.again.getD i 0 ∧ m.again.getD i 0 ≤ 100000) (hla : 0 ≤ m.last.getD i 0 ∧ m.last.getD i 0 < 4294967296) (w : World) (hf : Fin C w) (h : IsMon w C k mb lb gb node ps pv ov m) :
    Calls Tryd.prog 30 #[.pointer (some ⟨mb, 0, none⟩), .int .u32 round, .int .i64 (i : Int), .int .u8 (kd : Int)] w (MonRepP C k mb lb gb node ps pv m round i kd w) := by
  obtain ⟨pa, pc, rfl, hpc, hpm, -⟩ := id h.parts
  obtain ⟨tb, tf, rfl, -, hrow⟩ := h.parts.row (fun _ => rfl) hi
  have e5 := hrow (5 + kd) _ (recov_cell _ hkd)
  rw [← Nat.add_assoc] at e5
  obtain ⟨a0, ha0⟩ : ∃ a, recov (ps.getD i default) kd = a := ⟨_, rfl⟩
  rw [ha0] at e5
  have i0 : (0 : Int) ≤ (i : Int) := Int.natCast_nonneg _
  have i1 : (i : Int) < (ps.length : Int) := by omega
  have k0 : (0 : Int) ≤ (kd : Int) := Int.natCast_nonneg _
  have k1 : (kd : Int) < 4 := by omega
  have c1 := h.head.cell_ 1 rfl
  have HA0 := hid_ ha0
  have H := hid_ h
  unfold maxLen at hpm
  have g1 : decide (ps.length ≤ i) = false := by simpa using hi
  have g2 : decide ((i : Int) < 0) = false := by simp
  have g3 : decide ((3 : Int) < (kd : Int)) = false := by simp; omega
  have g4 : decide ((1048576 : Int) ≤ round) = false := by simp; omega
  clear h hrow ha0
  go_enter Tryd.func30, Tryd.ntmps30
  obtain ⟨act, hact⟩ : ∃ a, repA ps m round i kd = a := ⟨_, rfl⟩
  obtain ⟨m1, hm1⟩ : ∃ x : MSt, x = ⟨if recov (ps.getD i default) kd = 1 then m.last.set i (round + 1) else m.last, if recov (ps.getD i default) kd = 1 then m.again.set i (agn m round i) else m.again, m.out⟩ := ⟨_, rfl⟩
  have HACT := hid_ hact
  have HM1 := hid_ hm1
  clear hact hm1
  go_upto_if 47 with fail
  go_cut [10] (fun av W => av = .int .u8 act ∧ Fr (· = k) C C w W ∧ IsMon W C k mb lb gb node ps (.slice (some ⟨tb, tf, none⟩) ps.length pc) ov m1)
  case first =>
    by_cases h1 : a0 = 1
    · have hac : act = if 3 ≤ agn m round i then 2 else 1 := by rw [← HACT.out]; unfold repA; rw [HA0.out, if_pos h1]
      have hm1' : m1 = ⟨m.last.set i (round + 1), m.again.set i (agn m round i), m.out⟩ := by rw [HM1.out, HA0.out, if_pos h1, if_pos h1]
      have HAC := hid_ hac
      have HMM := hid_ hm1'
      have hb1 : (a0 == 1) = true := by simpa using h1
      obtain ⟨la, hla'⟩ : ∃ x, m.last.getD i 0 = x := ⟨_, rfl⟩
      obtain ⟨ga, hga⟩ : ∃ x, m.again.getD i 0 = x := ⟨_, rfl⟩
      rw [hla'] at hla
      rw [hga] at hag
      have cl : w.cell? ⟨lb, i, none⟩ = some (.int .u32 la) := H.out.last.cell_ i (by unfold u32s; rw [List.getElem?_map, ← hla', List.getD_eq_getElem?_getD, List.getElem?_eq_getElem (by rw [H.out.llen]; exact hi)]; rfl)
      have cg : w.cell? ⟨gb, i, none⟩ = some (.int .i64 ga) := H.out.again.cell_ i (by unfold i64s; rw [List.getElem?_map, ← hga, List.getD_eq_getElem?_getD, List.getElem?_eq_getElem (by rw [H.out.glen]; exact hi)]; rfl)
      have c2 := H.out.head.cell_ 2 rfl
      have c3 := H.out.head.cell_ 3 rfl
      have hagn : agn m round i = if la ≠ 0 ∧ round ≤ la then ga + 1 else 1 := by unfold agn; rw [hla', hga]
      have HAGN := hid_ hagn
      have fzg := H.out.again.frozen i
      have H1 := hid_ h1
      clear hac hm1' h1 hla' hga hagn e5
      have HC2 := hid_ c2
      have HC3 := hid_ c3
      rcases (by omega : la = 0 ∨ (¬ la = 0 ∧ round ≤ la) ∨ (¬ la = 0 ∧ la < round)) with q | ⟨q, q2⟩ | ⟨q, q2⟩
      rotate_left
      have qb : (la != 0) = true := by simpa using q
      have hav : agn m round i = ga + 1 := by rw [HAGN.out, if_pos ⟨q, q2⟩]
      rotate_left
      have qb : (la != 0) = true := by simpa using q
      have hav : agn m round i = 1 := by rw [HAGN.out, if_neg (by omega)]
      rotate_left
      have qb : (la != 0) = false := by simpa using q
      have hav : agn m round i = 1 := by rw [HAGN.out, if_neg (by omega)]
      all_goals
        have HAV := hid_ hav
        clear hav q
        go_upto_region 10 with fail
        refine gen_world (fun W => Fr (· = k) C C w W ∧ IsMon W C k mb lb gb node ps (.slice (some ⟨tb, tf, none⟩) ps.length pc) ov { m with again := m.again.set i (agn m round i) }) ⟨(Fr.refl _ C w).setCell (.inr H.out.gcol) _, by rw [HAV.out]; exact H.out.setAgain hk i _⟩ ?_
        rintro W ⟨F1, M1⟩
        have d2 := M1.head.cell_ 2 rfl
        have d3 := M1.head.cell_ 3 rfl
        have dl : W.cell? ⟨lb, i, none⟩ = some (.int .u32 la) := M1.last.cell_ i (by
          have := H.out.last.cell i
          rw [cl] at this
          exact this.symm)
        have fzl := M1.last.frozen i
        have HM1' := hid_ M1
        have HF1 := hid_ F1
        clear c2 c3 cl cg fzg M1 F1
        go_upto_region 11 with fail
        refine gen_world (fun W2 => Fr (· = k) C C w W2 ∧ IsMon W2 C k mb lb gb node ps (.slice (some ⟨tb, tf, none⟩) ps.length pc) ov m1) ⟨HF1.out.setCell (.inr H.out.lcol) _, by rw [HMM.out]; exact HM1'.out.setLast hk i _⟩ ?_
        rintro W2 ⟨F2, M2⟩
        obtain ⟨x, hx⟩ : ∃ x, agn m round i = x := ⟨_, rfl⟩
        have e3 := M2.head.cell_ 3 rfl
        have eg : W2.cell? ⟨gb, i, none⟩ = some (.int .i64 x) := M2.again.cell_ i (by rw [HMM.out, hx]; unfold i64s; rw [List.getElem?_map, List.getElem?_set_self (by rw [H.out.glen]; exact hi)]; rfl)
        have HX := hid_ hx
        have HM2 := hid_ M2
        have HF2 := hid_ F2
        clear d2 d3 dl fzl M2 F2 hx
        by_cases h3 : 3 ≤ x
        · have ha2 : act = 2 := by rw [HAC.out, HX.out, if_pos h3]
          have HA2 := hid_ ha2
          clear ha2
          go_wp2
          go_meet
          case rel => exact ⟨by rw [HA2.out], HF2.out, HM2.out⟩
        · have ha2 : act = 1 := by rw [HAC.out, HX.out, if_neg h3]
          have HA2 := hid_ ha2
          clear ha2
          go_wp2
          go_meet
          case rel => exact ⟨by rw [HA2.out, H1.out], HF2.out, HM2.out⟩
    · have hac : act = a0 := by rw [← HACT.out]; unfold repA; rw [HA0.out, if_neg h1]
      have hm1' : m1 = m := by rw [HM1.out, HA0.out, if_neg h1, if_neg h1]
      have hb1 : (a0 == 1) = false := by simpa using h1
      have HAC := hid_ hac
      have HMM := hid_ hm1'
      clear hac hm1' h1 e5
      go_wp2
      go_meet
      case rel => exact ⟨by rw [HAC.out], Fr.refl _ _ _, by rw [HMM.out]; exact H.out⟩
  case rest =>
    obtain ⟨rfl, F1, M1⟩ := hcut
    have c4 := M1.head.cell_ 4 rfl
    obtain ⟨oa, oc, rfl, hoc, hom, -⟩ := M1.out.form
    have HM := hid_ M1
    have HF1 := hid_ F1
    have hout : m1.out = m.out := by rw [HM1.out]
    have hrep : repM node ps m round i kd = { m1 with out := if m1.out.length < 4 then m1.out ++ [⟨round, node, i, kd, act⟩] else m1.out } := by
      unfold repM
      rw [HACT.out, hout, HM1.out]
    have HREP := hid_ hrep
    unfold maxLen at hom
    clear hrep hout M1 F1
    by_cases h4 : m1.out.length < 4
    · have q4 : (m1.out.length : Int) < 4 := by omega
      have c0 := HM.out.head.cell_ 0 rfl
      obtain ⟨i9, z9, hi9, hz9, hzs9, his9, hby9⟩ := info_row (P := Tryd.prog) (e := 127) (size := 5) (bytes := 8) (by kernel_rfl)
      have w8 : IntKind.u8.wrap node = node := by simp [IntKind.wrap, IntKind.signed, IntKind.bits]; omega
      have w9 : IntKind.u8.wrap (i : Int) = (i : Int) := by simp [IntKind.wrap, IntKind.signed, IntKind.bits]; omega
      have s4 := fun o => cell_alloc_keep o c4
      have s0 := fun o => cell_alloc_keep o c0
      go_upto_region 14 with fail
      go_region_law
        (first
          | (obtain ⟨v6, W6, C6, hr6, hS6, F6, ho6, hfar6⟩ := Sl.append (P := Tryd.prog) (t := 67) 0 Tryd.underlying67 hi9 his9 hz9 hzs9 (HM.out.out.alloc (.cells #[.int .u32 round, .int .u8 node, .int .u8 (i : Int), .int .u8 (kd : Int), .int .u8 act] 127)).drew (Src.new wc 127 5 1 1 [.int .u32 round, .int .u8 node, .int .u8 (i : Int), .int .u8 (kd : Int), .int .u8 act] rfl).drew (by simp [Value.oneCell']) (by unfold maxLen; omega) (by rw [hby9]; omega)
             obtain ⟨a6, c6, rfl, -⟩ := id hS6.form
             have hh5 := (HM.out.head.alloc (.cells #[.int .u32 round, .int .u8 node, .int .u8 (i : Int), .int .u8 (kd : Int), .int .u8 act] 127)).drew
             have hh6 := hh5.same (hfar6 mb hh5.lt (Sl.apart (HM.out.out.alloc (.cells #[.int .u32 round, .int .u8 node, .int .u8 (i : Int), .int .u8 (kd : Int), .int .u8 act] 127)).drew hh5 (by decide))).1
             have s6 := hh6.cell_ 4 rfl
             have f6 := hh6.frozen 4
             refine step_append_run hr6 (by rfl) (by rfl) (by rfl) (by rfl) ?_))
      all_goals
        go_wp2
        go_ret2
        have f56 : Fr (· = k + 1) C C6 wc W6 := (((Fr.refl (· = k + 1) C wc).alloc (.cells #[.int .u32 round, .int .u8 node, .int .u8 (i : Int), .int .u8 (kd : Int), .int .u8 act] 127)).drew).trans F6
        have hv6 : Sl W6 C6 (k + 1) (.slice a6 (m1.out.length + 1) c6) 127 5 (m1.out ++ [(⟨round, node, i, kd, act⟩ : Rec)]).length ((m1.out ++ [(⟨round, node, i, kd, act⟩ : Rec)]).flatMap Rec.cells) := by
          rw [List.length_append, List.flatMap_append]
          exact hS6
        obtain ⟨g1, g2⟩ := HM.out.turnOut hk f56 hv6
        exact ⟨by rw [HACT.out]; rfl, C6, _, (HF1.out.mono (K' := fun x => x = k ∨ x = k + 1) (fun _ h => .inl h)).trans g1, by rw [HREP.out, if_pos h4]; exact g2⟩
    · have q4 : ¬ (m1.out.length : Int) < 4 := by omega
      go_wp2
      go_ret2
      exact ⟨by rw [HACT.out]; rfl, C, _, HF1.out.mono (fun _ h => .inl h), by rw [HREP.out, if_neg h4]; exact HM.out⟩
end Go.Proofs.YtlgjaoijgkdmiaaDoor
