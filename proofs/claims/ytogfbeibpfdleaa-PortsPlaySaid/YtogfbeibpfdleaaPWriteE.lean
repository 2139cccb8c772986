/- Package ports: what Write refuses. No condition but that the tables work. -/
import Derived.Test.YtogfbeibpfdleaaPWrite
set_option linter.unusedSimpArgs false
set_option linter.unusedVariables false
namespace Go.Proofs.Ytogfbeibpfdleaa
open Go.RowKit Go.Maps
attribute [local go_sem ↓] Go.wp_at_zero Go.wp_at_succ

set_option maxRecDepth 100000 in
set_option maxHeartbeats 4000000 in
theorem write_size (c : Cfg) (hg : Good c) (C : Nat → Nat) (k b ab : Nat) (hk : k ≠ 0) (hab : ab ≠ b) (pv qv rv : Value) (i j : Nat) (lv : Nat → Value) (st : List PSt) (dv : Value) (d : List UInt8) (w : World) (hf : Fin C w) (h : IsPorts w C k b ab c pv qv rv (c.part i).node lv st) (hj : j < c.ports.length) (hi : (c.port j).part = (i : Int)) (hil : i < c.parts.length) (ho : (c.port j).out = true)
    (hd : IsBytes w C dv d) (hs : (c.port j).size < (d.length : Int)) :
    Calls Try.prog 13 #[.pointer (some ⟨b, 0, none⟩), .int .i64 (i : Int), .int .i64 (j : Int), dv] w fun e w' => ∃ ev, e = .returned ev ∧ Below w.heap.size w w' ∧ ErrO w w' ev (some (12, (j : Int))) := by
  have hfind := find_ok c hg C k b ab pv qv rv i j lv st w h hj hi hil
  rw [ho] at hfind
  obtain ⟨da, dc, rfl, -⟩ := id hd
  have HF := hid_ hfind
  clear hfind
  go_enter Try.func13, Try.ntmps13
  go_wp2_with fail
  refine HF.out.mono ?_
  rintro e w1 ⟨ev, rfl, hw1, hE⟩
  obtain rfl : ev = .nilIface := hE
  have G1 := Fr.of_below (C := C) hw1 (fun _ => False)
  have hn24 : st.length ≤ 24 := by rw [h.len]; exact hg.nq
  have h1 := h.fr G1 (fun x hx => hx.elim) hn24
  have hd1 : IsBytes w1 C (.slice da d.length dc) d := Rd.fr hd G1 (fun h => h)
  obtain ⟨c8, c9, _, c11, c12⟩ := h1.cells
  have hjs : j < st.length := by rw [h.len]; exact hj
  have hq := h1.lists.ports
  obtain ⟨qa, qc, rfl, hqc, hqm, -⟩ := id hq
  obtain ⟨qb, qo, rfl, _, hcell⟩ := hq.row (fun _ => rfl) hj
  rw [show c.ports.getD j default = c.port j from rfl] at hcell
  have e0 := hcell 0 _ rfl
  have e1 := hcell 1 _ rfl
  have e2 := hcell 2 _ rfl
  have e3 := hcell 3 _ rfl
  have e4 := hcell 4 _ rfl
  have e5 := hcell 5 _ rfl
  simp only [Nat.add_zero] at e0
  have hj0 : (0 : Int) ≤ (j : Int) := Int.natCast_nonneg _
  have hj1 : (j : Int) < (c.ports.length : Int) := by omega
  have hj2 : (j : Int) < (st.length : Int) := by omega
  have hd16 : (c.port j).size ≤ 16 := by
    have := hg.ports j hj
    unfold portOk inb at this
    simp only [Bool.and_eq_true, decide_eq_true_eq] at this
    omega
  unfold maxLen at hqm
  clear hcell hq HF hw1
  go_upto_region 4 with (fail)
  go_region_held3 (fun w' => w'.cell? ⟨b, 9, none⟩ = some (.slice (some ⟨qb, qo, none⟩) c.ports.length qc) ∧ w'.cell? ⟨b, 12, none⟩ = some (.slice (some ⟨ab, 0, none⟩) st.length st.length) ∧ w'.cell? ⟨qb, qo + j * 6, none⟩ = some (.int .i64 (c.port j).part) ∧ w'.cell? ⟨qb, qo + j * 6 + 1, none⟩ = some (.int .u8 (c.port j).kind) ∧ w'.cell? ⟨qb, qo + j * 6 + 2, none⟩ = some (.bool (c.port j).out) ∧ w'.cell? ⟨qb, qo + j * 6 + 3, none⟩ = some (.int .i64 (c.port j).size) ∧ w'.cell? ⟨qb, qo + j * 6 + 4, none⟩ = some (.int .i64 (c.port j).depth) ∧ w'.cell? ⟨qb, qo + j * 6 + 5, none⟩ = some (.int .i64 (c.port j).fresh)) (go_keep) (fail)
  go_upto_region 5 with (fail)
  refine gen_world (fun W => Fr (fun _ => False) C C w1 W ∧ Bk W w1.heap.size 33 [.int .i64 (i : Int), .int .u8 (c.port j).kind, .bool true, .int .i64 (c.port j).size, .int .i64 (c.port j).depth, .int .i64 (c.port j).fresh])
    ⟨((Fr.refl _ C w1).alloc _).drew, (Bk.new _ _ _).drew⟩ ?_
  clear c8 c9 c11 c12 e0 e1 e2 e3 e4 e5
  rintro W ⟨G2, hX⟩
  have h2 := h1.fr G2 (fun x hx => hx.elim) hn24
  have hd2 : IsBytes W C (.slice da d.length dc) d := Rd.fr hd1 G2 (fun h => h)
  have hfin2 : Fin C W := (G1.trans G2).Fin hf
  have G12 := (G1.trans G2).mono (K' := fun x => k ≤ x ∧ x < k + 100) (fun _ h => h.elim)
  have x1 := hX.cell_ 1 rfl
  have x3 := hX.cell_ 3 rfl
  have x4 := hX.cell_ 4 rfl
  have HO := hid_ ho
  have HI := hid_ hi
  clear ho hi hd1 h1
  go_wp2_with fail
  refine (faultNew 12 j _ (by decide)).mono ?_
  rw [if_neg (show ¬ (j : Int) < -1 by omega)]
  rintro e w3 ⟨fb, rfl, hw3, hge, hB⟩
  clear x1 x3 x4
  go_wp2
  go_ret
  have hB0 : Below w.heap.size w W := (G1.trans G2).below (fun _ _ h => h)
  have hsz := hB0.size
  refine ⟨_, rfl, below_then hB0 ⟨hw3.os, hw3.tape, hw3.output, hw3.size, hw3.block⟩, fb, rfl, ?_, hB⟩
  exact Nat.le_trans hsz hge

set_option maxRecDepth 100000 in
set_option maxHeartbeats 4000000 in
theorem write_full (c : Cfg) (hg : Good c) (C : Nat → Nat) (k b ab : Nat) (hk : k ≠ 0) (hab : ab ≠ b) (pv qv rv : Value) (i j : Nat) (lv : Nat → Value) (st : List PSt) (dv : Value) (d : List UInt8) (w : World) (hf : Fin C w) (h : IsPorts w C k b ab c pv qv rv (c.part i).node lv st) (hj : j < c.ports.length) (hi : (c.port j).part = (i : Int)) (hil : i < c.parts.length) (ho : (c.port j).out = true)
    (hd : IsBytes w C dv d) (hs : (d.length : Int) ≤ (c.port j).size) (hkind : (c.port j).kind ≠ 1) (hroom : (c.port j).depth ≤ ((st.getD j default).q.length : Int)) :
    Calls Try.prog 13 #[.pointer (some ⟨b, 0, none⟩), .int .i64 (i : Int), .int .i64 (j : Int), dv] w fun e w' => ∃ ev, e = .returned ev ∧ Below w.heap.size w w' ∧ ErrO w w' ev (some (11, (j : Int))) := by
  have hfind := find_ok c hg C k b ab pv qv rv i j lv st w h hj hi hil
  rw [ho] at hfind
  obtain ⟨da, dc, rfl, -⟩ := id hd
  have HF := hid_ hfind
  clear hfind
  go_enter Try.func13, Try.ntmps13
  go_wp2_with fail
  refine HF.out.mono ?_
  rintro e w1 ⟨ev, rfl, hw1, hE⟩
  obtain rfl : ev = .nilIface := hE
  have G1 := Fr.of_below (C := C) hw1 (fun _ => False)
  have hn24 : st.length ≤ 24 := by rw [h.len]; exact hg.nq
  have h1 := h.fr G1 (fun x hx => hx.elim) hn24
  have hd1 : IsBytes w1 C (.slice da d.length dc) d := Rd.fr hd G1 (fun h => h)
  obtain ⟨c8, c9, _, c11, c12⟩ := h1.cells
  have hjs : j < st.length := by rw [h.len]; exact hj
  have hq := h1.lists.ports
  obtain ⟨qa, qc, rfl, hqc, hqm, -⟩ := id hq
  obtain ⟨qb, qo, rfl, _, hcell⟩ := hq.row (fun _ => rfl) hj
  rw [show c.ports.getD j default = c.port j from rfl] at hcell
  have e0 := hcell 0 _ rfl
  have e1 := hcell 1 _ rfl
  have e2 := hcell 2 _ rfl
  have e3 := hcell 3 _ rfl
  have e4 := hcell 4 _ rfl
  have e5 := hcell 5 _ rfl
  simp only [Nat.add_zero] at e0
  have hj0 : (0 : Int) ≤ (j : Int) := Int.natCast_nonneg _
  have hj1 : (j : Int) < (c.ports.length : Int) := by omega
  have hj2 : (j : Int) < (st.length : Int) := by omega
  have hd16 : (c.port j).size ≤ 16 := by
    have := hg.ports j hj
    unfold portOk inb at this
    simp only [Bool.and_eq_true, decide_eq_true_eq] at this
    omega
  unfold maxLen at hqm
  clear hcell hq HF hw1
  go_upto_region 4 with (fail)
  go_region_held3 (fun w' => w'.cell? ⟨b, 9, none⟩ = some (.slice (some ⟨qb, qo, none⟩) c.ports.length qc) ∧ w'.cell? ⟨b, 12, none⟩ = some (.slice (some ⟨ab, 0, none⟩) st.length st.length) ∧ w'.cell? ⟨qb, qo + j * 6, none⟩ = some (.int .i64 (c.port j).part) ∧ w'.cell? ⟨qb, qo + j * 6 + 1, none⟩ = some (.int .u8 (c.port j).kind) ∧ w'.cell? ⟨qb, qo + j * 6 + 2, none⟩ = some (.bool (c.port j).out) ∧ w'.cell? ⟨qb, qo + j * 6 + 3, none⟩ = some (.int .i64 (c.port j).size) ∧ w'.cell? ⟨qb, qo + j * 6 + 4, none⟩ = some (.int .i64 (c.port j).depth) ∧ w'.cell? ⟨qb, qo + j * 6 + 5, none⟩ = some (.int .i64 (c.port j).fresh)) (go_keep) (fail)
  go_upto_region 5 with (fail)
  refine gen_world (fun W => Fr (fun _ => False) C C w1 W ∧ Bk W w1.heap.size 33 [.int .i64 (i : Int), .int .u8 (c.port j).kind, .bool true, .int .i64 (c.port j).size, .int .i64 (c.port j).depth, .int .i64 (c.port j).fresh])
    ⟨((Fr.refl _ C w1).alloc _).drew, (Bk.new _ _ _).drew⟩ ?_
  clear c8 c9 c11 c12 e0 e1 e2 e3 e4 e5
  rintro W ⟨G2, hX⟩
  have h2 := h1.fr G2 (fun x hx => hx.elim) hn24
  have hd2 : IsBytes W C (.slice da d.length dc) d := Rd.fr hd1 G2 (fun h => h)
  have hfin2 : Fin C W := (G1.trans G2).Fin hf
  have G12 := (G1.trans G2).mono (K' := fun x => k ≤ x ∧ x < k + 100) (fun _ h => h.elim)
  have x1 := hX.cell_ 1 rfl
  have x3 := hX.cell_ 3 rfl
  have x4 := hX.cell_ 4 rfl
  have HO := hid_ ho
  have HI := hid_ hi
  clear ho hi hd1 h1
  obtain ⟨vs, hS, hA⟩ := h2.each j hjs
  have hvl := hA.len
  obtain ⟨la, lc, hlv, hlc, hlm, -⟩ := hS.form
  obtain ⟨s0, s1⟩ := h2.state hjs
  rw [hlv] at s0 hS
  have HV := hid_ hvl
  have HLV := hid_ hlv
  clear hlv
  unfold maxLen at hlm
  have q1 : ((c.port j).kind == 1) = false := by simpa using hkind
  have q2 : (c.port j).depth ≤ (vs.length : Int) := by omega
  clear hkind hvl
  go_wp2
  go_quiet (fail)
  go_wp2_with fail
  refine (faultNew 11 j _ (by decide)).mono ?_
  rw [if_neg (show ¬ (j : Int) < -1 by omega)]
  rintro e w3 ⟨fb, rfl, hw3, hge, hB⟩
  clear x1 x3 x4
  go_wp2
  go_ret
  have hB0 : Below w.heap.size w W := (G1.trans G2).below (fun _ _ h => h)
  have hsz := hB0.size
  refine ⟨_, rfl, below_then hB0 ⟨hw3.os, hw3.tape, hw3.output, hw3.size, hw3.block⟩, fb, rfl, ?_, hB⟩
  exact Nat.le_trans hsz hge
end Go.Proofs.Ytogfbeibpfdleaa
