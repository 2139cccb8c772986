/- Package ports: Read. No condition but that the tables work. -/
import Derived.Test.YtogfbeibpfdleaaPWrite
set_option linter.unusedSimpArgs false
set_option linter.unusedVariables false
namespace Go.Proofs.Ytogfbeibpfdleaa
open Go.RowKit Go.Maps
attribute [local go_sem ↓] Go.wp_at_zero Go.wp_at_succ

set_option maxRecDepth 100000 in
set_option maxHeartbeats 4000000 in
theorem read_empty (c : Cfg) (hg : Good c) (C : Nat → Nat) (k b ab : Nat) (hk : k ≠ 0) (hab : ab ≠ b) (pv qv rv : Value) (i j : Nat) (lv : Nat → Value) (st : List PSt) (w : World) (hf : Fin C w) (h : IsPorts w C k b ab c pv qv rv (c.part i).node lv st) (hj : j < c.ports.length) (hi : (c.port j).part = (i : Int)) (hil : i < c.parts.length) (ho : (c.port j).out = false)
    (hempty : (st.getD j default).q = []) :
    Calls Try.prog 16 #[.pointer (some ⟨b, 0, none⟩), .int .i64 (i : Int), .int .i64 (j : Int)] w fun e w' => ∃ ev, e = .returned (.tuple #[.slice none 0 0, .bool false, ev]) ∧ Below w.heap.size w w' ∧ ErrO w w' ev (some (10, (j : Int))) := by
  have hfind := find_ok c hg C k b ab pv qv rv i j lv st w h hj hi hil
  rw [ho] at hfind
  have HF := hid_ hfind
  clear hfind
  have HEM := hid_ hempty
  clear hempty
  go_enter Try.func16, Try.ntmps16
  go_wp2_with fail
  refine HF.out.mono ?_
  rintro e w1 ⟨ev, rfl, hw1, hE⟩
  obtain rfl : ev = .nilIface := hE
  have G1 := Fr.of_below (C := C) hw1 (fun _ => False)
  have hn24 : st.length ≤ 24 := by rw [h.len]; exact hg.nq
  have h1 := h.fr G1 (fun x hx => hx.elim) hn24
  obtain ⟨c8, c9, _, c11, c12⟩ := h1.cells
  have hjs : j < st.length := by rw [h.len]; exact hj
  have hq := h1.lists.ports
  obtain ⟨qa, qc, rfl, hqc, hqm, -⟩ := id hq
  obtain ⟨qb, qo, rfl, _, hcell⟩ := hq.row (fun _ => rfl) hj
  rw [show c.ports.getD j default = c.port j from rfl] at hcell
  have e0 := hcell 0 _ rfl
  have e1 := hcell 1 _ rfl
  have e2 := hcell 2 _ rfl
  have e3 := hcell 3 _ rfl
  have e4 := hcell 4 _ rfl
  have e5 := hcell 5 _ rfl
  simp only [Nat.add_zero] at e0
  have hj0 : (0 : Int) ≤ (j : Int) := Int.natCast_nonneg _
  have hj1 : (j : Int) < (c.ports.length : Int) := by omega
  have hj2 : (j : Int) < (st.length : Int) := by omega
  unfold maxLen at hqm
  clear hcell hq HF hw1
  go_upto_region 4 with (fail)
  go_region_held3 (fun w' => w'.cell? ⟨b, 9, none⟩ = some (.slice (some ⟨qb, qo, none⟩) c.ports.length qc) ∧ w'.cell? ⟨b, 12, none⟩ = some (.slice (some ⟨ab, 0, none⟩) st.length st.length) ∧ w'.cell? ⟨qb, qo + j * 6, none⟩ = some (.int .i64 (c.port j).part) ∧ w'.cell? ⟨qb, qo + j * 6 + 1, none⟩ = some (.int .u8 (c.port j).kind) ∧ w'.cell? ⟨qb, qo + j * 6 + 2, none⟩ = some (.bool (c.port j).out) ∧ w'.cell? ⟨qb, qo + j * 6 + 3, none⟩ = some (.int .i64 (c.port j).size) ∧ w'.cell? ⟨qb, qo + j * 6 + 4, none⟩ = some (.int .i64 (c.port j).depth) ∧ w'.cell? ⟨qb, qo + j * 6 + 5, none⟩ = some (.int .i64 (c.port j).fresh)) (go_keep) (fail)
  go_upto_region 5 with (fail)
  refine gen_world (fun W => Fr (fun _ => False) C C w1 W ∧ Bk W w1.heap.size 33 [.int .i64 (i : Int), .int .u8 (c.port j).kind, .bool false, .int .i64 (c.port j).size, .int .i64 (c.port j).depth, .int .i64 (c.port j).fresh])
    ⟨((Fr.refl _ C w1).alloc _).drew, (Bk.new _ _ _).drew⟩ ?_
  clear c8 c9 c11 c12 e0 e1 e2 e3 e4 e5
  rintro W ⟨G2, hX⟩
  have h2 := h1.fr G2 (fun x hx => hx.elim) hn24
  have hfin2 : Fin C W := (G1.trans G2).Fin hf
  have G12 := (G1.trans G2).mono (K' := fun x => k ≤ x ∧ x < k + 100) (fun _ h => h.elim)
  have x1 := hX.cell_ 1 rfl
  have x5 := hX.cell_ 5 rfl
  have HO := hid_ ho
  have HI := hid_ hi
  clear ho hi h1
  obtain ⟨vs, hS, hA⟩ := h2.each j hjs
  have hvl := hA.len
  obtain ⟨la, lc, hlv, hlc, hlm, -⟩ := hS.form
  obtain ⟨s0, s1⟩ := h2.state hjs
  rw [hlv] at s0 hS
  have HV := hid_ hvl
  have HLV := hid_ hlv
  clear hlv
  unfold maxLen at hlm
  obtain rfl : vs = [] := List.eq_nil_of_length_eq_zero (by rw [hvl, HEM.out]; rfl)
  clear hvl
  simp only [List.length_nil] at s0
  go_wp2_with fail
  refine (faultNew 10 j _ (by decide)).mono ?_
  rw [if_neg (show ¬ (j : Int) < -1 by omega)]
  rintro e w3 ⟨fb, rfl, hw3, hge, hB⟩
  clear x1 x5 s0 s1
  go_wp2
  go_ret3
  have hB0 : Below w.heap.size w W := (G1.trans G2).below (fun _ _ h => h)
  have hsz := hB0.size
  exact ⟨_, rfl, below_then hB0 ⟨hw3.os, hw3.tape, hw3.output, hw3.size, hw3.block⟩, fb, rfl, Nat.le_trans hsz hge, hB⟩

set_option maxRecDepth 100000 in
set_option maxHeartbeats 4000000 in
theorem read_samp (c : Cfg) (hg : Good c) (C : Nat → Nat) (k b ab : Nat) (hk : k ≠ 0) (hab : ab ≠ b) (pv qv rv : Value) (i j : Nat) (lv : Nat → Value) (st : List PSt) (w : World) (hf : Fin C w) (h : IsPorts w C k b ab c pv qv rv (c.part i).node lv st) (hj : j < c.ports.length) (hi : (c.port j).part = (i : Int)) (hil : i < c.parts.length) (ho : (c.port j).out = false)
    (hbytes : ∀ x ∈ (st.getD j default).q, x.length ≤ 140737488355328) (hempty : (st.getD j default).q ≠ []) (hkind : (c.port j).kind = 1) :
    Calls Try.prog 16 #[.pointer (some ⟨b, 0, none⟩), .int .i64 (i : Int), .int .i64 (j : Int)] w fun e w' => ∃ v d q, (st.getD j default).q = d :: q ∧ e = .returned (.tuple #[v, .bool (decide ((st.getD j default).age ≤ (c.port j).fresh)), .nilIface]) ∧ IsBytes w' C v d ∧ Below w.heap.size w w' := by
  have hfind := find_ok c hg C k b ab pv qv rv i j lv st w h hj hi hil
  rw [ho] at hfind
  have HF := hid_ hfind
  clear hfind
  have HEM := hid_ hempty
  have HK := hid_ hkind
  clear hempty hkind
  go_enter Try.func16, Try.ntmps16
  go_wp2_with fail
  refine HF.out.mono ?_
  rintro e w1 ⟨ev, rfl, hw1, hE⟩
  obtain rfl : ev = .nilIface := hE
  have G1 := Fr.of_below (C := C) hw1 (fun _ => False)
  have hn24 : st.length ≤ 24 := by rw [h.len]; exact hg.nq
  have h1 := h.fr G1 (fun x hx => hx.elim) hn24
  obtain ⟨c8, c9, _, c11, c12⟩ := h1.cells
  have hjs : j < st.length := by rw [h.len]; exact hj
  have hq := h1.lists.ports
  obtain ⟨qa, qc, rfl, hqc, hqm, -⟩ := id hq
  obtain ⟨qb, qo, rfl, _, hcell⟩ := hq.row (fun _ => rfl) hj
  rw [show c.ports.getD j default = c.port j from rfl] at hcell
  have e0 := hcell 0 _ rfl
  have e1 := hcell 1 _ rfl
  have e2 := hcell 2 _ rfl
  have e3 := hcell 3 _ rfl
  have e4 := hcell 4 _ rfl
  have e5 := hcell 5 _ rfl
  simp only [Nat.add_zero] at e0
  have hj0 : (0 : Int) ≤ (j : Int) := Int.natCast_nonneg _
  have hj1 : (j : Int) < (c.ports.length : Int) := by omega
  have hj2 : (j : Int) < (st.length : Int) := by omega
  unfold maxLen at hqm
  clear hcell hq HF hw1
  go_upto_region 4 with (fail)
  go_region_held3 (fun w' => w'.cell? ⟨b, 9, none⟩ = some (.slice (some ⟨qb, qo, none⟩) c.ports.length qc) ∧ w'.cell? ⟨b, 12, none⟩ = some (.slice (some ⟨ab, 0, none⟩) st.length st.length) ∧ w'.cell? ⟨qb, qo + j * 6, none⟩ = some (.int .i64 (c.port j).part) ∧ w'.cell? ⟨qb, qo + j * 6 + 1, none⟩ = some (.int .u8 (c.port j).kind) ∧ w'.cell? ⟨qb, qo + j * 6 + 2, none⟩ = some (.bool (c.port j).out) ∧ w'.cell? ⟨qb, qo + j * 6 + 3, none⟩ = some (.int .i64 (c.port j).size) ∧ w'.cell? ⟨qb, qo + j * 6 + 4, none⟩ = some (.int .i64 (c.port j).depth) ∧ w'.cell? ⟨qb, qo + j * 6 + 5, none⟩ = some (.int .i64 (c.port j).fresh)) (go_keep) (fail)
  go_upto_region 5 with (fail)
  refine gen_world (fun W => Fr (fun _ => False) C C w1 W ∧ Bk W w1.heap.size 33 [.int .i64 (i : Int), .int .u8 (c.port j).kind, .bool false, .int .i64 (c.port j).size, .int .i64 (c.port j).depth, .int .i64 (c.port j).fresh])
    ⟨((Fr.refl _ C w1).alloc _).drew, (Bk.new _ _ _).drew⟩ ?_
  clear c8 c9 c11 c12 e0 e1 e2 e3 e4 e5
  rintro W ⟨G2, hX⟩
  have h2 := h1.fr G2 (fun x hx => hx.elim) hn24
  have hfin2 : Fin C W := (G1.trans G2).Fin hf
  have G12 := (G1.trans G2).mono (K' := fun x => k ≤ x ∧ x < k + 100) (fun _ h => h.elim)
  have x1 := hX.cell_ 1 rfl
  have x5 := hX.cell_ 5 rfl
  have HO := hid_ ho
  have HI := hid_ hi
  clear ho hi h1
  obtain ⟨vs, hS, hA⟩ := h2.each j hjs
  have hvl := hA.len
  obtain ⟨la, lc, hlv, hlc, hlm, -⟩ := hS.form
  obtain ⟨s0, s1⟩ := h2.state hjs
  rw [hlv] at s0 hS
  have HLV := hid_ hlv
  clear hlv
  unfold maxLen at hlm
  obtain ⟨d, q, hdq⟩ : ∃ d q, (st.getD j default).q = d :: q := by
    cases hq : (st.getD j default).q with
    | nil => exact absurd hq HEM.out
    | cons x y => exact ⟨x, y, rfl⟩
  rw [hdq] at hA
  have HDQ := hid_ hdq
  obtain ⟨v0, vs, rfl⟩ : ∃ v0 vs', vs = v0 :: vs' := by
    cases vs with
    | nil => exact hA.elim
    | cons x y => exact ⟨x, y, rfl⟩
  obtain ⟨hA1, hA2, hA3⟩ := hA
  obtain ⟨bb, off, rfl, hCa, hlt, hcell⟩ := hS.at (by simp)
  have hv0 := hcell 0 v0 rfl
  simp only [Nat.add_zero] at hv0
  obtain ⟨va, vc, rfl, hvc, -⟩ := id hA1
  have hd47 : d.length ≤ 140737488355328 := hbytes d (by rw [hdq]; simp)
  simp only [List.length_cons] at s0 hS hlc
  obtain ⟨m, hm⟩ : ∃ m, vs.length = m := ⟨_, rfl⟩
  rw [hm] at s0 hS hlc
  have HM := hid_ hm
  have z0 : ((m : Int) + 1 == 0) = false := by simp; omega
  clear hvl hdq hcell hm
  go_upto_region 7 with (fail)
  go_wp2_with fail
  refine (clone_any C _ d _ (by exact hfin2) (by exact hA1) hd47).mono ?_
  rintro e W5 ⟨v5, rfl, hb5, ho5, hw5⟩
  obtain ⟨a5, c5, rfl, -⟩ := id hb5
  have G5 := Fr.of_below (C := C) hw5 (fun _ => False)
  have h5 := h2.fr G5 (fun x hx => hx.elim) hn24
  have hX5 := hX.fr G5 (fun h => h)
  have x1 := hX5.cell_ 1 rfl
  have x5 := hX5.cell_ 5 rfl
  obtain ⟨s0, s1⟩ := h5.state hjs
  rw [HLV.out] at s0
  simp only [List.length_cons] at s0
  rw [HM.out] at s0
  have hS5 := hS.fr G5 (fun h => h)
  rw [HK.out] at x1
  obtain ⟨ag, hag⟩ : ∃ ag, (st.getD j default).age = ag := ⟨_, rfl⟩
  rw [hag] at s1
  have HAG := hid_ hag
  clear hag
  go_wp2
  go_quiet (fail)
  go_wp2
  go_ret3
  have hB0 : Below w.heap.size w W := (G1.trans G2).below (fun _ _ h => h)
  exact ⟨_, d, q, HDQ.out, congrArg (fun x => Ending.returned (.tuple #[.slice a5 d.length c5, .bool (decide (x ≤ (c.port j).fresh)), .nilIface])) HAG.out.symm, hb5, below_then hB0 ⟨hw5.os, hw5.tape, hw5.output, hw5.size, hw5.block⟩⟩

set_option maxRecDepth 100000 in
set_option maxHeartbeats 4000000 in
theorem read_queue (c : Cfg) (hg : Good c) (C : Nat → Nat) (k b ab : Nat) (hk : k ≠ 0) (hab : ab ≠ b) (pv qv rv : Value) (i j : Nat) (lv : Nat → Value) (st : List PSt) (w : World) (hf : Fin C w) (h : IsPorts w C k b ab c pv qv rv (c.part i).node lv st) (hj : j < c.ports.length) (hi : (c.port j).part = (i : Int)) (hil : i < c.parts.length) (ho : (c.port j).out = false)
    (hbytes : ∀ x ∈ (st.getD j default).q, x.length ≤ 140737488355328) (hempty : (st.getD j default).q ≠ []) (hkind : (c.port j).kind ≠ 1) :
    Calls Try.prog 16 #[.pointer (some ⟨b, 0, none⟩), .int .i64 (i : Int), .int .i64 (j : Int)] w fun e w' => ∃ v d q, (st.getD j default).q = d :: q ∧ e = .returned (.tuple #[v, .bool true, .nilIface]) ∧ IsBytes w' C v d ∧ ∃ lv', Fr (fun x => k ≤ x ∧ x < k + 100) C C w w' ∧ IsPorts w' C k b ab c pv qv rv (c.part i).node lv' (st.set j { st.getD j default with q := q }) := by
  have hfind := find_ok c hg C k b ab pv qv rv i j lv st w h hj hi hil
  rw [ho] at hfind
  have HF := hid_ hfind
  clear hfind
  have HEM := hid_ hempty
  have q1 : ((c.port j).kind == 1) = false := by simpa using hkind
  clear hempty hkind
  go_enter Try.func16, Try.ntmps16
  go_wp2_with fail
  refine HF.out.mono ?_
  rintro e w1 ⟨ev, rfl, hw1, hE⟩
  obtain rfl : ev = .nilIface := hE
  have G1 := Fr.of_below (C := C) hw1 (fun _ => False)
  have hn24 : st.length ≤ 24 := by rw [h.len]; exact hg.nq
  have h1 := h.fr G1 (fun x hx => hx.elim) hn24
  obtain ⟨c8, c9, _, c11, c12⟩ := h1.cells
  have hjs : j < st.length := by rw [h.len]; exact hj
  have hq := h1.lists.ports
  obtain ⟨qa, qc, rfl, hqc, hqm, -⟩ := id hq
  obtain ⟨qb, qo, rfl, _, hcell⟩ := hq.row (fun _ => rfl) hj
  rw [show c.ports.getD j default = c.port j from rfl] at hcell
  have e0 := hcell 0 _ rfl
  have e1 := hcell 1 _ rfl
  have e2 := hcell 2 _ rfl
  have e3 := hcell 3 _ rfl
  have e4 := hcell 4 _ rfl
  have e5 := hcell 5 _ rfl
  simp only [Nat.add_zero] at e0
  have hj0 : (0 : Int) ≤ (j : Int) := Int.natCast_nonneg _
  have hj1 : (j : Int) < (c.ports.length : Int) := by omega
  have hj2 : (j : Int) < (st.length : Int) := by omega
  unfold maxLen at hqm
  clear hcell hq HF hw1
  go_upto_region 4 with (fail)
  go_region_held3 (fun w' => w'.cell? ⟨b, 9, none⟩ = some (.slice (some ⟨qb, qo, none⟩) c.ports.length qc) ∧ w'.cell? ⟨b, 12, none⟩ = some (.slice (some ⟨ab, 0, none⟩) st.length st.length) ∧ w'.cell? ⟨qb, qo + j * 6, none⟩ = some (.int .i64 (c.port j).part) ∧ w'.cell? ⟨qb, qo + j * 6 + 1, none⟩ = some (.int .u8 (c.port j).kind) ∧ w'.cell? ⟨qb, qo + j * 6 + 2, none⟩ = some (.bool (c.port j).out) ∧ w'.cell? ⟨qb, qo + j * 6 + 3, none⟩ = some (.int .i64 (c.port j).size) ∧ w'.cell? ⟨qb, qo + j * 6 + 4, none⟩ = some (.int .i64 (c.port j).depth) ∧ w'.cell? ⟨qb, qo + j * 6 + 5, none⟩ = some (.int .i64 (c.port j).fresh)) (go_keep) (fail)
  go_upto_region 5 with (fail)
  refine gen_world (fun W => Fr (fun _ => False) C C w1 W ∧ Bk W w1.heap.size 33 [.int .i64 (i : Int), .int .u8 (c.port j).kind, .bool false, .int .i64 (c.port j).size, .int .i64 (c.port j).depth, .int .i64 (c.port j).fresh])
    ⟨((Fr.refl _ C w1).alloc _).drew, (Bk.new _ _ _).drew⟩ ?_
  clear c8 c9 c11 c12 e0 e1 e2 e3 e4 e5
  rintro W ⟨G2, hX⟩
  have h2 := h1.fr G2 (fun x hx => hx.elim) hn24
  have hfin2 : Fin C W := (G1.trans G2).Fin hf
  have G12 := (G1.trans G2).mono (K' := fun x => k ≤ x ∧ x < k + 100) (fun _ h => h.elim)
  have x1 := hX.cell_ 1 rfl
  have x5 := hX.cell_ 5 rfl
  have HO := hid_ ho
  have HI := hid_ hi
  clear ho hi h1
  obtain ⟨vs, hS, hA⟩ := h2.each j hjs
  have hvl := hA.len
  obtain ⟨la, lc, hlv, hlc, hlm, -⟩ := hS.form
  obtain ⟨s0, s1⟩ := h2.state hjs
  rw [hlv] at s0 hS
  have HLV := hid_ hlv
  clear hlv
  unfold maxLen at hlm
  obtain ⟨d, q, hdq⟩ : ∃ d q, (st.getD j default).q = d :: q := by
    cases hq : (st.getD j default).q with
    | nil => exact absurd hq HEM.out
    | cons x y => exact ⟨x, y, rfl⟩
  rw [hdq] at hA
  have HDQ := hid_ hdq
  obtain ⟨v0, vs, rfl⟩ : ∃ v0 vs', vs = v0 :: vs' := by
    cases vs with
    | nil => exact hA.elim
    | cons x y => exact ⟨x, y, rfl⟩
  obtain ⟨hA1, hA2, hA3⟩ := hA
  obtain ⟨bb, off, rfl, hCa, hlt, hcell⟩ := hS.at (by simp)
  have hv0 := hcell 0 v0 rfl
  simp only [Nat.add_zero] at hv0
  obtain ⟨va, vc, rfl, hvc, -⟩ := id hA1
  have hd47 : d.length ≤ 140737488355328 := hbytes d (by rw [hdq]; simp)
  simp only [List.length_cons] at s0 hS hlc
  obtain ⟨m, hm⟩ : ∃ m, vs.length = m := ⟨_, rfl⟩
  rw [hm] at s0 hS hlc
  have HM := hid_ hm
  have z0 : ((m : Int) + 1 == 0) = false := by simp; omega
  clear hvl hdq hcell hm
  go_upto_region 7 with (fail)
  go_wp2_with fail
  refine (clone_any C _ d _ (by exact hfin2) (by exact hA1) hd47).mono ?_
  rintro e W5 ⟨v5, rfl, hb5, ho5, hw5⟩
  obtain ⟨a5, c5, rfl, -⟩ := id hb5
  have G5 := Fr.of_below (C := C) hw5 (fun _ => False)
  have h5 := h2.fr G5 (fun x hx => hx.elim) hn24
  have hX5 := hX.fr G5 (fun h => h)
  have x1 := hX5.cell_ 1 rfl
  have x5 := hX5.cell_ 5 rfl
  obtain ⟨s0, s1⟩ := h5.state hjs
  rw [HLV.out] at s0
  simp only [List.length_cons] at s0
  rw [HM.out] at s0
  have hS5 := hS.fr G5 (fun h => h)
  have fz := h5.all.frozen (j * 2)
  have hT := Sl.tail (xs := [.slice va d.length vc]) (cs := vs) (n := m) hS5 rfl
  have hA5 := hA3.fr G5 (fun h => h)
  have G0 := G12.trans (G5.mono (K' := fun x => k ≤ x ∧ x < k + 100) (fun _ h => h.elim))
  have hFF : ∀ v, Fr (fun x => k ≤ x ∧ x < k + 100) C C w (W5.setCell ⟨ab, j * 2, none⟩ v) := fun v => G0.setCell (a := ⟨ab, j * 2, none⟩) (.inr (show k ≤ C ab ∧ C ab < k + 100 by rw [h.acol]; omega)) v
  have hbf : ∀ v, IsBytes (W5.setCell ⟨ab, j * 2, none⟩ v) C (.slice a5 d.length c5) d := fun v => Rd.fr hb5 ((Fr.refl (· = k) C W5).setCell (a := ⟨ab, j * 2, none⟩) (.inr h.acol) v) (fun h => hk h.symm)
  have hm2 : m + 1 ≤ lc := hlc
  by_cases hc1 : lc = 1
  · subst hc1
    obtain rfl : m = 0 := by omega
    simp only [if_true] at hT
    go_wp2
    go_ret3
    have hfin := h5.turn hn24 hk hjs (Fr.refl (· = k + 1 + j) C W5) (v := .slice (some ⟨bb, off, none⟩) 0 0) (q := q) ⟨vs, by rw [HM.out]; exact hT, hA5⟩ hab
    refine ⟨_, d, q, HDQ.out, rfl, hbf _, ?_⟩
    first
      | exact ⟨_, hFF _, hfin⟩
      | exact ⟨hFF _, _, hfin⟩
  · rw [if_neg hc1] at hT
    have hc2 : ¬ lc = 1 := hc1
    go_wp2
    go_ret3
    have hfin := h5.turn hn24 hk hjs (Fr.refl (· = k + 1 + j) C W5) (v := .slice (some ⟨bb, off + 1, none⟩) m (lc - 1)) (q := q) ⟨vs, by rw [HM.out]; exact hT, hA5⟩ hab
    refine ⟨_, d, q, HDQ.out, rfl, hbf _, ?_⟩
    first
      | exact ⟨_, hFF _, hfin⟩
      | exact ⟨hFF _, _, hfin⟩
end Go.Proofs.Ytogfbeibpfdleaa
