/- Package ports: put. No condition but that the tables work. -/
import Derived.Test.YtogfbeibpfdleaaPWrite
set_option linter.unusedSimpArgs false
set_option linter.unusedVariables false
namespace Go.Proofs.Ytogfbeibpfdleaa
open Go.RowKit Go.Maps
attribute [local go_sem ↓] Go.wp_at_zero Go.wp_at_succ

/-- What a port holds behind a message that came: a sampling port the last one alone, fresh. -/
def putIn (c : Cfg) (st : List PSt) (j : Nat) (d : List UInt8) : List PSt :=
  st.set j (if (c.port j).kind = 1 then ⟨[d], 0⟩ else { st.getD j default with q := (st.getD j default).q ++ [d] })

set_option maxRecDepth 100000 in
set_option maxHeartbeats 4000000 in
theorem put_queue (c : Cfg) (hg : Good c) (C : Nat → Nat) (k b ab : Nat) (hk : k ≠ 0) (hab : ab ≠ b) (pv qv rv : Value) (node : Int) (j : Nat) (lv : Nat → Value) (st : List PSt) (dv : Value) (d : List UInt8) (w : World) (hf : Fin C w) (h : IsPorts w C k b ab c pv qv rv node lv st) (hj : j < c.ports.length)
    (hd : IsBytes w C dv d) (hs : (d.length : Int) ≤ 16) (hkind : (c.port j).kind ≠ 1) (hroom : ((st.getD j default).q.length : Int) < (c.port j).depth) :
    Calls Try.prog 42 #[.pointer (some ⟨b, 0, none⟩), .int .i64 (j : Int), dv] w fun e w' => e = .returned (.bool true) ∧ ∃ C' lv', Fr (fun x => k ≤ x ∧ x < k + 100) C C' w w' ∧ IsPorts w' C' k b ab c pv qv rv node lv' (putIn c st j d) := by
  obtain ⟨da, dc, rfl, -⟩ := id hd
  go_enter Try.func42, Try.ntmps42
  have G1 := Fr.refl (fun _ => False) C w
  have hn24 : st.length ≤ 24 := by rw [h.len]; exact hg.nq
  have h1 := h.fr G1 (fun x hx => hx.elim) hn24
  have hd1 : IsBytes w C (.slice da d.length dc) d := Rd.fr hd G1 (fun h => h)
  obtain ⟨c8, c9, _, c11, c12⟩ := h1.cells
  have hjs : j < st.length := by rw [h.len]; exact hj
  have hq := h1.lists.ports
  obtain ⟨qa, qc, rfl, hqc, hqm, -⟩ := id hq
  obtain ⟨qb, qo, rfl, _, hcell⟩ := hq.row (fun _ => rfl) hj
  rw [show c.ports.getD j default = c.port j from rfl] at hcell
  have e0 := hcell 0 _ rfl
  have e1 := hcell 1 _ rfl
  have e2 := hcell 2 _ rfl
  have e3 := hcell 3 _ rfl
  have e4 := hcell 4 _ rfl
  have e5 := hcell 5 _ rfl
  simp only [Nat.add_zero] at e0
  have hj0 : (0 : Int) ≤ (j : Int) := Int.natCast_nonneg _
  have hj1 : (j : Int) < (c.ports.length : Int) := by omega
  have hj2 : (j : Int) < (st.length : Int) := by omega
  have hd16 : (c.port j).size ≤ 16 := by
    have := hg.ports j hj
    unfold portOk inb at this
    simp only [Bool.and_eq_true, decide_eq_true_eq] at this
    omega
  unfold maxLen at hqm
  clear hcell hq
  go_upto_region 1 with (fail)
  go_region_held3 (fun w' => w'.cell? ⟨b, 9, none⟩ = some (.slice (some ⟨qb, qo, none⟩) c.ports.length qc) ∧ w'.cell? ⟨b, 12, none⟩ = some (.slice (some ⟨ab, 0, none⟩) st.length st.length) ∧ w'.cell? ⟨qb, qo + j * 6, none⟩ = some (.int .i64 (c.port j).part) ∧ w'.cell? ⟨qb, qo + j * 6 + 1, none⟩ = some (.int .u8 (c.port j).kind) ∧ w'.cell? ⟨qb, qo + j * 6 + 2, none⟩ = some (.bool (c.port j).out) ∧ w'.cell? ⟨qb, qo + j * 6 + 3, none⟩ = some (.int .i64 (c.port j).size) ∧ w'.cell? ⟨qb, qo + j * 6 + 4, none⟩ = some (.int .i64 (c.port j).depth) ∧ w'.cell? ⟨qb, qo + j * 6 + 5, none⟩ = some (.int .i64 (c.port j).fresh)) (go_keep) (fail)
  go_upto_region 2 with (fail)
  refine gen_world (fun W => Fr (fun _ => False) C C w W ∧ Bk W w.heap.size 33 [.int .i64 (c.port j).part, .int .u8 (c.port j).kind, .bool (c.port j).out, .int .i64 (c.port j).size, .int .i64 (c.port j).depth, .int .i64 (c.port j).fresh])
    ⟨((Fr.refl _ C w).alloc _).drew, (Bk.new _ _ _).drew⟩ ?_
  clear c8 c9 c11 c12 e0 e1 e2 e3 e4 e5
  rintro W ⟨G2, hX⟩
  have h2 := h1.fr G2 (fun x hx => hx.elim) hn24
  have hd2 : IsBytes W C (.slice da d.length dc) d := Rd.fr hd1 G2 (fun h => h)
  have hfin2 : Fin C W := (G1.trans G2).Fin hf
  have G12 := (G1.trans G2).mono (K' := fun x => k ≤ x ∧ x < k + 100) (fun _ h => h.elim)
  have x1 := hX.cell_ 1 rfl
  have x4 := hX.cell_ 4 rfl
  clear hd1 h1
  obtain ⟨vs, hS, hA⟩ := h2.each j hjs
  have hvl := hA.len
  obtain ⟨la, lc, hlv, hlc, hlm, -⟩ := hS.form
  obtain ⟨s0, s1⟩ := h2.state hjs
  rw [hlv] at s0 hS
  have HV := hid_ hvl
  have HLV := hid_ hlv
  clear hlv
  unfold maxLen at hlm
  have q1 : ((c.port j).kind == 1) = false := by simpa using hkind
  have q2 : (vs.length : Int) < (c.port j).depth := by omega
  have hq4 : (st.getD j default).q.length ≤ 1000 := by
    have := hg.ports j hj
    unfold portOk inb at this
    rw [if_neg hkind] at this
    split at this
    · simp only [Bool.and_eq_true, decide_eq_true_eq] at this
      omega
    · simp at this
  have HK := hid_ hkind
  clear hkind hvl
  go_wp2
  go_quiet (fail)
  go_upto_region 6 with (fail)
  refine gen_world (fun W3 => Fr (fun _ => False) C C W W3) ((Fr.refl _ C W).drewN _) ?_
  clear x1 x4 hX
  rintro W3 G3
  have h3 := h2.fr G3 (fun x hx => hx.elim) hn24
  have hd3 : IsBytes W3 C (.slice da d.length dc) d := Rd.fr hd2 G3 (fun h => h)
  have hfin3 : Fin C W3 := G3.Fin hfin2
  have G0 := G12.trans (G3.mono (K' := fun x => k ≤ x ∧ x < k + 100) (fun _ h => h.elim))
  have hjs3 := hjs
  have hn3 := hn24
  clear s0 s1 hS hA h2 hd2 hfin2 HV HLV hlc hlm q2
  obtain ⟨vs, hS3, hA3⟩ := h3.each j hjs3
  have hvl := hA3.len
  obtain ⟨la, lc, hlv, hlc, hlm, -⟩ := hS3.form
  unfold maxLen at hlm
  obtain ⟨t0, t1⟩ := h3.state hjs3
  have hBab := h3.all
  have hpc : (pcells lv st)[j * 2]? = some (.slice la vs.length lc) := by
    have := pcells_get lv st j 0 hjs3 (by omega)
    rw [hlv] at this
    simpa using this
  rw [hlv] at t0 hS3
  have hvl4 : vs.length ≤ 1000 := by rw [hvl]; exact hq4
  have HPC := hid_ hpc
  obtain ⟨i1, z1, hi1, hz1, hzs1, his1, hby1⟩ := info_row (P := Try.prog) (e := 40) (size := 1) (bytes := 24) (by kernel_rfl)
  have hd47 : d.length ≤ 140737488355328 := by omega
  clear hpc hlv hvl
  go_region_law
    (first
      | (go_simp
         go_at_call 40
         refine (clone_any C _ d _ (by exact hfin3) (by exact hd3) hd47).mono ?_
         rintro e W5 ⟨v5, rfl, hb5, ho5, hw5⟩
         obtain ⟨a5, c5, rfl, -⟩ := id hb5
         have s5 := grown_cell (w := W3.drew) hw5 t0
         have s5a := fun o => cell_alloc_keep o s5)
      | (obtain ⟨v6, W6, C6, hr6, hS6, F6, ho6, hfar6⟩ := Sl.append (P := Try.prog) (t := 22) 0 Try.underlying22 hi1 his1 hz1 hzs1 ((hS3.drew.fr (Fr.of_below hw5 (fun _ => False)) (fun h => h)).alloc (.cells #[.slice a5 d.length c5] 40)) (Src.new W5 40 1 1 1 [.slice a5 d.length c5] rfl) (by simp [Value.oneCell']) (by unfold maxLen; omega) (by rw [hby1]; omega)
         obtain ⟨a6, c6, rfl, -⟩ := id hS6.form
         have hab5 := ((hBab.drew.same (hw5.block ab hBab.lt)).alloc (.cells #[.slice a5 d.length c5] 40))
         have hab6 := hab5.same (hfar6 ab hab5.lt (Sl.apart ((hS3.drew.fr (Fr.of_below hw5 (fun _ => False)) (fun h => h)).alloc (.cells #[.slice a5 d.length c5] 40)) hab5 (by decide))).1
         have s6 := hab6.cell_ (j * 2) HPC.out
         have f6 := hab6.frozen (j * 2)
         refine step_append_run hr6 (by rfl) (by rfl) (by rfl) (by rfl) ?_))
  all_goals
    go_wp2
    go_ret
    have f56 : Fr (· = k + 1 + j) C C6 W3 W6 := (Fr.refl (· = k + 1 + j) C W3).drew.trans <| ((Fr.of_below (w := W3.drew) hw5 (· = k + 1 + j)).alloc (.cells #[.slice a5 d.length c5] 40)).trans F6
    have hj24 : j < 24 := by omega
    have hFF := (G0.trans (f56.mono (K' := fun x => k ≤ x ∧ x < k + 100) (fun x hx => by omega))).setCell (a := ⟨ab, j * 2, none⟩) (.inr (show k ≤ C ab ∧ C ab < k + 100 by rw [h.acol]; omega)) (.slice a6 (vs.length + 1) c6)
    first
      | refine ⟨rfl, C6, fun i' => if i' = j then .slice a6 (vs.length + 1) c6 else lv i', hFF, ?_⟩
      | refine ⟨rfl, C6, hFF, fun i' => if i' = j then .slice a6 (vs.length + 1) c6 else lv i', ?_⟩
    have hl6 : IsList W6 C6 (k + 1 + j) (.slice a6 (vs.length + 1) c6) ((st.getD j default).q ++ [d]) :=
      ⟨vs ++ [.slice a5 d.length c5], by rw [List.length_append]; exact hS6, BytesAll.snoc (hb5.fr (((Fr.refl (· = k + 1 + j) C W5).alloc _).trans F6) (by omega)) rfl (hA3.fr f56 (by omega))⟩
    have hfin := h3.turn hn3 hk hjs3 f56 hl6 hab
    unfold putIn
    rw [if_neg HK.out]
    exact hfin

set_option maxRecDepth 100000 in
set_option maxHeartbeats 4000000 in
theorem put_full (c : Cfg) (hg : Good c) (C : Nat → Nat) (k b ab : Nat) (hk : k ≠ 0) (hab : ab ≠ b) (pv qv rv : Value) (node : Int) (j : Nat) (lv : Nat → Value) (st : List PSt) (dv : Value) (d : List UInt8) (w : World) (hf : Fin C w) (h : IsPorts w C k b ab c pv qv rv node lv st) (hj : j < c.ports.length)
    (hd : IsBytes w C dv d) (hs : (d.length : Int) ≤ 16) (hkind : (c.port j).kind ≠ 1) (hroom : (c.port j).depth ≤ ((st.getD j default).q.length : Int)) :
    Calls Try.prog 42 #[.pointer (some ⟨b, 0, none⟩), .int .i64 (j : Int), dv] w fun e w' => e = .returned (.bool false) ∧ Below w.heap.size w w' := by
  obtain ⟨da, dc, rfl, -⟩ := id hd
  go_enter Try.func42, Try.ntmps42
  have G1 := Fr.refl (fun _ => False) C w
  have hn24 : st.length ≤ 24 := by rw [h.len]; exact hg.nq
  have h1 := h.fr G1 (fun x hx => hx.elim) hn24
  have hd1 : IsBytes w C (.slice da d.length dc) d := Rd.fr hd G1 (fun h => h)
  obtain ⟨c8, c9, _, c11, c12⟩ := h1.cells
  have hjs : j < st.length := by rw [h.len]; exact hj
  have hq := h1.lists.ports
  obtain ⟨qa, qc, rfl, hqc, hqm, -⟩ := id hq
  obtain ⟨qb, qo, rfl, _, hcell⟩ := hq.row (fun _ => rfl) hj
  rw [show c.ports.getD j default = c.port j from rfl] at hcell
  have e0 := hcell 0 _ rfl
  have e1 := hcell 1 _ rfl
  have e2 := hcell 2 _ rfl
  have e3 := hcell 3 _ rfl
  have e4 := hcell 4 _ rfl
  have e5 := hcell 5 _ rfl
  simp only [Nat.add_zero] at e0
  have hj0 : (0 : Int) ≤ (j : Int) := Int.natCast_nonneg _
  have hj1 : (j : Int) < (c.ports.length : Int) := by omega
  have hj2 : (j : Int) < (st.length : Int) := by omega
  have hd16 : (c.port j).size ≤ 16 := by
    have := hg.ports j hj
    unfold portOk inb at this
    simp only [Bool.and_eq_true, decide_eq_true_eq] at this
    omega
  unfold maxLen at hqm
  clear hcell hq
  go_upto_region 1 with (fail)
  go_region_held3 (fun w' => w'.cell? ⟨b, 9, none⟩ = some (.slice (some ⟨qb, qo, none⟩) c.ports.length qc) ∧ w'.cell? ⟨b, 12, none⟩ = some (.slice (some ⟨ab, 0, none⟩) st.length st.length) ∧ w'.cell? ⟨qb, qo + j * 6, none⟩ = some (.int .i64 (c.port j).part) ∧ w'.cell? ⟨qb, qo + j * 6 + 1, none⟩ = some (.int .u8 (c.port j).kind) ∧ w'.cell? ⟨qb, qo + j * 6 + 2, none⟩ = some (.bool (c.port j).out) ∧ w'.cell? ⟨qb, qo + j * 6 + 3, none⟩ = some (.int .i64 (c.port j).size) ∧ w'.cell? ⟨qb, qo + j * 6 + 4, none⟩ = some (.int .i64 (c.port j).depth) ∧ w'.cell? ⟨qb, qo + j * 6 + 5, none⟩ = some (.int .i64 (c.port j).fresh)) (go_keep) (fail)
  go_upto_region 2 with (fail)
  refine gen_world (fun W => Fr (fun _ => False) C C w W ∧ Bk W w.heap.size 33 [.int .i64 (c.port j).part, .int .u8 (c.port j).kind, .bool (c.port j).out, .int .i64 (c.port j).size, .int .i64 (c.port j).depth, .int .i64 (c.port j).fresh])
    ⟨((Fr.refl _ C w).alloc _).drew, (Bk.new _ _ _).drew⟩ ?_
  clear c8 c9 c11 c12 e0 e1 e2 e3 e4 e5
  rintro W ⟨G2, hX⟩
  have h2 := h1.fr G2 (fun x hx => hx.elim) hn24
  have hd2 : IsBytes W C (.slice da d.length dc) d := Rd.fr hd1 G2 (fun h => h)
  have hfin2 : Fin C W := (G1.trans G2).Fin hf
  have G12 := (G1.trans G2).mono (K' := fun x => k ≤ x ∧ x < k + 100) (fun _ h => h.elim)
  have x1 := hX.cell_ 1 rfl
  have x4 := hX.cell_ 4 rfl
  clear hd1 h1
  obtain ⟨vs, hS, hA⟩ := h2.each j hjs
  have hvl := hA.len
  obtain ⟨la, lc, hlv, hlc, hlm, -⟩ := hS.form
  obtain ⟨s0, s1⟩ := h2.state hjs
  rw [hlv] at s0 hS
  have HV := hid_ hvl
  have HLV := hid_ hlv
  clear hlv
  unfold maxLen at hlm
  have q1 : ((c.port j).kind == 1) = false := by simpa using hkind
  have q2 : (c.port j).depth ≤ (vs.length : Int) := by omega
  clear hkind hvl
  go_wp2
  go_quiet (fail)
  go_wp2
  go_ret
  exact ⟨rfl, below_drewN ((G1.trans G2).below (fun _ _ h => h)) _⟩
end Go.Proofs.Ytogfbeibpfdleaa
