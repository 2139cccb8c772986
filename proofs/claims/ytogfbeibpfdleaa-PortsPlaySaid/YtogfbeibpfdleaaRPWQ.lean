/- escapementref13.Ports: Write, where a message more is put behind the others. No condition but that the tables work. -/
import Derived.Test.YtogfbeibpfdleaaRPW
set_option linter.unusedSimpArgs false
set_option linter.unusedVariables false
namespace Go.Proofs.Ytogfbeibpfdleaa
open Go.RowKit Go.Maps

set_option maxRecDepth 100000 in
set_option maxHeartbeats 4000000 in
theorem rwrite_queue (c : Cfg) (hg : Good c) (C : Nat → Nat) (k b ab : Nat) (hk : k ≠ 0) (hab : ab ≠ b) (pv qv rv : Value) (i j : Nat) (lv : Nat → Value) (st : List PSt) (dv : Value) (d : List UInt8) (w : World) (hf : Fin C w) (h : IsRPs w C k b ab c pv qv rv (c.part i).node lv st) (hj : j < c.ports.length) (hi : (c.port j).part = (i : Int)) (hil : i < c.parts.length) (ho : (c.port j).out = true)
    (hd : IsBytes w C dv d) (hs : (d.length : Int) ≤ (c.port j).size) (hkind : (c.port j).kind ≠ 1) (hroom : ((st.getD j default).q.length : Int) < (c.port j).depth) :
    Calls Try.prog 30 #[.pointer (some ⟨b, 0, none⟩), .int .i64 (i : Int), .int .i64 (j : Int), dv] w fun e w' => e = .returned (.string ⟨#[]⟩) ∧ ∃ C' lv', Fr (fun x => k ≤ x ∧ x < k + 100) C C' w w' ∧ IsRPs w' C' k b ab c pv qv rv (c.part i).node lv' (putSt c st j d) := by
  have hfind := rfind_ok c hg C k b ab pv qv rv i j lv st w h hj hi hil
  rw [ho, show refT none = [] from rfl] at hfind
  obtain ⟨da, dc, rfl, hdc0, hdm, -⟩ := id hd
  unfold maxLen at hdm
  have HF := hid_ hfind
  clear hfind
  have HK := hid_ hkind
  have q1 : ((c.port j).kind == 1) = false := by simpa using hkind
  clear hkind
  go_enter Try.func30, Try.ntmps30
  go_wp2_with fail
  refine HF.out.mono ?_
  rintro e w1 ⟨rfl, hw1⟩
  have G1 := Fr.of_below (C := C) hw1 (fun _ => False)
  have hn24 : st.length ≤ 24 := by rw [h.len]; exact hg.nq
  have h1 := h.fr G1 (fun x hx => hx.elim) hn24
  have hd1 : IsBytes w1 C (.slice da d.length dc) d := Rd.fr hd G1 (fun h => h)
  obtain ⟨c8, c9, _, c11, c12⟩ := h1.cells
  have hjs : j < st.length := by rw [h.len]; exact hj
  have hq := h1.lists.ports
  obtain ⟨qa, qc, rfl, hqc, hqm, -⟩ := id hq
  obtain ⟨qb, qo, rfl, _, hcell⟩ := hq.row (fun _ => rfl) hj
  rw [show c.ports.getD j default = c.port j from rfl] at hcell
  have e0 := hcell 0 _ rfl
  have e1 := hcell 1 _ rfl
  have e2 := hcell 2 _ rfl
  have e3 := hcell 3 _ rfl
  have e4 := hcell 4 _ rfl
  have e5 := hcell 5 _ rfl
  simp only [Nat.add_zero] at e0
  have hj0 : (0 : Int) ≤ (j : Int) := Int.natCast_nonneg _
  have hj1 : (j : Int) < (c.ports.length : Int) := by omega
  have hj2 : (j : Int) < (st.length : Int) := by omega
  have hd16 : (c.port j).size ≤ 16 := by
    have := hg.ports j hj
    unfold portOk inb at this
    simp only [Bool.and_eq_true, decide_eq_true_eq] at this
    omega
  unfold maxLen at hqm
  clear hcell hq HF hw1
  go_upto_region 5 with fail
  refine gen_world (fun W => Fr (fun _ => False) C C w1 W ∧ Bk W w1.heap.size 33 [.int .i64 (i : Int), .int .u8 (c.port j).kind, .bool true, .int .i64 (c.port j).size, .int .i64 (c.port j).depth, .int .i64 (c.port j).fresh])
    ⟨(Fr.refl _ C w1).alloc _, Bk.new _ _ _⟩ ?_
  clear c8 c9 c11 c12 e0 e1 e2 e3 e4 e5
  rintro W ⟨G2, hX⟩
  have h2 := h1.fr G2 (fun x hx => hx.elim) hn24
  have hd2 : IsBytes W C (.slice da d.length dc) d := Rd.fr hd1 G2 (fun h => h)
  have hfin2 : Fin C W := (G1.trans G2).Fin hf
  have G12 := (G1.trans G2).mono (K' := fun x => k ≤ x ∧ x < k + 100) (fun _ h => h.elim)
  have x1 := hX.cell_ 1 rfl
  have x3 := hX.cell_ 3 rfl
  have x4 := hX.cell_ 4 rfl
  have HO := hid_ ho
  have HI := hid_ hi
  clear ho hi hd1 h1
  obtain ⟨c8, c9, _, c11, c12⟩ := h2.cells
  obtain ⟨vs, hS, hA⟩ := h2.each j hjs
  have hvl := hA.len
  obtain ⟨la, lc, hlv, hlc, hlm, -⟩ := hS.form
  obtain ⟨s0, s1⟩ := h2.state hjs
  rw [hlv] at s0 hS
  have HV := hid_ hvl
  have HLV := hid_ hlv
  clear hlv
  unfold maxLen at hlm
  have q2 : (vs.length : Int) < (c.port j).depth := by have := HV.out; omega
  have q3 : decide ((c.port j).depth ≤ (vs.length : Int)) = false := decide_eq_false (by omega)
  have hvl4 : vs.length ≤ 1000 := by
    have := hg.ports j hj
    unfold portOk inb at this
    rw [if_neg HK.out] at this
    split at this
    · simp only [Bool.and_eq_true, decide_eq_true_eq] at this
      have := HV.out
      omega
    · simp at this
  clear hvl
  go_wp2_with fail
  go_quiet (fail)
  go_upto_region 12 with fail
  refine gen_world (fun W3 => Fr (fun _ => False) C C W W3) ((Fr.refl _ C W).drewN _) ?_
  clear x1 x3 x4 hX c8 c9 c11 c12 q2 q3 s0 s1
  rintro W3 G3
  have h3 := h2.fr G3 (fun x hx => hx.elim) hn24
  have hd3 : IsBytes W3 C (.slice da d.length dc) d := Rd.fr hd2 G3 (fun h => h)
  have hfin3 : Fin C W3 := G3.Fin hfin2
  have G0 := G12.trans (G3.mono (K' := fun x => k ≤ x ∧ x < k + 100) (fun _ h => h.elim))
  have hS3 := hS.fr G3 (fun h => h)
  have hA3 := hA.fr G3 (fun h => h)
  obtain ⟨c8, c9, _, c11, c12⟩ := h3.cells
  obtain ⟨t0, t1⟩ := h3.state hjs
  rw [HLV.out] at t0
  have hBab := h3.all
  have HPC := hid_ (show (pcells lv st)[j * 2]? = some (.slice la vs.length lc) by have := pcells_get lv st j 0 hjs (by omega); rw [HLV.out] at this; simpa using this)
  obtain ⟨i1, z1, hi1, hz1, hzs1, his1, hby1⟩ := info_row (P := Try.prog) (e := 40) (size := 1) (bytes := 24) (by kernel_rfl)
  obtain ⟨b1, o1, p1, W5, hr1, hb5, hw5, hge1, hraw1⟩ := copy_of (P := Try.prog) (C := C) W3.drew hfin3 Try.underlying40 info_u8' hd3.src (by unfold maxLen; omega) (by omega)
  have HR1 := hid_ hr1
  have ca := fun o => cell_alloc_keep o c12
  have cw := grown_cell (w := W3.drew) hw5 c12
  have cwa := fun o => cell_alloc_keep o cw
  have ta := fun o => cell_alloc_keep o t0
  have tw := grown_cell (w := W3.drew) hw5 t0
  have twa := fun o => cell_alloc_keep o tw
  obtain ⟨v6, W6, C6, hr6, hS6, F6, ho6, hfar6⟩ := Sl.append (P := Try.prog) (t := 22) 0 Try.underlying22 hi1 his1 hz1 hzs1 ((hS3.drew.fr (Fr.of_below hw5 (fun _ => False)) (fun h => h)).alloc (.cells #[.slice (some ⟨b1, o1, none⟩) d.length p1] 40)) (Src.new W5 40 1 1 1 [.slice (some ⟨b1, o1, none⟩) d.length p1] rfl) (by simp [Value.oneCell']) (by unfold maxLen; omega) (by rw [hby1]; omega)
  obtain ⟨a6, c6, rfl, -⟩ := id hS6.form
  have hab5 := ((hBab.drew.same (hw5.block ab hBab.lt)).alloc (.cells #[.slice (some ⟨b1, o1, none⟩) d.length p1] 40))
  have hab6 := hab5.same (hfar6 ab hab5.lt (Sl.apart ((hS3.drew.fr (Fr.of_below hw5 (fun _ => False)) (fun h => h)).alloc (.cells #[.slice (some ⟨b1, o1, none⟩) d.length p1] 40)) hab5 (by decide))).1
  have s6 := hab6.cell_ (j * 2) HPC.out
  have f6 := hab6.frozen (j * 2)
  have hh5 := ((h3.head.drew.same (hw5.block b h3.head.lt)).alloc (.cells #[.slice (some ⟨b1, o1, none⟩) d.length p1] 40))
  have hh6 := hh5.same (hfar6 b hh5.lt (Sl.apart ((hS3.drew.fr (Fr.of_below hw5 (fun _ => False)) (fun h => h)).alloc (.cells #[.slice (some ⟨b1, o1, none⟩) d.length p1] 40)) hh5 (by decide))).1
  have c126 := hh6.cell_ 12 rfl
  have hcol : C ab = k := h.acol
  have HR6 := hid_ hr6
  have HCOL := hid_ hcol
  clear hr1 hr6 hcol
  go_region_law (first | ((with_reducible refine step_append_run (s := .tmp 74) (x := .tmp 75) (t := 40) (u := 40) (ty := 0) HR1.out ?_ ?_ ?_ ?_ ?_); rfl; rfl; rfl; rfl) | ((with_reducible refine step_append_run (s := .tmp 73) (x := .tmp 77) (t := 22) (u := 22) (ty := 0) HR6.out ?_ ?_ ?_ ?_ ?_); rfl; rfl; rfl; rfl))
  all_goals
    go_wp2
    go_ret
    have f56 : Fr (· = k + 1 + j) C C6 W3 W6 := (Fr.refl (· = k + 1 + j) C W3).drew.trans <| ((Fr.of_below (w := W3.drew) hw5 (· = k + 1 + j)).alloc (.cells #[.slice (some ⟨b1, o1, none⟩) d.length p1] 40)).trans F6
    have hj24 : j < 24 := by omega
    have hFF := (G0.trans (f56.mono (K' := fun x => k ≤ x ∧ x < k + 100) (fun x hx => by omega))).setCell (a := ⟨ab, j * 2, none⟩) (.inr (show k ≤ C ab ∧ C ab < k + 100 by rw [HCOL.out]; omega)) (.slice a6 (vs.length + 1) c6)
    first
      | refine ⟨rfl, C6, fun i' => if i' = j then .slice a6 (vs.length + 1) c6 else lv i', hFF, ?_⟩
      | refine ⟨rfl, C6, hFF, fun i' => if i' = j then .slice a6 (vs.length + 1) c6 else lv i', ?_⟩
    have hl6 : IsList W6 C6 (k + 1 + j) (.slice a6 (vs.length + 1) c6) ((st.getD j default).q ++ [d]) :=
      ⟨vs ++ [.slice (some ⟨b1, o1, none⟩) d.length p1], by rw [List.length_append]; exact hS6, BytesAll.snoc (hb5.fr (((Fr.refl (· = k + 1 + j) C W5).alloc _).trans F6) (by omega)) rfl (hA3.fr f56 (by omega))⟩
    have hfin := h3.turn hn24 hk hjs f56 hl6 hab
    unfold putSt
    rw [if_neg HK.out]
    exact hfin

end Go.Proofs.Ytogfbeibpfdleaa
