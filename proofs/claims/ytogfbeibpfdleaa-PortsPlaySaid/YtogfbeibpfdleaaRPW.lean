/- escapementref13.Ports: Write. No condition but that the tables work. -/
import Derived.Test.YtogfbeibpfdleaaRFind
import Derived.Test.YtogfbeibpfdleaaPTot
set_option linter.unusedSimpArgs false
set_option linter.unusedVariables false
namespace Go.Proofs.Ytogfbeibpfdleaa
open Go.RowKit Go.Maps

/-- A list of one that was just made. -/
theorem list_one {w : World} {C : Nat → Nat} {k : Nat} {v : Value} {d : List UInt8} (hb : IsBytes (w.alloc (.cells #[v] 40)) (fun x => if x = w.heap.size then k else C x) v d) (h1 : v.oneCell' = true) :
    IsList (w.alloc (.cells #[v] 40)) (fun x => if x = w.heap.size then k else C x) k (.slice (some ⟨w.heap.size, 0, none⟩) 1 1) [d] := by
  refine ⟨[v], .inr ⟨w.heap.size, if_pos rfl, rfl, 0, 1, #[v], rfl, Nat.le_refl _, by unfold maxLen; omega, ?_, by simp, fun i x hx => ?_⟩, hb, h1, trivial⟩
  · exact Bk.new w 40 [v]
  · rw [Nat.zero_add]; simpa using hx
/-- A new block's colour. -/
theorem tint_new {K : Nat → Prop} {C : Nat → Nat} {w w' : World} (V : Below w.heap.size w w') (hf : Fin C w) (o : Obj) (k : Nat) : Fr K C (fun x => if x = w'.heap.size then k else C x) w (w'.alloc o) := by
  have hs := V.size
  refine (Fr.of_below (V.alloc hs o) K).recolour (fun b hb _ => if_neg (by omega)) (fun b hb => ?_)
  rw [World.size_alloc] at hb
  show (if _ then _ else _) = _
  rw [if_neg (by omega)]
  exact hf b (by omega)
set_option maxRecDepth 100000 in
set_option maxHeartbeats 4000000 in
theorem rwrite_size (c : Cfg) (hg : Good c) (C : Nat → Nat) (k b ab : Nat) (hk : k ≠ 0) (hab : ab ≠ b) (pv qv rv : Value) (i j : Nat) (lv : Nat → Value) (st : List PSt) (dv : Value) (d : List UInt8) (w : World) (hf : Fin C w) (h : IsRPs w C k b ab c pv qv rv (c.part i).node lv st) (hj : j < c.ports.length) (hi : (c.port j).part = (i : Int)) (hil : i < c.parts.length) (ho : (c.port j).out = true)
    (hd : IsBytes w C dv d) (hs : (c.port j).size < (d.length : Int)) :
    Calls Try.prog 30 #[.pointer (some ⟨b, 0, none⟩), .int .i64 (i : Int), .int .i64 (j : Int), dv] w fun e w' => ∃ x, e = .returned x ∧ x = .string ⟨(refT (some (12, (j : Int)))).toArray⟩ ∧ Below w.heap.size w w' := by
  have hfind := rfind_ok c hg C k b ab pv qv rv i j lv st w h hj hi hil
  rw [ho, show refT none = [] from rfl] at hfind
  obtain ⟨da, dc, rfl, hdc0, hdm, -⟩ := id hd
  unfold maxLen at hdm
  have HF := hid_ hfind
  clear hfind
  go_enter Try.func30, Try.ntmps30
  go_wp2_with fail
  refine HF.out.mono ?_
  rintro e w1 ⟨rfl, hw1⟩
  have G1 := Fr.of_below (C := C) hw1 (fun _ => False)
  have hn24 : st.length ≤ 24 := by rw [h.len]; exact hg.nq
  have h1 := h.fr G1 (fun x hx => hx.elim) hn24
  have hd1 : IsBytes w1 C (.slice da d.length dc) d := Rd.fr hd G1 (fun h => h)
  obtain ⟨c8, c9, _, c11, c12⟩ := h1.cells
  have hjs : j < st.length := by rw [h.len]; exact hj
  have hq := h1.lists.ports
  obtain ⟨qa, qc, rfl, hqc, hqm, -⟩ := id hq
  obtain ⟨qb, qo, rfl, _, hcell⟩ := hq.row (fun _ => rfl) hj
  rw [show c.ports.getD j default = c.port j from rfl] at hcell
  have e0 := hcell 0 _ rfl
  have e1 := hcell 1 _ rfl
  have e2 := hcell 2 _ rfl
  have e3 := hcell 3 _ rfl
  have e4 := hcell 4 _ rfl
  have e5 := hcell 5 _ rfl
  simp only [Nat.add_zero] at e0
  have hj0 : (0 : Int) ≤ (j : Int) := Int.natCast_nonneg _
  have hj1 : (j : Int) < (c.ports.length : Int) := by omega
  have hj2 : (j : Int) < (st.length : Int) := by omega
  have hd16 : (c.port j).size ≤ 16 := by
    have := hg.ports j hj
    unfold portOk inb at this
    simp only [Bool.and_eq_true, decide_eq_true_eq] at this
    omega
  unfold maxLen at hqm
  clear hcell hq HF hw1
  go_upto_region 5 with fail
  refine gen_world (fun W => Fr (fun _ => False) C C w1 W ∧ Bk W w1.heap.size 33 [.int .i64 (i : Int), .int .u8 (c.port j).kind, .bool true, .int .i64 (c.port j).size, .int .i64 (c.port j).depth, .int .i64 (c.port j).fresh])
    ⟨(Fr.refl _ C w1).alloc _, Bk.new _ _ _⟩ ?_
  clear c8 c9 c11 c12 e0 e1 e2 e3 e4 e5
  rintro W ⟨G2, hX⟩
  have h2 := h1.fr G2 (fun x hx => hx.elim) hn24
  have hd2 : IsBytes W C (.slice da d.length dc) d := Rd.fr hd1 G2 (fun h => h)
  have hfin2 : Fin C W := (G1.trans G2).Fin hf
  have G12 := (G1.trans G2).mono (K' := fun x => k ≤ x ∧ x < k + 100) (fun _ h => h.elim)
  have x1 := hX.cell_ 1 rfl
  have x3 := hX.cell_ 3 rfl
  have x4 := hX.cell_ 4 rfl
  have HO := hid_ ho
  have HI := hid_ hi
  clear ho hi hd1 h1
  go_wp2_with fail
  refine (refAt_any 12 (j : Int) (by omega) (by omega) (by omega) (by have := hg.nq; omega) _).mono ?_
  rintro e w3 ⟨rfl, hw3⟩
  go_wp2
  go_ret
  exact ⟨_, rfl, rfl, below_then ((G1.trans G2).below (fun _ _ h => h)) hw3⟩

set_option maxRecDepth 100000 in
set_option maxHeartbeats 4000000 in
theorem rwrite_full (c : Cfg) (hg : Good c) (C : Nat → Nat) (k b ab : Nat) (hk : k ≠ 0) (hab : ab ≠ b) (pv qv rv : Value) (i j : Nat) (lv : Nat → Value) (st : List PSt) (dv : Value) (d : List UInt8) (w : World) (hf : Fin C w) (h : IsRPs w C k b ab c pv qv rv (c.part i).node lv st) (hj : j < c.ports.length) (hi : (c.port j).part = (i : Int)) (hil : i < c.parts.length) (ho : (c.port j).out = true)
    (hd : IsBytes w C dv d) (hs : (d.length : Int) ≤ (c.port j).size) (hkind : (c.port j).kind ≠ 1) (hroom : (c.port j).depth ≤ ((st.getD j default).q.length : Int)) :
    Calls Try.prog 30 #[.pointer (some ⟨b, 0, none⟩), .int .i64 (i : Int), .int .i64 (j : Int), dv] w fun e w' => ∃ x, e = .returned x ∧ x = .string ⟨(refT (some (11, (j : Int)))).toArray⟩ ∧ Below w.heap.size w w' := by
  have hfind := rfind_ok c hg C k b ab pv qv rv i j lv st w h hj hi hil
  rw [ho, show refT none = [] from rfl] at hfind
  obtain ⟨da, dc, rfl, hdc0, hdm, -⟩ := id hd
  unfold maxLen at hdm
  have HF := hid_ hfind
  clear hfind
  have q1 : ((c.port j).kind == 1) = false := by simpa using hkind
  clear hkind
  go_enter Try.func30, Try.ntmps30
  go_wp2_with fail
  refine HF.out.mono ?_
  rintro e w1 ⟨rfl, hw1⟩
  have G1 := Fr.of_below (C := C) hw1 (fun _ => False)
  have hn24 : st.length ≤ 24 := by rw [h.len]; exact hg.nq
  have h1 := h.fr G1 (fun x hx => hx.elim) hn24
  have hd1 : IsBytes w1 C (.slice da d.length dc) d := Rd.fr hd G1 (fun h => h)
  obtain ⟨c8, c9, _, c11, c12⟩ := h1.cells
  have hjs : j < st.length := by rw [h.len]; exact hj
  have hq := h1.lists.ports
  obtain ⟨qa, qc, rfl, hqc, hqm, -⟩ := id hq
  obtain ⟨qb, qo, rfl, _, hcell⟩ := hq.row (fun _ => rfl) hj
  rw [show c.ports.getD j default = c.port j from rfl] at hcell
  have e0 := hcell 0 _ rfl
  have e1 := hcell 1 _ rfl
  have e2 := hcell 2 _ rfl
  have e3 := hcell 3 _ rfl
  have e4 := hcell 4 _ rfl
  have e5 := hcell 5 _ rfl
  simp only [Nat.add_zero] at e0
  have hj0 : (0 : Int) ≤ (j : Int) := Int.natCast_nonneg _
  have hj1 : (j : Int) < (c.ports.length : Int) := by omega
  have hj2 : (j : Int) < (st.length : Int) := by omega
  have hd16 : (c.port j).size ≤ 16 := by
    have := hg.ports j hj
    unfold portOk inb at this
    simp only [Bool.and_eq_true, decide_eq_true_eq] at this
    omega
  unfold maxLen at hqm
  clear hcell hq HF hw1
  go_upto_region 5 with fail
  refine gen_world (fun W => Fr (fun _ => False) C C w1 W ∧ Bk W w1.heap.size 33 [.int .i64 (i : Int), .int .u8 (c.port j).kind, .bool true, .int .i64 (c.port j).size, .int .i64 (c.port j).depth, .int .i64 (c.port j).fresh])
    ⟨(Fr.refl _ C w1).alloc _, Bk.new _ _ _⟩ ?_
  clear c8 c9 c11 c12 e0 e1 e2 e3 e4 e5
  rintro W ⟨G2, hX⟩
  have h2 := h1.fr G2 (fun x hx => hx.elim) hn24
  have hd2 : IsBytes W C (.slice da d.length dc) d := Rd.fr hd1 G2 (fun h => h)
  have hfin2 : Fin C W := (G1.trans G2).Fin hf
  have G12 := (G1.trans G2).mono (K' := fun x => k ≤ x ∧ x < k + 100) (fun _ h => h.elim)
  have x1 := hX.cell_ 1 rfl
  have x3 := hX.cell_ 3 rfl
  have x4 := hX.cell_ 4 rfl
  have HO := hid_ ho
  have HI := hid_ hi
  clear ho hi hd1 h1
  obtain ⟨c8, c9, _, c11, c12⟩ := h2.cells
  obtain ⟨vs, hS, hA⟩ := h2.each j hjs
  have hvl := hA.len
  obtain ⟨la, lc, hlv, hlc, hlm, -⟩ := hS.form
  obtain ⟨s0, s1⟩ := h2.state hjs
  rw [hlv] at s0 hS
  have HV := hid_ hvl
  have HLV := hid_ hlv
  clear hlv
  unfold maxLen at hlm
  have q2 : (c.port j).depth ≤ (vs.length : Int) := by have := HV.out; omega
  have q3 : decide ((c.port j).depth ≤ (vs.length : Int)) = true := decide_eq_true q2
  clear hvl
  go_wp2_with fail
  go_quiet (fail)
  go_wp2_with fail
  refine (refAt_any 11 (j : Int) (by omega) (by omega) (by omega) (by have := hg.nq; omega) _).mono ?_
  rintro e w3 ⟨rfl, hw3⟩
  go_wp2
  go_ret
  exact ⟨_, rfl, rfl, below_then ((G1.trans G2).below (fun _ _ h => h)) ⟨hw3.os, hw3.tape, hw3.output, hw3.size, hw3.block⟩⟩

set_option maxRecDepth 100000 in
set_option maxHeartbeats 4000000 in
theorem rwrite_samp (c : Cfg) (hg : Good c) (C : Nat → Nat) (k b ab : Nat) (hk : k ≠ 0) (hab : ab ≠ b) (pv qv rv : Value) (i j : Nat) (lv : Nat → Value) (st : List PSt) (dv : Value) (d : List UInt8) (w : World) (hf : Fin C w) (h : IsRPs w C k b ab c pv qv rv (c.part i).node lv st) (hj : j < c.ports.length) (hi : (c.port j).part = (i : Int)) (hil : i < c.parts.length) (ho : (c.port j).out = true)
    (hd : IsBytes w C dv d) (hs : (d.length : Int) ≤ (c.port j).size) (hkind : (c.port j).kind = 1) :
    Calls Try.prog 30 #[.pointer (some ⟨b, 0, none⟩), .int .i64 (i : Int), .int .i64 (j : Int), dv] w fun e w' => e = .returned (.string ⟨#[]⟩) ∧ ∃ C' lv', Fr (fun x => k ≤ x ∧ x < k + 100) C C' w w' ∧ IsRPs w' C' k b ab c pv qv rv (c.part i).node lv' (putSt c st j d) := by
  have hfind := rfind_ok c hg C k b ab pv qv rv i j lv st w h hj hi hil
  rw [ho, show refT none = [] from rfl] at hfind
  obtain ⟨da, dc, rfl, hdc0, hdm, -⟩ := id hd
  unfold maxLen at hdm
  have HF := hid_ hfind
  clear hfind
  have HK := hid_ hkind
  clear hkind
  go_enter Try.func30, Try.ntmps30
  go_wp2_with fail
  refine HF.out.mono ?_
  rintro e w1 ⟨rfl, hw1⟩
  have G1 := Fr.of_below (C := C) hw1 (fun _ => False)
  have hn24 : st.length ≤ 24 := by rw [h.len]; exact hg.nq
  have h1 := h.fr G1 (fun x hx => hx.elim) hn24
  have hd1 : IsBytes w1 C (.slice da d.length dc) d := Rd.fr hd G1 (fun h => h)
  obtain ⟨c8, c9, _, c11, c12⟩ := h1.cells
  have hjs : j < st.length := by rw [h.len]; exact hj
  have hq := h1.lists.ports
  obtain ⟨qa, qc, rfl, hqc, hqm, -⟩ := id hq
  obtain ⟨qb, qo, rfl, _, hcell⟩ := hq.row (fun _ => rfl) hj
  rw [show c.ports.getD j default = c.port j from rfl] at hcell
  have e0 := hcell 0 _ rfl
  have e1 := hcell 1 _ rfl
  have e2 := hcell 2 _ rfl
  have e3 := hcell 3 _ rfl
  have e4 := hcell 4 _ rfl
  have e5 := hcell 5 _ rfl
  simp only [Nat.add_zero] at e0
  have hj0 : (0 : Int) ≤ (j : Int) := Int.natCast_nonneg _
  have hj1 : (j : Int) < (c.ports.length : Int) := by omega
  have hj2 : (j : Int) < (st.length : Int) := by omega
  have hd16 : (c.port j).size ≤ 16 := by
    have := hg.ports j hj
    unfold portOk inb at this
    simp only [Bool.and_eq_true, decide_eq_true_eq] at this
    omega
  unfold maxLen at hqm
  clear hcell hq HF hw1
  go_upto_region 5 with fail
  refine gen_world (fun W => Fr (fun _ => False) C C w1 W ∧ Bk W w1.heap.size 33 [.int .i64 (i : Int), .int .u8 (c.port j).kind, .bool true, .int .i64 (c.port j).size, .int .i64 (c.port j).depth, .int .i64 (c.port j).fresh])
    ⟨(Fr.refl _ C w1).alloc _, Bk.new _ _ _⟩ ?_
  clear c8 c9 c11 c12 e0 e1 e2 e3 e4 e5
  rintro W ⟨G2, hX⟩
  have h2 := h1.fr G2 (fun x hx => hx.elim) hn24
  have hd2 : IsBytes W C (.slice da d.length dc) d := Rd.fr hd1 G2 (fun h => h)
  have hfin2 : Fin C W := (G1.trans G2).Fin hf
  have G12 := (G1.trans G2).mono (K' := fun x => k ≤ x ∧ x < k + 100) (fun _ h => h.elim)
  have x1 := hX.cell_ 1 rfl
  have x3 := hX.cell_ 3 rfl
  have x4 := hX.cell_ 4 rfl
  have HO := hid_ ho
  have HI := hid_ hi
  clear ho hi hd1 h1
  rw [HK.out] at x1
  obtain ⟨c8, c9, _, c11, c12⟩ := h2.cells
  obtain ⟨s0, s1⟩ := h2.state hjs
  go_upto_region 8 with fail
  clear x1 x3 x4 hX
  obtain ⟨b1, o1, p1, W1, hr1, hR1, hb1, hge1, hraw1⟩ := copy_of (P := Try.prog) (C := C) W.drew hfin2 Try.underlying40 info_u8' hd2.src (by unfold maxLen; omega) (by omega)
  have HR1 := hid_ hr1
  have ca := fun o => cell_alloc_keep o c12
  have cw := grown_cell (w := W.drew) hb1 c12
  have cwa := fun o => cell_alloc_keep o cw
  have hab1 := (h2.all.same (hb1.block ab h2.all.lt)).alloc (.cells #[.slice (some ⟨b1, o1, none⟩) d.length p1] 40)
  have s6 := h2.state hjs |>.1
  have t6 := hab1.cell_ (j * 2) (by have := pcells_get lv st j 0 hjs (by omega); simpa using this)
  have f6 := hab1.frozen (j * 2)
  clear hr1
  go_region_law (((with_reducible refine step_append_run (s := .tmp 41) (x := .tmp 42) (t := 40) (u := 40) (ty := 0) HR1.out ?_ ?_ ?_ ?_ ?_); rfl; rfl; rfl; rfl))
  all_goals
    go_wp2
    go_ret
    have hb1' : Below W.heap.size W W1 := ⟨hb1.os, hb1.tape, hb1.output, hb1.size, hb1.block⟩
    have f56 := tint_new (K := (· = k + 1 + j)) hb1' hfin2 (.cells #[.slice (some ⟨b1, o1, none⟩) d.length p1] 40) (k + 1 + j)
    have hj24 : j < 24 := by omega
    have hFF := (G12.trans (f56.mono (K' := fun x => k ≤ x ∧ x < k + 100) (fun x hx => by omega))).setCell (a := ⟨ab, j * 2, none⟩) (.inr (show k ≤ C ab ∧ C ab < k + 100 by rw [h.acol]; omega)) (.slice (some ⟨W1.heap.size, 0, none⟩) 1 1)
    have hR2 := Rd.fr hR1 (tint_new (K := (· = k + 1 + j)) (Below.refl _ W1) (fun x hx => hfin2 x (Nat.le_trans hb1'.size hx)) (.cells #[.slice (some ⟨b1, o1, none⟩) d.length p1] 40) (k + 1 + j)) (by omega)
    first
      | refine ⟨rfl, _, fun i' => if i' = j then .slice (some ⟨W1.heap.size, 0, none⟩) 1 1 else lv i', hFF, ?_⟩
      | refine ⟨rfl, _, hFF, fun i' => if i' = j then .slice (some ⟨W1.heap.size, 0, none⟩) 1 1 else lv i', ?_⟩
    have hfin := h2.turn hn24 hk hjs f56 (list_one hR2 rfl) hab
    unfold putSt
    rw [if_pos HK.out]
    exact hfin

end Go.Proofs.Ytogfbeibpfdleaa
