/- escapementref13.Ports: Read, Grow, Clear. No condition but that the tables work. · escapementref13.Ports: Grow, Clear, New, Image. No condition but that the tables work. · escapementref13.Ports: Image, Seal. No condition but that the tables work. · escapementref13.Ports: New; Write and Read at whatever part and port. No condition but that the tables work. -/
import Derived.Test.YtogfbeibpfdleaaRFind
import Derived.Test.YtogfbeibpfdleaaPTot
import Derived.Test.YtogfbeibpfdleaaPClear
import Derived.Test.YtogfbeibpfdleaaPSeal
import Derived.Test.YtogfbeibpfdleaaPImage
import Derived.Test.YtogfbeibpfdleaaRPW
import Derived.Test.YtogfbeibpfdleaaRPWQ
import Derived.Test.YtogfbeibpfdleaaNewK
set_option linter.unusedSimpArgs false
set_option linter.unusedVariables false
namespace Go.Proofs.Ytogfbeibpfdleaa
open Go.RowKit Go.Maps

set_option maxRecDepth 100000 in
set_option maxHeartbeats 4000000 in
theorem rread_empty (c : Cfg) (hg : Good c) (C : Nat → Nat) (k b ab : Nat) (hk : k ≠ 0) (hab : ab ≠ b) (pv qv rv : Value) (i j : Nat) (lv : Nat → Value) (st : List PSt) (w : World) (hf : Fin C w) (h : IsRPs w C k b ab c pv qv rv (c.part i).node lv st) (hj : j < c.ports.length) (hi : (c.port j).part = (i : Int)) (hil : i < c.parts.length) (ho : (c.port j).out = false) (hempty : (st.getD j default).q = []) :
    Calls Try.prog 31 #[.pointer (some ⟨b, 0, none⟩), .int .i64 (i : Int), .int .i64 (j : Int)] w fun e w' => ∃ x, e = .returned (.tuple #[.slice none 0 0, .bool false, x]) ∧ x = .string ⟨(refT (some (10, (j : Int)))).toArray⟩ ∧ Below w.heap.size w w' := by
  have hfind := rfind_ok c hg C k b ab pv qv rv i j lv st w h hj hi hil
  rw [ho, show refT none = [] from rfl] at hfind
  have HF := hid_ hfind
  clear hfind
  have HEM := hid_ hempty
  clear hempty
  go_enter Try.func31, Try.ntmps31
  go_wp2_with fail
  refine HF.out.mono ?_
  rintro e w1 ⟨rfl, hw1⟩
  have G1 := Fr.of_below (C := C) hw1 (fun _ => False)
  have hn24 : st.length ≤ 24 := by rw [h.len]; exact hg.nq
  have h1 := h.fr G1 (fun x hx => hx.elim) hn24
  obtain ⟨c8, c9, _, c11, c12⟩ := h1.cells
  have hjs : j < st.length := by rw [h.len]; exact hj
  have hq := h1.lists.ports
  obtain ⟨qa, qc, rfl, hqc, hqm, -⟩ := id hq
  obtain ⟨qb, qo, rfl, _, hcell⟩ := hq.row (fun _ => rfl) hj
  rw [show c.ports.getD j default = c.port j from rfl] at hcell
  have e1 := hcell 1 _ rfl
  have e5 := hcell 5 _ rfl
  have hj0 : (0 : Int) ≤ (j : Int) := Int.natCast_nonneg _
  have hj1 : (j : Int) < (c.ports.length : Int) := by omega
  have hj2 : (j : Int) < (st.length : Int) := by omega
  unfold maxLen at hqm
  have HI := hid_ hi
  have HO := hid_ ho
  clear hcell hq HF hi ho
  obtain ⟨vs, hS, hA⟩ := h1.each j hjs
  have hvl := hA.len
  obtain ⟨la, lc, hlv, hlc, hlm, -⟩ := hS.form
  obtain ⟨s0, s1⟩ := h1.state hjs
  rw [hlv] at s0 hS
  have HLV := hid_ hlv
  clear hlv
  unfold maxLen at hlm
  obtain rfl : vs = [] := by
    rw [HEM.out] at hvl
    exact List.eq_nil_of_length_eq_zero hvl
  clear hvl hS hA
  go_wp2_with fail
  refine (refAt_any 10 (j : Int) (by omega) (by omega) (by omega) (by have := hg.nq; omega) _).mono ?_
  rintro e w3 ⟨rfl, hw3⟩
  go_wp2
  go_ret3
  exact ⟨_, rfl, rfl, below_then hw1 hw3⟩

set_option maxRecDepth 100000 in
set_option maxHeartbeats 4000000 in
theorem rread_samp (c : Cfg) (hg : Good c) (C : Nat → Nat) (k b ab : Nat) (hk : k ≠ 0) (hab : ab ≠ b) (pv qv rv : Value) (i j : Nat) (lv : Nat → Value) (st : List PSt) (w : World) (hf : Fin C w) (h : IsRPs w C k b ab c pv qv rv (c.part i).node lv st) (hj : j < c.ports.length) (hi : (c.port j).part = (i : Int)) (hil : i < c.parts.length) (ho : (c.port j).out = false) (hempty : (st.getD j default).q ≠ []) (hkind : (c.port j).kind = 1) :
    Calls Try.prog 31 #[.pointer (some ⟨b, 0, none⟩), .int .i64 (i : Int), .int .i64 (j : Int)] w fun e w' => ∃ v d q, (st.getD j default).q = d :: q ∧ e = .returned (.tuple #[v, .bool (decide ((st.getD j default).age ≤ (c.port j).fresh)), .string ⟨#[]⟩]) ∧ IsBytes w' C v d ∧ Below w.heap.size w w' := by
  have hfind := rfind_ok c hg C k b ab pv qv rv i j lv st w h hj hi hil
  rw [ho, show refT none = [] from rfl] at hfind
  have HF := hid_ hfind
  clear hfind
  have HEM := hid_ hempty
  have HK := hid_ hkind
  clear hempty hkind
  go_enter Try.func31, Try.ntmps31
  go_wp2_with fail
  refine HF.out.mono ?_
  rintro e w1 ⟨rfl, hw1⟩
  have G1 := Fr.of_below (C := C) hw1 (fun _ => False)
  have hn24 : st.length ≤ 24 := by rw [h.len]; exact hg.nq
  have h1 := h.fr G1 (fun x hx => hx.elim) hn24
  obtain ⟨c8, c9, _, c11, c12⟩ := h1.cells
  have hjs : j < st.length := by rw [h.len]; exact hj
  have hq := h1.lists.ports
  obtain ⟨qa, qc, rfl, hqc, hqm, -⟩ := id hq
  obtain ⟨qb, qo, rfl, _, hcell⟩ := hq.row (fun _ => rfl) hj
  rw [show c.ports.getD j default = c.port j from rfl] at hcell
  have e1 := hcell 1 _ rfl
  have e5 := hcell 5 _ rfl
  have hj0 : (0 : Int) ≤ (j : Int) := Int.natCast_nonneg _
  have hj1 : (j : Int) < (c.ports.length : Int) := by omega
  have hj2 : (j : Int) < (st.length : Int) := by omega
  unfold maxLen at hqm
  have HI := hid_ hi
  have HO := hid_ ho
  clear hcell hq HF hi ho
  obtain ⟨vs, hS, hA⟩ := h1.each j hjs
  have hvl := hA.len
  obtain ⟨la, lc, hlv, hlc, hlm, -⟩ := hS.form
  obtain ⟨s0, s1⟩ := h1.state hjs
  rw [hlv] at s0 hS
  have HLV := hid_ hlv
  clear hlv
  unfold maxLen at hlm
  obtain ⟨d, q, hdq⟩ : ∃ d q, (st.getD j default).q = d :: q := by
    cases hq : (st.getD j default).q with
    | nil => exact absurd hq HEM.out
    | cons x y => exact ⟨x, y, rfl⟩
  rw [hdq] at hA
  have HDQ := hid_ hdq
  obtain ⟨v0, vs, rfl⟩ : ∃ v0 vs', vs = v0 :: vs' := by
    cases vs with
    | nil => exact hA.elim
    | cons x y => exact ⟨x, y, rfl⟩
  obtain ⟨hA1, hA2, hA3⟩ := hA
  obtain ⟨bb, off, rfl, hCa, hlt, hcell⟩ := hS.at (by simp)
  have hv0 := hcell 0 v0 rfl
  simp only [Nat.add_zero] at hv0
  obtain ⟨va, vc, rfl, hvc, -⟩ := id hA1
  simp only [List.length_cons] at s0 hS hlc
  obtain ⟨m, hm⟩ : ∃ m, vs.length = m := ⟨_, rfl⟩
  rw [hm] at s0 hS hlc
  have HM := hid_ hm
  have z0 : ((m : Int) + 1 == 0) = false := by simp; omega
  clear hvl hdq hcell hm
  rw [HK.out] at e1
  obtain ⟨ag, hag⟩ : ∃ ag, (st.getD j default).age = ag := ⟨_, rfl⟩
  rw [hag] at s1
  have HAG := hid_ hag
  clear hag
  go_wp2
  go_quiet (fail)
  go_wp2
  go_ret3
  exact ⟨_, d, q, HDQ.out, congrArg (fun x => Ending.returned (.tuple #[.slice va d.length vc, .bool (decide (x ≤ (c.port j).fresh)), .string ⟨#[]⟩])) HAG.out.symm, hA1, below_drewN hw1 _⟩

set_option maxRecDepth 100000 in
set_option maxHeartbeats 4000000 in
theorem rread_queue (c : Cfg) (hg : Good c) (C : Nat → Nat) (k b ab : Nat) (hk : k ≠ 0) (hab : ab ≠ b) (pv qv rv : Value) (i j : Nat) (lv : Nat → Value) (st : List PSt) (w : World) (hf : Fin C w) (h : IsRPs w C k b ab c pv qv rv (c.part i).node lv st) (hj : j < c.ports.length) (hi : (c.port j).part = (i : Int)) (hil : i < c.parts.length) (ho : (c.port j).out = false) (hempty : (st.getD j default).q ≠ []) (hkind : (c.port j).kind ≠ 1) :
    Calls Try.prog 31 #[.pointer (some ⟨b, 0, none⟩), .int .i64 (i : Int), .int .i64 (j : Int)] w fun e w' => ∃ v d q, (st.getD j default).q = d :: q ∧ e = .returned (.tuple #[v, .bool true, .string ⟨#[]⟩]) ∧ IsBytes w' C v d ∧ ∃ lv', Fr (fun x => k ≤ x ∧ x < k + 100) C C w w' ∧ IsRPs w' C k b ab c pv qv rv (c.part i).node lv' (st.set j { st.getD j default with q := q }) := by
  have hfind := rfind_ok c hg C k b ab pv qv rv i j lv st w h hj hi hil
  rw [ho, show refT none = [] from rfl] at hfind
  have HF := hid_ hfind
  clear hfind
  have HEM := hid_ hempty
  have q1 : ((c.port j).kind == 1) = false := by simpa using hkind
  clear hempty hkind
  go_enter Try.func31, Try.ntmps31
  go_wp2_with fail
  refine HF.out.mono ?_
  rintro e w1 ⟨rfl, hw1⟩
  have G1 := Fr.of_below (C := C) hw1 (fun _ => False)
  have hn24 : st.length ≤ 24 := by rw [h.len]; exact hg.nq
  have h1 := h.fr G1 (fun x hx => hx.elim) hn24
  obtain ⟨c8, c9, _, c11, c12⟩ := h1.cells
  have hjs : j < st.length := by rw [h.len]; exact hj
  have hq := h1.lists.ports
  obtain ⟨qa, qc, rfl, hqc, hqm, -⟩ := id hq
  obtain ⟨qb, qo, rfl, _, hcell⟩ := hq.row (fun _ => rfl) hj
  rw [show c.ports.getD j default = c.port j from rfl] at hcell
  have e1 := hcell 1 _ rfl
  have e5 := hcell 5 _ rfl
  have hj0 : (0 : Int) ≤ (j : Int) := Int.natCast_nonneg _
  have hj1 : (j : Int) < (c.ports.length : Int) := by omega
  have hj2 : (j : Int) < (st.length : Int) := by omega
  unfold maxLen at hqm
  have HI := hid_ hi
  have HO := hid_ ho
  clear hcell hq HF hi ho
  obtain ⟨vs, hS, hA⟩ := h1.each j hjs
  have hvl := hA.len
  obtain ⟨la, lc, hlv, hlc, hlm, -⟩ := hS.form
  obtain ⟨s0, s1⟩ := h1.state hjs
  rw [hlv] at s0 hS
  have HLV := hid_ hlv
  clear hlv
  unfold maxLen at hlm
  obtain ⟨d, q, hdq⟩ : ∃ d q, (st.getD j default).q = d :: q := by
    cases hq : (st.getD j default).q with
    | nil => exact absurd hq HEM.out
    | cons x y => exact ⟨x, y, rfl⟩
  rw [hdq] at hA
  have HDQ := hid_ hdq
  obtain ⟨v0, vs, rfl⟩ : ∃ v0 vs', vs = v0 :: vs' := by
    cases vs with
    | nil => exact hA.elim
    | cons x y => exact ⟨x, y, rfl⟩
  obtain ⟨hA1, hA2, hA3⟩ := hA
  obtain ⟨bb, off, rfl, hCa, hlt, hcell⟩ := hS.at (by simp)
  have hv0 := hcell 0 v0 rfl
  simp only [Nat.add_zero] at hv0
  obtain ⟨va, vc, rfl, hvc, -⟩ := id hA1
  simp only [List.length_cons] at s0 hS hlc
  obtain ⟨m, hm⟩ : ∃ m, vs.length = m := ⟨_, rfl⟩
  rw [hm] at s0 hS hlc
  have HM := hid_ hm
  have z0 : ((m : Int) + 1 == 0) = false := by simp; omega
  clear hvl hdq hcell hm
  have fz := h1.all.frozen (j * 2)
  have hT := Sl.tail (xs := [.slice va d.length vc]) (cs := vs) (n := m) hS rfl
  have G0 := G1.mono (K' := fun x => k ≤ x ∧ x < k + 100) (fun _ h => h.elim)
  have hFF : ∀ v, Fr (fun x => k ≤ x ∧ x < k + 100) C C w (w1.setCell ⟨ab, j * 2, none⟩ v) := fun v => G0.setCell (a := ⟨ab, j * 2, none⟩) (.inr (show k ≤ C ab ∧ C ab < k + 100 by rw [h.acol]; omega)) v
  have hbf : ∀ v, IsBytes (w1.setCell ⟨ab, j * 2, none⟩ v) C (.slice va d.length vc) d := fun v => Rd.fr hA1 ((Fr.refl (· = k) C w1).setCell (a := ⟨ab, j * 2, none⟩) (.inr h.acol) v) (fun h => hk h.symm)
  have hm2 : m + 1 ≤ lc := hlc
  by_cases hc1 : lc = 1
  · subst hc1
    obtain rfl : m = 0 := by omega
    simp only [if_true] at hT
    go_wp2
    go_ret3
    have hfin := h1.turn hn24 hk hjs (Fr.refl (· = k + 1 + j) C w1) (v := .slice (some ⟨bb, off, none⟩) 0 0) (q := q) ⟨vs, by rw [HM.out]; exact hT, hA3⟩ hab
    refine ⟨_, d, q, HDQ.out, rfl, hbf _, ?_⟩
    first
      | exact ⟨_, hFF _, hfin⟩
      | exact ⟨hFF _, _, hfin⟩
  · rw [if_neg hc1] at hT
    have hc2 : ¬ lc = 1 := hc1
    go_wp2
    go_ret3
    have hfin := h1.turn hn24 hk hjs (Fr.refl (· = k + 1 + j) C w1) (v := .slice (some ⟨bb, off + 1, none⟩) m (lc - 1)) (q := q) ⟨vs, by rw [HM.out]; exact hT, hA3⟩ hab
    refine ⟨_, d, q, HDQ.out, rfl, hbf _, ?_⟩
    first
      | exact ⟨_, hFF _, hfin⟩
      | exact ⟨hFF _, _, hfin⟩

end Go.Proofs.Ytogfbeibpfdleaa
namespace Go.Proofs.Ytogfbeibpfdleaa
open Go.RowKit Go.Maps

set_option maxRecDepth 100000 in
set_option maxHeartbeats 4000000 in
theorem rpGrow (c : Cfg) (hg : Good c) (C : Nat → Nat) (k b ab : Nat) (hk : k ≠ 0) (hab : ab ≠ b) (pv qv rv : Value) (node : Int) (lv : Nat → Value) (st : List PSt) (w : World) (hf : Fin C w) (h : IsRPs w C k b ab c pv qv rv node lv st) (hage : ∀ i, i < st.length → 0 ≤ (st.getD i default).age ∧ (st.getD i default).age ≤ 9) :
    Calls Try.prog 34 #[.pointer (some ⟨b, 0, none⟩)] w fun e w' => e = .returned (.tuple #[]) ∧ Fr (· = k) C C w w' ∧ IsRPs w' C k b ab c pv qv rv node lv (ageSt st st.length) := by
  have hn24 : st.length ≤ 24 := by rw [h.len]; exact hg.nq
  have c12 := h.head.cell_ 12 rfl
  have HAGE := hid_ hage
  clear hage
  go_enter Try.func34, Try.ntmps34
  go_wp2
  go_loopw [2] (fun iv wr => ∃ i : Nat, i ≤ st.length ∧ iv = .int .i64 i ∧ Fr (· = k) C C w wr ∧ IsRPs wr C k b ab c pv qv rv node lv (ageSt st i)) (fun iv _ => st.length - (intOf iv).toNat)
  case atStart => exact ⟨0, Nat.zero_le _, rfl, Fr.refl _ _ _, h⟩
  case round =>
    obtain ⟨i, hi, rfl, F1, h1⟩ := hrel
    by_cases hlt : i < st.length
    · have hl1 := ageSt_len st i
      have hs := h1.state (j := i) (by omega)
      obtain ⟨_, _, _, _, c12⟩ := h1.cells
      have hfz := fun m => h1.all.frozen m
      have hA := HAGE.out i hlt
      have hat := ageSt_at st i i (Nat.le_refl _)
      rw [hat] at hs
      obtain ⟨ag, hag⟩ : ∃ ag, ag = (st.getD i default).age := ⟨_, rfl⟩
      rw [← hag] at hs hA
      obtain ⟨s0, s1⟩ := hs
      obtain ⟨hA0, hA1⟩ := hA
      have HAG := hid_ hag
      have HA9 := hid_ (show ag ≤ 9 from hA1)
      have HAT := hid_ hat
      clear hag hat
      rw [hl1] at c12
      have hi0 : (0 : Int) ≤ (i : Int) := Int.natCast_nonneg _
      have hi2 : (i : Int) < (st.length : Int) := by omega
      have hw1 : IntKind.i64.wrap (ag + 1) = ag + 1 := by simp [IntKind.wrap, IntKind.signed, IntKind.bits]; omega
      have HW := hid_ hw1
      clear hw1
      by_cases h9 : ag < 9
      · have HV := hid_ (show ag + 1 = ageUp ag by unfold ageUp; split <;> omega)
        go_upto_region 4 with (fail)
        go_region_law (go_simp)
        all_goals
          try rw [HW.out]
          rw [HV.out]
          have F2 : Fr (· = k) C C wr ((wr.setCell ⟨ab, i * 2 + 1, none⟩ (.int .i64 (ageUp ag))).drew) := ((Fr.refl _ _ _).setCell (.inr h1.acol) _).drew
          have h2 := (h1.age hk (j := i) (by omega) ⟨((ageSt st i).getD i default).q, ageUp ag⟩ rfl hab).fr ((Fr.refl (fun _ => False) C _).drew) (fun x h => h.elim) (by rw [List.length_set]; omega)
          have he : (ageSt st i).set i ⟨((ageSt st i).getD i default).q, ageUp ag⟩ = ageSt st (i + 1) := by
            show _ = (ageSt st i).set i _
            rw [HAG.out, ← HAT.out]
          rw [he] at h2
          have H2 := hid_ h2
          have HF2 := hid_ F2
          clear h1 h2 F2 c12 hfz he
          generalize (wr.setCell ⟨ab, i * 2 + 1, none⟩ (.int .i64 (ageUp ag))).drew = W2 at *
          go_wp2
          go_roundw
          case rel => exact ⟨i + 1, by omega, by go_num, F1.trans HF2.out, H2.out⟩
          case measure => simp [intOf]; omega
      · have HV := hid_ (show ag = ageUp ag by have := HA9.out; unfold ageUp; split <;> omega)
        have H1 := hid_ h1
        clear h1 hfz
        go_wp2
        go_roundw
        case rel => exact ⟨i + 1, by omega, by go_num, F1, by
          have he : ageSt st (i + 1) = ageSt st i := by
            show (ageSt st i).set i _ = _
            have h3 : (⟨((ageSt st i).getD i default).q, ageUp ((ageSt st i).getD i default).age⟩ : PSt) = (ageSt st i).getD i default := by
              have h4 : ageUp ((ageSt st i).getD i default).age = ((ageSt st i).getD i default).age := by rw [HAT.out, ← HAG.out]; exact HV.out.symm
              rw [h4]
            show (ageSt st i).set i ⟨((ageSt st i).getD i default).q, ageUp ((ageSt st i).getD i default).age⟩ = _
            rw [h3]
            apply List.ext_getElem?
            intro m
            rw [List.getElem?_set]
            split
            · rename_i hm
              subst hm
              have hl1 := ageSt_len st i
              rw [if_pos (by omega), List.getD_eq_getElem?_getD, List.getElem?_eq_getElem (by omega)]
              rfl
            · rfl
          rw [he]
          exact H1.out⟩
        case measure => simp [intOf]; omega
    · have he : i = st.length := by omega
      subst he
      obtain ⟨_, _, _, _, c12⟩ := h1.cells
      rw [ageSt_len] at c12
      go_wp2
      go_end0
      exact ⟨rfl, F1, h1⟩

set_option maxRecDepth 100000 in
set_option maxHeartbeats 4000000 in
theorem rpClear (c : Cfg) (hg : Good c) (C : Nat → Nat) (k b ab : Nat) (hk : k ≠ 0) (hab : ab ≠ b) (pv qv rv : Value) (node part : Int) (lv : Nat → Value) (st : List PSt) (w : World) (hf : Fin C w) (h : IsRPs w C k b ab c pv qv rv node lv st) :
    Calls Try.prog 35 #[.pointer (some ⟨b, 0, none⟩), .int .i64 part] w fun e w' => e = .returned (.tuple #[]) ∧ ∃ lv', Fr (· = k) C C w w' ∧ IsRPs w' C k b ab c pv qv rv node lv' (clearSt c part st st.length) := by
  have hn24 : st.length ≤ 24 := by rw [h.len]; exact hg.nq
  have c12 := h.head.cell_ 12 rfl
  go_enter Try.func35, Try.ntmps35
  go_wp2
  go_loopw [4] (fun iv wr => ∃ (i : Nat) (lv' : Nat → Value), i ≤ st.length ∧ iv = .int .i64 i ∧ Fr (· = k) C C w wr ∧ IsRPs wr C k b ab c pv qv rv node lv' (clearSt c part st i)) (fun iv _ => st.length - (intOf iv).toNat)
  case atStart => exact ⟨0, lv, Nat.zero_le _, rfl, Fr.refl _ _ _, h⟩
  case round =>
    obtain ⟨i, lv', hi, rfl, F1, h1⟩ := hrel
    by_cases hlt : i < st.length
    · have hl1 := clearSt_len c part st i
      have hic : i < c.ports.length := by rw [← h.len]; exact hlt
      obtain ⟨s0, s1⟩ := h1.state (j := i) (by omega)
      obtain ⟨_, c9, _, _, c12⟩ := h1.cells
      have hfz := fun m => h1.all.frozen m
      have hq := h1.lists.ports
      obtain ⟨qa, qc, rfl, hqc, hqm, -⟩ := id hq
      obtain ⟨qb, qo, rfl, _, hcell⟩ := hq.row (fun _ => rfl) hic
      rw [show c.ports.getD i default = c.port i from rfl] at hcell
      have e0 := hcell 0 _ rfl
      simp only [Nat.add_zero] at e0
      rw [hl1] at c12
      unfold maxLen at hqm
      have hi0 : (0 : Int) ≤ (i : Int) := Int.natCast_nonneg _
      have hi2 : (i : Int) < (st.length : Int) := by omega
      have hi3 : (i : Int) < (c.ports.length : Int) := by omega
      obtain ⟨pt, hpt⟩ : ∃ pt, pt = (c.port i).part := ⟨_, rfl⟩
      simp only [← hpt] at e0
      have HPT := hid_ hpt
      have hturn := (h1.turn (by omega) hk (j := i) (by omega) (Fr.refl (· = k + 1 + i) C wr) (IsList.nil wr C (k + 1 + i)) hab).age (j := i) hk (by rw [List.length_set]; omega) ⟨[], 0⟩ (by rw [List.getD_eq_getElem?_getD, List.getElem?_set_self (by omega)]; rfl) hab
      have HT := hid_ hturn
      have HAC := hid_ h1.acol
      clear hcell hq hpt hturn
      by_cases hpp : pt = part
      · have HPP := hid_ hpp
        subst hpp
        go_wp2
        go_roundw
        case rel => exact ⟨i + 1, _, by omega, by go_num, F1.trans (((Fr.refl _ _ _).setCell (.inr HAC.out) _).setCell (.inr HAC.out) _), by
          have e : clearSt c pt st (i + 1) = (clearSt c pt st i).set i ⟨[], 0⟩ := by
            show (if _ then _ else _) = _
            rw [if_pos HPT.out.symm]
          rw [e]
          have := HT.out
          rw [List.set_set] at this
          exact this⟩
        case measure => simp [intOf]; omega
      · have HPP := hid_ hpp
        go_wp2
        go_roundw
        case rel => exact ⟨i + 1, lv', by omega, by go_num, F1, by
          have e : clearSt c part st (i + 1) = clearSt c part st i := by
            show (if _ then _ else _) = _
            rw [if_neg (by rw [← HPT.out]; exact HPP.out)]
          rw [e]
          exact h1⟩
        case measure => simp [intOf]; omega
    · have he : i = st.length := by omega
      subst he
      obtain ⟨_, _, _, _, c12⟩ := h1.cells
      rw [clearSt_len] at c12
      go_wp2
      go_end0
      exact ⟨rfl, lv', F1, h1⟩

end Go.Proofs.Ytogfbeibpfdleaa
namespace Go.Proofs.Ytogfbeibpfdleaa
open Go.RowKit Go.Maps

def selB (c : Cfg) (node : Int) (out : Bool) (i : Nat) : Bool := mineB c node i && (!out || (c.port i).out)
/-- What stands in the first n ports, or in the out ones alone. -/
def rimgMs (c : Cfg) (node : Int) (st : List PSt) (out : Bool) : Nat → List Msg
  | 0 => []
  | n + 1 => rimgMs c node st out n ++ if selB c node out n = true then (st.getD n default).q.map (fun d => ⟨(n : Int), d⟩) else []
theorem rimgMs_len (c : Cfg) (node : Int) (st : List PSt) (out : Bool) (hq : ∀ i, i < st.length → (st.getD i default).q.length ≤ 4) : ∀ n, n ≤ st.length → (rimgMs c node st out n).length ≤ 4 * n
  | 0, _ => by simp [rimgMs]
  | n + 1, h => by
    have := rimgMs_len c node st out hq n (by omega)
    have := hq n (by omega)
    unfold rimgMs
    split
    · rw [List.length_append, List.length_map]; omega
    · simp; omega
theorem rimgMs_false (c : Cfg) (node : Int) (st : List PSt) : ∀ n, rimgMs c node st false n = imageMs c node st n
  | 0 => rfl
  | n + 1 => by
    unfold rimgMs imageMs
    rw [rimgMs_false c node st n, show selB c node false n = mineB c node n by unfold selB; simp]
theorem rimgMs_true (c : Cfg) (node : Int) (st : List PSt) : ∀ n, rimgMs c node st true n = sealMs c node st n
  | 0 => rfl
  | n + 1 => by
    unfold rimgMs sealMs
    rw [rimgMs_true c node st n, show selB c node true n = sealB c node n by unfold selB sealB; simp]

set_option maxRecDepth 100000 in
set_option maxHeartbeats 4000000 in
theorem rpImage_false (c : Cfg) (hg : Good c) (C : Nat → Nat) (k kk b ab : Nat) (hk : k ≠ 0) (hkk : kk ≠ 0 ∧ (kk < k ∨ k + 100 ≤ kk)) (pv qv rv : Value) (node : Int) (lv : Nat → Value) (st : List PSt) (w : World) (hf : Fin C w) (h : IsRPs w C k b ab c pv qv rv node lv st) (hq4 : ∀ i, i < st.length → (st.getD i default).q.length ≤ 4) :
    Calls Try.prog 36 #[.pointer (some ⟨b, 0, none⟩), .bool false] w (ImageP C kk w (rimgMs c node st false st.length)) := by
  have hn24 : st.length ≤ 24 := by rw [h.len]; exact hg.nq
  obtain ⟨k0, k1⟩ := hkk
  have hml := hid_ (rimgMs_len c node st false hq4)
  obtain ⟨i1, z1, hi1, hz1, hzs1, his1, hby1⟩ := info_row (P := Try.prog) (e := 50) (size := 2) (bytes := 32) (by kernel_rfl)
  go_enter Try.func36, Try.ntmps36
  go_wp2
  go_loopw [5, 6] (fun ov iv wr => ∃ i : Nat, i ≤ st.length ∧ iv = .int .i64 i ∧ ImageR C kk w (rimgMs c node st false i) ov wr) (fun _ iv _ => st.length - (intOf iv).toNat)
  case atStart => exact ⟨0, Nat.zero_le _, rfl, [], C, Fr.refl _ _ _, Sl.nil _ _ _ _ _, trivial⟩
  case round =>
    obtain ⟨i, hi, rfl, cs, C1, F1, hS1, hM1⟩ := hrel
    have h1 := h.fr F1 (fun x hx => by omega) hn24
    obtain ⟨c8, c9, _, c11, c12⟩ := h1.cells
    by_cases hlt : i < st.length
    · have hic : i < c.ports.length := by rw [← h.len]; exact hlt
      have hmine := hid_ (rpMine c hg C1 k b ab pv qv rv node i lv _ wr h1 hic)
      have hi0 : (0 : Int) ≤ (i : Int) := Int.natCast_nonneg _
      have hi2 : (i : Int) < (st.length : Int) := by omega
      go_wp2_with fail
      refine hmine.out.mono ?_
      rintro e w2 ⟨rfl, hw2⟩
      have G2 := Fr.of_below (C := C1) hw2 (fun _ => False)
      have h2 := h1.fr G2 (fun x hx => hx.elim) hn24
      have hS2 := hS1.fr G2 (fun h => h)
      have hM2 := hM1.fr G2 (fun h => h)
      have F2 := F1.trans (G2.mono (K' := (· = kk)) (fun _ h => h.elim))
      obtain ⟨oa, oc, rfl, hoc, hom, -⟩ := id hS2.form
      clear h1 hS1 hM1 hmine c8 c9 c11 c12
      obtain ⟨c8, c9, _, c11, c12⟩ := h2.cells
      have hq := h2.lists.ports
      obtain ⟨qa, qc, hqv, hqc, hqm, -⟩ := id hq
      rw [hqv] at hq c9
      obtain ⟨qb, qo, rfl, _, hcell⟩ := hq.row (fun _ => rfl) hic
      rw [show c.ports.getD i default = c.port i from rfl] at hcell
      have e2 := hcell 2 _ rfl
      have hi1' : (i : Int) < (c.ports.length : Int) := by omega
      unfold maxLen at hqm
      have HQV0 := hid_ hqv
      obtain ⟨vs, hSv, hAv⟩ := h2.each i hlt
      have hvl := hid_ hAv.len
      obtain ⟨la, lc, hlv, hlc, hlm, -⟩ := hSv.form
      obtain ⟨s0, s1⟩ := h2.state hlt
      rw [hlv] at s0 hSv
      have HLV := hid_ hlv
      have hvs4 : vs.length ≤ 4 := by rw [hvl.out]; exact hq4 i hlt
      unfold maxLen at hlm
      clear hcell hq hqv hlv
      cases hmb : mineB c node i with
      | false =>
        have HB := hid_ (show selB c node false i = false by unfold selB; rw [hmb]; rfl)
        clear hmb
        go_wp2
        go_roundw
        case rel => exact ⟨i + 1, by omega, by go_num, by
          have e2 : rimgMs c node st false (i + 1) = rimgMs c node st false i := by show _ ++ (if _ then _ else _) = _; rw [HB.out]; simp
          rw [e2]
          exact ⟨cs, C1, F2, hS2, hM2⟩⟩
        case measure => simp [intOf]; omega
      | true =>
        have HB := hid_ (show selB c node false i = true by unfold selB; rw [hmb]; rfl)
        clear hmb
        go_wp2
        obtain ⟨ms, hms⟩ : ∃ ms, ms = rimgMs c node st false i := ⟨_, rfl⟩
        have hmsl : ms.length ≤ 96 := by have := hml.out i (by omega); rw [← hms] at this; omega
        obtain ⟨q, hqq⟩ : ∃ q, q = (st.getD i default).q := ⟨_, rfl⟩
        have hqv : vs.length = q.length := by rw [hqq]; exact hvl.out
        rw [← hqq] at hAv
        rw [← hms] at hS2 hM2 ⊢
        have HMS := hid_ hms
        have HQQ := hid_ hqq
        have HQV := hid_ hqv
        clear hms hqq hqv c8 c9 c11 c12 e2 s0 s1
        obtain ⟨wo, rfl⟩ : ∃ wo : World, wo = wr := ⟨_, rfl⟩
        go_loopw [5, 7] (fun ov kv wr => ∃ (m : Nat) (C2 : Nat → Nat) (cs2 : List Value), m ≤ vs.length ∧ kv = .int .i64 m ∧ Fr (· = kk) C1 C2 w2 wr ∧ Sl wr C2 kk ov 50 2 (ms.length + m) cs2 ∧ IsMsgs wr C2 cs2 (ms ++ (q.take m).map (fun d => ⟨(i : Int), d⟩))) (fun _ kv _ => vs.length - (intOf kv).toNat)
        case atStart => exact ⟨0, C1, cs, Nat.zero_le _, rfl, Fr.refl _ _ _, hS2, by simpa using hM2⟩
        case round =>
          obtain ⟨m, C2, cs2, hm, rfl, f2, hS3, hM3⟩ := hrel
          have h3 := h2.fr f2 (fun x hx => by omega) hn24
          obtain ⟨oa3, oc3, rfl, hoc3, hom3, hol3⟩ := hS3.form
          obtain ⟨s0, s1⟩ := h3.state hlt
          obtain ⟨c8, c9, _, c11, c12⟩ := h3.cells
          rw [HLV.out] at s0
          by_cases hmv : m < vs.length
          · obtain ⟨v0, hv0, hb0, ho0⟩ := hAv.get (i := m) (by rw [← HQV.out]; exact hmv)
            obtain ⟨xa, xc, rfl, -⟩ := id hb0
            obtain ⟨bb, off, rfl, hCa, hbl, hcell⟩ := hSv.at (by omega)
            have hcv := hcell m _ hv0
            have hne : ¬ C1 bb = kk := by rw [hCa]; omega
            have hcw := (World.cell?_of_block (a := ⟨bb, off + m, none⟩) (f2.block bb hbl hne).1).trans hcv
            have hb3 := Rd.fr hb0 f2 (Ne.symm k0)
            have hm0 : (0 : Int) ≤ (m : Int) := Int.natCast_nonneg _
            have hm1 : (m : Int) < (vs.length : Int) := by omega
            obtain ⟨v7, W7, C7, hr7, hS7, F7, ho7, hfar7⟩ := Sl.append (P := Try.prog) (t := 43) 0 Try.underlying43 hi1 his1 hz1 hzs1 (hS3.alloc (.cells #[.int .i64 (i : Int), .slice xa (q.getD m []).length xc] 50)) (Src.new wr 50 2 1 1 [.int .i64 (i : Int), .slice xa (q.getD m []).length xc] rfl) (by simp [Value.oneCell']) (by unfold maxLen; omega) (by rw [hby1]; omega)
            obtain ⟨a7, p7, rfl, -⟩ := id hS7.form
            have HR7 := hid_ hr7
            clear hr7 hcell hcv hv0
            go_wp2_with (refine wpList_append_run HR7.out (by rfl) (by rfl) (by rfl) (by rfl) ?_)
            have F67 := (Fr.refl (· = kk) C2 wr).alloc (.cells #[.int .i64 (i : Int), .slice xa (q.getD m []).length xc] 50) |>.trans F7
            go_roundw
            case rel => exact ⟨m + 1, C7, _, by omega, by go_num, f2.trans F67, hS7, by
              have hq1 : m < q.length := by rw [← HQV.out]; exact hmv
              have e1 : q.take (m + 1) = q.take m ++ [q.getD m []] := by rw [List.take_succ_eq_append_getElem hq1, List.getD_eq_getElem?_getD, List.getElem?_eq_getElem hq1]; rfl
              rw [e1, List.map_append, ← List.append_assoc]
              exact IsMsgs.snoc (m := ⟨(i : Int), q.getD m []⟩) (Rd.fr hb3 F67 (Ne.symm k0)) rfl (hM3.fr F67 (Ne.symm k0))⟩
            case measure => simp [intOf]; omega
          · obtain rfl : m = vs.length := by omega
            go_wp2
            go_roundw
            case rel => exact ⟨i + 1, by omega, by go_num, by
              have e2 : rimgMs c node st false (i + 1) = ms ++ (q.take vs.length).map (fun d => ⟨(i : Int), d⟩) := by
                show _ ++ (if _ then _ else _) = _
                rw [if_pos HB.out, HMS.out, HQQ.out, List.take_of_length_le (by rw [hvl.out]; exact Nat.le_refl _)]
              rw [e2]
              refine ⟨cs2, C2, F2.trans f2, ?_, hM3⟩
              have hl2 : (ms ++ (q.take vs.length).map (fun d => (⟨(i : Int), d⟩ : Msg))).length = ms.length + vs.length := by
                rw [List.length_append, List.length_map, List.length_take, HQV.out, Nat.min_self]
              rw [hl2]
              exact hS3⟩
            case measure => simp [intOf]; omega
    · obtain rfl : i = st.length := by omega
      go_wp2
      go_ret
      exact ⟨_, cs, C1, rfl, F1, hS1, hM1⟩

set_option maxRecDepth 100000 in
set_option maxHeartbeats 4000000 in
theorem rpImage_true (c : Cfg) (hg : Good c) (C : Nat → Nat) (k kk b ab : Nat) (hk : k ≠ 0) (hkk : kk ≠ 0 ∧ (kk < k ∨ k + 100 ≤ kk)) (pv qv rv : Value) (node : Int) (lv : Nat → Value) (st : List PSt) (w : World) (hf : Fin C w) (h : IsRPs w C k b ab c pv qv rv node lv st) (hq4 : ∀ i, i < st.length → (st.getD i default).q.length ≤ 4) :
    Calls Try.prog 36 #[.pointer (some ⟨b, 0, none⟩), .bool true] w (ImageP C kk w (rimgMs c node st true st.length)) := by
  have hn24 : st.length ≤ 24 := by rw [h.len]; exact hg.nq
  obtain ⟨k0, k1⟩ := hkk
  have hml := hid_ (rimgMs_len c node st true hq4)
  obtain ⟨i1, z1, hi1, hz1, hzs1, his1, hby1⟩ := info_row (P := Try.prog) (e := 50) (size := 2) (bytes := 32) (by kernel_rfl)
  go_enter Try.func36, Try.ntmps36
  go_wp2
  go_loopw [5, 6] (fun ov iv wr => ∃ i : Nat, i ≤ st.length ∧ iv = .int .i64 i ∧ ImageR C kk w (rimgMs c node st true i) ov wr) (fun _ iv _ => st.length - (intOf iv).toNat)
  case atStart => exact ⟨0, Nat.zero_le _, rfl, [], C, Fr.refl _ _ _, Sl.nil _ _ _ _ _, trivial⟩
  case round =>
    obtain ⟨i, hi, rfl, cs, C1, F1, hS1, hM1⟩ := hrel
    have h1 := h.fr F1 (fun x hx => by omega) hn24
    obtain ⟨c8, c9, _, c11, c12⟩ := h1.cells
    by_cases hlt : i < st.length
    · have hic : i < c.ports.length := by rw [← h.len]; exact hlt
      have hmine := hid_ (rpMine c hg C1 k b ab pv qv rv node i lv _ wr h1 hic)
      have hi0 : (0 : Int) ≤ (i : Int) := Int.natCast_nonneg _
      have hi2 : (i : Int) < (st.length : Int) := by omega
      go_wp2_with fail
      refine hmine.out.mono ?_
      rintro e w2 ⟨rfl, hw2⟩
      have G2 := Fr.of_below (C := C1) hw2 (fun _ => False)
      have h2 := h1.fr G2 (fun x hx => hx.elim) hn24
      have hS2 := hS1.fr G2 (fun h => h)
      have hM2 := hM1.fr G2 (fun h => h)
      have F2 := F1.trans (G2.mono (K' := (· = kk)) (fun _ h => h.elim))
      obtain ⟨oa, oc, rfl, hoc, hom, -⟩ := id hS2.form
      clear h1 hS1 hM1 hmine c8 c9 c11 c12
      obtain ⟨c8, c9, _, c11, c12⟩ := h2.cells
      have hq := h2.lists.ports
      obtain ⟨qa, qc, hqv, hqc, hqm, -⟩ := id hq
      rw [hqv] at hq c9
      obtain ⟨qb, qo, rfl, _, hcell⟩ := hq.row (fun _ => rfl) hic
      rw [show c.ports.getD i default = c.port i from rfl] at hcell
      have e2 := hcell 2 _ rfl
      have hi1' : (i : Int) < (c.ports.length : Int) := by omega
      unfold maxLen at hqm
      have HQV0 := hid_ hqv
      obtain ⟨vs, hSv, hAv⟩ := h2.each i hlt
      have hvl := hid_ hAv.len
      obtain ⟨la, lc, hlv, hlc, hlm, -⟩ := hSv.form
      obtain ⟨s0, s1⟩ := h2.state hlt
      rw [hlv] at s0 hSv
      have HLV := hid_ hlv
      have hvs4 : vs.length ≤ 4 := by rw [hvl.out]; exact hq4 i hlt
      unfold maxLen at hlm
      clear hcell hq hqv hlv
      cases hmb : mineB c node i with
      | false =>
        have HB := hid_ (show selB c node true i = false by unfold selB; rw [hmb]; rfl)
        clear hmb
        go_wp2
        go_roundw
        case rel => exact ⟨i + 1, by omega, by go_num, by
          have e2 : rimgMs c node st true (i + 1) = rimgMs c node st true i := by show _ ++ (if _ then _ else _) = _; rw [HB.out]; simp
          rw [e2]
          exact ⟨cs, C1, F2, hS2, hM2⟩⟩
        case measure => simp [intOf]; omega
      | true =>
        cases hob : (c.port i).out with
        | false =>
          have HB := hid_ (show selB c node true i = false by unfold selB; rw [hmb, hob]; rfl)
          rw [hob] at e2
          clear hmb hob
          go_wp2
          go_roundw
          case rel => exact ⟨i + 1, by omega, by go_num, by
            have e2 : rimgMs c node st true (i + 1) = rimgMs c node st true i := by show _ ++ (if _ then _ else _) = _; rw [HB.out]; simp
            rw [e2]
            exact ⟨cs, C1, F2, hS2, hM2⟩⟩
          case measure => simp [intOf]; omega
        | true =>
          have HB := hid_ (show selB c node true i = true by unfold selB; rw [hmb, hob]; rfl)
          rw [hob] at e2
          clear hmb hob
          go_wp2
          obtain ⟨ms, hms⟩ : ∃ ms, ms = rimgMs c node st true i := ⟨_, rfl⟩
          have hmsl : ms.length ≤ 96 := by have := hml.out i (by omega); rw [← hms] at this; omega
          obtain ⟨q, hqq⟩ : ∃ q, q = (st.getD i default).q := ⟨_, rfl⟩
          have hqv : vs.length = q.length := by rw [hqq]; exact hvl.out
          rw [← hqq] at hAv
          rw [← hms] at hS2 hM2 ⊢
          have HMS := hid_ hms
          have HQQ := hid_ hqq
          have HQV := hid_ hqv
          clear hms hqq hqv c8 c9 c11 c12 e2 s0 s1
          obtain ⟨wo, rfl⟩ : ∃ wo : World, wo = wr := ⟨_, rfl⟩
          go_loopw [5, 7] (fun ov kv wr => ∃ (m : Nat) (C2 : Nat → Nat) (cs2 : List Value), m ≤ vs.length ∧ kv = .int .i64 m ∧ Fr (· = kk) C1 C2 w2 wr ∧ Sl wr C2 kk ov 50 2 (ms.length + m) cs2 ∧ IsMsgs wr C2 cs2 (ms ++ (q.take m).map (fun d => ⟨(i : Int), d⟩))) (fun _ kv _ => vs.length - (intOf kv).toNat)
          case atStart => exact ⟨0, C1, cs, Nat.zero_le _, rfl, Fr.refl _ _ _, hS2, by simpa using hM2⟩
          case round =>
            obtain ⟨m, C2, cs2, hm, rfl, f2, hS3, hM3⟩ := hrel
            have h3 := h2.fr f2 (fun x hx => by omega) hn24
            obtain ⟨oa3, oc3, rfl, hoc3, hom3, hol3⟩ := hS3.form
            obtain ⟨s0, s1⟩ := h3.state hlt
            obtain ⟨c8, c9, _, c11, c12⟩ := h3.cells
            rw [HLV.out] at s0
            by_cases hmv : m < vs.length
            · obtain ⟨v0, hv0, hb0, ho0⟩ := hAv.get (i := m) (by rw [← HQV.out]; exact hmv)
              obtain ⟨xa, xc, rfl, -⟩ := id hb0
              obtain ⟨bb, off, rfl, hCa, hbl, hcell⟩ := hSv.at (by omega)
              have hcv := hcell m _ hv0
              have hne : ¬ C1 bb = kk := by rw [hCa]; omega
              have hcw := (World.cell?_of_block (a := ⟨bb, off + m, none⟩) (f2.block bb hbl hne).1).trans hcv
              have hb3 := Rd.fr hb0 f2 (Ne.symm k0)
              have hm0 : (0 : Int) ≤ (m : Int) := Int.natCast_nonneg _
              have hm1 : (m : Int) < (vs.length : Int) := by omega
              obtain ⟨v7, W7, C7, hr7, hS7, F7, ho7, hfar7⟩ := Sl.append (P := Try.prog) (t := 43) 0 Try.underlying43 hi1 his1 hz1 hzs1 (hS3.alloc (.cells #[.int .i64 (i : Int), .slice xa (q.getD m []).length xc] 50)) (Src.new wr 50 2 1 1 [.int .i64 (i : Int), .slice xa (q.getD m []).length xc] rfl) (by simp [Value.oneCell']) (by unfold maxLen; omega) (by rw [hby1]; omega)
              obtain ⟨a7, p7, rfl, -⟩ := id hS7.form
              have HR7 := hid_ hr7
              clear hr7 hcell hcv hv0
              go_wp2_with (refine wpList_append_run HR7.out (by rfl) (by rfl) (by rfl) (by rfl) ?_)
              have F67 := (Fr.refl (· = kk) C2 wr).alloc (.cells #[.int .i64 (i : Int), .slice xa (q.getD m []).length xc] 50) |>.trans F7
              go_roundw
              case rel => exact ⟨m + 1, C7, _, by omega, by go_num, f2.trans F67, hS7, by
                have hq1 : m < q.length := by rw [← HQV.out]; exact hmv
                have e1 : q.take (m + 1) = q.take m ++ [q.getD m []] := by rw [List.take_succ_eq_append_getElem hq1, List.getD_eq_getElem?_getD, List.getElem?_eq_getElem hq1]; rfl
                rw [e1, List.map_append, ← List.append_assoc]
                exact IsMsgs.snoc (m := ⟨(i : Int), q.getD m []⟩) (Rd.fr hb3 F67 (Ne.symm k0)) rfl (hM3.fr F67 (Ne.symm k0))⟩
              case measure => simp [intOf]; omega
            · obtain rfl : m = vs.length := by omega
              go_wp2
              go_roundw
              case rel => exact ⟨i + 1, by omega, by go_num, by
                have e2 : rimgMs c node st true (i + 1) = ms ++ (q.take vs.length).map (fun d => ⟨(i : Int), d⟩) := by
                  show _ ++ (if _ then _ else _) = _
                  rw [if_pos HB.out, HMS.out, HQQ.out, List.take_of_length_le (by rw [hvl.out]; exact Nat.le_refl _)]
                rw [e2]
                refine ⟨cs2, C2, F2.trans f2, ?_, hM3⟩
                have hl2 : (ms ++ (q.take vs.length).map (fun d => (⟨(i : Int), d⟩ : Msg))).length = ms.length + vs.length := by
                  rw [List.length_append, List.length_map, List.length_take, HQV.out, Nat.min_self]
                rw [hl2]
                exact hS3⟩
              case measure => simp [intOf]; omega
    · obtain rfl : i = st.length := by omega
      go_wp2
      go_ret
      exact ⟨_, cs, C1, rfl, F1, hS1, hM1⟩

set_option maxRecDepth 100000 in
set_option maxHeartbeats 4000000 in
theorem rpSeal (c : Cfg) (hg : Good c) (C : Nat → Nat) (k kk b ab : Nat) (hk : k ≠ 0) (hkk : kk ≠ 0 ∧ (kk < k ∨ k + 100 ≤ kk)) (hab : ab ≠ b) (pv qv rv : Value) (node : Int) (lv : Nat → Value) (st : List PSt) (w : World) (hf : Fin C w) (h : IsRPs w C k b ab c pv qv rv node lv st) (hq4 : ∀ i, i < st.length → (st.getD i default).q.length ≤ 4) :
    Calls Try.prog 32 #[.pointer (some ⟨b, 0, none⟩)] w fun e w' => ∃ v cs C' lv', e = .returned v ∧ Fr (PK k kk) C C' w w' ∧ IsRPs w' C' k b ab c pv qv rv node lv' (sealSt c node st st.length) ∧ Sl w' C' kk v 50 2 (sealMs c node st st.length).length cs ∧ IsMsgs w' C' cs (sealMs c node st st.length) := by
  have hn24 : st.length ≤ 24 := by rw [h.len]; exact hg.nq
  obtain ⟨k0, k1⟩ := id hkk
  have HIM := hid_ (rpImage_true c hg C k kk b ab hk hkk pv qv rv node lv st w hf h hq4)
  rw [rimgMs_true] at HIM
  clear hkk
  go_enter Try.func32, Try.ntmps32
  go_wp2_with fail
  refine HIM.out.mono ?_
  rintro e w1 ⟨v, cs, C1, rfl, F1, hS1, hM1⟩
  have h1 := h.fr F1 (fun x hx => by omega) hn24
  obtain ⟨va, vc, rfl, hvc, hvm, -⟩ := id hS1.form
  have HF1 := hid_ F1
  have HS1 := hid_ hS1
  have HM1 := hid_ hM1
  have H1 := hid_ h1
  clear F1 hS1 hM1 h1
  go_wp2_with fail
  go_loopw [4] (fun iv wr => ∃ (i : Nat) (lv' : Nat → Value), i ≤ st.length ∧ iv = .int .i64 i ∧ Fr (· = k) C1 C1 w1 wr ∧ IsRPs wr C1 k b ab c pv qv rv node lv' (sealSt c node st i)) (fun iv _ => st.length - (intOf iv).toNat)
  case atStart => exact ⟨0, lv, Nat.zero_le _, rfl, Fr.refl _ _ _, H1.out⟩
  case round =>
    obtain ⟨i, lv1, hi, rfl, F2, h2⟩ := hrel
    have HLS := hid_ (sealSt_len c node st i)
    obtain ⟨c8, c9, _, c11, c12⟩ := h2.cells
    rw [HLS.out] at c12
    by_cases hlt : i < st.length
    · have hic : i < c.ports.length := by rw [← h.len]; exact hlt
      have hmine := hid_ (rpMine c hg C1 k b ab pv qv rv node i lv1 _ wr h2 hic)
      have hi0 : (0 : Int) ≤ (i : Int) := Int.natCast_nonneg _
      have hi2 : (i : Int) < (st.length : Int) := by omega
      have HF2 := hid_ F2
      go_wp2_with fail
      refine hmine.out.mono ?_
      rintro e w2 ⟨rfl, hw2⟩
      have h3 := h2.fr (Fr.of_below (C := C1) hw2 (fun _ => False)) (fun x hx => hx.elim) (by rw [HLS.out]; exact hn24)
      have HF3 := hid_ (F2.trans (Fr.of_below (C := C1) hw2 _))
      clear h2 hmine c8 c9 c11 c12 F2 hw2
      obtain ⟨c8, c9, _, c11, c12⟩ := h3.cells
      rw [HLS.out] at c12
      have hq := h3.lists.ports
      obtain ⟨qa, qc, hqv, hqc, hqm, -⟩ := id hq
      rw [hqv] at hq c9
      obtain ⟨qb, qo, rfl, _, hcell⟩ := hq.row (fun _ => rfl) hic
      rw [show c.ports.getD i default = c.port i from rfl] at hcell
      have e2 := hcell 2 _ rfl
      have hi1' : (i : Int) < (c.ports.length : Int) := by omega
      unfold maxLen at hqm
      have his : i < (sealSt c node st i).length := by rw [HLS.out]; exact hlt
      obtain ⟨s0, s1⟩ := h3.state his
      have hfz := h3.all.frozen (i * 2)
      have HT := hid_ (h3.turn (by rw [HLS.out]; exact hn24) hk his (Fr.refl (· = k + 1 + i) C1 w2) (IsList.nil w2 C1 (k + 1 + i)) hab)
      have hcab := hid_ h3.acol
      have HQV0 := hid_ hqv
      clear hcell hq hqv
      cases hmb : mineB c node i with
      | false =>
        have HB := hid_ (show sealB c node i = false by unfold sealB; rw [hmb]; rfl)
        clear hmb
        go_wp2
        go_roundw
        case rel => exact ⟨i + 1, lv1, by omega, by go_num, HF3.out, by
          have e1 : sealSt c node st (i + 1) = sealSt c node st i := by show (if _ then _ else _) = _; rw [HB.out]; rfl
          rw [e1]
          exact h3⟩
        case measure => simp [intOf]; omega
      | true =>
        cases hob : (c.port i).out with
        | false =>
          have HB := hid_ (show sealB c node i = false by unfold sealB; rw [hmb, hob]; rfl)
          rw [hob] at e2
          clear hmb hob
          go_wp2
          go_roundw
          case rel => exact ⟨i + 1, lv1, by omega, by go_num, HF3.out, by
            have e1 : sealSt c node st (i + 1) = sealSt c node st i := by show (if _ then _ else _) = _; rw [HB.out]; rfl
            rw [e1]
            exact h3⟩
          case measure => simp [intOf]; omega
        | true =>
          have HB := hid_ (show sealB c node i = true by unfold sealB; rw [hmb, hob]; rfl)
          rw [hob] at e2
          clear hmb hob
          go_wp2
          go_roundw
          case rel => exact ⟨i + 1, _, by omega, by go_num, HF3.out.trans ((Fr.refl _ _ _).setCell (.inr hcab.out) _), by
            have e1 : sealSt c node st (i + 1) = (sealSt c node st i).set i { (sealSt c node st i).getD i default with q := [] } := by show (if _ then _ else _) = _; rw [if_pos HB.out]
            rw [e1]
            exact HT.out⟩
          case measure => simp [intOf]; omega
    · obtain rfl : i = st.length := by omega
      go_wp2
      go_ret
      have F12 := (HF1.out.mono (K' := PK k kk) (fun x hx => .inl hx)).trans (F2.mono (K' := PK k kk) (fun x hx => .inr (by omega)))
      exact ⟨_, cs, C1, lv1, rfl, F12, h2, HS1.out.fr F2 (by omega), HM1.out.fr F2 (by omega)⟩
end Go.Proofs.Ytogfbeibpfdleaa
namespace Go.Proofs.Ytogfbeibpfdleaa
open Go.RowKit Go.Maps

set_option maxRecDepth 100000 in
set_option maxHeartbeats 4000000 in
theorem rwrite_bad (c : Cfg) (hg : Good c) (C : Nat → Nat) (k b ab : Nat) (pv qv rv : Value) (node part port : Int) (hp : I64 port) (lv : Nat → Value) (st : List PSt) (dv : Value) (w : World) (h : IsRPs w C k b ab c pv qv rv node lv st) (x : Int × Int) (hx : findE c node part port true = some x) :
    Calls Try.prog 30 #[.pointer (some ⟨b, 0, none⟩), .int .i64 part, .int .i64 port, dv] w fun e w' => e = .returned (.string ⟨(refT (some x)).toArray⟩) ∧ Below w.heap.size w w' := by
  have hfind := rpFind c hg C k b ab pv qv rv node part port hp true lv st w h
  rw [hx] at hfind
  obtain ⟨t, ht⟩ : ∃ t, refT (some x) = t := ⟨_, rfl⟩
  have hne := refT_ne x
  rw [ht] at hfind hne ⊢
  obtain ⟨y, ys, rfl⟩ : ∃ y ys, t = y :: ys := by cases t with | nil => exact absurd rfl hne | cons y ys => exact ⟨y, ys, rfl⟩
  have HF := hid_ hfind
  clear hfind hne ht
  go_enter Try.func30, Try.ntmps30
  go_wp2_with fail
  refine HF.out.mono ?_
  rintro e w1 ⟨rfl, hw1⟩
  go_wp2
  go_ret
  exact ⟨rfl, hw1⟩
set_option maxRecDepth 100000 in
set_option maxHeartbeats 4000000 in
theorem rread_bad (c : Cfg) (hg : Good c) (C : Nat → Nat) (k b ab : Nat) (pv qv rv : Value) (node part port : Int) (hp : I64 port) (lv : Nat → Value) (st : List PSt) (w : World) (h : IsRPs w C k b ab c pv qv rv node lv st) (x : Int × Int) (hx : findE c node part port false = some x) :
    Calls Try.prog 31 #[.pointer (some ⟨b, 0, none⟩), .int .i64 part, .int .i64 port] w fun e w' => e = .returned (.tuple #[.slice none 0 0, .bool false, .string ⟨(refT (some x)).toArray⟩]) ∧ Below w.heap.size w w' := by
  have hfind := rpFind c hg C k b ab pv qv rv node part port hp false lv st w h
  rw [hx] at hfind
  obtain ⟨t, ht⟩ : ∃ t, refT (some x) = t := ⟨_, rfl⟩
  have hne := refT_ne x
  rw [ht] at hfind hne ⊢
  obtain ⟨y, ys, rfl⟩ : ∃ y ys, t = y :: ys := by cases t with | nil => exact absurd rfl hne | cons y ys => exact ⟨y, ys, rfl⟩
  have HF := hid_ hfind
  clear hfind hne ht
  go_enter Try.func31, Try.ntmps31
  go_wp2_with fail
  refine HF.out.mono ?_
  rintro e w1 ⟨rfl, hw1⟩
  go_wp2
  go_ret3
  exact ⟨rfl, hw1⟩

/-- What the document's Write leaves. -/
def RWriteP (c : Cfg) (C : Nat → Nat) (k b ab : Nat) (pv qv rv : Value) (node : Int) (E : Option (Int × Int)) (st' : List PSt) (w : World) (e : Ending) (w' : World) : Prop :=
  ∃ C' lv', e = .returned (.string ⟨(refT E).toArray⟩) ∧ Fr (fun x => k ≤ x ∧ x < k + 100) C C' w w' ∧ IsRPs w' C' k b ab c pv qv rv node lv' st'
theorem rpWrite (c : Cfg) (hg : Good c) (C : Nat → Nat) (k b ab : Nat) (hk : k ≠ 0) (hab : ab ≠ b) (pv qv rv : Value) (node part port : Int) (hp : I64 port) (lv : Nat → Value) (st : List PSt) (dv : Value) (d : List UInt8) (w : World) (hf : Fin C w) (h : IsRPs w C k b ab c pv qv rv node lv st) (hd : IsBytes w C dv d) :
    Calls Try.prog 30 #[.pointer (some ⟨b, 0, none⟩), .int .i64 part, .int .i64 port, dv] w (RWriteP c C k b ab pv qv rv node (writeE c node part port d st) (writeS c node part port d st) w) := by
  have keep : ∀ (x : Int × Int) (v : Value) (e : Ending) (w' : World), writeE c node part port d st = some x → e = .returned v → v = .string ⟨(refT (some x)).toArray⟩ → Below w.heap.size w w' → RWriteP c C k b ab pv qv rv node (writeE c node part port d st) (writeS c node part port d st) w e w' := by
    rintro x v e w' hx rfl rfl hb
    have f := Fr.of_below (C := C) hb (fun _ => False)
    refine ⟨C, lv, by rw [hx], f.mono (fun _ h => h.elim), ?_⟩
    unfold writeS
    rw [hx]
    exact h.fr f (fun x hx => hx.elim) (by rw [h.len]; exact nq24 hg)
  cases hF : findE c node part port true with
  | some x =>
    have hx : writeE c node part port d st = some x := by unfold writeE; rw [hF]
    exact (rwrite_bad c hg C k b ab pv qv rv node part port hp lv st dv w h x hF).mono fun e w' hh => keep x _ e w' hx hh.1 rfl hh.2
  | none =>
    obtain ⟨i, j, rfl, rfl, hj, hi, hil, rfl, ho⟩ := findE_none hg hF
    by_cases h1 : (c.port j).size < (d.length : Int)
    · have hx : writeE c (c.part i).node i j d st = some (12, (j : Int)) := by unfold writeE; rw [hF]; simp only [Int.toNat_natCast]; rw [if_pos h1]
      exact (rwrite_size c hg C k b ab hk hab pv qv rv i j lv st dv d w hf h hj hi hil ho hd h1).mono fun e w' ⟨x, he, hv, hb⟩ => keep _ x e w' hx he hv hb
    · by_cases h2 : (c.port j).kind = 1
      · have hx : writeE c (c.part i).node i j d st = none := by unfold writeE; rw [hF]; simp only [Int.toNat_natCast]; rw [if_neg h1, if_pos h2]
        refine (rwrite_samp c hg C k b ab hk hab pv qv rv i j lv st dv d w hf h hj hi hil ho hd (by omega) h2).mono fun e w' hh => ?_
        obtain ⟨he, C', lv', hfr, hpp⟩ := hh
        refine ⟨C', lv', by rw [hx]; exact he, hfr, ?_⟩
        unfold writeS
        rw [hx]
        exact hpp
      · by_cases h3 : (c.port j).depth ≤ ((st.getD j default).q.length : Int)
        · have hx : writeE c (c.part i).node i j d st = some (11, (j : Int)) := by unfold writeE; rw [hF]; simp only [Int.toNat_natCast]; rw [if_neg h1, if_neg h2, if_pos h3]
          exact (rwrite_full c hg C k b ab hk hab pv qv rv i j lv st dv d w hf h hj hi hil ho hd (by omega) h2 h3).mono fun e w' ⟨x, he, hv, hb⟩ => keep _ x e w' hx he hv hb
        · have hx : writeE c (c.part i).node i j d st = none := by unfold writeE; rw [hF]; simp only [Int.toNat_natCast]; rw [if_neg h1, if_neg h2, if_neg h3]
          refine (rwrite_queue c hg C k b ab hk hab pv qv rv i j lv st dv d w hf h hj hi hil ho hd (by omega) h2 (by omega)).mono fun e w' hh => ?_
          obtain ⟨he, C', lv', hfr, hpp⟩ := hh
          refine ⟨C', lv', by rw [hx]; exact he, hfr, ?_⟩
          unfold writeS
          rw [hx]
          exact hpp
/-- What the document's Read leaves. -/
def RReadP (c : Cfg) (C : Nat → Nat) (k b ab : Nat) (pv qv rv : Value) (node : Int) (D : Option (List UInt8 × Bool)) (E : Option (Int × Int)) (st' : List PSt) (w : World) (e : Ending) (w' : World) : Prop :=
  ∃ v fv lv', e = .returned (.tuple #[v, fv, .string ⟨(refT E).toArray⟩]) ∧ ReadV w' C v fv D ∧ Fr (fun x => k ≤ x ∧ x < k + 100) C C w w' ∧ IsRPs w' C k b ab c pv qv rv node lv' st'
theorem rpRead (c : Cfg) (hg : Good c) (C : Nat → Nat) (k b ab : Nat) (hk : k ≠ 0) (hab : ab ≠ b) (pv qv rv : Value) (node part port : Int) (hp : I64 port) (lv : Nat → Value) (st : List PSt) (w : World) (hf : Fin C w) (h : IsRPs w C k b ab c pv qv rv node lv st) :
    Calls Try.prog 31 #[.pointer (some ⟨b, 0, none⟩), .int .i64 part, .int .i64 port] w (RReadP c C k b ab pv qv rv node (readD c node part port st) (readE c node part port st) (readS c node part port st) w) := by
  have keep : ∀ (x : Int × Int) (v : Value) (e : Ending) (w' : World), readE c node part port st = some x → e = .returned (.tuple #[.slice none 0 0, .bool false, v]) → v = .string ⟨(refT (some x)).toArray⟩ → Below w.heap.size w w' → RReadP c C k b ab pv qv rv node (readD c node part port st) (readE c node part port st) (readS c node part port st) w e w' := by
    rintro x v e w' hx rfl rfl hb
    have f := Fr.of_below (C := C) hb (fun _ => False)
    refine ⟨_, _, lv, by rw [hx], ?_, f.mono (fun _ h => h.elim), ?_⟩
    · unfold readD
      rw [hx]
      exact ⟨rfl, rfl⟩
    · unfold readS
      rw [hx]
      exact h.fr f (fun x hx => hx.elim) (by rw [h.len]; exact nq24 hg)
  cases hF : findE c node part port false with
  | some x =>
    have hx : readE c node part port st = some x := by unfold readE; rw [hF]
    exact (rread_bad c hg C k b ab pv qv rv node part port hp lv st w h x hF).mono fun e w' hh => keep x _ e w' hx hh.1 rfl hh.2
  | none =>
    obtain ⟨i, j, rfl, rfl, hj, hi, hil, rfl, ho⟩ := findE_none hg hF
    by_cases h1 : (st.getD j default).q = []
    · have hx : readE c (c.part i).node i j st = some (10, (j : Int)) := by unfold readE; rw [hF]; simp only [Int.toNat_natCast]; rw [if_pos h1]
      exact (rread_empty c hg C k b ab hk hab pv qv rv i j lv st w hf h hj hi hil ho h1).mono fun e w' ⟨x, he, hv, hb⟩ => keep _ x e w' hx he hv hb
    · have hx : readE c (c.part i).node i j st = none := by unfold readE; rw [hF]; simp only [Int.toNat_natCast]; rw [if_neg h1]
      by_cases h2 : (c.port j).kind = 1
      · refine (rread_samp c hg C k b ab hk hab pv qv rv i j lv st w hf h hj hi hil ho h1 h2).mono fun e w' hh => ?_
        obtain ⟨v, d, q, hq, he, hv, hb⟩ := hh
        have f := Fr.of_below (C := C) hb (fun _ => False)
        refine ⟨_, _, lv, by rw [hx]; exact he, ?_, f.mono (fun _ h => h.elim), ?_⟩
        · unfold readD
          rw [hx]
          simp only [Int.toNat_natCast]
          rw [if_pos h2, hq]
          exact ⟨hv, rfl⟩
        · unfold readS
          rw [hx]
          simp only [Int.toNat_natCast]
          rw [if_pos h2]
          exact h.fr f (fun x hx => hx.elim) (by rw [h.len]; exact nq24 hg)
      · refine (rread_queue c hg C k b ab hk hab pv qv rv i j lv st w hf h hj hi hil ho h1 h2).mono fun e w' hh => ?_
        obtain ⟨v, d, q, hq, he, hv, lv', hfr, hpp⟩ := hh
        refine ⟨_, _, lv', by rw [hx]; exact he, ?_, hfr, ?_⟩
        · unfold readD
          rw [hx]
          simp only [Int.toNat_natCast]
          rw [if_neg h2, hq]
          exact ⟨hv, rfl⟩
        · unfold readS
          rw [hx]
          simp only [Int.toNat_natCast]
          rw [if_neg h2, hq]
          exact hpp

theorem make_rports (n : Nat) (hn : n ≤ 24) (w : World) : (Instr.makeSlice 108 (.int .i64 n) (.int .i64 n)).run Try.prog w = .ok (.slice (some ⟨w.heap.size, 0, none⟩) n n) (w.alloc (.cells (pcells noLv (st0 n)).toArray 113)) := by
  rcases (by omega : n = 0 ∨ n = 1 ∨ n = 2 ∨ n = 3 ∨ n = 4 ∨ n = 5 ∨ n = 6 ∨ n = 7 ∨ n = 8 ∨ n = 9 ∨ n = 10 ∨ n = 11 ∨ n = 12 ∨ n = 13 ∨ n = 14 ∨ n = 15 ∨ n = 16 ∨ n = 17 ∨ n = 18 ∨ n = 19 ∨ n = 20 ∨ n = 21 ∨ n = 22 ∨ n = 23 ∨ n = 24) with rfl | rfl | rfl | rfl | rfl | rfl | rfl | rfl | rfl | rfl | rfl | rfl | rfl | rfl | rfl | rfl | rfl | rfl | rfl | rfl | rfl | rfl | rfl | rfl | rfl <;> kernel_rfl
/-- What the document's New leaves. -/
def RNewP (c : Cfg) (C : Nat → Nat) (k : Nat) (pv qv rv : Value) (node : Int) (w : World) (e : Ending) (w' : World) : Prop :=
  ∃ b ab C', e = .returned (.pointer (some ⟨b, 0, none⟩)) ∧ ab ≠ b ∧ w.heap.size ≤ b ∧ w.heap.size ≤ ab ∧ Fr (fun _ => False) C C' w w' ∧ IsRPs w' C' k b ab c pv qv rv node noLv (st0 c.ports.length)
set_option maxRecDepth 100000 in
set_option maxHeartbeats 4000000 in
theorem rpNew (c : Cfg) (hg : Good c) (C : Nat → Nat) (k : Nat) (hk : k ≠ 0) (pv qv rv : Value) (node : Int) (w : World) (hl : Lists w C c pv qv rv) (hf : Fin C w) :
    Calls Try.prog 29 #[c.v pv qv rv, .int .i64 node] w (RNewP c C k pv qv rv node w) := by
  obtain ⟨qa, qc, rfl, hqc, hqm, -⟩ := id hl.ports
  unfold maxLen at hqm
  unfold Cfg.v
  have hnq := hg.nq
  go_enter Try.func29, Try.ntmps29
  go_upto_region 1 with (fail)
  refine gen_world (fun W => Below w.heap.size w W ∧ Bk W w.heap.size 28 (c.cells pv (.slice qa c.ports.length qc) rv)) ⟨(Below.refl w.heap.size w).alloc (Nat.le_refl _) _, Bk.new _ _ _⟩ ?_
  rintro w1 ⟨hw1', hB1⟩
  have dc := hB1.cfg0
  have dcA := fun o => (hB1.alloc o).cfg0
  have hmk := make_rports c.ports.length hnq
  go_region
  all_goals
    go_wp2_with fail
    go_ret
    have hsz := hw1'.size
    have G1 := Fr.of_below (C := C) hw1' (fun _ => False)
    have hPn := Bk.new (w1.alloc (.cells (pcells noLv (st0 c.ports.length)).toArray 113)) 110 (c.cells pv (.slice qa c.ports.length qc) rv ++ [Value.int .i64 node, Value.slice (some ⟨w1.heap.size, 0, none⟩) c.ports.length c.ports.length])
    rw [World.size_alloc] at hPn
    have hAl := (Bk.new w1 113 (pcells noLv (st0 c.ports.length))).alloc (.cells (c.cells pv (.slice qa c.ports.length qc) rv ++ [Value.int .i64 node, Value.slice (some ⟨w1.heap.size, 0, none⟩) c.ports.length c.ports.length]).toArray 110)
    have hst : (st0 c.ports.length).length = c.ports.length := by unfold st0; simp
    have G2 : Fr (fun _ => False) C (fun x => if x = w1.heap.size ∨ x = w1.heap.size + 1 then k else C x) w (((w1.alloc (.cells (pcells noLv (st0 c.ports.length)).toArray 113)).alloc (.cells (c.cells pv (.slice qa c.ports.length qc) rv ++ [Value.int .i64 node, Value.slice (some ⟨w1.heap.size, 0, none⟩) c.ports.length c.ports.length]).toArray 110)).drew) :=
      (((G1.alloc _).alloc _).drew).recolour (fun x hx _ => if_neg (by omega)) (fun x hx => by
        have hx' : w1.heap.size + 2 ≤ x := by simpa using hx
        rw [if_neg (by omega)]
        exact hf x (by omega))
    refine ⟨w1.heap.size + 1, w1.heap.size, (fun x => if x = w1.heap.size ∨ x = w1.heap.size + 1 then k else C x), rfl, by omega, by omega, by omega, G2, ?_⟩
    exact ⟨by rw [hst]; exact hPn.drew, by simp, hl.fr G2 (fun h => h), hAl.drew, by simp, hst, fun i hi => by
      unfold noLv st0
      rw [List.getD_eq_getElem?_getD, List.getElem?_replicate]
      split
      · exact IsList.nil _ _ _
      · exact IsList.nil _ _ _⟩
end Go.Proofs.Ytogfbeibpfdleaa
