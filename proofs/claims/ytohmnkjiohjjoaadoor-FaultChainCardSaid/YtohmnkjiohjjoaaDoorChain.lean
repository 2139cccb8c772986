/- FaultChain: the walk. No condition but that errors.errorType holds its handle. -/
import Derived.Test.YtohmnkjiohjjoaaDoorAwake01
import Derived.Deep.RegionHeld3
import Derived.Deep.CutBlock
set_option linter.unusedSimpArgs false
set_option linter.unusedVariables false
namespace Go.Proofs.YtohmnkjiohjjoaaDoor
open Go.RowKit Go.Maps

theorem rootE_drop : ∀ (e : List (Int × Option Int)) (i : Nat), i < e.length → rootE (e.drop i) = rootE e
  | [], i, h => by simp at h
  | [x], i, h => by
    have : i = 0 := by simp at h; omega
    subst this
    rfl
  | x :: y :: r, 0, _ => rfl
  | x :: y :: r, i + 1, h => by
    rw [List.drop_succ_cons]
    exact rootE_drop (y :: r) i (by simpa using h)
theorem codeE_drop (e : List (Int × Option Int)) (i : Nat) (h : i < e.length) : codeE (e.drop i) = (e.getD i (0, none)).1 := by
  rw [List.drop_eq_getElem_cons h, List.getD_eq_getElem?_getD, List.getElem?_eq_getElem h]
  rfl
theorem hasE_get : ∀ (r : List (Int × Option Int)) (j : Nat), j < r.length → hasE (r.getD j (0, none)).1 r = true
  | [], j, h => by simp at h
  | (d, a) :: r, 0, _ => by simp [hasE]
  | (d, a) :: r, j + 1, h => by
    have := hasE_get r j (by simpa using h)
    rw [List.getD_cons_succ]
    show (d == _ || hasE _ r) = true
    rw [this, Bool.or_true]
theorem hasE_drop (e : List (Int × Option Int)) (i j : Nat) (h : i + j < e.length) : hasE (e.getD (i + j) (0, none)).1 (e.drop i) = true := by
  have := hasE_get (e.drop i) j (by rw [List.length_drop]; omega)
  rwa [List.getD_eq_getElem?_getD, List.getElem?_drop, ← List.getD_eq_getElem?_getD] at this

theorem chS {wr W W' : World} {p q : Addr} {x y : Value} (h : W.cell? p = some x ∧ W.cell? q = some y ∧ Hid (Below wr.heap.size wr W)) (hb : Below W.heap.size W W') :
    W'.cell? p = some x ∧ W'.cell? q = some y ∧ Hid (Below wr.heap.size wr W') :=
  ⟨grown_cell hb h.1, grown_cell hb h.2.1, hid_ (below_then h.2.2.out hb)⟩

set_option maxRecDepth 100000 in
set_option maxHeartbeats 16000000 in
theorem chain_walk (l : List LinkT) (lv : Value) (w : World) (hg : ErrT w) (hl : ∀ x ∈ l, x.ok) (hv : Rd w z0 lv 3 l.length (l.flatMap LinkT.cells)) :
    Calls Tryd.prog 5 #[lv] w fun e w' => e = .returned (.bool true) ∧ Below w.heap.size w w' := by
  have HG := hid_ hg
  have HV := hid_ hv
  clear hg hv
  go_enter Tryd.func5, Tryd.ntmps5
  go_wp2_with fail
  refine (awake01 _ HG.out).mono ?_
  rintro e w1 ⟨rfl, b1⟩
  go_wp2_with fail
  refine (made_any l lv _ hl (HV.out.fr (Fr.of_below b1 (fun _ => False)) (fun h => h))).mono ?_
  rintro e w2 ⟨ev, n, hn, hn2, rfl, hE, b2⟩
  have hgood := madeE_good l hl n hn2
  obtain ⟨e, he⟩ : ∃ e, madeE l n = e := ⟨_, rfl⟩
  rw [he] at hE hgood ⊢
  have B2 := below_then b1 b2
  have HE2 := hid_ hE
  have hel : e.length ≤ 12 := Nat.le_trans hgood.1 hn
  clear b1 b2 hE hgood he
  go_wp2_with fail
  refine (fault_trail z0 _ e _ (HG.out.below B2) HE2.out (by omega)).mono ?_
  rintro x w3 ⟨t, rfl, ht, b3⟩
  have B3 := below_then B2 b3
  have RT := ht.rd (fin0 w2)
  have HRT := hid_ RT
  have HE3 := hid_ (HE2.out.fr (Fr.of_below b3 (fun _ => False)) (fun h => h))
  obtain ⟨ta, tc, rfl, htc, htm, -⟩ := id RT
  have htm2 : tc ≤ 9223372036854775807 := by simpa [maxLen] using htm
  clear ht b3 B2 HE2 RT htm
  go_wp2_with fail
  go_loopw [3, 6] (fun ev0 iv wr => ∃ (ev : Value) (i : Nat), ev = ev0 ∧ i ≤ e.length ∧ iv = .int .i64 i ∧ IsErr wr z0 ev (e.drop i) ∧ Below w3.heap.size w3 wr) (fun _ iv _ => e.length - (intOf iv).toNat)
  case atStart => exact ⟨_, 0, rfl, Nat.zero_le _, rfl, HE3.out, Below.refl _ _⟩
  case round =>
    obtain ⟨ev, i, rfl, hi, rfl, hE, b4⟩ := hrel
    have HE := hid_ hE
    have B4 := below_then B3 b4
    clear HE3 hE
    by_cases hlt : i < e.length
    · have i0 : (0 : Int) ≤ (i : Int) := Int.natCast_nonneg _
      have i1 : (i : Int) < (e.length : Int) := by omega
      have hdne : e.drop i ≠ [] := fun h => by have := congrArg List.length h; rw [List.length_drop] at this; simp at this; omega
      obtain ⟨u, v, rfl⟩ := isErr_iface HE.out hdne
      obtain ⟨tb, tf, rfl, hc⟩ := (HRT.out.fr (Fr.of_below b4 (fun _ => False)) (fun h => h)).at (by omega)
      have cell : ∀ k, k < e.length → wr.cell? ⟨tb, tf + k, none⟩ = some (.int .i64 (e.getD k (0, none)).1) := fun k hk => hc k _ (by
        rw [List.getElem?_map, List.getD_eq_getElem?_getD, List.getElem?_eq_getElem hk]; rfl)
      have hcel := cell
      have HCEL := hid_ hcel
      obtain ⟨m1, hm1⟩ : ∃ m, e.length = m + 1 := ⟨e.length - 1, by omega⟩
      obtain ⟨m, hm⟩ : ∃ m, e.length - i = m := ⟨_, rfl⟩
      have c1 := cell i hlt
      have c2 := cell m1 (by omega)
      rw [← codeE_drop e i hlt] at c1
      have hroot : (e.getD m1 (0, none)).1 = rootE e := by
        have h1 := rootE_get e (by intro h; rw [h] at hlt; simp at hlt)
        rw [List.getElem?_map, show e.length - 1 = m1 by omega] at h1
        rw [List.getD_eq_getElem?_getD]
        cases h2 : e[m1]? with
        | none => rw [h2] at h1; cases h1
        | some y =>
          rw [h2] at h1
          simp only [Option.map_some, Option.some.injEq, Value.int.injEq, true_and] at h1
          exact h1
      rw [hroot] at c2
      have hdl : (e.drop i).length = m := by rw [List.length_drop]; exact hm
      have HC1 := hid_ (fun W (hW : Below wr.heap.size wr W) => fault_code z0 _ _ W ((HG.out.below B4).below hW) (HE.out.fr (Fr.of_below hW (fun _ => False)) (fun h => h)))
      have HC2 := hid_ (fun W (hW : Below wr.heap.size wr W) => fault_root z0 _ _ W ((HG.out.below B4).below hW) (HE.out.fr (Fr.of_below hW (fun _ => False)) (fun h => h)) (by omega))
      have HC3 := hid_ (fun W (hW : Below wr.heap.size wr W) => fault_trail z0 _ _ W ((HG.out.below B4).below hW) (HE.out.fr (Fr.of_below hW (fun _ => False)) (fun h => h)) (by omega))
      rw [rootE_drop e i hlt] at HC2
      rw [hdl] at HC3
      have w1' : IntKind.i64.wrap ((e.length : Int) - 1) = (m1 : Int) := by rw [hm1]; simp [IntKind.wrap, IntKind.signed, IntKind.bits]; omega
      have w2' : IntKind.i64.wrap ((e.length : Int) - (i : Int)) = (m : Int) := by simp [IntKind.wrap, IntKind.signed, IntKind.bits]; omega
      have hb0 : Hid (Below wr.heap.size wr wr.drew) := hid_ (below_drew wr)
      have m0 : (0 : Int) ≤ (m1 : Int) := Int.natCast_nonneg _
      have m2 : (m1 : Int) < (e.length : Int) := by omega
      have g1 : decide (e.length ≤ i) = false := by simpa using hlt
      have g2 : (codeE (e.drop i) != codeE (e.drop i)) = false := by simp
      have g3 : (rootE e != rootE e) = false := by simp
      have HM := hid_ hm
      clear cell hcel hc hroot hdl hm1 hm hdne
      go_wp2_with fail
      go_region_held3 (fun w' => w'.cell? ⟨tb, tf + i, none⟩ = some (.int .i64 (codeE (e.drop i))) ∧ w'.cell? ⟨tb, tf + m1, none⟩ = some (.int .i64 (rootE e)) ∧ Hid (Below wr.heap.size wr w')) (first | exact ⟨c1, c2, hb0⟩ | exact ⟨d1, d2, hB1⟩ | exact ⟨f1, f2, hB2⟩ | exact ⟨g1', g2', hB3⟩) (first | (refine (HC1.out _ hb0.out).mono ?_; rintro x W1 ⟨rfl, hb1⟩; have hB1 := hid_ (below_then hb0.out hb1); have d1 := grown_cell (w := wr.drew) hb1 c1; have d2 := grown_cell (w := wr.drew) hb1 c2) | (refine (HC2.out _ hB1.out).mono ?_; rintro x W2 ⟨rfl, hb2⟩; have hB2 := hid_ (below_then hB1.out hb2); have f1 := grown_cell hb2 d1; have f2 := grown_cell hb2 d2) | (refine (HC3.out _ hB2.out).mono ?_; rintro x W3 ⟨v3, rfl, hn3, hb3⟩; obtain ⟨a3, p3, rfl, -, -⟩ := hn3.form; have hB3 := hid_ (below_then hB2.out hb3); have g1' := grown_cell hb3 f1; have g2' := grown_cell hb3 f2; clear hn3))
      have HB := hid_ hB3.out
      have hm := HM.out
      have hne : ¬ tc = i := by omega
      clear c1 c2 d1 d2 f1 f2 g1' g2' hb0 hB1 hB2 hB3 hb1 hb2 hb3 w1' w2' HC1 HC2 HC3
      go_wp2_with fail
      go_loopw [60] (fun jv W => ∃ j : Nat, j ≤ m ∧ jv = .int .i64 j ∧ W3 = W) (fun jv _ => m - (intOf jv).toNat)
      case atStart => exact ⟨0, Nat.zero_le _, rfl, rfl⟩
      case round =>
        obtain ⟨j, hj, rfl, rfl⟩ := hrel
        by_cases hjl : j < m
        · have j0 : (0 : Int) ≤ (j : Int) := Int.natCast_nonneg _
          have j1 : (j : Int) < (m : Int) := by omega
          have m12 : m ≤ 12 := by omega
          have cj := grown_cell HB.out (HCEL.out (i + j) (by omega))
          rw [← Nat.add_assoc] at cj
          have HH := hid_ (fault_has z0 _ _ (e.getD (i + j) (0, none)).1 W3 (HE.out.fr (Fr.of_below HB.out (fun _ => False)) (fun h => h)))
          rw [hasE_drop e i j (by omega)] at HH
          generalize (e.getD (i + j) (0, none)).1 = y at cj HH
          clear hm
          go_wp2_with fail
          refine HH.out.mono ?_
          rintro x W4 ⟨rfl, rfl⟩
          go_wp2
          go_roundw
          case rel => exact ⟨j + 1, by omega, by go_num, trivial⟩
          case measure => simp [intOf]; omega
        · obtain rfl : j = m := by omega
          have hdr : e.drop i = (e.getD i (0, none)) :: e.drop (i + 1) := by
            rw [List.drop_eq_getElem_cons hlt, List.getD_eq_getElem?_getD, List.getElem?_eq_getElem hlt]
            rfl
          have hE3 := HE.out.fr (Fr.of_below HB.out (fun _ => False)) (fun h => h)
          rw [hdr] at hE3
          have HUN := hid_ (err_unwrap z0 _ _ _ W3 hE3)
          have HB4 := hid_ (below_then b4 HB.out)
          clear hdr hE3 hm
          go_wp2_with fail
          refine HUN.out.mono ?_
          rintro x W4 ⟨cv, rfl, rfl, hcv⟩
          have HCV := hid_ hcv
          clear hcv
          go_wp2
          go_roundw
          case rel => exact ⟨_, i + 1, rfl, by omega, by go_num, HCV.out, HB4.out⟩
          case measure => simp [intOf]; omega
    · obtain rfl : i = e.length := by omega
      have hn0 := HE.out
      rw [List.drop_length] at hn0
      simp only [IsErr] at hn0
      subst hn0
      clear HE
      go_wp2
      go_ret
      exact ⟨rfl, B4⟩
end Go.Proofs.YtohmnkjiohjjoaaDoor
