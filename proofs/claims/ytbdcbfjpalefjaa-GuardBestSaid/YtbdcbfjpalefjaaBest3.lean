/- GuardBest's walk. No condition but the tables' own ranges. -/
import Derived.Test.YtbdcbfjpalefjaaBest2
import Derived.Test.YtbdcbfjpalefjaaCopied
import Derived.Test.YtbdcbfjpalefjaaApart
set_option linter.unusedSimpArgs false
set_option linter.unusedVariables false
namespace Go.Proofs.Ytbdcbfjpalefjaa
open Go.RowKit Go.Maps

theorem info_str : (Try.prog.info? 9).map (fun i => (i.zero.map (·.cells.size), i.size, i.bytes)) = some (some 1, 1, 16) := by kernel_rfl
theorem info_u8' : (Try.prog.info? 5).map (fun i => (i.zero.map (·.cells.size), i.size, i.bytes)) = some (some 1, 1, 1) := by kernel_rfl

/-- A put, or a take at a time. -/
structure BAct where
  take : Bool
  at_ : Int
  dv : Value
  d : List UInt8
  deriving Inhabited
def BAct.cells (x : BAct) : List Value := [.bool x.take, .int .i64 x.at_, x.dv]
theorem fin0 (w : World) : Fin (fun _ => 0) w := fun _ _ => rfl
theorem Fr.old {C' : Nat → Nat} {w w' : World} (h : Fr (· ≠ 0) (fun _ => 0) C' w w') : Below w.heap.size w w' := h.below (fun _ _ hn => hn rfl)
structure BAct.ok (w : World) (x : BAct) : Prop where
  at_ : I64 x.at_
  data : IsBytes w (fun _ => 0) x.dv x.d
  len : x.d.length ≤ 140737488355328

def strV (d : List UInt8) : Value := .string ⟨d.toArray⟩

set_option maxRecDepth 100000 in
set_option maxHeartbeats 1600000 in
theorem best_walk (c : Cfg) (hok : c.ok) (l : List BAct) (pv qv rv lv : Value) (w : World) (hlk : ∀ x ∈ l, BAct.ok w x) (hl : Lists w (fun _ => 0) c pv qv rv) (hv : Rd w (fun _ => 0) lv 3 l.length (l.flatMap BAct.cells)) :
    Calls Try.prog 6 #[c.v pv qv rv, lv] w fun e w' => e = .returned (.bool true) ∧ Below w.heap.size w w' := by
  obtain ⟨a, cap, rfl, hcap, hmax, -⟩ := id hv
  unfold maxLen at hmax
  unfold Cfg.v
  go_enter Try.func6, Try.ntmps6
  go_upto_region 1 with (fail)
  refine gen_world (fun W => Below w.heap.size w W ∧ Bk W w.heap.size 26 (c.cells pv qv rv)) ⟨(Below.refl w.heap.size w).alloc (Nat.le_refl _) _, Bk.new _ _ _⟩ ?_
  rintro W ⟨hW, hB⟩
  go_wp2_with fail
  refine (awake09 _).mono ?_
  rintro e w1 ⟨rfl, hw1⟩
  have hB1 : Bk w1 w.heap.size 26 (c.cells pv qv rv) := hB.same (hw1.block _ hB.lt)
  have hw1' := below_then hW hw1
  have hl1 : Lists w1 (fun _ => 0) c pv qv rv := hl.fr (Fr.of_below hw1' (fun _ => False)) (fun h => h)
  have dc := hB1.cfg0
  go_wp2_with fail
  refine (law6Works c hok _ pv qv rv w1 hl1 (fun _ _ => rfl)).mono ?_
  cases hs : sndE c with
  | some x =>
    simp only [Option.isNone_some]
    rintro e w2 ⟨rfl, hw2⟩
    clear dc hs
    go_wp2
    go_ret
    exact ⟨rfl, below_then hw1' hw2⟩
  | none =>
    simp only [Option.isNone_none]
    rintro e w2 ⟨rfl, hw2⟩
    have hw2' := below_then hw1' hw2
    have hB2 : Bk w2 w.heap.size 26 (c.cells pv qv rv) := hB1.same (hw2.block _ hB1.lt)
    have hR := (sndE_good hs).rg
    have hS := hid_ hs
    clear dc hs hB1 hl1 hB
    go_upto_region 6 with (fail)
    have hF0 : Fr (· ≠ 0) (fun _ => 0) (mark w2.heap.size) w2 (w2.alloc (.cells #[.slice none 0 0] 53)) :=
      ((Fr.refl (· ≠ 0) (fun _ => 0) w2).alloc _).recolour (fun b hb _ => by unfold mark; rw [if_neg (by omega)]) (fun b hb => by unfold mark; rw [if_neg (by simp at hb; omega)])
    refine gen_world (fun W => Fr (· ≠ 0) (fun _ => 0) (mark w2.heap.size) w2 W ∧ IsBest W (mark w2.heap.size) 1 w2.heap.size []) ⟨hF0, ⟨.slice none 0 0, [], Bk.new _ _ _, mark_self _, Sl.nil _ _ _ _ _, trivial⟩⟩ ?_
    clear hF0
    rintro W3 ⟨hF, hBe⟩
    have hB3 : Bk W3 w.heap.size 26 (c.cells pv qv rv) := hB2.fr hF (by simp)
    have n0 := hR.n0
    have n1 := hR.n1
    have s0 := hR.s0
    have s1 := hR.s1
    have g0 := hR.g0
    have g1 := hR.g1
    have m0 : 0 ≤ c.nodes * c.slot := Int.mul_nonneg (by omega) (by omega)
    have m1 : c.nodes * c.slot ≤ 117440512 := by
      have := Int.mul_le_mul n1 s1 (by omega) (by omega)
      omega
    have d0 := hB3.cell_ 0 rfl
    have d2 := hB3.cell_ 2 rfl
    have d3 := hB3.cell_ 3 rfl
    go_wp2
    go_quiet (fail)
    go_wp2
    clear d0 d2 d3
    refine gen_world (fun W => Fr (· ≠ 0) (fun _ => 0) (mark w2.heap.size) w2 W ∧ IsBest W (mark w2.heap.size) 1 w2.heap.size []) ⟨hF.drewN _, hBe.fr ((Fr.refl (fun _ => False) _ W3).drewN _) (fun h => h) (fun h => h)⟩ ?_
    clear hF hBe hB3
    rintro W3 ⟨hF, hBe⟩
    obtain ⟨g, hg⟩ : ∃ g, g = w2.heap.size := ⟨_, rfl⟩
    rw [← hg] at hBe hF ⊢
    clear hg
    go_loopw [6, 9] (fun sv iv wr => ∃ (i : Nat) (q : List (List UInt8)) (C : Nat → Nat), i ≤ l.length ∧ iv = .int .i64 i ∧ Fr (· ≠ 0) (fun _ => 0) C w2 wr ∧ IsBest wr C 1 g q ∧ Sl wr C 2 sv 9 1 q.length (q.map strV) ∧ q.length ≤ 4) (fun _ iv _ => l.length - (intOf iv).toNat)
    case atStart => exact ⟨0, [], _, Nat.zero_le _, rfl, hF, hBe, Sl.nil _ _ _ _ _, by simp⟩
    case round =>
      clear hF hBe
      obtain ⟨i, q, C, hi, rfl, hF, hBe, hSl, hq4⟩ := hrel
      by_cases hlt : i < l.length
      · by_cases h100 : i < 100
        · obtain ⟨bb, off, rfl, _, hcell⟩ := hv.row (fun _ => rfl) hlt
          have hxo : BAct.ok w (l.getD i default) := hlk _ (by rw [List.getD_eq_getElem?_getD, List.getElem?_eq_getElem hlt]; exact List.getElem_mem hlt)
          generalize l.getD i default = x at *
          have hwr := below_then hw2' hF.old
          have hce : ∀ j v, x.cells[j]? = some v → wr.cell? ⟨bb, off + i * 3 + j, none⟩ = some v := fun j v hv => grown_cell hwr (hcell j v hv)
          have e0 := hce 0 _ rfl
          have e1 := hce 1 _ rfl
          have e2 := hce 2 _ rfl
          simp only [Nat.add_zero] at e0
          obtain ⟨xt, xa, xv, xd⟩ := x
          obtain ⟨⟨x0, x1⟩, hxd, hxl⟩ := hxo
          simp only at e0 e1 e2 x0 x1 hxd hxl
          have hBr : Bk wr w.heap.size 26 (c.cells pv qv rv) := hB2.fr hF (by simp)
          have hxr : IsBytes wr (fun _ => 0) xv xd := Rd.fr hxd (Fr.of_below hwr (fun _ => False)) (fun h => h)
          have hCx : IsBytes wr C xv xd := by
            have := Rd.fr (Rd.fr hxd (Fr.of_below hw2' (fun _ => False)) (fun h => h)) hF (by simp)
            exact this
          have i0 : (0 : Int) ≤ (i : Int) := Int.natCast_nonneg _
          have i1 : (i : Int) < (l.length : Int) := by omega
          clear hcell hce hxd
          obtain ⟨sa, scap, rfl, hsc, hscm, hslen⟩ := hSl.form
          obtain ⟨va, vc, rfl, hvc, hvm, -⟩ := id hCx
          unfold maxLen at hvm hscm
          have hfin : Fin C wr := hF.fin (fin0 w2)
          have hCb : C wr.heap.size = 0 := hfin _ (Nat.le_refl _)
          obtain ⟨i1', z1', hi1, hz1, hzs1, his1, hby1⟩ := info_row info_str
          cases xt with
          | false =>
            go_upto_region 13 with (fail)
            refine gen_world (fun W => Fr (· ≠ 0) (fun _ => 0) C w2 W ∧ IsBest W C 1 g q ∧ Sl W C 2 (.slice sa q.length scap) 9 1 q.length (q.map strV) ∧ Bk W wr.heap.size 57 [.bool false, .int .i64 xa, .slice va xd.length vc] ∧ IsBytes W C (.slice va xd.length vc) xd)
              ⟨hF.alloc _, hBe.fr ((Fr.refl (fun _ => False) C wr).alloc _) (fun h => h) (fun h => h), hSl.alloc _, Bk.new _ _ _, Rd.fr hCx ((Fr.refl (fun _ => False) C wr).alloc _) (fun h => h)⟩ ?_
            clear hBe hSl hCx e0 e1 e2 hBr hxr
            rintro W4 ⟨hF4, hBe4, hSl4, hX4, hD4⟩
            have hfin4 : Fin C W4 := hF4.fin (fin0 w2)
            have c4 := hX4.cell_ 2 rfl
            by_cases hk : q.length < 4 ∧ xd.length ≤ 16
            · obtain ⟨hk1, hk2⟩ := hk
              have hk1' : (q.length : Int) < 4 := by omega
              have hk2' : (xd.length : Int) ≤ 16 := by omega
              obtain ⟨b5, o5, p5, W5, hr5, hR5, hb5, hge5, hraw5⟩ := copy_of (P := Try.prog) W4 hfin4 Try.underlying55 info_u8' hD4.src (by unfold maxLen; omega) (by omega)
              have HR5 := hid_ hr5
              clear hr5
              have F5 := hF4.trans (Fr.of_below hb5 (· ≠ 0))
              have G5 := Fr.of_below (C := C) hb5 (fun _ => False)
              have hBe5 := hBe4.fr G5 (fun h => h) (fun h => h)
              have hSl5 := hSl4.fr G5 (fun h => h)
              have hX5 := hX4.fr G5 (fun h => h)
              have hD5 := Rd.fr hD4 G5 (fun h => h)
              have c4' := fun o => (hX4.alloc o).cell_ 2 rfl
              go_wp2_with (refine wpList_append_run HR5.out (by rfl) (by rfl) (by rfl) (by rfl) ?_)
              refine (bestPut_ok C 1 g (by omega) q _ xd W5 (F5.fin (fin0 w2)) hBe5 hR5.src hk1 hk2).mono ?_
              rintro e W6 ⟨rfl, C6, f6, hBe6⟩
              have F6 := F5.trans (f6.mono (K' := (· ≠ 0)) (fun c h => by omega))
              have hSl6 := hSl5.fr f6 (by omega)
              have hX6 := hX5.fr f6 (by rw [hCb]; omega)
              have hD6 : IsBytes W6 C6 (.slice va xd.length vc) xd := Rd.fr hD5 f6 (by omega)
              have hcs := bytes_str hD6
              have c6 := hX6.cell_ 2 rfl
              obtain ⟨v7, W7, C7, hr7, hSl7, F7, ho7, hfar7⟩ := Sl.append (P := Try.prog) (t := 54) 0 Try.underlying54 hi1 his1 hz1 hzs1 (hSl6.alloc (.cells #[.string ⟨xd.toArray⟩] 9)) (Src.new W6 9 1 1 1 [.string ⟨xd.toArray⟩] rfl) (by simp [Value.oneCell']) (by unfold maxLen; omega) (by rw [hby1]; omega)
              obtain ⟨a7, p7, rfl, -⟩ := id hSl7.form
              have HR7 := hid_ hr7
              clear hr7 c4 c4' HR5 hBe5 hSl5 hX5 hD5 hR5 hraw5
              go_wp2_with (refine wpList_append_run HR7.out (by rfl) (by rfl) (by rfl) (by rfl) ?_)
              have F67 := (Fr.refl (· = 2) C6 W6).alloc (.cells #[.string ⟨xd.toArray⟩] 9) |>.trans F7
              go_roundw
              case rel => exact ⟨i + 1, q ++ [xd], C7, by omega, by go_num, F6.trans (F67.mono (fun c h => by omega)), hBe6.fr F67 (by omega) (by omega), by
                rw [List.length_append, List.map_append]
                exact hSl7, by simp; omega⟩
              case measure => simp [intOf]; omega
            · have hk' : 4 ≤ q.length ∨ 16 < xd.length := by omega
              · obtain ⟨b5, o5, p5, W5, hr5, hR5, hb5, hge5, hraw5⟩ := copy_of (P := Try.prog) W4 hfin4 Try.underlying55 info_u8' hD4.src (by unfold maxLen; omega) (by omega)
                have HR5 := hid_ hr5
                clear hr5
                have F5 := hF4.trans (Fr.of_below hb5 (· ≠ 0))
                have G5 := Fr.of_below (C := C) hb5 (fun _ => False)
                have hBe5 := hBe4.fr G5 (fun h => h) (fun h => h)
                have hSl5 := hSl4.fr G5 (fun h => h)
                have c4' := fun o => (hX4.alloc o).cell_ 2 rfl
                have HK := hid_ hk'
                by_cases hk1 : q.length < 4
                · have hk1' : (q.length : Int) < 4 := by omega
                  have hk2' : (16 : Int) < (xd.length : Int) := by omega
                  clear hk hk' hk1
                  go_wp2_with (refine wpList_append_run HR5.out (by rfl) (by rfl) (by rfl) (by rfl) ?_)
                  refine (bestPut_no C 1 g q _ xd W5 hBe5 hR5.src HK.out).mono ?_
                  rintro e W6 ⟨rfl, rfl⟩
                  clear c4 c4' HR5
                  go_wp2
                  go_roundw
                  case rel => exact ⟨i + 1, q, C, by omega, by go_num, F5, hBe5, hSl5, hq4⟩
                  case measure => simp [intOf]; omega
                · have hk1' : (4 : Int) ≤ (q.length : Int) := by omega
                  clear hk hk' hk1
                  go_wp2_with (refine wpList_append_run HR5.out (by rfl) (by rfl) (by rfl) (by rfl) ?_)
                  refine (bestPut_no C 1 g q _ xd W5 hBe5 hR5.src HK.out).mono ?_
                  rintro e W6 ⟨rfl, rfl⟩
                  clear c4 c4' HR5
                  go_wp2
                  go_roundw
                  case rel => exact ⟨i + 1, q, C, by omega, by go_num, F5, hBe5, hSl5, hq4⟩
                  case measure => simp [intOf]; omega
          | true =>
            go_upto_region 18 with (fail)
            refine gen_world (fun W => Fr (· ≠ 0) (fun _ => 0) C w2 W ∧ IsBest W C 1 g q ∧ Sl W C 2 (.slice sa q.length scap) 9 1 q.length (q.map strV) ∧ Bk W wr.heap.size 57 [.bool true, .int .i64 xa, .slice va xd.length vc] ∧ Bk W w.heap.size 26 (c.cells pv qv rv))
              ⟨hF.alloc _, hBe.fr ((Fr.refl (fun _ => False) C wr).alloc _) (fun h => h) (fun h => h), hSl.alloc _, Bk.new _ _ _, hBr.alloc _⟩ ?_
            clear hBe hSl hCx e0 e1 e2 hBr hxr
            rintro W4 ⟨hF4, hBe4, hSl4, hX4, hB4⟩
            have hfin4 : Fin C W4 := hF4.fin (fin0 w2)
            have c4 := hX4.cell_ 1 rfl
            have dc := hB4.cfg0
            have hrd : c.round = c.nodes * c.slot + c.gap := rfl
            cases hk : takeOk c q xa with
            | false =>
              go_wp2_with fail
              refine (bestTake_no c pv qv rv hR C 1 g q xa W4 hBe4 hk).mono ?_
              rintro e W5 ⟨rfl, hw5⟩
              have F5 := hF4.trans (Fr.of_below hw5 (· ≠ 0))
              have G5 := Fr.of_below (C := C) hw5 (fun _ => False)
              have hBe5 := hBe4.fr G5 (fun h => h) (fun h => h)
              have hSl5 := hSl4.fr G5 (fun h => h)
              have c5 := (hX4.fr G5 (fun h => h)).cell_ 1 rfl
              unfold takeOk at hk
              simp only [Bool.and_eq_false_iff, decide_eq_false_iff_not] at hk
              clear dc c4 hBe4 hSl4 hX4 hB4 hF4 G5
              have hql := hSl5.form
              by_cases h0 : 0 < q.length
              · have h0' : (0 : Int) < (q.length : Int) := by omega
                by_cases h1 : xa < c.nodes * c.slot
                · clear hk hrd hql hsc hscm hslen
                  go_wp2
                  go_quiet (fail)
                  go_wp2
                  go_roundw
                  case rel => exact ⟨i + 1, q, C, by omega, by go_num, F5.drewN _, hBe5.fr ((Fr.refl (fun _ => False) C W5).drewN _) (fun h => h) (fun h => h), hSl5.drewN _, hq4⟩
                  case measure => simp [intOf]; omega
                · have h2 : c.nodes * c.slot + c.gap ≤ xa := by omega
                  have h1' : c.nodes * c.slot ≤ xa := by omega
                  clear hk hrd hql hsc hscm hslen h1
                  have h2' : decide (xa < c.nodes * c.slot + c.gap) = false := by simpa using h2
                  go_wp2
                  go_quiet (fail)
                  go_wp2
                  go_roundw
                  case rel => exact ⟨i + 1, q, C, by omega, by go_num, F5.drewN _, hBe5.fr ((Fr.refl (fun _ => False) C W5).drewN _) (fun h => h) (fun h => h), hSl5.drewN _, hq4⟩
                  case measure => simp [intOf]; omega
              · have hq0 : q = [] := List.eq_nil_of_length_eq_zero (by omega)
                subst hq0
                clear hk hrd hql hsc hscm hslen
                simp only [List.length_nil]
                go_wp2
                go_quiet (fail)
                go_wp2
                go_roundw
                case rel => exact ⟨i + 1, [], C, by omega, by go_num, F5.drewN _, hBe5.fr ((Fr.refl (fun _ => False) C W5).drewN _) (fun h => h) (fun h => h), hSl5.drewN _, hq4⟩
                case measure => simp [intOf]; omega
            | true =>
              have hk0 := hk
              unfold takeOk at hk0
              simp only [Bool.and_eq_true, decide_eq_true_eq] at hk0
              obtain ⟨⟨hk1, hk2⟩, hk3⟩ := hk0
              obtain ⟨d, q', rfl⟩ : ∃ d q', q = d :: q' := by
                cases q with
                | nil => simp at hk1
                | cons x y => exact ⟨x, y, rfl⟩
              have HK := hid_ hk
              clear hk
              go_wp2_with fail
              refine (bestTake_ok c pv qv rv hR C 1 g (by omega) d q' xa W4 hBe4 HK.out).mono ?_
              rintro e W5 ⟨v5, rfl, hD5, f5, hBe5⟩
              have F5 := hF4.trans (f5.mono (K' := (· ≠ 0)) (fun c h => by omega))
              have hSl5 := hSl4.fr f5 (by omega)
              have c5 := (hX4.fr f5 (by rw [hCb]; omega)).cell_ 1 rfl
              obtain ⟨ba, oa, rfl, hCa, _, hca⟩ := hSl5.at (by simp)
              have s0 := hca 0 _ rfl
              have hcs := fun n => bytes_str (w := W5.drewN n) (C := C) hD5
              obtain ⟨da, dcap, rfl, -⟩ := id hD5
              have hT := Sl.tail (xs := [strV d]) (cs := q'.map strV) (n := q'.length) hSl5 rfl
              unfold strV at s0
              clear dc c4 hBe4 hSl4 hX4 hB4 hF4 f5 hca
              simp only [Nat.add_zero, List.length_cons] at s0 hsc hslen hq4 ⊢
              have h0' : (0 : Int) < (q'.length : Int) + 1 := by omega
              rw [hrd] at hk3
              clear hrd hslen hSl5 hk1
              obtain ⟨m, hm⟩ : ∃ m, m = q'.length := ⟨_, rfl⟩
              rw [← hm] at h0' hT hsc hq4 ⊢
              have HM := hid_ hm
              clear hm
              go_wp2
              go_quiet (fail)
              by_cases hc1 : scap = 1
              · subst hc1
                obtain rfl : m = 0 := by omega
                go_wp2
                go_roundw
                case rel => exact ⟨i + 1, q', C, by omega, by go_num, F5.drewN _, hBe5.fr ((Fr.refl (fun _ => False) C W5).drewN _) (fun h => h) (fun h => h), by rw [← HM.out]; simpa using hT.drewN _, by have := HM.out; omega⟩
                case measure => simp [intOf]; omega
              · rw [if_neg hc1] at hT
                go_wp2
                go_roundw
                case rel => exact ⟨i + 1, q', C, by omega, by go_num, F5.drewN _, hBe5.fr ((Fr.refl (fun _ => False) C W5).drewN _) (fun h => h) (fun h => h), by rw [← HM.out]; exact hT.drewN _, by have := HM.out; omega⟩
                case measure => simp [intOf]; omega
        · go_wp2
          go_ret
          exact ⟨rfl, below_then hw2' hF.old⟩
      · go_wp2
        go_ret
        exact ⟨rfl, below_then hw2' hF.old⟩
end Go.Proofs.Ytbdcbfjpalefjaa
