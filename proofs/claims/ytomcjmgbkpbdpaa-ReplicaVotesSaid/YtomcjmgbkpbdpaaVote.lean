/- replica.Vote. No condition. -/
import Derived.Test.YtomcjmgbkpbdpaaRep
import Derived.Test.YtomcjmgbkpbdpaaCnt
import Derived.Test.YtomcjmgbkpbdpaaSl
set_option linter.unusedSimpArgs false
set_option linter.unusedVariables false
namespace Go.Proofs.Ytomcjmgbkpbdpaa
open Go.RowKit Go.Maps

/-- How often a value is told; none: never. -/
def cntF (vs : List (Option Int)) (v : Int) : Option Int := if vs.count (some v) = 0 then none else some (vs.count (some v) : Int)
theorem cntF_nil : cntF [] = fun _ => none := by funext v; simp [cntF]
theorem cntF_none (vs : List (Option Int)) : cntF (vs ++ [none]) = cntF vs := by
  funext v
  unfold cntF
  rw [List.count_append, List.count_singleton]
  simp
theorem cntF_some (vs : List (Option Int)) (x : Int) : cntF (vs ++ [some x]) = upd (cntF vs) x (some ((cntF vs x).getD 0 + 1)) := by
  funext v
  unfold upd cntF
  rw [List.count_append, List.count_singleton]
  by_cases h : v = x
  · subst h
    simp
    by_cases h0 : vs.count (some v) = 0
    · simp [h0]
    · simp [h0]
  · have h' : ¬ x = v := fun e => h e.symm
    simp [h, h']
theorem cntF_le (vs : List (Option Int)) (x : Int) : 0 ≤ (cntF vs x).getD 0 ∧ (cntF vs x).getD 0 ≤ vs.length := by
  unfold cntF
  have := List.count_le_length (a := some x) (l := vs)
  split <;> simp <;> omega

structure VoteT where
  tb : Nat
  f : Int → Option Int
  d : Int
instance : Inhabited VoteT := ⟨⟨0, fun _ => none, 0⟩⟩
def VoteT.p (t : VoteT) : Value := .pointer (some ⟨t.tb, 0, none⟩)

set_option maxRecDepth 100000 in
set_option maxHeartbeats 8000000 in
theorem repVote (C : Nat → Nat) (ka : Nat) (l : List VoteT) (lv : Value) (key : Int) (k0 : 0 ≤ key) (k1 : key < 256) (w : World) (hf : Fin C w) (hl : Sl w C ka lv 24 1 l.length (l.map VoteT.p)) (hT : ∀ t ∈ l, ∃ kc, IsTab w C kc t.tb t.f t.d) (hln : l.length ≤ 100) :
    Calls Try.prog 14 #[lv, .int .u8 key] w fun e w' => Below w.heap.size w w' ∧ ((∃ v, e = .returned (.tuple #[.int .u16 v, .nilIface]) ∧ l.length < 2 * (l.map fun t => t.f key).count (some v)) ∨ (e = .returned (.tuple #[.int .u16 0, errv (some 17)]) ∧ ∀ v, 2 * (l.map fun t => t.f key).count (some v) ≤ l.length)) := by
  obtain ⟨la, lc, rfl, hlc, hlm, -⟩ := hl.form
  unfold maxLen at hlm
  have hmm := @run_makeMap Try.prog
  have HL := hid_ hl
  have HT := hid_ hT
  clear hl hT
  go_enter Try.func14, Try.ntmps14
  go_upto_block 1 with (fail)
  have V0 : Below w.heap.size w (w.alloc (.map #[] 0)) := (Below.refl _ w).alloc (Nat.le_refl _) _
  have M0 := CntIs.made w
  rw [← cntF_nil] at M0
  have HM0 := hid_ M0
  clear M0
  go_loopw [16] (fun iv wr => ∃ i m : Nat, i ≤ l.length ∧ m ≤ i ∧ iv = .int .i64 i ∧ Below w.heap.size w wr ∧ CntIs wr w.heap.size m (cntF ((l.take i).map fun t => t.f key))) (fun iv _ => l.length - (intOf iv).toNat)
  case atStart => exact ⟨0, 0, Nat.zero_le _, Nat.le_refl _, rfl, V0, HM0.out⟩
  case round =>
    obtain ⟨i, m, hi, hm, rfl, V, M⟩ := hrel
    clear HM0
    by_cases hlt : i < l.length
    · have i0 : (0 : Int) ≤ (i : Int) := Int.natCast_nonneg _
      have i1 : (i : Int) < (l.length : Int) := by omega
      have G := Fr.of_below (C := C) V (fun _ => False)
      obtain ⟨bb, off, rfl, -, -, hc⟩ := (HL.out.fr G (fun h => h)).at (by omega)
      have c0 := hc i (l.getD i default).p (by rw [List.getElem?_map, List.getD_eq_getElem?_getD, List.getElem?_eq_getElem hlt]; rfl)
      obtain ⟨kc, hTi⟩ := HT.out (l.getD i default) (by rw [List.getD_eq_getElem?_getD, List.getElem?_eq_getElem hlt]; exact List.getElem_mem hlt)
      have htk : (l.take (i + 1)).map (fun t => t.f key) = (l.take i).map (fun t => t.f key) ++ [(l.getD i default).f key] := by
        rw [List.take_succ_eq_append_getElem hlt, List.map_append, List.getD_eq_getElem?_getD, List.getElem?_eq_getElem hlt]
        rfl
      have hTw := hTi.fr G (fun h => h)
      generalize l.getD i default = t at *
      obtain ⟨tb, f, d⟩ := t
      unfold VoteT.p at c0
      simp only at c0 htk hTw
      have hvl : ((l.take i).map fun t => t.f key).length ≤ 100 := by rw [List.length_map, List.length_take]; omega
      generalize (l.take i).map (fun t => t.f key) = vs at *
      have HA := hid_ (repAsk C kc tb f d key wr hTw k0 k1)
      clear hc hTi G
      go_wp2_with fail
      refine HA.out.mono ?_
      rintro e w' ⟨rfl, rfl⟩
      cases hfk : f key with
      | none =>
        rw [hfk] at htk
        have M' : CntIs wr w.heap.size m (cntF ((l.take (i + 1)).map fun t => t.f key)) := by rw [htk, cntF_none]; exact M
        have HM := hid_ M'
        clear hfk htk M M' HA hTw
        rw [show (none : Option Int).getD 0 = 0 from rfl, show errv (askE none) = .iface 60 (.int .i64 17) from rfl]
        go_wp2_with fail
        go_roundw
        case rel => exact ⟨i + 1, m, by omega, by omega, by go_num, V, HM.out⟩
        case measure => simp [intOf]; omega
      | some v =>
        obtain ⟨mb, _, hmi, _, _⟩ := hTw
        obtain ⟨_, _, v0, v1⟩ := hmi.rng hfk
        rw [hfk] at htk
        obtain ⟨b0, b1⟩ := cntF_le vs v
        obtain ⟨c1, hc1⟩ : ∃ c1, (cntF vs v).getD 0 = c1 := ⟨_, rfl⟩
        have hlook := M.look v0 v1
        rw [hc1] at hlook b0 b1
        have hw1 : wrap64 (c1 + 1) = c1 + 1 := by unfold wrap64; omega
        obtain ⟨w2, hst, M2, ht2⟩ := M.store (by omega) (x := v) (c := c1 + 1) v0 v1 (by omega) (by omega)
        have M' : CntIs w2 w.heap.size (m + 1) (cntF ((l.take (i + 1)).map fun t => t.f key)) := by rw [htk, cntF_some, hc1]; exact M2
        have V2 : Below w.heap.size w w2 := ⟨ht2.grown.os.trans V.os, ht2.grown.tape.trans V.tape, ht2.grown.output.trans V.output, Nat.le_trans V.size ht2.grown.size, fun y hy => (ht2.grown.block y (Nat.lt_of_lt_of_le hy V.size) (by rintro ⟨rfl⟩; exact Nat.lt_irrefl _ hy)).trans (V.block y hy)⟩
        have hst2 := hst
        rw [← hw1] at hst2
        have HM := hid_ M'
        clear hfk htk M M' M2 HA hmi hc1 hw1
        rw [show (some v : Option Int).getD 0 = v from rfl, show errv (askE (some v)) = .nilIface from rfl]
        go_wp2_with fail
        go_roundw
        case rel => exact ⟨i + 1, m + 1, by omega, by omega, by go_num, V2, HM.out⟩
        case measure => simp [intOf]; omega
    · obtain rfl : i = l.length := by omega
      rw [List.take_length] at M
      generalize hvs : l.map (fun t => t.f key) = vs at *
      obtain ⟨D, hown, hD⟩ := M
      clear hlt hi HL HT
      go_wp2_with (first
        | (at_range; refine wpList_range_own _ rfl _ 66 rfl 27 3 lawK16 Try.underlying66 _ w.heap.size m _ rfl hown ?_; intro w0 hrg0 hg0 hs0)
        | fail)
      have V0' : Below w.heap.size w w0 := ⟨hg0.os.trans V.os, hg0.tape.trans V.tape, hg0.output.trans V.output, Nat.le_trans V.size hg0.size, fun y hy => (hg0.block y (Nat.lt_of_lt_of_le hy V.size) (by simp)).trans (V.block y hy)⟩
      have hrw : w.heap.size ≤ wr.heap.size := V.size
      generalize wr.heap.size = r at *
      go_frame
      go_loopw [36] (fun _ w3 => ∃ (left : Lit → Bool) (cnt : Nat), w3.ranges Try.prog 27 (plainElem Try.prog 3) w.heap.size r m D left cnt ∧ Below w.heap.size w w3 ∧ ∀ x, (cntF vs x).isSome = true → left (.int .u16 x) = false → 2 * vs.count (some x) ≤ l.length) (fun _ w3 => w3.rangeLeft w.heap.size r)
      case atStart => exact ⟨_, _, hrg0, V0', fun x hx hl => by
        obtain ⟨c, hc⟩ := Option.isSome_iff_exists.1 hx
        rw [(hD.some_ x c hc).1] at hl
        cases hl⟩
      case round =>
        obtain ⟨left, cnt, hrg, V3, hinv⟩ := hrel
        clear hrg0 V0' hg0 hs0
        go_wp2_with (first
          | (at_next; refine wpList_next_ranges_ii _ rfl _ rfl 27 3 .u16 .i64 lawK16 Try.underlying27 Try.underlying3 w.heap.size r m _ _ _ rfl hrg ?_ ?_)
          | fail)
        · intro _ hl0
          go_wp2
          go_ret2
          refine ⟨V3, .inr ⟨rfl, fun v => ?_⟩⟩
          rw [hvs]
          by_cases h0 : vs.count (some v) = 0
          · omega
          · exact hinv v (by unfold cntF; rw [if_neg h0]; rfl) (hl0 _)
        · intro x c w1 cnt1 hwx hwc hlx hat hrg1 hlt hg1 hs1 hen
          have V1 : Below w.heap.size w w1 := ⟨hg1.os.trans V3.os, hg1.tape.trans V3.tape, hg1.output.trans V3.output, Nat.le_trans V3.size hg1.size, fun y hy => (hg1.block y (Nat.lt_of_lt_of_le hy V3.size) (by intro e; injection e with e; omega)).trans (V3.block y hy)⟩
          have hcc : vs.count (some x) ≠ 0 ∧ c = (vs.count (some x) : Int) := by
            by_cases h0 : vs.count (some x) = 0
            · have hn : cntF vs x = none := by unfold cntF; rw [if_pos h0]
              have a1 := hat (.lit (.int .i64 (-1)))
              have a2 := hat (.lit (.int .i64 (-2)))
              rw [atKey_of_not_has (hD.none_ x hn)] at a1 a2
              simp only [DataW.lit.injEq, Lit.int.injEq] at a1 a2
              omega
            · refine ⟨h0, ?_⟩
              have hs : cntF vs x = some (vs.count (some x) : Int) := by unfold cntF; rw [if_neg h0]
              have a1 := hat (.lit (.int .i64 0))
              rw [(hD.some_ x _ hs).2] at a1
              simp only [DataW.lit.injEq, Lit.int.injEq] at a1
              exact a1.2.symm
          have hcl : vs.count (some x) ≤ l.length := by rw [← hvs]; exact Nat.le_trans List.count_le_length (by simp)
          obtain ⟨hc0, rfl⟩ := hcc
          generalize hcn : vs.count (some x) = cn at *
          have HCN := hid_ hcn
          clear hcn hat hwx hwc
          by_cases hmaj : (l.length : Int) < 2 * (cn : Int)
          · go_wp2_with fail
            go_ret2
            exact ⟨V1, .inl ⟨x, rfl, by rw [hvs, HCN.out]; omega⟩⟩
          · go_wp2_with fail
            go_roundw
            case rel => exact ⟨_, cnt1, hrg1, V1, fun y hy hl => by
              by_cases hyx : y = x
              · subst hyx
                rw [HCN.out]
                omega
              · refine hinv y hy ?_
                have hne : (Lit.int .u16 y).sameKey (.int .u16 x) = false := by simp [Lit.sameKey, hyx]
                simpa [hne] using hl⟩
            case measure => rw [hrg1.left_eq, hrg.left_eq]; omega
end Go.Proofs.Ytomcjmgbkpbdpaa
