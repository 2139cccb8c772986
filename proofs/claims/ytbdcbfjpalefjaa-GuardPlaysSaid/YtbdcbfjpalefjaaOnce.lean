/- GuardOnce's walk and its plain law. No condition but the tables' own ranges. -/
import Derived.Test.YtbdcbfjpalefjaaApart
import Derived.Test.YtbdcbfjpalefjaaSl
set_option linter.unusedSimpArgs false
set_option linter.unusedVariables false
namespace Go.Proofs.Ytbdcbfjpalefjaa
open Go.RowKit Go.Maps

/-- A coming: a node, and by how much later than due. -/
structure Call where
  node : Int
  off : Int
  deriving Inhabited
structure Call.ok (c : Call) : Prop where
  node : I64 c.node
  off : I64 c.off
def Call.cells (c : Call) : List Value := [.int .i64 c.node, .int .i64 c.off]

def onceN (c : Cfg) (x : Call) : Int := (x.node % 18446744073709551616) % c.nodes
def onceO (c : Cfg) (x : Call) : Int := x.off.tmod (c.margin + 1)

theorem make_ints (k : Nat) (hk : k ≤ 7) (w : World) : (Instr.makeSlice 48 (.int .i64 k) (.int .i64 k)).run Try.prog w = .ok (.slice (some ⟨w.heap.size, 0, none⟩) k k) (w.alloc (.cells (List.replicate k (Value.int .i64 0)).toArray 3)) := by
  rcases (by omega : k = 0 ∨ k = 1 ∨ k = 2 ∨ k = 3 ∨ k = 4 ∨ k = 5 ∨ k = 6 ∨ k = 7) with rfl | rfl | rfl | rfl | rfl | rfl | rfl | rfl <;> kernel_rfl

/-- How often each node's bytes have passed. -/
def ones (seen : List Bool) : List Value := seen.map fun b => .int .i64 (if b then 1 else 0)

theorem once_node (x : Int) (k : Nat) (hk : 1 ≤ k) (h7 : k ≤ 7) : ∃ j : Nat, j < k ∧ wrap64 ((IntKind.u64.wrap x).tmod (k : Int)) = (j : Int) := by
  have h0 : 0 ≤ IntKind.u64.wrap x := by simp [IntKind.wrap, IntKind.signed, IntKind.bits]; omega
  rw [Int.tmod_eq_emod_of_nonneg h0]
  have h1 := Int.emod_nonneg (IntKind.u64.wrap x) (show (k : Int) ≠ 0 by omega)
  have h2 := Int.emod_lt_of_pos (IntKind.u64.wrap x) (show 0 < (k : Int) by omega)
  generalize IntKind.u64.wrap x % (k : Int) = y at *
  exact ⟨y.toNat, by omega, by unfold wrap64; omega⟩
theorem once_off (x m : Int) (hm : 0 ≤ m) : ∃ o : Int, -m ≤ o ∧ o ≤ m ∧ x.tmod (m + 1) = o := by
  refine ⟨_, ?_, ?_, rfl⟩
  · have := Int.lt_tmod_of_pos x (show 0 < m + 1 by omega)
    omega
  · have := Int.tmod_lt_of_pos x (show 0 < m + 1 by omega)
    omega
theorem comeV_in (c : Cfg) (seen : List Bool) (j : Nat) (o : Int) (hj : (j : Int) < c.nodes) (h0 : -c.margin ≤ o) (h1 : o ≤ c.margin) :
    comeV c seen j (due c j + o) = if seen.getD j false = true then (4, seen) else (1, seen.set j true) := by
  unfold comeV
  rw [if_neg (by omega), if_neg (by omega), if_neg (by omega), Int.toNat_natCast]
theorem ones_get (seen : List Bool) (j : Nat) (hj : j < seen.length) : (ones seen)[j]? = some (.int .i64 (if seen.getD j false then 1 else 0)) := by
  unfold ones
  rw [List.getElem?_map, List.getElem?_eq_getElem hj, List.getD_eq_getElem?_getD, List.getElem?_eq_getElem hj]
  rfl
theorem ones_set (seen : List Bool) (j : Nat) : ones (seen.set j true) = (ones seen).set j (.int .i64 1) := by
  unfold ones
  rw [List.map_set]
  rfl

set_option maxRecDepth 100000 in
set_option maxHeartbeats 1600000 in
theorem once_walk (c : Cfg) (hok : c.ok) (l : List Call) (hlk : ∀ x ∈ l, x.ok) (pv qv rv lv : Value) (w : World) (hl : Lists w (fun _ => 0) c pv qv rv) (hv : Rd w (fun _ => 0) lv 2 l.length (l.flatMap Call.cells)) :
    Calls Try.prog 5 #[c.v pv qv rv, lv] w fun e w' => e = .returned (.bool true) ∧ Below w.heap.size w w' := by
  obtain ⟨a, cap, rfl, hcap, hmax, -⟩ := id hv
  unfold maxLen at hmax
  unfold Cfg.v
  go_enter Try.func5, Try.ntmps5
  go_upto_region 1 with (fail)
  refine gen_world (fun W => Below w.heap.size w W ∧ Bk W w.heap.size 26 (c.cells pv qv rv)) ⟨(Below.refl w.heap.size w).alloc (Nat.le_refl _) _, Bk.new _ _ _⟩ ?_
  rintro W ⟨hW, hB⟩
  go_wp2_with fail
  refine (awake09 _).mono ?_
  rintro e w1 ⟨rfl, hw1⟩
  have hB1 : Bk w1 w.heap.size 26 (c.cells pv qv rv) := hB.same (hw1.block _ hB.lt)
  have hw1' := below_then hW hw1
  have hl1 : Lists w1 (fun _ => 0) c pv qv rv := hl.fr (Fr.of_below hw1' (fun _ => False)) (fun h => h)
  have dc := hB1.cfg0
  go_wp2_with fail
  refine (law6Works c hok _ pv qv rv w1 hl1 (fun _ _ => rfl)).mono ?_
  cases hs : sndE c with
  | some x =>
    simp only [Option.isNone_some]
    rintro e w2 ⟨rfl, hw2⟩
    clear dc hs
    go_wp2
    go_ret
    exact ⟨rfl, below_then hw1' hw2⟩
  | none =>
    simp only [Option.isNone_none]
    rintro e w2 ⟨rfl, hw2⟩
    have hw2' := below_then hw1' hw2
    have hB2 : Bk w2 w.heap.size 26 (c.cells pv qv rv) := hB1.same (hw2.block _ hB1.lt)
    have hl2 : Lists w2 (fun _ => 0) c pv qv rv := hl.fr (Fr.of_below hw2' (fun _ => False)) (fun h => h)
    have hR := (sndE_good hs).rg
    have n0 := hR.n0
    have n1 := hR.n1
    have HS := hid_ hs
    clear dc
    have dc := hB2.cfg0
    have hnew := guardNew c hok _ pv qv rv w2 hl2 (fun _ _ => rfl)
    unfold Cfg.v at hnew
    rw [hs] at hnew
    have HN := hid_ hnew
    clear hs hnew
    go_wp2_with fail
    refine HN.out.mono ?_
    rintro e w3 ⟨hw3, b, g, rfl, hb, hg, hG⟩
    have hB3 : Bk w3 w.heap.size 26 (c.cells pv qv rv) := hB2.same (hw3.block _ hB2.lt)
    have b0 := hB3.cell_ 0 rfl
    have b7 := fun o => (hB3.alloc o).cell_ 7 rfl
    clear dc
    obtain ⟨k, hk⟩ := Int.eq_ofNat_of_zero_le (show 0 ≤ c.nodes by omega)
    have hmk := make_ints k (by omega)
    have HK := hid_ hk
    rw [hk] at b0 n0 n1
    clear hk
    go_wp2
    have hsz := hw3.size
    refine gen_world (fun W => Below w2.heap.size w2 W ∧ IsGuard W b g c pv qv rv (List.replicate k false) ∧ Bk W w3.heap.size 3 (ones (List.replicate k false))) ⟨hw3.alloc hsz _, ?_, ?_⟩ ?_
    · have h := hG.below ((Below.refl w3.heap.size w3).alloc (Nat.le_refl _) (.cells (List.replicate k (Value.int .i64 0)).toArray 3))
      rw [HK.out, Int.toNat_natCast] at h
      simpa using h
    · have h := Bk.new w3 3 (List.replicate k (Value.int .i64 0))
      unfold ones
      rw [List.map_replicate]
      simpa using h
    clear b0 b7 hmk hB3 hG
    rintro W3 ⟨hW3, hG, hP⟩
    have hps := hid_ (show w2.heap.size ≤ w3.heap.size from hsz)
    generalize w3.heap.size = ps at *
    go_loopw [8] (fun iv wr => ∃ (i : Nat) (seen : List Bool), i ≤ l.length ∧ iv = .int .i64 i ∧ seen.length = k ∧ Below w2.heap.size w2 wr ∧ IsGuard wr b g c pv qv rv seen ∧ Bk wr ps 3 (ones seen)) (fun iv _ => l.length - (intOf iv).toNat)
    case atStart => exact ⟨0, _, Nat.zero_le _, rfl, by simp, hW3, hG, hP⟩
    case round =>
      clear hG hP hW3
      obtain ⟨i, seen, hi, rfl, hsl, hwr, hG, hP⟩ := hrel
      have HSL := hid_ hsl
      clear hsl
      by_cases hlt : i < l.length
      · by_cases h200 : i < 200
        · obtain ⟨bb, off, rfl, _, hcell⟩ := hv.row (fun _ => rfl) hlt
          have hxo : (l.getD i default).ok := hlk _ (by rw [List.getD_eq_getElem?_getD, List.getElem?_eq_getElem hlt]; exact List.getElem_mem hlt)
          generalize l.getD i default = x at *
          have hce : ∀ j v, x.cells[j]? = some v → wr.cell? ⟨bb, off + i * 2 + j, none⟩ = some v := fun j v hv => grown_cell (below_then hw2' hwr) (hcell j v hv)
          have e0 := hce 0 _ rfl
          have e1 := hce 1 _ rfl
          simp only [Nat.add_zero] at e0
          have hBr : Bk wr w.heap.size 26 (c.cells pv qv rv) := hB2.same (hwr.block _ hB2.lt)
          have d0 := hBr.cell_ 0 rfl
          have d7 := hBr.cell_ 7 rfl
          rw [HK.out] at d0
          have i0 : (0 : Int) ≤ (i : Int) := Int.natCast_nonneg _
          have i1 : (i : Int) < (l.length : Int) := by omega
          have m0 := hR.m0
          have m1 := hR.m1
          obtain ⟨⟨x0, x1⟩, ⟨y0, y1⟩⟩ := hxo
          clear hcell hce
          obtain ⟨j, hjk, hj⟩ := once_node x.node k (by omega) (by omega)
          obtain ⟨o, o0, o1, ho⟩ := once_off x.off c.margin m0
          have j0 : (0 : Int) ≤ (j : Int) := Int.natCast_nonneg _
          have j1 : (j : Int) < (k : Int) := by omega
          go_wp2
          go_quiet (fail)
          go_wp2
          go_quiet (fail)
          go_wp2_with fail
          clear ho e0 e1 d0 d7 hBr
          refine (guardDue c pv qv rv b g seen hR j (by omega) _ (by exact ⟨hG.own, hG.marks⟩)).mono ?_
          obtain ⟨s0, s1⟩ := hR.send j (by omega)
          obtain ⟨q0, q1⟩ := hR.mean
          rw [show c.send (j : Int) + c.mean = due c j from rfl]
          have d0 : -150994944 ≤ due c j := by unfold due; omega
          have d1 : due c j ≤ 180000000 := by unfold due; omega
          rintro e w5 ⟨rfl, hw5'⟩
          have hw5 : Below wr.heap.size wr w5 := ⟨hw5'.os, hw5'.tape, hw5'.output, hw5'.size, hw5'.block⟩
          have hG5 := hG.below hw5
          have hP5 := hP.same (hw5.block _ hP.lt)
          have hW5 := below_then hwr hw5
          clear hG hP hwr hw5' hw5
          have hjs : j < seen.length := by rw [HSL.out]; exact hjk
          have hcv := comeV_in c seen j o (by rw [HK.out]; exact j1) o0 o1
          have HCV := hid_ hcv
          clear hcv
          go_wp2_with fail
          clear hj
          refine (guardCome c pv qv rv b g seen hR (by rw [HSL.out, HK.out]) j (due c j + o) w5 hG5 (mark g)).mono ?_
          have hpg : ps ≠ g := by
            have := hG5.marks.ne hP5 (by decide)
            exact fun h => this h.symm
          rintro e w6 ⟨rfl, hf6, hG6⟩
          have hP6 := hP5.same (hf6.block ps hP5.lt (by simp [mark, hpg])).1
          have hW6 := mark_below hW5 hg hG5.marks.lt hf6
          have p0 := hP6.cell_ j (ones_get seen j hjs)
          have pf := hP6.frozen j
          clear hf6 hG5 hP5
          cases hs : seen.getD j false with
          | true =>
            rw [HCV.out, hs] at hG6 ⊢
            rw [hs] at p0
            simp only [if_true] at hG6 p0 ⊢
            clear hs
            go_wp2
            go_roundw
            case rel => exact ⟨i + 1, seen, by omega, by go_num, HSL.out, hW6, hG6, hP6⟩
            case measure => simp [intOf]; omega
          | false =>
            rw [HCV.out, hs] at hG6 ⊢
            rw [hs] at p0
            simp only [Bool.false_eq_true, if_false] at hG6 p0 ⊢
            clear hs
            have hP7 := hP6.set j (.int .i64 1)
            rw [← ones_set] at hP7
            have p1 := hP7.cell_ j (ones_get _ j (by rw [List.length_set]; exact hjs))
            have hW7 : Below w2.heap.size w2 (w6.setCell ⟨ps, j, none⟩ (.int .i64 1)) := hW6.setCell hps.out _
            have hG7 : IsGuard (w6.setCell ⟨ps, j, none⟩ (.int .i64 1)) b g c pv qv rv (seen.set j true) :=
              ⟨hG6.own.far (a := ⟨ps, j, none⟩) (hG6.own.ne hP6 (by decide)) _, hG6.marks.far (a := ⟨ps, j, none⟩) (Ne.symm hpg) _⟩
            have hgs : (seen.set j true).getD j false = true := by rw [List.getD_eq_getElem?_getD, List.getElem?_set_self hjs]; rfl
            rw [hgs] at p1
            simp only [if_true] at p1
            clear hgs
            go_wp2
            go_roundw
            case rel => exact ⟨i + 1, seen.set j true, by omega, by go_num, by rw [List.length_set]; exact HSL.out, hW7, hG7, hP7⟩
            case measure => simp [intOf]; omega
        · go_wp2
          go_ret
          exact ⟨rfl, below_then hw2' hwr⟩
      · go_wp2
        go_ret
        exact ⟨rfl, below_then hw2' hwr⟩
end Go.Proofs.Ytbdcbfjpalefjaa
