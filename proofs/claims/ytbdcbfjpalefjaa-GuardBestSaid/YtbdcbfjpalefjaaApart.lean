/- GuardApart's walk and its plain law. No condition but the tables' own ranges. -/
import Derived.Test.YtbdcbfjpalefjaaAwake09
set_option linter.unusedSimpArgs false
set_option linter.unusedVariables false
namespace Go.Proofs.Ytbdcbfjpalefjaa
open Go.RowKit Go.Maps

/-- How many of the first k nodes pass at one time. -/
def passes (c : Cfg) (at_ : Int) (k : Nat) : Nat := ((List.range k).filter fun (i : Nat) => (comeV c (List.replicate c.nodes.toNat false) (i : Int) at_).1 == 1).length
theorem passes_succ (c : Cfg) (at_ : Int) (k : Nat) : passes c at_ (k + 1) = passes c at_ k + if ((comeV c (List.replicate c.nodes.toNat false) (k : Int) at_).1 == 1) = true then 1 else 0 := by
  unfold passes
  rw [List.range_succ, List.filter_append, List.length_append]
  by_cases h : ((comeV c (List.replicate c.nodes.toNat false) (k : Int) at_).1 == 1) = true
  · simp [h]
  · simp [h]
theorem comeV_one {c : Cfg} {seen : List Bool} {i at_ : Int} (h : (comeV c seen i at_).1 = 1) : 0 ≤ i ∧ i < c.nodes ∧ due c i - c.margin ≤ at_ ∧ at_ ≤ due c i + c.margin := by
  unfold comeV at h
  split at h
  · simp at h
  · split at h
    · simp at h
    · split at h
      · simp at h
      · omega
theorem sndE_slot {c : Cfg} (h : sndE c = none) : 2 * c.margin + c.dmax + c.prec ≤ c.slot ∧ c.prec + (c.dmax - c.dmin) + c.drift ≤ c.margin ∧ 2 * (c.margin + c.prec) ≤ c.gap := by
  unfold sndE at h
  split at h
  · rename_i ht; rw [h] at ht; cases ht
  · split at h
    · cases h
    · split at h
      · cases h
      · split at h
        · cases h
        · split at h
          · cases h
          · omega
theorem due_apart {c : Cfg} (h : sndE c = none) {i j : Nat} (hij : i < j) : due c (i : Int) + 2 * c.margin < due c (j : Int) := by
  have h1 := (sndE_slot h).1
  have hp := (sndE_good h).rg.prec.1
  have hx := (sndE_good h).rg.x0
  unfold due Cfg.send
  have : ((j : Int) - i) * c.slot ≥ c.slot := by
    have h2 : (1 : Int) ≤ (j : Int) - i := by omega
    have h3 : 0 ≤ c.slot := by have := (sndE_good h).rg.s0; omega
    have := Int.mul_le_mul_of_nonneg_right h2 h3
    omega
  rw [Int.sub_mul] at this
  omega
theorem passes_le {c : Cfg} (h : sndE c = none) (at_ : Int) : ∀ k, passes c at_ k ≤ 1 ∧ (passes c at_ k = 1 → ∃ i : Nat, i < k ∧ (comeV c (List.replicate c.nodes.toNat false) (i : Int) at_).1 = 1)
  | 0 => by simp [passes]
  | k + 1 => by
    obtain ⟨h1, h2⟩ := passes_le h at_ k
    rw [passes_succ]
    by_cases hk : ((comeV c (List.replicate c.nodes.toNat false) (k : Int) at_).1 == 1) = true
    · rw [if_pos hk]
      have hk' : (comeV c (List.replicate c.nodes.toNat false) (k : Int) at_).1 = 1 := by simpa using hk
      have h0 : passes c at_ k = 0 := by
        rcases Nat.lt_or_ge (passes c at_ k) 1 with h3 | h3
        · omega
        · exfalso
          obtain ⟨i, hi, hi1⟩ := h2 (by omega)
          have a := comeV_one hi1
          have b := comeV_one hk'
          have := due_apart h hi
          omega
      exact ⟨by omega, fun _ => ⟨k, by omega, hk'⟩⟩
    · rw [if_neg hk]
      exact ⟨by omega, fun h3 => by obtain ⟨i, hi, hi1⟩ := h2 (by omega); exact ⟨i, by omega, hi1⟩⟩

def mark (g : Nat) : Nat → Nat := fun x => if x = g then 1 else 0
theorem mark_self (g : Nat) : mark g g = 1 := by simp [mark]
/-- What is written in a block that is new is no change of the old. -/
theorem mark_below {w1 w2 w3 : World} {g : Nat} (h : Below w1.heap.size w1 w2) (hg : w1.heap.size ≤ g) (hlt : g < w2.heap.size) (f : Fr (· = mark g g) (mark g) (mark g) w2 w3) : Below w1.heap.size w1 w3 := by
  rw [mark_self] at f
  have f0 : Fr (· = 1) (fun _ => 0) (mark g) w1 w2 := (Fr.of_below h (· = 1)).recolour (fun x hx _ => by unfold mark; rw [if_neg (by omega)]) (fun x hx => by unfold mark; rw [if_neg (by omega)])
  exact (f0.trans f).below (fun b hb => by simp)

set_option maxRecDepth 100000 in
set_option maxHeartbeats 4000000 in
theorem apart_walk (c : Cfg) (hok : c.ok) (at_ : Int) (pv qv rv : Value) (w : World) (hl : Lists w (fun _ => 0) c pv qv rv) :
    Calls Try.prog 4 #[c.v pv qv rv, .int .i64 at_] w fun e w' => e = .returned (.bool true) ∧ Below w.heap.size w w' := by
  unfold Cfg.v
  go_enter Try.func4, Try.ntmps4
  go_upto_region 1 with (fail)
  refine gen_world (fun W => Below w.heap.size w W ∧ Bk W w.heap.size 26 (c.cells pv qv rv)) ⟨(Below.refl w.heap.size w).alloc (Nat.le_refl _) _, Bk.new _ _ _⟩ ?_
  rintro W ⟨hW, hB⟩
  go_wp2_with fail
  refine (awake09 _).mono ?_
  rintro e w1 ⟨rfl, hw1⟩
  have hB1 : Bk w1 w.heap.size 26 (c.cells pv qv rv) := hB.same (hw1.block _ hB.lt)
  have hw1' := below_then hW hw1
  have hl1 : Lists w1 (fun _ => 0) c pv qv rv := hl.fr (Fr.of_below hw1' (fun _ => False)) (fun h => h)
  have dc := hB1.cfg0
  go_wp2_with fail
  refine (law6Works c hok _ pv qv rv w1 hl1 (fun _ _ => rfl)).mono ?_
  cases hs : sndE c with
  | some x =>
    simp only [Option.isNone_some]
    rintro e w2 ⟨rfl, hw2⟩
    clear dc hs
    go_wp2
    go_ret
    exact ⟨rfl, below_then hw1' hw2⟩
  | none =>
    simp only [Option.isNone_none]
    rintro e w2 ⟨rfl, hw2⟩
    have hw2' := below_then hw1' hw2
    have hB2 : Bk w2 w.heap.size 26 (c.cells pv qv rv) := hB1.same (hw2.block _ hB1.lt)
    have hR := (sndE_good hs).rg
    have n0 := hR.n0
    have n1 := hR.n1
    have HS := hid_ hs
    have HP := hid_ (passes_le hs at_)
    obtain ⟨k, hk⟩ := Int.eq_ofNat_of_zero_le (show 0 ≤ c.nodes by omega)
    have b0 := hB2.cell_ 0 rfl
    have HK := hid_ hk
    rw [hk] at b0 n0 n1
    clear dc hs hk
    go_wp2
    go_loopw [6, 5] (fun iv nv wr => ∃ i : Nat, i ≤ k ∧ iv = .int .i64 i ∧ nv = .int .i64 (passes c at_ i) ∧ Below w2.heap.size w2 wr) (fun iv _ _ => k - (intOf iv).toNat)
    case atStart => exact ⟨0, Nat.zero_le _, rfl, rfl, Below.refl _ _⟩
    case round =>
      obtain ⟨i, hi, rfl, rfl, hwr⟩ := hrel
      have hpl := (HP.out i).1
      have hB3 : Bk wr w.heap.size 26 (c.cells pv qv rv) := hB2.same (hwr.block _ hB2.lt)
      have g0 := grown_cell hwr b0
      by_cases hlt : i < k
      · have dc := hB3.cfg0
        rw [HK.out] at dc
        have hlr : Lists wr (fun _ => 0) c pv qv rv := hl.fr (Fr.of_below (below_then hw2' hwr) (fun _ => False)) (fun h => h)
        have hnew := guardNew c hok _ pv qv rv wr hlr (fun _ _ => rfl)
        unfold Cfg.v at hnew
        rw [HS.out] at hnew
        have HN := hid_ hnew
        rw [HK.out] at HN
        clear hnew
        go_wp2_with fail
        refine HN.out.mono ?_
        rintro e w3 ⟨hw3, b, g, rfl, hb, hg, hG⟩
        clear dc
        go_wp2_with fail
        refine (guardCome c pv qv rv b g _ hR (by rw [List.length_replicate, HK.out]; rfl) i at_ w3 hG (mark g)).mono ?_
        have hps := passes_succ c at_ i
        have HPS := hid_ hps
        clear hps
        rintro e w4 ⟨rfl, hf4, _⟩
        have hw4 := mark_below hw3 hg hG.marks.lt hf4
        generalize (comeV c (List.replicate c.nodes.toNat false) (i : Int) at_).1 = v at *
        clear hf4 hG
        cases hv : (v == 1) with
        | true =>
          have HQ := hid_ (show passes c at_ (i + 1) = passes c at_ i + 1 by rw [HPS.out, hv]; rfl)
          go_wp2
          go_roundw
          case rel => exact ⟨i + 1, by omega, by go_num, by rw [HQ.out]; go_num, below_then hwr hw4⟩
          case measure => simp [intOf]; omega
        | false =>
          have HQ := hid_ (show passes c at_ (i + 1) = passes c at_ i by rw [HPS.out, hv]; rfl)
          go_wp2
          go_roundw
          case rel => exact ⟨i + 1, by omega, by go_num, by rw [HQ.out], below_then hwr hw4⟩
          case measure => simp [intOf]; omega
      · have hd := hid_ (show decide (((passes c at_ i : Nat) : Int) ≤ 1) = true from decide_eq_true (by omega))
        go_wp2
        go_ret
        exact ⟨congrArg (fun b => Ending.returned (.bool b)) hd.out, below_then hw2' hwr⟩
end Go.Proofs.Ytbdcbfjpalefjaa
