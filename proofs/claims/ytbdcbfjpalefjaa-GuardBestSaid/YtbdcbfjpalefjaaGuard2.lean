/- Package guard's New, Due, Come. No condition but the tables' own ranges. -/
import Derived.Test.YtbdcbfjpalefjaaGuard
set_option linter.unusedSimpArgs false
set_option linter.unusedVariables false
namespace Go.Proofs.Ytbdcbfjpalefjaa
open Go.RowKit Go.Maps

/-- A guardian at block b, its marks at block g. -/
structure IsGuard (w : World) (b g : Nat) (c : Cfg) (pv qv rv : Value) (seen : List Bool) : Prop where
  own : Bk w b 65 (c.cells pv qv rv ++ [.slice (some ⟨g, 0, none⟩) seen.length seen.length])
  marks : Bk w g 4 (seen.map Value.bool)

theorem make_marks (k : Nat) (hk : k ≤ 7) (w : World) : (Instr.makeSlice 41 (.int .i64 k) (.int .i64 k)).run Try.prog w = .ok (.slice (some ⟨w.heap.size, 0, none⟩) k k) (w.alloc (.cells (List.replicate k (Value.bool false)).toArray 4)) := by
  rcases (by omega : k = 0 ∨ k = 1 ∨ k = 2 ∨ k = 3 ∨ k = 4 ∨ k = 5 ∨ k = 6 ∨ k = 7) with rfl | rfl | rfl | rfl | rfl | rfl | rfl | rfl <;> kernel_rfl

def GuardP (c : Cfg) (pv qv rv : Value) (w : World) : Option (Int × Int) → Ending → World → Prop
  | some x, e, w' => ∃ ev, e = .returned (.tuple #[.pointer none, ev]) ∧ ErrO w w' ev (some x)
  | none, e, w' => ∃ b g, e = .returned (.tuple #[.pointer (some ⟨b, 0, none⟩), .nilIface]) ∧ w.heap.size ≤ b ∧ w.heap.size ≤ g ∧ IsGuard w' b g c pv qv rv (List.replicate c.nodes.toNat false)

set_option maxRecDepth 100000 in
set_option maxHeartbeats 4000000 in
theorem guardNew (c : Cfg) (hok : c.ok) (C : Nat → Nat) (pv qv rv : Value) (w : World) (hl : Lists w C c pv qv rv) (hf : Fin C w) :
    Calls Try.prog 9 #[c.v pv qv rv] w fun e w' => Below w.heap.size w w' ∧ GuardP c pv qv rv w (sndE c) e w' := by
  unfold Cfg.v
  go_enter Try.func9, Try.ntmps9
  go_upto_region 1 with (fail)
  refine gen_world (fun W => Below w.heap.size w W ∧ Bk W w.heap.size 26 (c.cells pv qv rv)) ⟨(Below.refl w.heap.size w).alloc (Nat.le_refl _) _, Bk.new _ _ _⟩ ?_
  rintro W ⟨hW, hB⟩
  have dc := hB.cfg0
  have hlW : Lists W C c pv qv rv := hl.fr (Fr.of_below hW (fun _ => False)) (fun h => h)
  have hfW : Fin C W := (Fr.of_below hW (fun _ => False)).Fin hf
  go_wp2_with fail
  refine (sndCheck c hok C pv qv rv W hlW hfW).mono ?_
  rintro e w1 ⟨ev, rfl, hw1, hE⟩
  have hw1' := below_then hW hw1
  cases hs : sndE c with
  | some x =>
    rw [hs] at hE
    have hE' := hid_ (ErrO.mono hE hW.size)
    obtain ⟨cc, aa⟩ := x
    obtain ⟨b, rfl, _, _⟩ := hE
    unfold faultV
    have HS := hid_ hs
    clear dc hs
    go_wp2
    go_ret2
    exact ⟨hw1', by rw [HS.out]; exact ⟨_, rfl, hE'.out⟩⟩
  | none =>
    rw [hs] at hE
    have hE' : ev = .nilIface := hE
    subst hE'
    have HS := hid_ hs
    have hg := sndE_good hs
    have n0 := hg.rg.n0
    have n1 := hg.rg.n1
    have hB1 : Bk w1 w.heap.size 26 (c.cells pv qv rv) := hB.same (hw1.block _ hB.lt)
    clear dc hs hE hlW hfW
    have dc := hB1.cfg0
    obtain ⟨k, hk⟩ := Int.eq_ofNat_of_zero_le (show 0 ≤ c.nodes by omega)
    have hmk := make_marks k (by omega)
    have HK := hid_ hk
    have dcA := fun o => (hB1.alloc o).cfg0
    rw [hk] at dc n0 n1
    simp only [hk] at dcA
    clear hk hg
    go_upto_region 4 with (fail)
    go_region
    go_wp2_with fail
    go_ret2
    refine ⟨below_then hw1' (((Below.refl _ _).alloc (Nat.le_refl _) _).alloc (by simp) _).drew, ?_⟩
    rw [HS.out]
    have hsz := hw1'.size
    refine ⟨w1.heap.size + 1, w1.heap.size, rfl, by omega, by omega, ?_, ?_⟩
    · have := Bk.new (w1.alloc (.cells (List.replicate k (Value.bool false)).toArray 4)) 65 (c.cells pv qv rv ++ [.slice (some ⟨w1.heap.size, 0, none⟩) (List.replicate c.nodes.toNat false).length (List.replicate c.nodes.toNat false).length])
      rw [World.size_alloc] at this
      unfold Cfg.cells at this ⊢
      rw [HK.out, Int.toNat_natCast, List.length_replicate] at this ⊢
      rw [List.toArray_replicate] at this
      exact this.drew
    · have := (Bk.new w1 4 (List.replicate k (Value.bool false))).alloc (.cells #[.int .i64 k, .int .i64 c.faulty, .int .i64 c.slot, .int .i64 c.gap, .int .i64 c.rho, .int .i64 c.dmin, .int .i64 c.dmax, .int .i64 c.margin, pv, qv, rv, .slice (some ⟨w1.heap.size, 0, none⟩) k k] 65)
      rw [List.toArray_replicate] at this
      rw [HK.out, Int.toNat_natCast, List.map_replicate]
      exact this.drew
end Go.Proofs.Ytbdcbfjpalefjaa
