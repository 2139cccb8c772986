/- Package ports: New. No condition but the tables' own ranges. -/
import Derived.Test.YtogfbeibpfdleaaPWrite
import Derived.Test.YtogfbeibpfdleaaGuard
set_option linter.unusedSimpArgs false
set_option linter.unusedVariables false
namespace Go.Proofs.Ytogfbeibpfdleaa
open Go.RowKit Go.Maps

def noLv : Nat → Value := fun _ => .slice none 0 0
def st0 (n : Nat) : List PSt := List.replicate n ⟨[], 0⟩
theorem make_states (n : Nat) (hn : n ≤ 24) (w : World) : (Instr.makeSlice 82 (.int .i64 n) (.int .i64 n)).run Try.prog w = .ok (.slice (some ⟨w.heap.size, 0, none⟩) n n) (w.alloc (.cells (pcells noLv (st0 n)).toArray 88)) := by
  rcases (by omega : n = 0 ∨ n = 1 ∨ n = 2 ∨ n = 3 ∨ n = 4 ∨ n = 5 ∨ n = 6 ∨ n = 7 ∨ n = 8 ∨ n = 9 ∨ n = 10 ∨ n = 11 ∨ n = 12 ∨ n = 13 ∨ n = 14 ∨ n = 15 ∨ n = 16 ∨ n = 17 ∨ n = 18 ∨ n = 19 ∨ n = 20 ∨ n = 21 ∨ n = 22 ∨ n = 23 ∨ n = 24) with rfl | rfl | rfl | rfl | rfl | rfl | rfl | rfl | rfl | rfl | rfl | rfl | rfl | rfl | rfl | rfl | rfl | rfl | rfl | rfl | rfl | rfl | rfl | rfl | rfl <;> kernel_rfl

/-- What New says. -/
def NewP (c : Cfg) (C : Nat → Nat) (k : Nat) (pv qv rv : Value) (node : Int) (w : World) (e : Ending) (w' : World) : Prop :=
  match sndE c with
  | some x => ∃ ev, e = .returned (.tuple #[.pointer none, ev]) ∧ Below w.heap.size w w' ∧ ErrO w w' ev (some x)
  | none => if node < 0 ∨ c.nodes ≤ node then e = .returned (.tuple #[.pointer none, .iface 81 (.int .i64 2)]) ∧ Below w.heap.size w w'
    else ∃ b ab C', e = .returned (.tuple #[.pointer (some ⟨b, 0, none⟩), .nilIface]) ∧ ab ≠ b ∧ w.heap.size ≤ b ∧ w.heap.size ≤ ab ∧ Fr (fun _ => False) C C' w w' ∧ IsPorts w' C' k b ab c pv qv rv node noLv (st0 c.ports.length)

set_option maxRecDepth 100000 in
set_option maxHeartbeats 4000000 in
theorem portsNew (c : Cfg) (hok : c.ok) (C : Nat → Nat) (k : Nat) (hk : k ≠ 0) (pv qv rv : Value) (node : Int) (w : World) (hl : Lists w C c pv qv rv) (hf : Fin C w) :
    Calls Try.prog 12 #[c.v pv qv rv, .int .i64 node] w (NewP c C k pv qv rv node w) := by
  obtain ⟨qa, qc, rfl, hqc, hqm, -⟩ := id hl.ports
  unfold maxLen at hqm
  have HC := hid_ (sndCheck c hok C pv (.slice qa c.ports.length qc) rv)
  unfold Cfg.v at HC ⊢
  go_enter Try.func12, Try.ntmps12
  go_upto_region 1 with (fail)
  refine gen_world (fun W => Below w.heap.size w W ∧ Bk W w.heap.size 28 (c.cells pv (.slice qa c.ports.length qc) rv)) ⟨(Below.refl w.heap.size w).alloc (Nat.le_refl _) _, Bk.new _ _ _⟩ ?_
  rintro W ⟨hW, hB⟩
  have dc := hB.cfg0
  have hlW := hl.fr (Fr.of_below (C := C) hW (fun _ => False)) (fun h => h)
  have hfW : Fin C W := (Fr.of_below hW (fun _ => False)).Fin hf
  go_wp2_with fail
  refine (HC.out W hlW hfW).mono ?_
  rintro e w1 ⟨ev, rfl, hw1, hE⟩
  have hw1' := below_then hW hw1
  have HN : Hid (∀ e w', NewP c C k pv (.slice qa c.ports.length qc) rv node w e w' = (match sndE c with
    | some x => ∃ ev, e = .returned (.tuple #[.pointer none, ev]) ∧ Below w.heap.size w w' ∧ ErrO w w' ev (some x)
    | none => if node < 0 ∨ c.nodes ≤ node then e = .returned (.tuple #[.pointer none, .iface 81 (.int .i64 2)]) ∧ Below w.heap.size w w'
      else ∃ b ab C', e = .returned (.tuple #[.pointer (some ⟨b, 0, none⟩), .nilIface]) ∧ ab ≠ b ∧ w.heap.size ≤ b ∧ w.heap.size ≤ ab ∧ Fr (fun _ => False) C C' w w' ∧ IsPorts w' C' k b ab c pv (.slice qa c.ports.length qc) rv node noLv (st0 c.ports.length))) := fun _ _ => rfl
  cases hs : sndE c with
  | some x =>
    rw [hs] at hE
    have hE' := hid_ (ErrO.mono hE hW.size)
    obtain ⟨cc, aa⟩ := x
    obtain ⟨b, rfl, _, _⟩ := hE
    unfold faultV
    have HS := hid_ hs
    clear dc hs
    go_wp2
    go_ret2
    rw [HN.out, HS.out]
    exact ⟨_, rfl, hw1', hE'.out⟩
  | none =>
    rw [hs] at hE
    have hE' : ev = .nilIface := hE
    subst hE'
    have HS := hid_ hs
    have hg := sndE_good hs
    have hnq := hg.nq
    have hB1 := hB.same (hw1.block _ hB.lt)
    clear dc hs hE hlW hfW
    have b0 := hB1.cell_ 0 rfl
    by_cases hn : node < 0 ∨ c.nodes ≤ node
    · have HNN := hid_ hn
      have hcases : node < 0 ∨ (0 ≤ node ∧ c.nodes ≤ node) := by omega
      clear hn
      rcases hcases with hn | ⟨hn0, hn⟩
      all_goals
        go_wp2
        go_ret2
        rw [HN.out, HS.out]
        simp only
        rw [if_pos HNN.out]
        exact ⟨rfl, hw1'⟩
    · have h0 : 0 ≤ node := by omega
      have h1 : node < c.nodes := by omega
      have HNN := hid_ hn
      clear hn b0
      have dc := hB1.cfg0
      have dcA := fun o => (hB1.alloc o).cfg0
      have hmk := make_states c.ports.length hnq
      go_upto_region 6 with (fail)
      go_region
      all_goals
        go_wp2_with fail
        go_ret2
        rw [HN.out, HS.out]
        simp only
        rw [if_neg HNN.out]
        have hsz := hw1'.size
        have G1 := Fr.of_below (C := C) hw1' (fun _ => False)
        have hPn := Bk.new (w1.alloc (.cells (pcells noLv (st0 c.ports.length)).toArray 88)) 84 (c.cells pv (.slice qa c.ports.length qc) rv ++ [Value.int .i64 node, Value.slice (some ⟨w1.heap.size, 0, none⟩) c.ports.length c.ports.length])
        rw [World.size_alloc] at hPn
        have hAl := (Bk.new w1 88 (pcells noLv (st0 c.ports.length))).alloc (.cells (c.cells pv (.slice qa c.ports.length qc) rv ++ [Value.int .i64 node, Value.slice (some ⟨w1.heap.size, 0, none⟩) c.ports.length c.ports.length]).toArray 84)
        have hst : (st0 c.ports.length).length = c.ports.length := by unfold st0; simp
        have G2 : Fr (fun _ => False) C (fun x => if x = w1.heap.size ∨ x = w1.heap.size + 1 then k else C x) w (((w1.alloc (.cells (pcells noLv (st0 c.ports.length)).toArray 88)).alloc (.cells (c.cells pv (.slice qa c.ports.length qc) rv ++ [Value.int .i64 node, Value.slice (some ⟨w1.heap.size, 0, none⟩) c.ports.length c.ports.length]).toArray 84)).drew) :=
          (((G1.alloc _).alloc _).drew).recolour (fun x hx _ => if_neg (by omega)) (fun x hx => by
            have hx' : w1.heap.size + 2 ≤ x := by simpa using hx
            rw [if_neg (by omega)]
            exact hf x (by omega))
        refine ⟨w1.heap.size + 1, w1.heap.size, (fun x => if x = w1.heap.size ∨ x = w1.heap.size + 1 then k else C x), rfl, by omega, by omega, by omega, G2, ?_⟩
        exact ⟨by rw [hst]; exact hPn.drew, by simp, hl.fr G2 (fun h => h), hAl.drew, by simp, hst, fun i hi => by
          unfold noLv st0
          rw [List.getD_eq_getElem?_getD, List.getElem?_replicate]
          split
          · exact IsList.nil _ _ _
          · exact IsList.nil _ _ _⟩
end Go.Proofs.Ytogfbeibpfdleaa
