/- The walks of package replica: New, Ask, Done, Apply. No condition but the arguments' own ranges. -/
import Derived.Test.YtomcjmgbkpbdpaaTab
import Derived.Outline
import Derived.Deep.CutBlock
set_option linter.unusedSimpArgs false
set_option linter.unusedVariables false
namespace Go.Proofs.Ytomcjmgbkpbdpaa
open Go.RowKit Go.Maps

set_option maxRecDepth 100000 in
theorem repNew (C : Nat → Nat) (k : Nat) (w : World) :
    Calls Try.prog 9 #[] w fun e w' => ∃ tb C', e = .returned (.pointer (some ⟨tb, 0, none⟩)) ∧ Fr (fun _ => False) C C' w w' ∧ IsTab w' C' k tb (fun _ => none) 0 := by
  have hmm := @run_makeMap Try.prog
  go_enter Try.func9, Try.ntmps9
  go_wp2
  go_ret
  refine ⟨w.heap.size + 1, fun b => if b < w.heap.size then C b else if b < w.heap.size + 2 then k else 0, rfl, ?_, w.heap.size, ?_, ?_, ?_, ?_⟩
  · exact ((Fr.refl _ C w).alloc _ |>.alloc _).recolour (fun b hb _ => by simp [hb]) (fun b hb => by simp at hb; rw [if_neg (by omega), if_neg (by omega)])
  · have := Bk.new (w.alloc (.map #[] 0)) 59 [.map (some w.heap.size), .int .i64 0]
    rwa [World.size_alloc] at this
  · exact (MapIs.made w).alloc _
  · show (if w.heap.size + 1 < w.heap.size then _ else _) = k
    rw [if_neg (by omega), if_pos (by omega)]
  · show (if w.heap.size < w.heap.size then _ else _) = k
    rw [if_neg (Nat.lt_irrefl _), if_pos (by omega)]

set_option maxRecDepth 100000 in
theorem repAsk (C : Nat → Nat) (k tb : Nat) (f : Int → Option Int) (d x : Int) (w : World) (h : IsTab w C k tb f d) (h0 : 0 ≤ x) (h1 : x < 256) :
    Calls Try.prog 12 #[.pointer (some ⟨tb, 0, none⟩), .int .u8 x] w fun e w' =>
      e = .returned (.tuple #[.int .u16 ((f x).getD 0), errv (askE (f x))]) ∧ w = w' := by
  obtain ⟨mb, hb, hm, _, _⟩ := h
  have c0 := hb.cell_ 0 rfl
  have hl := hm.look h0 h1
  cases hx : f x with
  | none =>
    rw [hx] at hl
    simp only [Option.getD_none, Option.isSome_none] at hl
    clear hx hb hm
    go_enter Try.func12, Try.ntmps12
    go_wp2
    go_ret2
    exact ⟨rfl, rfl⟩
  | some c =>
    rw [hx] at hl
    simp only [Option.getD_some, Option.isSome_some] at hl
    clear hx hb hm
    go_enter Try.func12, Try.ntmps12
    go_wp2
    go_ret2
    exact ⟨rfl, rfl⟩
end Go.Proofs.Ytomcjmgbkpbdpaa
