/- Package ports: what find refuses, Write and Read refuse. No condition but that the tables work. -/
import Derived.Test.YtogfbeibpfdleaaPFind3
set_option linter.unusedSimpArgs false
set_option linter.unusedVariables false
namespace Go.Proofs.Ytogfbeibpfdleaa
open Go.RowKit Go.Maps
attribute [local go_sem ↓] Go.wp_at_zero Go.wp_at_succ

set_option maxRecDepth 100000 in
theorem write_bad (c : Cfg) (hg : Good c) (C : Nat → Nat) (k b ab : Nat) (pv qv rv : Value) (node part port : Int) (lv : Nat → Value) (st : List PSt) (dv : Value) (w : World) (h : IsPorts w C k b ab c pv qv rv node lv st) (x : Int × Int) (hx : findE c node part port true = some x) :
    Calls Try.prog 13 #[.pointer (some ⟨b, 0, none⟩), .int .i64 part, .int .i64 port, dv] w fun e w' => ∃ ev, e = .returned ev ∧ Below w.heap.size w w' ∧ ErrO w w' ev (some x) := by
  have hfind := portsFind c hg C k b ab pv qv rv node part port true lv st w h
  rw [hx] at hfind
  have HF := hid_ hfind
  clear hfind hx
  obtain ⟨xc, xa⟩ := x
  go_enter Try.func13, Try.ntmps13
  go_wp2_with fail
  refine HF.out.mono ?_
  rintro e w1 ⟨ev, rfl, hw1, fb, rfl, hge, hB⟩
  unfold faultV
  go_wp2
  go_ret
  exact ⟨_, rfl, hw1, fb, rfl, hge, hB⟩

set_option maxRecDepth 100000 in
theorem read_bad (c : Cfg) (hg : Good c) (C : Nat → Nat) (k b ab : Nat) (pv qv rv : Value) (node part port : Int) (lv : Nat → Value) (st : List PSt) (w : World) (h : IsPorts w C k b ab c pv qv rv node lv st) (x : Int × Int) (hx : findE c node part port false = some x) :
    Calls Try.prog 16 #[.pointer (some ⟨b, 0, none⟩), .int .i64 part, .int .i64 port] w fun e w' => ∃ ev, e = .returned (.tuple #[.slice none 0 0, .bool false, ev]) ∧ Below w.heap.size w w' ∧ ErrO w w' ev (some x) := by
  have hfind := portsFind c hg C k b ab pv qv rv node part port false lv st w h
  rw [hx] at hfind
  have HF := hid_ hfind
  clear hfind hx
  obtain ⟨xc, xa⟩ := x
  go_enter Try.func16, Try.ntmps16
  go_wp2_with fail
  refine HF.out.mono ?_
  rintro e w1 ⟨ev, rfl, hw1, fb, rfl, hge, hB⟩
  unfold faultV
  go_wp2
  go_ret3
  exact ⟨_, rfl, hw1, fb, rfl, hge, hB⟩

end Go.Proofs.Ytogfbeibpfdleaa
