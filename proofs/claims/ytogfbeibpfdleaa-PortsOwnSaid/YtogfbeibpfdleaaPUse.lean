/- Chapter 13's calls over the fixed tables. No condition. -/
import Derived.Test.YtogfbeibpfdleaaPWired
import Derived.Test.YtogfbeibpfdleaaPWriteE
import Derived.Test.YtogfbeibpfdleaaPRead
import Derived.Test.YtogfbeibpfdleaaPImage
import Derived.Test.YtogfbeibpfdleaaPDeliver2
set_option linter.unusedSimpArgs false
set_option linter.unusedVariables false
namespace Go.Proofs.Ytogfbeibpfdleaa
open Go.RowKit Go.Maps

theorem newWired (C : Nat → Nat) (k : Nat) (hk : k ≠ 0) (node : Int) (hn : node = 0 ∨ node = 1) (pv qv rv : Value) (w : World) (hl : Lists w C wiredC pv qv rv) (hf : Fin C w) :
    Calls Try.prog 12 #[wiredC.v pv qv rv, .int .i64 node] w fun e w' => ∃ b ab C', e = .returned (.tuple #[.pointer (some ⟨b, 0, none⟩), .nilIface]) ∧ ab ≠ b ∧ w.heap.size ≤ b ∧ w.heap.size ≤ ab ∧ Fr (fun _ => False) C C' w w' ∧ IsPorts w' C' k b ab wiredC pv qv rv node noLv (st0 4) := by
  refine (portsNew wiredC wired_ok C k hk pv qv rv node w hl hf).mono ?_
  intro e w' h
  unfold NewP at h
  rw [wired_snd] at h
  have hN : wiredC.nodes = 2 := rfl
  rw [if_neg (by rw [hN]; omega)] at h
  exact h

theorem writeA (C : Nat → Nat) (k b ab : Nat) (hk : k ≠ 0) (hab : ab ≠ b) (pv qv rv : Value) (lv : Nat → Value) (st : List PSt) (dv : Value) (d : List UInt8) (w : World) (hf : Fin C w) (h : IsPorts w C k b ab wiredC pv qv rv 0 lv st)
    (hd : IsBytes w C dv d) (hs : d.length ≤ 1) (hroom : (st.getD 0 default).q.length < 2) :
    Calls Try.prog 13 #[.pointer (some ⟨b, 0, none⟩), .int .i64 0, .int .i64 0, dv] w fun e w' => e = .returned .nilIface ∧ ∃ C' lv', Fr (fun x => k ≤ x ∧ x < k + 100) C C' w w' ∧ IsPorts w' C' k b ab wiredC pv qv rv 0 lv' (putSt wiredC st 0 d) :=
  write_queue wiredC wired_good C k b ab hk hab pv qv rv 0 0 lv st dv d w hf h (by decide) rfl (by decide) rfl hd (show (d.length : Int) ≤ 1 by omega) (by decide) (show ((st.getD 0 default).q.length : Int) < 2 by omega)

theorem writeFullA (C : Nat → Nat) (k b ab : Nat) (hk : k ≠ 0) (hab : ab ≠ b) (pv qv rv : Value) (lv : Nat → Value) (st : List PSt) (dv : Value) (d : List UInt8) (w : World) (hf : Fin C w) (h : IsPorts w C k b ab wiredC pv qv rv 0 lv st)
    (hd : IsBytes w C dv d) (hs : d.length ≤ 1) (hroom : 2 ≤ (st.getD 0 default).q.length) :
    Calls Try.prog 13 #[.pointer (some ⟨b, 0, none⟩), .int .i64 0, .int .i64 0, dv] w fun e w' => ∃ ev, e = .returned ev ∧ Below w.heap.size w w' ∧ ErrO w w' ev (some (11, 0)) :=
  write_full wiredC wired_good C k b ab hk hab pv qv rv 0 0 lv st dv d w hf h (by decide) rfl (by decide) rfl hd (show (d.length : Int) ≤ 1 by omega) (by decide) (show (2 : Int) ≤ ((st.getD 0 default).q.length : Int) by omega)

theorem readEmptyB (C : Nat → Nat) (k b ab : Nat) (hk : k ≠ 0) (hab : ab ≠ b) (pv qv rv : Value) (lv : Nat → Value) (st : List PSt) (w : World) (hf : Fin C w) (h : IsPorts w C k b ab wiredC pv qv rv 1 lv st) (hempty : (st.getD 1 default).q = []) :
    Calls Try.prog 16 #[.pointer (some ⟨b, 0, none⟩), .int .i64 1, .int .i64 1] w fun e w' => ∃ ev, e = .returned (.tuple #[.slice none 0 0, .bool false, ev]) ∧ Below w.heap.size w w' ∧ ErrO w w' ev (some (10, 1)) :=
  read_empty wiredC wired_good C k b ab hk hab pv qv rv 1 1 lv st w hf h (by decide) rfl (by decide) rfl hempty
end Go.Proofs.Ytogfbeibpfdleaa
