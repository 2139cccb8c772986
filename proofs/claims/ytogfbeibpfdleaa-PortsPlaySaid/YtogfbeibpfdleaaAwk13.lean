/- Chapter 13's calls over the fixed tables. No condition. · Chapter 13's fixed facts: Awake returns true and leaves what was there. No condition. -/
import Derived.Test.YtogfbeibpfdleaaNewK
import Derived.Test.YtogfbeibpfdleaaPWriteE
import Derived.Test.YtogfbeibpfdleaaPRead
import Derived.Test.YtogfbeibpfdleaaPImage
import Derived.Test.YtogfbeibpfdleaaPDeliver2
import Derived.Test.YtogfbeibpfdleaaRead
import Derived.Lib.SlBytesConst
import Derived.Test.YtogfbeibpfdleaaTabErr
set_option linter.unusedSimpArgs false
set_option linter.unusedVariables false
namespace Go.Proofs.Ytogfbeibpfdleaa
open Go.RowKit Go.Maps

theorem newWired (C : Nat → Nat) (k : Nat) (hk : k ≠ 0) (node : Int) (hn : node = 0 ∨ node = 1) (pv qv rv : Value) (w : World) (hl : Lists w C wiredC pv qv rv) (hf : Fin C w) :
    Calls Try.prog 12 #[wiredC.v pv qv rv, .int .i64 node] w fun e w' => ∃ b ab C', e = .returned (.tuple #[.pointer (some ⟨b, 0, none⟩), .nilIface]) ∧ ab ≠ b ∧ w.heap.size ≤ b ∧ w.heap.size ≤ ab ∧ Fr (fun _ => False) C C' w w' ∧ IsPorts w' C' k b ab wiredC pv qv rv node noLv (st0 4) := by
  refine (portsNew wiredC wired_ok C k hk pv qv rv node w hl hf).mono ?_
  intro e w' h
  unfold NewP at h
  rw [wired_snd] at h
  have hN : wiredC.nodes = 2 := rfl
  rw [if_neg (by rw [hN]; omega)] at h
  exact h

theorem writeA (C : Nat → Nat) (k b ab : Nat) (hk : k ≠ 0) (hab : ab ≠ b) (pv qv rv : Value) (lv : Nat → Value) (st : List PSt) (dv : Value) (d : List UInt8) (w : World) (hf : Fin C w) (h : IsPorts w C k b ab wiredC pv qv rv 0 lv st)
    (hd : IsBytes w C dv d) (hs : d.length ≤ 1) (hroom : (st.getD 0 default).q.length < 2) :
    Calls Try.prog 13 #[.pointer (some ⟨b, 0, none⟩), .int .i64 0, .int .i64 0, dv] w fun e w' => e = .returned .nilIface ∧ ∃ C' lv', Fr (fun x => k ≤ x ∧ x < k + 100) C C' w w' ∧ IsPorts w' C' k b ab wiredC pv qv rv 0 lv' (putSt wiredC st 0 d) :=
  write_queue wiredC wired_good C k b ab hk hab pv qv rv 0 0 lv st dv d w hf h (by decide) rfl (by decide) rfl hd (show (d.length : Int) ≤ 1 by omega) (by decide) (show ((st.getD 0 default).q.length : Int) < 2 by omega)

theorem writeFullA (C : Nat → Nat) (k b ab : Nat) (hk : k ≠ 0) (hab : ab ≠ b) (pv qv rv : Value) (lv : Nat → Value) (st : List PSt) (dv : Value) (d : List UInt8) (w : World) (hf : Fin C w) (h : IsPorts w C k b ab wiredC pv qv rv 0 lv st)
    (hd : IsBytes w C dv d) (hs : d.length ≤ 1) (hroom : 2 ≤ (st.getD 0 default).q.length) :
    Calls Try.prog 13 #[.pointer (some ⟨b, 0, none⟩), .int .i64 0, .int .i64 0, dv] w fun e w' => ∃ ev, e = .returned ev ∧ Below w.heap.size w w' ∧ ErrO w w' ev (some (11, 0)) :=
  write_full wiredC wired_good C k b ab hk hab pv qv rv 0 0 lv st dv d w hf h (by decide) rfl (by decide) rfl hd (show (d.length : Int) ≤ 1 by omega) (by decide) (show (2 : Int) ≤ ((st.getD 0 default).q.length : Int) by omega)

theorem readEmptyB (C : Nat → Nat) (k b ab : Nat) (hk : k ≠ 0) (hab : ab ≠ b) (pv qv rv : Value) (lv : Nat → Value) (st : List PSt) (w : World) (hf : Fin C w) (h : IsPorts w C k b ab wiredC pv qv rv 1 lv st) (hempty : (st.getD 1 default).q = []) :
    Calls Try.prog 16 #[.pointer (some ⟨b, 0, none⟩), .int .i64 1, .int .i64 1] w fun e w' => ∃ ev, e = .returned (.tuple #[.slice none 0 0, .bool false, ev]) ∧ Below w.heap.size w w' ∧ ErrO w w' ev (some (10, 1)) :=
  read_empty wiredC wired_good C k b ab hk hab pv qv rv 1 1 lv st w hf h (by decide) rfl (by decide) rfl hempty
end Go.Proofs.Ytogfbeibpfdleaa
namespace Go.Proofs.Ytogfbeibpfdleaa
open Go.RowKit Go.Maps

/-- A byte's list, fresh, as the conversion of a constant leaves it. -/
theorem one_byte {w : World} {C : Nat → Nat} (x : Nat) (hx : x < 256) (hf : Fin C w) (t : Nat) (r : Nat × Nat) : IsBytes (w.alloc (.cells #[.int .u8 x] t r)) C (.slice (some ⟨w.heap.size, 0, none⟩) 1 1) [x.toUInt8] := by
  have hb : byteV [x.toUInt8] = [.int .u8 x] := by
    unfold byteV
    simp [Nat.mod_eq_of_lt hx]
  have hg : (w.alloc (.cells #[.int .u8 x] t r)).heap[w.heap.size]? = some (.cells #[.int .u8 x] t r) := by
    show (w.heap.push _)[w.heap.size]? = _
    simp
  unfold IsBytes
  rw [hb]
  refine ⟨_, _, rfl, Nat.le_refl _, by simp [maxLen], rfl, fun _ => ⟨w.heap.size, 0, rfl, hf _ (Nat.le_refl _), ?_, fun i y hy => ?_⟩⟩
  · show _ < (w.heap.push _).size
    simp
  · cases i with
    | zero =>
      simp at hy
      subst hy
      show (match (w.alloc (.cells #[.int .u8 x] t r)).heap[w.heap.size]? with | some (.cells c _ _) => c[0]? | _ => none) = _
      rw [hg]
      rfl
    | succ n => simp at hy

theorem byte_fr {C : Nat → Nat} (w : World) (x : Nat) (t : Nat) (r : Nat × Nat) : Fr (fun _ => False) C C w (w.alloc (.cells #[.int .u8 x] t r)) :=
  Fr.of_below ((Below.refl _ _).alloc (Nat.le_refl _) _) _

def awkS : List PSt := [⟨[[97], [98]], 0⟩, ⟨[], 0⟩, ⟨[], 0⟩, ⟨[], 0⟩]
theorem awk_st : putSt wiredC (putSt wiredC (st0 4) 0 [97]) 0 [98] = awkS := by rfl
theorem awk_text : refT (some (11, 0)) = [49, 49, 64, 48] := by decide +kernel
theorem awk_q4 : ∀ i, i < awkS.length → (awkS.getD i default).q.length ≤ 4 := by decide
theorem awk_ms : sealMs wiredC 0 awkS awkS.length = [⟨0, [97]⟩, ⟨0, [98]⟩] := by rfl
def awkT : List PSt := [⟨[], 0⟩, ⟨[[97]], 0⟩, ⟨[], 0⟩, ⟨[], 0⟩]
theorem awk_del : delivR wiredC 1 0 (st0 4) [⟨0, [97]⟩, ⟨0, [98]⟩] 2 = (awkT, 1) := by rfl
theorem awk_q4' : ∀ i, i < awkT.length → (awkT.getD i default).q.length ≤ 4 := by decide
theorem awk_b : ∀ i, i < awkT.length → ∀ x ∈ (awkT.getD i default).q, x.length ≤ 140737488355328 := by decide
theorem awk_im : (imageMs wiredC 1 awkT awkT.length).length = 1 := by rfl

set_option maxRecDepth 100000 in
set_option maxHeartbeats 4000000 in
theorem awake13 (w : World) : Calls Try.prog 10 #[] w fun e w' => e = .returned (.bool true) ∧ Below w.heap.size w w' := by
  have kc := fun (w : World) (C : Array Value) (n c : Nat) => Lib.run_convert_bytes_const (P := Try.prog) w 40 5 C n c Try.underlying40 Try.underlying5
  go_enter Try.func10, Try.ntmps10
  go_wp2_with fail
  refine (law13Wired (fun _ => 0) _ (fun _ _ => rfl)).mono ?_
  rintro e w1 ⟨pv, qv, rv, rfl, V1, L1⟩
  go_wp2_with fail
  refine (newWired (fun _ => 0) 100 (by omega) 0 (.inl rfl) pv qv rv _ L1 (fun _ _ => rfl)).mono ?_
  rintro e w2 ⟨b0, ab0, C2, rfl, n0, hb0, hab0, f2, p2⟩
  have F2 : Fin C2 w2 := f2.Fin (fun _ _ => rfl)
  go_wp2_with fail
  refine (law13Wired C2 _ F2).mono ?_
  rintro e w3 ⟨pu, qu, ru, rfl, V3, L3⟩
  go_wp2_with fail
  refine (newWired C2 300 (by omega) 1 (.inr rfl) pu qu ru _ L3 ((Fr.of_below V3 (fun _ => False)).Fin F2)).mono ?_
  rintro e w4 ⟨b1, ab1, C4, rfl, n1, hb1, hab1, f4, p4⟩
  have f34 := (Fr.of_below (C := C2) V3 (fun _ => False)).trans f4
  have F4 := f34.Fin F2
  have p3 := p2.fr f34 (fun x h => h.elim) (by simp [st0])
  have T4 := ((Fr.of_below (C := fun _ => 0) V1 (fun _ => False)).trans f2).trans f34
  clear hb0 hab0 hb1 hab1 L1 L3 V1 V3 f2 f4 f34 F2 p2
  go_wp2_with fail
  have f5 := byte_fr (C := C4) w4 97 5 (1, 2)
  have D5 := one_byte 97 (by omega) F4 5 (1, 2)
  have p5 := p3.fr f5 (fun x h => h.elim) (by simp [st0])
  have q5 := p4.fr f5 (fun x h => h.elim) (by simp [st0])
  have F5 := f5.Fin F4
  have T5 := (T4.trans f5).mono (K' := (· ≠ 0)) (fun x h => h.elim)
  clear p3 p4 F4 T4 f5
  refine (writeA C4 100 b0 ab0 (by omega) n0 pv qv rv noLv (st0 4) _ [97] _ F5 p5 D5 (by simp) (by decide)).mono ?_
  rintro e w6 ⟨rfl, C6, lv6, f6, p6⟩
  have q6 := q5.fr f6 (fun x h => by omega) (by simp [st0])
  have F6 := f6.Fin F5
  have T6 := T5.trans (f6.mono (fun x h => by omega))
  clear p5 q5 F5 T5 f6 D5
  go_wp2_with fail
  have f7 := byte_fr (C := C6) w6 98 5 (1, 2)
  have D7 := one_byte 98 (by omega) F6 5 (1, 2)
  have p7 := p6.fr f7 (fun x h => h.elim) (by simp [st0, putSt])
  have q7 := q6.fr f7 (fun x h => h.elim) (by simp [st0])
  have F7 := f7.Fin F6
  have T7 := T6.trans (f7.mono (fun x h => h.elim))
  clear p6 q6 F6 T6 f7
  refine (writeA C6 100 b0 ab0 (by omega) n0 pv qv rv lv6 _ _ [98] _ F7 p7 D7 (by simp) (by decide)).mono ?_
  rintro e w8 ⟨rfl, C8, lv8, f8, p8⟩
  have q8 := q7.fr f8 (fun x h => by omega) (by simp [st0])
  have F8 := f8.Fin F7
  have T8 := T7.trans (f8.mono (fun x h => by omega))
  clear p7 q7 F7 T7 f8 D7
  go_wp2_with fail
  have f9 := byte_fr (C := C8) w8 99 5 (1, 2)
  have D9 := one_byte 99 (by omega) F8 5 (1, 2)
  rw [awk_st] at p8
  have p9 := p8.fr f9 (fun x h => h.elim) (by decide)
  have q9 := q8.fr f9 (fun x h => h.elim) (by simp [st0])
  have F9 := f9.Fin F8
  have T9 := T8.trans (f9.mono (fun x h => h.elim))
  clear p8 q8 F8 T8 f9
  refine (writeFullA C8 100 b0 ab0 (by omega) n0 pv qv rv lv8 _ _ [99] _ F9 p9 D9 (by simp) (by decide)).mono ?_
  rintro e w10 ⟨ev, rfl, V10, E10⟩
  have f10 := Fr.of_below (C := C8) V10 (fun _ => False)
  have p10 := p9.fr f10 (fun x h => h.elim) (by decide)
  have q10 := q9.fr f10 (fun x h => h.elim) (by simp [st0])
  have F10 := f10.Fin F9
  have T10 := T9.trans (f10.mono (fun x h => h.elim))
  obtain ⟨eb, rfl, -, B10⟩ := E10
  clear p9 q9 F9 T9 f10 V10 D9
  go_wp2_with fail
  refine (read_fault (11, 0) ⟨by omega, by omega, by omega, by omega⟩ eb _ B10).mono ?_
  rintro e w11 ⟨rfl, V11⟩
  rw [awk_text]
  have f11 := Fr.of_below (C := C8) V11 (fun _ => False)
  have p11 := p10.fr f11 (fun x h => h.elim) (by decide)
  have q11 := q10.fr f11 (fun x h => h.elim) (by simp [st0])
  have F11 := f11.Fin F10
  have T11 := T10.trans (f11.mono (fun x h => h.elim))
  clear p10 q10 F10 T10 f11 V11 B10
  go_wp2_with fail
  refine (portsSeal wiredC wired_good C8 100 500 b0 ab0 (by omega) ⟨by omega, by omega⟩ n0 pv qv rv 0 lv8 _ _ F11 p11 awk_q4).mono ?_
  rintro e w12 ⟨mv, cs, C12, lv12, rfl, f12, -, s12, m12⟩
  have q12 := q11.fr f12 (fun x h => by unfold PK at h; omega) (by simp [st0])
  have F12 := f12.Fin F11
  have T12 := T11.trans (f12.mono (fun x h => by unfold PK at h; omega))
  rw [awk_ms] at s12 m12
  obtain ⟨ma, mc, rfl, hmc, hmm, -⟩ := s12.form
  clear p11 q11 F11 T11 f12
  go_wp2_with fail
  refine (readEmptyB C12 300 b1 ab1 (by omega) n1 pu qu ru noLv (st0 4) _ F12 q12 rfl).mono ?_
  rintro e w13 ⟨ev', rfl, V13, -⟩
  have f13 := Fr.of_below (C := C12) V13 (fun _ => False)
  have q13 := q12.fr f13 (fun x h => h.elim) (by simp [st0])
  have F13 := f13.Fin F12
  have T13 := T12.trans (f13.mono (fun x h => h.elim))
  have s13 := s12.fr f13 (fun h => h.elim)
  have m13 := m12.fr f13 (fun h => h.elim)
  clear q12 F12 T12 f13 V13 s12 m12
  go_wp2_with fail
  refine (portsDeliver wiredC wired_good C12 300 500 b1 ab1 (by omega) (by omega) n1 pu qu ru 1 0 noLv (st0 4) _ cs [⟨0, [97]⟩, ⟨0, [98]⟩] _ F13 q13 s13.rdk m13 (by decide)).mono ?_
  rintro e w14 ⟨C14, lv14, rfl, f14, q14⟩
  rw [show delivR wiredC 1 0 (st0 4) [⟨0, [97]⟩, ⟨0, [98]⟩] ([⟨0, [97]⟩, ⟨0, [98]⟩] : List Msg).length = (awkT, 1) from awk_del] at q14 ⊢
  have F14 := f14.Fin F13
  have T14 := T13.trans (f14.mono (fun x h => by omega))
  clear q13 F13 T13 f14 s13 m13
  go_wp2_with fail
  refine (portsImage wiredC wired_good C14 300 600 b1 ab1 (by omega) ⟨by omega, by omega⟩ pu qu ru 1 lv14 awkT _ F14 q14 awk_q4' awk_b).mono ?_
  rintro e w15 ⟨iv, is, C15, rfl, f15, s15, -⟩
  rw [awk_im] at s15
  obtain ⟨ia, ic, rfl, hic, him, -⟩ := s15.form
  have T15 := T14.trans (f15.mono (fun x h => by omega))
  clear q14 F14 T14 f15 s15
  go_wp2
  go_ret
  exact ⟨rfl, T15.below (fun b _ h => h rfl)⟩
end Go.Proofs.Ytogfbeibpfdleaa
