/- Package pace: New where it refuses, and what a nil Pace answers. No condition but lists of moderate length. -/
import Derived.Test.YtnmhfdkmiblknaaPaceN
import Derived.Test.YtnmhfdkmiblknaaTabErrC
set_option linter.unusedSimpArgs false
set_option linter.unusedVariables false
namespace Go.Proofs.Ytnmhfdkmiblknaa
open Go.RowKit Go.Maps

/-- What law 01's Read says of an error value, from a world on. -/
def SaysT (w : World) (ev : Value) (t : List UInt8) : Prop :=
  ∀ W, Below w.heap.size w W → Calls Try.prog 19 #[ev] W fun e w' => e = .returned (.string ⟨t.toArray⟩) ∧ Below W.heap.size W w'
theorem says_num (w : World) (n : Int) (h : 1 ≤ n ∧ n ≤ 100) : SaysT w (.iface 63 (.int .i64 n)) (num n) := fun W _ =>
  read_any (fun _ => 0) _ [(n, none)] W ⟨rfl, rfl⟩ ⟨by simp, fun y hy => by
    simp only [List.mem_singleton] at hy
    subst hy
    exact ⟨by omega, by omega, by omega, fun a' h => by cases h⟩⟩
theorem says_fault (w w' : World) (x : Int × Int) (hx : OkPair x) (ev : Value) (h : ErrO w w' ev (some x)) : SaysT w' ev (refT (some x)) := fun W V => by
  obtain ⟨c, a⟩ := x
  obtain ⟨b, rfl, _, h3⟩ := h
  exact read_fault (c, a) hx b W (h3.same (V.block _ h3.lt))

set_option maxRecDepth 100000 in
theorem paceTurn_nil (w : World) : Calls Try.prog 20 #[.pointer none] w fun e w' => e = .returned (.tuple #[.int .i64 0, .iface 63 (.int .i64 1)]) ∧ w' = w := by
  go_enter Try.func20, Try.ntmps20
  go_wp2
  go_ret2
  exact ⟨rfl, rfl⟩
set_option maxRecDepth 100000 in
theorem paceHear_nil (n m : Int) (w : World) : Calls Try.prog 13 #[.pointer none, .int .i64 n, .int .i64 m] w fun e w' => e = .returned (.bool false) ∧ w' = w := by
  go_enter Try.func13, Try.ntmps13
  go_wp2
  go_ret
  exact ⟨rfl, rfl⟩
set_option maxRecDepth 100000 in
theorem paceReal_nil (n : Int) (w : World) : Calls Try.prog 21 #[.pointer none, .int .i64 n] w fun e w' => e = .returned (.int .i64 0) ∧ w' = w := by
  go_enter Try.func21, Try.ntmps21
  go_wp2
  go_ret
  exact ⟨rfl, rfl⟩
set_option maxRecDepth 100000 in
theorem paceLocal_nil (n : Int) (w : World) : Calls Try.prog 22 #[.pointer none, .int .i64 n] w fun e w' => e = .returned (.int .i64 0) ∧ w' = w := by
  go_enter Try.func22, Try.ntmps22
  go_wp2
  go_ret
  exact ⟨rfl, rfl⟩

/-- What New refuses, and the text. -/
def paceBad (c : Cfg) (me since rate : Int) : Prop := me < -1 ∨ c.nodes ≤ me ∨ clkBad since rate
instance (c : Cfg) (me since rate : Int) : Decidable (paceBad c me since rate) := by unfold paceBad clkBad; infer_instance
def paceT (c : Cfg) (me since rate : Int) : List UInt8 := if (sndE c).isSome then refT (sndE c) else if paceBad c me since rate then num 2 else []
def PaceNoP (t : List UInt8) (w : World) (e : Ending) (w' : World) : Prop := ∃ ev, e = .returned (.tuple #[.pointer none, ev]) ∧ Below w.heap.size w w' ∧ SaysT w' ev t

set_option maxRecDepth 100000 in
set_option maxHeartbeats 4000000 in
theorem paceNew_no (c : Cfg) (hok : c.ok) (pv qv rv : Value) (me : Int) (cold : Bool) (since rate : Int) (hL : longB c = false) (C : Nat → Nat) (w : World) (hl : Lists w C c pv qv rv) (hf : Fin C w) (hno : (sndE c).isSome ∨ paceBad c me since rate) :
    Calls Try.prog 11 #[c.v pv qv rv, .int .i64 me, .int .i64 since, .int .i64 rate, .bool cold] w (PaceNoP (paceT c me since rate) w) := by
  have b0 : Below w.heap.size w (w.alloc (.cells (c.cells pv qv rv).toArray 26)) := (Below.refl _ _).alloc (Nat.le_refl _) _
  have k0 := Bk.new w 26 (c.cells pv qv rv)
  have HCK0 := hid_ (fun (W : World) (V : Below w.heap.size w W) => sndCheck c hok C pv qv rv W (hl.fr (Fr.of_below V (fun _ => False)) (fun h => h)) ((Fr.of_below (C := C) V (fun _ => False)).Fin hf))
  have hpair := sndE_ok hL
  have HB0 := hid_ b0
  have HK0 := hid_ k0
  clear hl hf hok b0 k0 hL
  unfold Cfg.v
  go_enter Try.func11, Try.ntmps11
  go_upto_region 1 with fail
  refine gen_world (fun W => Below w.heap.size w W ∧ Bk W w.heap.size 26 (c.cells pv qv rv)) ⟨HB0.out, HK0.out⟩ ?_
  rintro W0 ⟨V0, K0⟩
  have HCK := hid_ (HCK0.out W0 V0)
  unfold Cfg.v at HCK
  have dc := K0.cfg0
  have HB1 := hid_ V0
  have HK1' := hid_ K0
  clear V0 K0 HCK0
  go_wp2_with fail
  refine HCK.out.mono ?_
  rintro e w1 ⟨ev, rfl, V1, hE⟩
  clear dc
  have V1' := below_then HB1.out V1
  have K1 := HK1'.out.same (V1.block _ HK1'.out.lt)
  have dc := K1.cfg0
  have HV1 := hid_ V1'
  cases hs : sndE c with
  | some x =>
    rw [hs] at hE
    have HR := hid_ (says_fault W0 w1 x (hpair x hs) ev hE)
    have HT := hid_ (show paceT c me since rate = refT (some x) by unfold paceT; rw [hs]; rfl)
    obtain ⟨cc, aa⟩ := x
    obtain ⟨b, rfl, h2, h3⟩ := hE
    unfold faultV at *
    clear hs hno hpair V1 V1' K1 HK0 HK1' HB0 HB1 h2 h3
    go_wp2
    go_ret2
    exact ⟨_, rfl, HV1.out, by rw [HT.out]; exact HR.out⟩
  | none =>
    rw [hs] at hE hno
    obtain rfl : ev = .nilIface := hE
    have hbad : paceBad c me since rate := by rcases hno with h | h; (cases h); exact h
    have HT := hid_ (show paceT c me since rate = num 2 by unfold paceT; rw [hs, if_neg (by simp), if_pos hbad])
    rcases (show me < -1 ∨ (¬ me < -1 ∧ c.nodes ≤ me) ∨ (¬ me < -1 ∧ ¬ c.nodes ≤ me ∧ clkBad since rate) by unfold paceBad at hbad; by_cases h1 : me < -1; exact .inl h1; by_cases h2 : c.nodes ≤ me; exact .inr (.inl ⟨h1, h2⟩); (rcases hbad with h | h | h); exact absurd h h1; exact absurd h h2; exact .inr (.inr ⟨h1, h2, h⟩)) with h1 | ⟨h1, h2⟩ | ⟨h1, h2, h3⟩
    · clear hs hno hpair hbad V1 V1' K1 HK0 HK1' HB0 HB1
      go_wp2
      go_ret2
      exact ⟨_, rfl, HV1.out, by rw [HT.out]; exact says_num _ 2 (by omega)⟩
    · clear hs hno hpair hbad V1 V1' K1 HK0 HK1' HB0 HB1
      go_wp2
      go_ret2
      exact ⟨_, rfl, HV1.out, by rw [HT.out]; exact says_num _ 2 (by omega)⟩
    · have HCN := hid_ (clkNew_bad since rate h3)
      clear hs hno hpair hbad V1 V1' K1 HK0 HK1' HB0 HB1 h3
      go_wp2_with fail
      refine (HCN.out _).mono ?_
      rintro e w2 ⟨rfl, rfl⟩
      go_wp2
      go_ret2
      exact ⟨_, rfl, HV1.out, by rw [HT.out]; exact says_num _ 2 (by omega)⟩
end Go.Proofs.Ytnmhfdkmiblknaa
