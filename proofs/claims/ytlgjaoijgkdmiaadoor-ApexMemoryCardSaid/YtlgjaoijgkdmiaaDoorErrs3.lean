/- fault.Code, fault.Place, errors.Unwrap, errors.Is, fault.Has at a chain of the program's own errors. No condition but that errors.errorType holds its handle. -/
import Derived.Test.YtlgjaoijgkdmiaaDoorErrs2
import Derived.Deep.LoopGhost
set_option linter.unusedSimpArgs false
set_option linter.unusedVariables false
namespace Go.Proofs.YtlgjaoijgkdmiaaDoor
open Go.RowKit Go.Maps Go.Extern.Stop Go.Stop Go.Extern

def codeE : List (Int × Option Int) → Int
  | [] => 0
  | (c, _) :: _ => c
def hasE (c : Int) : List (Int × Option Int) → Bool
  | [] => false
  | (d, _) :: r => d == c || hasE c r

theorem as_ff_ (e t : Addr) (old : Value) (w : World) (hg : ErrT w) (ht0 : w.cell? t = some old) (hf0 : w.frozen? t = false) :
    Calls Tryd.prog 61 #[.iface 106 (.pointer (some e)), .iface 142 (.pointer (some t))] w fun ev w' => ev = .returned (.bool true) ∧ w'.cell? t = some (.pointer (some e)) ∧ Below t.block w w' :=
  (as_ff e t old w hg ht0 hf0).mono fun x w' ⟨he, hw⟩ => by
    subst hw
    have hb := World.block_lt_of_cell? _ _ ht0
    refine ⟨he, World.cell?_setCell_same _ _ _ (cell_alloc_keep _ (cell_alloc_keep _ (cell_alloc_keep _ (cell_alloc_keep _ ht0)))), ?_⟩
    exact (((((Below.refl _ w).alloc (by omega) _).alloc (by simp; omega) _).alloc (by simp; omega) _).alloc (by simp; omega) _).setCell (Nat.le_refl _) _
theorem as_ee_ (n : Int) (t : Addr) (old : Value) (w : World) (hg : ErrT w) (ht0 : w.cell? t = some old) (hf0 : w.frozen? t = false) :
    Calls Tryd.prog 61 #[.iface 53 (.int .i64 n), .iface 143 (.pointer (some t))] w fun ev w' => ev = .returned (.bool true) ∧ w'.cell? t = some (.int .i64 n) ∧ Below t.block w w' :=
  (as_ee n t old w hg ht0 hf0).mono fun x w' ⟨he, hw⟩ => by
    subst hw
    have hb := World.block_lt_of_cell? _ _ ht0
    refine ⟨he, World.cell?_setCell_same _ _ _ (cell_alloc_keep _ (cell_alloc_keep _ (cell_alloc_keep _ (cell_alloc_keep _ ht0)))), ?_⟩
    exact (((((Below.refl _ w).alloc (by omega) _).alloc (by simp; omega) _).alloc (by simp; omega) _).alloc (by simp; omega) _).setCell (Nat.le_refl _) _
theorem as_ef_ (n : Int) (t : Addr) (w : World) (hg : ErrT w) :
    Calls Tryd.prog 61 #[.iface 53 (.int .i64 n), .iface 142 (.pointer (some t))] w fun ev w' => ev = .returned (.bool false) ∧ Below w.heap.size w w' :=
  (as_ef n t w hg).mono fun x w' ⟨he, hw⟩ => by
    subst hw
    exact ⟨he, (((Below.refl _ w).alloc (Nat.le_refl _) _).alloc (by simp) _).alloc (by simp; omega) _⟩

set_option maxRecDepth 100000 in
set_option maxHeartbeats 4000000 in
theorem fault_code (C : Nat → Nat) (ev : Value) (e : List (Int × Option Int)) (w : World) (hg : ErrT w) (h : IsErr w C ev e) :
    Calls Tryd.prog 52 #[ev] w fun x w' => x = .returned (.int .i64 (codeE e)) ∧ Below w.heap.size w w' := by
  match e, h with
  | [], h =>
    simp only [IsErr] at h
    subst h
    clear hg
    go_enter Tryd.func52, Tryd.ntmps52
    go_wp2
    go_ret
    exact ⟨rfl, ((Below.refl _ _).alloc (Nat.le_refl _) _).alloc (by simp) _⟩
  | (c, none) :: rest, h =>
    obtain ⟨rfl, rfl⟩ := h
    have hg1 : ErrT ((w.alloc (.cells #[.pointer none] 106)).alloc (.cells #[.int .i64 0] 53)) := cell_alloc_keep _ (cell_alloc_keep _ hg)
    have HG := hid_ hg1
    have hc0 := Bk.new (w.alloc (.cells #[.pointer none] 106)) 53 [.int .i64 0]
    have HC := hid_ hc0
    have B0 : Below w.heap.size w ((w.alloc (.cells #[.pointer none] 106)).alloc (.cells #[.int .i64 0] 53)) := ((Below.refl _ _).alloc (Nat.le_refl _) _).alloc (by simp) _
    clear hg hg1 hc0
    go_enter Tryd.func52, Tryd.ntmps52
    go_wp2_with fail
    refine (as_ef_ c ⟨w.heap.size, 0, none⟩ _ HG.out).mono ?_
    rintro x w1 ⟨rfl, b1⟩
    have hc1 := HC.out.same (b1.block _ (by simp))
    simp only [World.size_alloc] at hc1
    have HC1 := hid_ hc1
    have HG1 := hid_ (HG.out.below b1)
    have B1 := B0.trans (b1.mono (by simp; omega))
    clear HC HG b1 hc1 B0
    go_wp2_with fail
    refine (as_ee_ c ⟨w.heap.size + 1, 0, none⟩ (.int .i64 0) _ HG1.out (HC1.out.cell_ 0 rfl) (HC1.out.frozen 0)).mono ?_
    rintro x w2 ⟨rfl, h2, b2⟩
    have B2 := B1.trans (b2.mono (by simp))
    clear HC1 HG1 B1 b2
    go_wp2
    go_ret
    exact ⟨rfl, B2⟩
  | (c, some a) :: rest, h =>
    simp only [IsErr] at h
    obtain ⟨b, cv, rfl, hB, hC, hr⟩ := h
    have hg1 : ErrT ((w.alloc (.cells #[.pointer none] 106)).alloc (.cells #[.int .i64 0] 53)) := cell_alloc_keep _ (cell_alloc_keep _ hg)
    have HG := hid_ hg1
    have hc0 := (Bk.new w 106 [.pointer none]).alloc (.cells #[.int .i64 0] 53)
    have HC := hid_ hc0
    have HB := hid_ hB
    have B0 : Below w.heap.size w ((w.alloc (.cells #[.pointer none] 106)).alloc (.cells #[.int .i64 0] 53)) := ((Below.refl _ _).alloc (Nat.le_refl _) _).alloc (by simp) _
    clear hg hg1 hc0 hr hB hC
    go_enter Tryd.func52, Tryd.ntmps52
    go_wp2_with fail
    refine (as_ff_ ⟨b, 0, none⟩ ⟨w.heap.size, 0, none⟩ (.pointer none) _ HG.out (HC.out.cell_ 0 rfl) (HC.out.frozen 0)).mono ?_
    rintro x w1 ⟨rfl, h1, b1⟩
    have B1 := B0.trans b1
    have c0 := (HB.out.same (B1.block _ HB.out.lt)).cell_ 0 rfl
    clear HC HG b1 B0 HB
    go_wp2
    go_ret
    exact ⟨rfl, B1⟩

set_option maxRecDepth 100000 in
theorem fault_unwrap (b : Nat) (c a : Int) (cv : Value) (w : World) (h : Bk w b 108 [.int .i64 c, .int .i64 a, cv]) :
    Calls Tryd.prog 92 #[.pointer (some ⟨b, 0, none⟩)] w fun x w' => x = .returned cv ∧ w = w' := by
  have c2 := h.cell_ 2 rfl
  clear h
  go_enter Tryd.func92, Tryd.ntmps92
  go_wp2
  go_ret
  exact ⟨rfl, rfl⟩
set_option maxRecDepth 100000 in
theorem fault_is (b : Nat) (c a d : Int) (cv : Value) (w : World) (h : Bk w b 108 [.int .i64 c, .int .i64 a, cv]) :
    Calls Tryd.prog 91 #[.pointer (some ⟨b, 0, none⟩), .iface 53 (.int .i64 d)] w fun x w' => x = .returned (.bool (c == d)) ∧ w = w' := by
  have c0 := h.cell_ 0 rfl
  have ta1 := ta_ee
  clear h
  go_enter Tryd.func91, Tryd.ntmps91
  go_wp2
  go_ret
  exact ⟨rfl, rfl⟩

set_option maxRecDepth 100000 in
set_option maxHeartbeats 1000000 in
theorem err_unwrap (C : Nat → Nat) (ev : Value) (x : Int × Option Int) (e : List (Int × Option Int)) (w : World) (h : IsErr w C ev (x :: e)) :
    Calls Tryd.prog 53 #[ev] w fun r w' => ∃ cv, r = .returned cv ∧ w = w' ∧ IsErr w C cv e := by
  have u1 := hasUn_f
  have u2 := noUn_e
  have mU := method_Unwrap
  match x, h with
  | (c, none), h =>
    obtain ⟨rfl, rfl⟩ := h
    go_enter Tryd.func53, Tryd.ntmps53
    go_wp2
    go_ret
    exact ⟨_, rfl, rfl, rfl⟩
  | (c, some a), h =>
    simp only [IsErr] at h
    obtain ⟨b, cv, rfl, hB, hC, hr⟩ := h
    have HR := hid_ hr
    have HB := hid_ hB
    clear hr hB hC
    go_enter Tryd.func53, Tryd.ntmps53
    go_wp2_with fail
    refine (fault_unwrap b c a cv _ HB.out).mono ?_
    rintro x w1 ⟨rfl, rfl⟩
    go_wp2
    go_ret
    exact ⟨cv, rfl, rfl, HR.out⟩

set_option maxRecDepth 100000 in
set_option maxHeartbeats 4000000 in
theorem errs_is (C : Nat → Nat) (ev : Value) (e : List (Int × Option Int)) (c : Int) (w : World) (h : IsErr w C ev e) (he : e ≠ []) :
    Calls Tryd.prog 63 #[ev, .iface 53 (.int .i64 c), .bool true] w fun r w' => r = .returned (.bool (hasE c e)) ∧ w = w' := by
  have u1 := hasUn_f
  have u2 := noUn_e
  have u3 := noUns_e
  have s1 := hasIs_f
  have s2 := noIs_e
  have mU := method_Unwrap
  have mI := method_Is
  have q1 := eql_fe
  have q2 := eql_ee
  go_enter Tryd.func63, Tryd.ntmps63
  go_wp2
  have HE := hid_ h
  have HN := hid_ he
  clear h he
  go_loopg [0] e.length (fun k xv wr => ∃ r, k = r.length ∧ w = wr ∧ IsErr w C xv r ∧ r ≠ [] ∧ hasE c e = hasE c r)
  case atStart => exact ⟨e, rfl, rfl, HE.out, HN.out, rfl⟩
  case round =>
    obtain ⟨r, rfl, rfl, hr, hn, hh⟩ := hrel
    clear HE HN
    match r, hr, hn with
    | (d, none) :: rest, hr, _ =>
      obtain ⟨rfl, rfl⟩ := hr
      have HH := hid_ hh
      clear hh
      by_cases hd : d = c
      · subst hd
        go_wp2
        go_ret
        exact ⟨by rw [HH.out]; simp [hasE], rfl⟩
      · have hb : (d == c) = false := by simpa using hd
        go_wp2
        go_ret
        exact ⟨by rw [HH.out]; simp [hasE, hd], rfl⟩
    | (d, some a) :: rest, hr, _ =>
      simp only [IsErr] at hr
      obtain ⟨b, cv, rfl, hB, hC, hr⟩ := hr
      have HH := hid_ hh
      have HR := hid_ hr
      have HB := hid_ hB
      clear hh hr hB hC
      by_cases hd : d = c
      · subst hd
        go_wp2_with fail
        refine (fault_is b d a d cv _ HB.out).mono ?_
        rintro x w1 ⟨rfl, rfl⟩
        go_wp2
        go_ret
        exact ⟨by rw [HH.out]; simp [hasE], rfl⟩
      · have hb : (d == c) = false := by simpa using hd
        have hh2 : hasE c e = hasE c rest := by rw [HH.out]; simp [hasE, hd]
        have HH2 := hid_ hh2
        clear hh2 hd HH
        go_wp2_with fail
        refine (fault_is b d a c cv _ HB.out).mono ?_
        rintro x w1 ⟨rfl, rfl⟩
        go_wp2_with fail
        refine (fault_unwrap b d a cv _ HB.out).mono ?_
        rintro x w1 ⟨rfl, rfl⟩
        match rest, HR, HH2 with
        | [], HR, HH2 =>
          have h0 := HR.out
          simp only [IsErr] at h0
          subst h0
          go_wp2
          go_ret
          exact ⟨by rw [HH2.out]; rfl, rfl⟩
        | y :: rest', HR, HH2 =>
          obtain ⟨u, v, rfl⟩ : ∃ u v, cv = .iface u v := by
            obtain ⟨y1, y2⟩ := y
            cases y2 with
            | none => exact ⟨_, _, HR.out.2⟩
            | some y2 =>
              have h0 := HR.out
              simp only [IsErr] at h0
              obtain ⟨_, _, h1, _⟩ := h0
              exact ⟨_, _, h1⟩
          go_wp2
          go_roundg (y :: rest').length
          case measure => simp
          case rel => exact ⟨y :: rest', rfl, rfl, HR.out, by simp, HH2.out⟩

theorem call_comparable (w : World) : (callFunc 98 #[.agg #[.pointer (some ⟨1, 53, none⟩)]]).run Tryd.prog w = .ok (.value (.bool true)) w := by
  rw [@run_callFunc_extern Tryd.prog 98 _ (ReflectliteType.method fun t => do Rtype.noPackHeld "Comparable" t; pure (.bool (← typeInfo t).comparable)) Tryd.func98 (by kernel_rfl) (by kernel_rfl) (by kernel_rfl) (by kernel_rfl), comparable_e]
  rfl
set_option maxRecDepth 100000 in
set_option maxHeartbeats 1000000 in
theorem errs_Is (C : Nat → Nat) (ev : Value) (e : List (Int × Option Int)) (c : Int) (w : World) (h : IsErr w C ev e) (he : e ≠ []) :
    Calls Tryd.prog 54 #[ev, .iface 53 (.int .i64 c)] w fun r w' => r = .returned (.bool (hasE c e)) ∧ w = w' := by
  obtain ⟨u, v, rfl⟩ : ∃ u v, ev = .iface u v := by
    match e, h, he with
    | (_, none) :: _, h, _ => exact ⟨_, _, h.2⟩
    | (_, some _) :: _, h, _ =>
      simp only [IsErr] at h
      obtain ⟨_, _, h1, _⟩ := h
      exact ⟨_, _, h1⟩
  have x7 := @run_callFunc_extern Tryd.prog 62 _ ReflectliteType.typeOf Tryd.func62 (by kernel_rfl) (by kernel_rfl) (by kernel_rfl) (by kernel_rfl)
  have x8 := call_comparable
  have y1 := typeOf_e
  have m1 := method_Comparable
  have HC := hid_ (errs_is C _ e c w h he)
  clear h he
  go_enter Tryd.func54, Tryd.ntmps54
  go_wp2_with fail
  refine HC.out.mono ?_
  rintro r w1 ⟨rfl, rfl⟩
  go_wp2
  go_ret
  exact ⟨rfl, rfl⟩

set_option maxRecDepth 100000 in
set_option maxHeartbeats 1000000 in
theorem fault_has (C : Nat → Nat) (ev : Value) (e : List (Int × Option Int)) (c : Int) (w : World) (h : IsErr w C ev e) :
    Calls Tryd.prog 41 #[ev, .int .i64 c] w fun r w' => r = .returned (.bool (hasE c e)) ∧ w = w' := by
  by_cases he : e = []
  · subst he
    simp only [IsErr] at h
    subst h
    go_enter Tryd.func41, Tryd.ntmps41
    go_wp2
    go_ret
    exact ⟨rfl, rfl⟩
  · have HC := hid_ (errs_Is C ev e c w h he)
    obtain ⟨u, v, rfl⟩ : ∃ u v, ev = .iface u v := by
      match e, h, he with
      | (_, none) :: _, h, _ => exact ⟨_, _, h.2⟩
      | (_, some _) :: _, h, _ =>
        simp only [IsErr] at h
        obtain ⟨_, _, h1, _⟩ := h
        exact ⟨_, _, h1⟩
    clear h he
    go_enter Tryd.func41, Tryd.ntmps41
    go_wp2_with fail
    refine HC.out.mono ?_
    rintro r w1 ⟨rfl, rfl⟩
    go_wp2
    go_ret
    exact ⟨rfl, rfl⟩
end Go.Proofs.YtlgjaoijgkdmiaaDoor
