/- Package pace: New, Real, Local, Hear, Turn, Next. No condition but that the tables work and moderate times. -/
import Derived.Test.YtnmhfdkmiblknaaClk
import Derived.Test.YtnmhfdkmiblknaaSoundB
import Derived.Test.YtnmhfdkmiblknaaSound4
import Derived.Test.YtnmhfdkmiblknaaSl
import Derived.Test.YtnmhfdkmiblknaaCutE
import Derived.Deep.DeepCutAuto
set_option linter.unusedSimpArgs false
set_option linter.unusedVariables false
namespace Go.Proofs.Ytnmhfdkmiblknaa
open Go.RowKit Go.Maps

/-- A pace in memory: four blocks of colour k. -/
structure IsPace (w : World) (C : Nat → Nat) (k pb kb db hb : Nat) (c : Cfg) (pv qv rv : Value) (me : Int) (cold : Bool) (since rate : Int) (devs : List Int) (has : List Bool) : Prop where
  head : Bk w pb 69 (c.cells pv qv rv ++ [.int .i64 me, .bool cold, .pointer (some ⟨kb, 0, none⟩), .slice (some ⟨db, 0, none⟩) devs.length devs.length, .slice (some ⟨hb, 0, none⟩) has.length has.length])
  clk : Bk w kb 90 [.int .i64 since, .int .i64 rate]
  dv : Bk w db 3 (devs.map (Value.int .i64))
  hs : Bk w hb 4 (has.map Value.bool)
  col : C pb = k ∧ C kb = k ∧ C db = k ∧ C hb = k
  ld : (devs.length : Int) = c.nodes
  lh : (has.length : Int) = c.nodes
theorem Bk.rd {w : World} {C : Nat → Nat} {b t sz n : Nat} {cs : List Value} (h : Bk w b t cs) (hC : C b = 0) (hl : cs.length = n * sz) (hn : n ≤ maxLen) : Rd w C (.slice (some ⟨b, 0, none⟩) n n) sz n cs :=
  ⟨_, _, rfl, Nat.le_refl _, hn, hl, fun _ => ⟨b, 0, rfl, hC, h.lt, fun i x hx => by rw [Nat.zero_add]; exact h.cell_ i hx⟩⟩
section
variable {w w' : World} {C C' : Nat → Nat} {k pb kb db hb : Nat} {c : Cfg} {pv qv rv : Value} {me since rate : Int} {cold : Bool} {devs : List Int} {has : List Bool}
theorem IsPace.fr {K : Nat → Prop} (h : IsPace w C k pb kb db hb c pv qv rv me cold since rate devs has) (f : Fr K C C' w w') (hk : ¬ K k) : IsPace w' C' k pb kb db hb c pv qv rv me cold since rate devs has := by
  obtain ⟨c1, c2, c3, c4⟩ := h.col
  have f1 := f.block _ h.head.lt (by rw [c1]; exact hk)
  have f2 := f.block _ h.clk.lt (by rw [c2]; exact hk)
  have f3 := f.block _ h.dv.lt (by rw [c3]; exact hk)
  have f4 := f.block _ h.hs.lt (by rw [c4]; exact hk)
  exact ⟨h.head.same f1.1, h.clk.same f2.1, h.dv.same f3.1, h.hs.same f4.1, ⟨f1.2.trans c1, f2.2.trans c2, f3.2.trans c3, f4.2.trans c4⟩, h.ld, h.lh⟩
theorem IsPace.below (h : IsPace w C k pb kb db hb c pv qv rv me cold since rate devs has) (b : Below w.heap.size w w') : IsPace w' C k pb kb db hb c pv qv rv me cold since rate devs has := h.fr (Fr.of_below b (fun _ => False)) (fun h => h)
theorem IsPace.cfg (h : IsPace w C k pb kb db hb c pv qv rv me cold since rate devs has) :
    w.cell? ⟨pb, 0, none⟩ = some (.int .i64 c.nodes) ∧ w.cell? ⟨pb, 1, none⟩ = some (.int .i64 c.faulty) ∧ w.cell? ⟨pb, 2, none⟩ = some (.int .i64 c.slot) ∧ w.cell? ⟨pb, 3, none⟩ = some (.int .i64 c.gap) ∧ w.cell? ⟨pb, 4, none⟩ = some (.int .i64 c.rho) ∧ w.cell? ⟨pb, 5, none⟩ = some (.int .i64 c.dmin) ∧ w.cell? ⟨pb, 6, none⟩ = some (.int .i64 c.dmax) ∧ w.cell? ⟨pb, 7, none⟩ = some (.int .i64 c.margin) ∧ w.cell? ⟨pb, 8, none⟩ = some pv ∧ w.cell? ⟨pb, 9, none⟩ = some qv ∧ w.cell? ⟨pb, 10, none⟩ = some rv ∧
      w.cell? ⟨pb, 11, none⟩ = some (.int .i64 me) ∧ w.cell? ⟨pb, 12, none⟩ = some (.bool cold) ∧ w.cell? ⟨pb, 13, none⟩ = some (.pointer (some ⟨kb, 0, none⟩)) ∧ w.cell? ⟨pb, 14, none⟩ = some (.slice (some ⟨db, 0, none⟩) devs.length devs.length) ∧ w.cell? ⟨pb, 15, none⟩ = some (.slice (some ⟨hb, 0, none⟩) has.length has.length) :=
  ⟨h.head.cell_ 0 rfl, h.head.cell_ 1 rfl, h.head.cell_ 2 rfl, h.head.cell_ 3 rfl, h.head.cell_ 4 rfl, h.head.cell_ 5 rfl, h.head.cell_ 6 rfl, h.head.cell_ 7 rfl, h.head.cell_ 8 rfl, h.head.cell_ 9 rfl, h.head.cell_ 10 rfl, h.head.cell_ 11 rfl, h.head.cell_ 12 rfl, h.head.cell_ 13 rfl, h.head.cell_ 14 rfl, h.head.cell_ 15 rfl⟩
theorem IsPace.hasAt (h : IsPace w C k pb kb db hb c pv qv rv me cold since rate devs has) {i : Nat} (hi : i < has.length) : w.cell? ⟨hb, i, none⟩ = some (.bool (has.getD i false)) :=
  h.hs.cell_ i (by rw [List.getElem?_map, List.getD_eq_getElem?_getD, List.getElem?_eq_getElem hi]; rfl)
theorem IsPace.devAt (h : IsPace w C k pb kb db hb c pv qv rv me cold since rate devs has) {i : Nat} (hi : i < devs.length) : w.cell? ⟨db, i, none⟩ = some (.int .i64 (devs.getD i 0)) :=
  h.dv.cell_ i (by rw [List.getElem?_map, List.getD_eq_getElem?_getD, List.getElem?_eq_getElem hi]; rfl)
theorem IsPace.ints (h : IsPace w C k pb kb db hb c pv qv rv me cold since rate devs has) (hn : devs.length ≤ 1000) : IsInts w (fun _ => 0) (.slice (some ⟨db, 0, none⟩) devs.length devs.length) devs := by
  have := h.dv.rd (C := fun _ => 0) (sz := 1) (n := devs.length) rfl (by simp) (by unfold maxLen; omega)
  exact this
/-- A deviation is noted. -/
theorem IsPace.set (h : IsPace w C k pb kb db hb c pv qv rv me cold since rate devs has) (i : Nat) (x : Int) :
    IsPace (w.setCell ⟨db, i, none⟩ (.int .i64 x)) C k pb kb db hb c pv qv rv me cold since rate (devs.set i x) has ∧ Fr (· = k) C C w (w.setCell ⟨db, i, none⟩ (.int .i64 x)) := by
  have n1 := h.head.ne h.dv (by decide)
  have n2 := h.clk.ne h.dv (by decide)
  have n3 := h.hs.ne h.dv (by decide)
  refine ⟨⟨by rw [List.length_set]; exact h.head.far n1 _, h.clk.far n2 _, by have := h.dv.set i (.int .i64 x); rw [List.map_set]; exact this, h.hs.far n3 _, h.col, by rw [List.length_set]; exact h.ld, h.lh⟩, (Fr.refl _ C w).setCell (.inr h.col.2.2.1) _⟩
theorem IsPace.mark (h : IsPace w C k pb kb db hb c pv qv rv me cold since rate devs has) (i : Nat) :
    IsPace (w.setCell ⟨hb, i, none⟩ (.bool true)) C k pb kb db hb c pv qv rv me cold since rate devs (has.set i true) ∧ Fr (· = k) C C w (w.setCell ⟨hb, i, none⟩ (.bool true)) := by
  have n1 := h.head.ne h.hs (by decide)
  have n2 := h.clk.ne h.hs (by decide)
  have n3 := h.dv.ne h.hs (by decide)
  refine ⟨⟨by rw [List.length_set]; exact h.head.far n1 _, h.clk.far n2 _, h.dv.far n3 _, by have := h.hs.set i (.bool true); rw [List.map_set]; exact this, h.col, h.ld, by rw [List.length_set]; exact h.lh⟩, (Fr.refl _ C w).setCell (.inr h.col.2.2.2) _⟩
end
theorem below_drewN (w : World) (n : Nat) : Below w.heap.size w (w.drewN n) := ⟨rfl, rfl, rfl, Nat.le_refl _, fun _ _ => rfl⟩

set_option maxRecDepth 100000 in
theorem paceReal (C : Nat → Nat) (k pb kb db hb : Nat) (c : Cfg) (pv qv rv : Value) (me : Int) (cold : Bool) (since rate : Int) (devs : List Int) (has : List Bool) (lo : Int) (hr : -200 ≤ rate ∧ rate ≤ 200) (hs : 0 ≤ since ∧ since ≤ 1125899906842624) (hx : -1000000000000 ≤ lo ∧ lo ≤ 1000000000000) (w : World) (h : IsPace w C k pb kb db hb c pv qv rv me cold since rate devs has) :
    Calls Try.prog 21 #[.pointer (some ⟨pb, 0, none⟩), .int .i64 lo] w fun e w' => e = .returned (.int .i64 (rclk since rate lo)) ∧ Below w.heap.size w w' := by
  have c13 := h.cfg.2.2.2.2.2.2.2.2.2.2.2.2.2.1
  have HC := hid_ (clkReal kb since rate lo hr hs hx w h.clk)
  clear h hr hs hx
  go_enter Try.func21, Try.ntmps21
  go_wp2_with fail
  refine HC.out.mono ?_
  rintro e w' ⟨rfl, n, rfl⟩
  go_wp2
  go_ret
  exact ⟨rfl, below_drewN w n⟩
set_option maxRecDepth 100000 in
theorem paceLocal (C : Nat → Nat) (k pb kb db hb : Nat) (c : Cfg) (pv qv rv : Value) (me : Int) (cold : Bool) (since rate : Int) (devs : List Int) (has : List Bool) (real : Int) (hr : -200 ≤ rate ∧ rate ≤ 200) (hx : -1000000000000 ≤ real - since ∧ real - since ≤ 1000000000000) (w : World) (h : IsPace w C k pb kb db hb c pv qv rv me cold since rate devs has) :
    Calls Try.prog 22 #[.pointer (some ⟨pb, 0, none⟩), .int .i64 real] w fun e w' => e = .returned (.int .i64 (lclk since rate real)) ∧ Below w.heap.size w w' := by
  have c13 := h.cfg.2.2.2.2.2.2.2.2.2.2.2.2.2.1
  have HC := hid_ (clkLocal kb since rate real hr hx w h.clk)
  clear h hr hx
  go_enter Try.func22, Try.ntmps22
  go_wp2_with fail
  refine HC.out.mono ?_
  rintro e w' ⟨rfl, n, rfl⟩
  go_wp2
  go_ret
  exact ⟨rfl, below_drewN w n⟩

/-- Whether a coming counts; what it comes to. -/
def hearB (nodes me : Int) (cold : Bool) (has : List Bool) (node : Int) : Bool := !(decide (node < 0) || decide (nodes ≤ node) || (decide (node = me) && !cold) || has.getD node.toNat false)
def devOf (c : Cfg) (since rate : Int) (node real : Int) : Int := lclk since rate real - c.send node - c.mean
theorem lclk_rng (since rate real : Int) (hr : -200 ≤ rate ∧ rate ≤ 200) (hx : -1000000000000 ≤ real - since ∧ real - since ≤ 1000000000000) : -1100000000000 ≤ lclk since rate real ∧ lclk since rate real ≤ 1100000000000 := by
  obtain ⟨p0, p1⟩ := mul_rate _ rate hr hx
  unfold lclk
  omega
theorem send_rng {c : Cfg} (h : Ranges c) (i : Int) (hi : 0 ≤ i ∧ i ≤ 7) : 0 ≤ c.send i ∧ c.send i ≤ 150000000 := by
  have s0 := h.s0
  have s1 := h.s1
  have m0 := h.m0
  have m1 := h.m1
  unfold Cfg.send
  rcases (by omega : i = 0 ∨ i = 1 ∨ i = 2 ∨ i = 3 ∨ i = 4 ∨ i = 5 ∨ i = 6 ∨ i = 7) with rfl | rfl | rfl | rfl | rfl | rfl | rfl | rfl <;> omega
theorem mean_rng {c : Cfg} (h : Ranges c) : 0 ≤ c.mean ∧ c.mean ≤ 2000000 := by
  have d0 := h.d0
  have d1 := h.d1
  have x1 := h.x1
  unfold Cfg.mean
  omega

set_option maxRecDepth 100000 in
set_option maxHeartbeats 4000000 in
theorem paceHear_no (C : Nat → Nat) (k pb kb db hb : Nat) (c : Cfg) (pv qv rv : Value) (me : Int) (cold : Bool) (since rate : Int) (devs : List Int) (has : List Bool) (node real : Int) (w : World) (h : IsPace w C k pb kb db hb c pv qv rv me cold since rate devs has) (hN : hearB c.nodes me cold has node = false) :
    Calls Try.prog 13 #[.pointer (some ⟨pb, 0, none⟩), .int .i64 node, .int .i64 real] w fun e w' => e = .returned (.bool false) ∧ w' = w := by
  obtain ⟨c0, -, -, -, -, -, -, -, -, -, -, c11, c12, -, -, c15⟩ := h.cfg
  have hlh := h.lh
  have HH := hid_ h
  clear h
  by_cases h1 : node < 0
  · clear hN
    go_enter Try.func13, Try.ntmps13
    go_wp2
    go_ret
    exact ⟨rfl, rfl⟩
  by_cases h2 : c.nodes ≤ node
  · clear hN
    go_enter Try.func13, Try.ntmps13
    go_wp2
    go_ret
    exact ⟨rfl, rfl⟩
  obtain ⟨i, rfl⟩ := Int.eq_ofNat_of_zero_le (show 0 ≤ node by omega)
  have hi : i < has.length := by omega
  have j0 : (0 : Int) ≤ (i : Int) := Int.natCast_nonneg _
  have j1 : (i : Int) < (has.length : Int) := by omega
  have x0 := HH.out.hasAt hi
  unfold hearB at hN
  rw [Int.toNat_natCast] at hN
  obtain ⟨hv, hhv⟩ : ∃ b, has.getD i false = b := ⟨_, rfl⟩
  rw [hhv] at x0 hN
  clear hhv hlh
  by_cases hs : (i : Int) = me
  · have sb : ((i : Int) == me) = true := by simpa using hs
    have HS := hid_ hs
    clear hs
    cases cold with
    | false =>
      clear hN
      go_enter Try.func13, Try.ntmps13
      go_wp2
      go_ret
      exact ⟨rfl, rfl⟩
    | true =>
      have hv1 : hv = true := by
        simp only [decide_eq_false h1, decide_eq_false h2] at hN
        simpa using hN
      subst hv1
      clear hN
      go_enter Try.func13, Try.ntmps13
      go_wp2
      go_ret
      exact ⟨rfl, rfl⟩
  · have sb : ((i : Int) == me) = false := by simpa using hs
    have hv1 : hv = true := by
      simp only [decide_eq_false h1, decide_eq_false h2, decide_eq_false hs] at hN
      simpa using hN
    subst hv1
    clear hN hs
    go_enter Try.func13, Try.ntmps13
    go_wp2
    go_ret
    exact ⟨rfl, rfl⟩
end Go.Proofs.Ytnmhfdkmiblknaa
