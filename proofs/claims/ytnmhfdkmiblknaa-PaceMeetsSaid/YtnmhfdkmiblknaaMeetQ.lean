/- PaceMeets' plain law: what two nodes that hear the same others reckon is near. No condition but that the tables work. -/
import Derived.Test.YtnmhfdkmiblknaaLieP
import Derived.Test.YtnmhfdkmiblknaaPaceX
set_option linter.unusedSimpArgs false
set_option linter.unusedVariables false
namespace Go.Proofs.Ytnmhfdkmiblknaa
open Go.RowKit Go.Maps

structure Works (c : Cfg) : Prop where
  rg : Ranges c
  nf : 3 * c.faulty + 1 ≤ c.nodes
  mg : c.prec + (c.dmax - c.dmin) + c.drift ≤ c.margin
  sl : 2 * c.margin + c.dmax + c.prec ≤ c.slot
  gp : 2 * (c.margin + c.prec) ≤ c.gap
theorem Works.of {c : Cfg} (h : sndE c = none) : Works c := by
  have hg := (sndE_good h).rg
  unfold sndE at h
  cases ht : tabE c with
  | some x => rw [if_pos (by rw [ht]; rfl), ht] at h; cases h
  | none =>
    rw [if_neg (by rw [ht]; simp)] at h
    split at h
    · cases h
    · split at h
      · cases h
      · split at h
        · cases h
        · split at h
          · cases h
          · exact ⟨hg, by omega, by omega, by omega, by omega⟩
theorem Works.dr {c : Cfg} (h : Works c) : 2 * c.rho * c.round ≤ (c.drift - 2) * 1000000 := by unfold Cfg.drift; omega
theorem abs_mul (x r R p : Int) (hx : 0 ≤ x ∧ x ≤ R) (hr : -p ≤ r ∧ r ≤ p) : -(R * p) ≤ x * r ∧ x * r ≤ R * p := by
  have h1 := Int.mul_le_mul (a := x) (b := p) (c := R) (d := p) hx.2 (Int.le_refl _) (by omega) (by omega)
  have h2 := Int.mul_le_mul_of_nonneg_left hr.2 hx.1
  have h3 := Int.mul_le_mul_of_nonneg_left hr.1 hx.1
  rw [Int.mul_neg] at h3
  omega
/-- What a clock shows is near real time. -/
theorem lclk_near {c : Cfg} (h : Works c) (s r t : Int) (hr : -c.rho ≤ r ∧ r ≤ c.rho) (hx : 0 ≤ t - s ∧ t - s ≤ c.round) : -(c.drift - 1) ≤ 2 * (lclk s r t - (t - s)) ∧ 2 * (lclk s r t - (t - s)) ≤ c.drift - 2 := by
  have hd := h.dr
  obtain ⟨a1, a2⟩ := abs_mul (t - s) r c.round c.rho hx hr
  unfold lclk
  rw [show 2 * c.rho * c.round = 2 * (c.round * c.rho) by rw [Int.mul_assoc, Int.mul_comm c.rho]] at hd
  rw [Int.mul_add]
  obtain ⟨y, hy⟩ : ∃ y, (t - s) * r = y := ⟨_, rfl⟩
  obtain ⟨x, hx0⟩ : ∃ x, t - s = x := ⟨_, rfl⟩
  obtain ⟨z, hz⟩ : ∃ z, c.round * c.rho = z := ⟨_, rfl⟩
  rw [hy, hz] at a1 a2
  rw [hz] at hd
  rw [hy, hx0]
  omega
theorem send_le {c : Cfg} (h : Works c) (n i : Nat) (hn : c.nodes = (n : Int)) (hi : i < n) : 0 ≤ (i : Int) * c.slot ∧ (i : Int) * c.slot + c.slot ≤ c.nodes * c.slot := by
  have s0 := h.rg.s0
  have h1 := Int.mul_nonneg (a := (i : Int)) (b := c.slot) (by omega) (by omega)
  have h2 := Int.mul_le_mul_of_nonneg_right (show (i : Int) + 1 ≤ c.nodes by omega) (show 0 ≤ c.slot by omega)
  rw [Int.add_mul, Int.one_mul] at h2
  exact ⟨h1, h2⟩
/-- A deviation, told from the beginning of all. -/
theorem dev_near {c : Cfg} (h : Works c) (n i : Nat) (hn : c.nodes = (n : Int)) (hi : i < n) (base s si r t : Int) (hr : -c.rho ≤ r ∧ r ≤ c.rho) (hs : base ≤ s ∧ s ≤ base + c.prec / 2) (hsi : base ≤ si ∧ si ≤ base + c.prec / 2) (ht : si + c.send i + c.dmin ≤ t ∧ t ≤ si + c.send i + c.dmax) :
    -((c.dmax - c.dmin) / 2) - c.drift / 2 ≤ devOf c s r i t + s - si ∧ devOf c s r i t + s - si ≤ (c.dmax - c.dmin) - (c.dmax - c.dmin) / 2 + c.drift / 2 - 1 := by
  have hp := h.rg.prec
  have hdr := h.rg.drift
  obtain ⟨m1, m2⟩ := send_le h n i hn hi
  have g0 := h.rg.g0
  have d0 := h.rg.d0
  have d1 := h.rg.d1
  have mg := h.mg
  have sl := h.sl
  obtain ⟨y, hy⟩ : ∃ y, (i : Int) * c.slot = y := ⟨_, rfl⟩
  obtain ⟨R1, hR⟩ : ∃ y, c.nodes * c.slot = y := ⟨_, rfl⟩
  unfold Cfg.send at ht
  rw [hy] at m1 m2 ht
  rw [hR] at m2
  have key := lclk_near h s r t hr ⟨by omega, by unfold Cfg.round; rw [hR]; omega⟩
  unfold devOf Cfg.send Cfg.mean
  rw [hy]
  omega
/-- When a clock shows so much. -/
theorem rclk_near {c : Cfg} (h : Works c) (s r x : Int) (hr : -c.rho ≤ r ∧ r ≤ c.rho) (hx : 0 ≤ x ∧ x ≤ 2 * c.round) : -(3 * (c.drift - 2)) ≤ 2 * (rclk s r x - s - x) ∧ 2 * (rclk s r x - s - x) ≤ 3 * (c.drift - 2) + 2 := by
  have hd := h.dr
  have hdr := h.rg.drift
  have r1 := h.rg.r1
  obtain ⟨a1, a2⟩ := abs_mul x r (2 * c.round) c.rho hx hr
  rw [show 2 * c.rho * c.round = 2 * c.round * c.rho by rw [Int.mul_assoc, Int.mul_comm c.rho, ← Int.mul_assoc]] at hd
  unfold rclk
  have q1 := Int.mul_ediv_add_emod (-x * 1000000) (1000000 + r)
  have q2 := Int.emod_nonneg (-x * 1000000) (show 1000000 + r ≠ 0 by omega)
  have q3 := Int.emod_lt_of_pos (-x * 1000000) (show 0 < 1000000 + r by omega)
  obtain ⟨q, hq⟩ : ∃ q, -x * 1000000 / (1000000 + r) = q := ⟨_, rfl⟩
  rw [hq] at q1 ⊢
  obtain ⟨e, he⟩ : ∃ e, -x * 1000000 % (1000000 + r) = e := ⟨_, rfl⟩
  rw [he] at q1 q2 q3
  obtain ⟨D, hD⟩ : ∃ D, c.drift - 2 = D := ⟨_, rfl⟩
  rw [hD] at hd ⊢
  have hD0 : 0 ≤ D := by omega
  obtain ⟨Z, hZ⟩ : ∃ Z, -q - x = Z := ⟨_, rfl⟩
  obtain rfl : q = -(Z + x) := by omega
  obtain ⟨y, hy⟩ : ∃ y, x * r = y := ⟨_, rfl⟩
  obtain ⟨z, hz⟩ : ∃ y, 2 * c.round * c.rho = y := ⟨_, rfl⟩
  rw [hy, hz] at a1 a2
  rw [hz] at hd
  have e1 : (1000000 + r) * -(Z + x) = -((1000000 + r) * Z) - 1000000 * x - y := by rw [Int.mul_neg, Int.mul_add, Int.add_mul 1000000 r x, Int.mul_comm r x, hy]; omega
  rw [e1] at q1
  obtain ⟨P, hP⟩ : ∃ P, (1000000 + r) * Z = P := ⟨_, rfl⟩
  rw [hP] at q1
  -- P = -y - e
  constructor
  · rcases Int.lt_or_le (2 * (s - -(Z + x) - s - x)) (-(3 * D)) with h1 | h1
    · exfalso
      have k := Int.mul_le_mul (a := 999800) (b := 3 * D + 1) (c := 1000000 + r) (d := -(2 * Z)) (by omega) (by omega) (by omega) (by omega)
      rw [Int.mul_neg, show (1000000 + r) * (2 * Z) = 2 * P by rw [← hP, ← Int.mul_assoc, Int.mul_comm _ 2, Int.mul_assoc]] at k
      omega
    · exact h1
  · rcases Int.lt_or_le (3 * D + 2) (2 * (s - -(Z + x) - s - x)) with h1 | h1
    · exfalso
      have k := Int.mul_le_mul (a := 999800) (b := 3 * D + 3) (c := 1000000 + r) (d := 2 * Z) (by omega) (by omega) (by omega) (by omega)
      rw [show (1000000 + r) * (2 * Z) = 2 * P by rw [← hP, ← Int.mul_assoc, Int.mul_comm _ 2, Int.mul_assoc]] at k
      omega
    · exact h1

/-- What node k has heard. -/
structure MeetD (c : Cfg) (n f : Nat) (S : List Int) (k : Nat) (r : Int) (devs : List Int) : Prop where
  len : devs.length = n
  self : devs.getD k 0 = 0
  good : ∀ i, i < n → i ≠ k → (f = 0 ∨ i + 1 < n) → ∃ t, S.getD i 0 + c.send i + c.dmin ≤ t ∧ t ≤ S.getD i 0 + c.send i + c.dmax ∧ devs.getD i 0 = devOf c (S.getD k 0) r i t
theorem mem_drop_rev {α : Type} [Inhabited α] (l : List α) (d : α) (f : Nat) (x : α) (h : x ∈ l.reverse.drop f) : ∃ i, i + f < l.length ∧ x = l.getD i d := by
  obtain ⟨j, hj, rfl⟩ := List.getElem_of_mem h
  rw [List.length_drop, List.length_reverse] at hj
  refine ⟨l.length - 1 - (f + j), by omega, ?_⟩
  rw [List.getElem_drop, List.getElem_reverse, List.getD_eq_getElem?_getD, List.getElem?_eq_getElem (by omega)]
  rfl
theorem MeetD.rng {c : Cfg} (h : Works c) {n f : Nat} (hn : c.nodes = (n : Int)) {S : List Int} {k : Nat} {r base : Int} {devs : List Int} (hk : k < n) (hS : ∀ i, i < n → base ≤ S.getD i 0 ∧ S.getD i 0 ≤ base + c.prec / 2) (hr : -c.rho ≤ r ∧ r ≤ c.rho) (m : MeetD c n f S k r devs) (i : Nat) (hi : i < n) (hg : f = 0 ∨ i + 1 < n) :
    -((c.dmax - c.dmin) / 2) - c.drift / 2 ≤ devs.getD i 0 + S.getD k 0 - S.getD i 0 ∧ devs.getD i 0 + S.getD k 0 - S.getD i 0 ≤ (c.dmax - c.dmin) - (c.dmax - c.dmin) / 2 + c.drift / 2 - 1 := by
  by_cases hik : i = k
  · subst hik
    rw [m.self]
    have := h.rg.drift
    have := h.rg.d1
    omega
  · obtain ⟨t, t1, t2, h3⟩ := m.good i hi hik hg
    rw [h3]
    exact dev_near h n i hn hi base _ _ r t hr (hS k hk) (hS i hi) ⟨t1, t2⟩
theorem map_getD_add (l : List Int) (d : Int) (i : Nat) (hi : i < l.length) : (l.map (· + d)).getD i 0 = l.getD i 0 + d := by
  rw [List.getD_eq_getElem?_getD, List.getElem?_map, List.getD_eq_getElem?_getD, List.getElem?_eq_getElem hi]
  rfl
theorem ma1 (e dr q R M S base : Int) (he : 0 ≤ e) (hd : 0 ≤ dr) (hq : q = 2 * e + 8 * dr + 32) (hR : 2 * q ≤ R) (hS : base ≤ S ∧ S ≤ base + q) (hb : base - e / 2 - dr / 2 ≤ M + S ∧ M + S ≤ base + q + (e - e / 2) + dr / 2 - 1) : 0 ≤ R + M ∧ R + M ≤ 2 * R := by omega
theorem ma2 (e dr q R M0 M1 S0 S1 base N0 N1 : Int) (he : 0 ≤ e) (hd : 0 ≤ dr) (hq : q = 2 * e + 8 * dr + 32)
    (hm : 2 * (M0 + S0 - (M1 + S1)) ≤ base + q + (e - e / 2) + dr / 2 - 1 - (base - e / 2 - dr / 2) + (e + dr - 1) + 1 ∧ 2 * (M1 + S1 - (M0 + S0)) ≤ base + q + (e - e / 2) + dr / 2 - 1 - (base - e / 2 - dr / 2) + (e + dr - 1) + 1)
    (z0 : -(3 * (dr - 2)) ≤ 2 * (N0 - S0 - (R + M0)) ∧ 2 * (N0 - S0 - (R + M0)) ≤ 3 * (dr - 2) + 2) (z1 : -(3 * (dr - 2)) ≤ 2 * (N1 - S1 - (R + M1)) ∧ 2 * (N1 - S1 - (R + M1)) ≤ 3 * (dr - 2) + 2) : -q ≤ N0 - N1 ∧ N0 - N1 ≤ q := by omega
theorem meets_plain {c : Cfg} (h : Works c) {n f : Nat} (hn : c.nodes = (n : Int)) (hf : c.faulty = (f : Int)) (h2 : 2 ≤ n) {S : List Int} {base r0 r1 : Int} {D0 D1 : List Int} (hS : ∀ i, i < n → base ≤ S.getD i 0 ∧ S.getD i 0 ≤ base + c.prec / 2)
    (hr0 : -c.rho ≤ r0 ∧ r0 ≤ c.rho) (hr1 : -c.rho ≤ r1 ∧ r1 ≤ c.rho) (m0 : MeetD c n f S 0 r0 D0) (m1 : MeetD c n f S 1 r1 D1) :
    -(c.prec / 2) ≤ nextV c (S.getD 0 0) r0 D0 f - nextV c (S.getD 1 0) r1 D1 f ∧ nextV c (S.getD 0 0) r0 D0 f - nextV c (S.getD 1 0) r1 D1 f ≤ c.prec / 2 := by
  have hnf := h.nf
  rw [hf, hn] at hnf
  have n0 : ¬ CutNo D0 (f : Int) := by have := m0.len; unfold CutNo; omega
  have n1 : ¬ CutNo D1 (f : Int) := by have := m1.len; unfold CutNo; omega
  have e0 : midE D0 f = none := by unfold midE; rw [if_neg n0]
  have e1 : midE D1 f = none := by unfold midE; rw [if_neg n1]
  have v0 : midV D0 f = midz D0 f := by unfold midV; rw [if_neg n0]
  have v1 : midV D1 f = midz D1 f := by unfold midV; rw [if_neg n1]
  unfold nextV
  rw [if_pos e0, if_pos e1, v0, v1]
  have w0 := mid_moves D0 f (S.getD 0 0) (by have := m0.len; omega)
  have w1 := mid_moves D1 f (S.getD 1 0) (by have := m1.len; omega)
  have s0 := hS 0 (by omega)
  have s1 := hS 1 (by omega)
  have l0 : (D0.map (· + S.getD 0 0)).length = n := by rw [List.length_map]; exact m0.len
  have l1 : (D1.map (· + S.getD 1 0)).length = n := by rw [List.length_map]; exact m1.len
  have a0 := fun i hi hg => m0.rng h hn (by omega) hS hr0 i hi hg
  have a1 := fun i hi hg => m1.rng h hn (by omega) hS hr1 i hi hg
  have g0 : ∀ y ∈ (D0.map (· + S.getD 0 0)).reverse.drop f, base - (c.dmax - c.dmin) / 2 - c.drift / 2 ≤ y ∧ y ≤ base + c.prec / 2 + ((c.dmax - c.dmin) - (c.dmax - c.dmin) / 2) + c.drift / 2 - 1 := fun y hy => by
    obtain ⟨i, hi, rfl⟩ := mem_drop_rev _ 0 f y hy
    rw [l0] at hi
    rw [map_getD_add _ _ _ (by have := m0.len; omega)]
    have := a0 i (by omega) (by omega)
    have := hS i (by omega)
    omega
  have g1 : ∀ y ∈ (D1.map (· + S.getD 1 0)).reverse.drop f, base - (c.dmax - c.dmin) / 2 - c.drift / 2 ≤ y ∧ y ≤ base + c.prec / 2 + ((c.dmax - c.dmin) - (c.dmax - c.dmin) / 2) + c.drift / 2 - 1 := fun y hy => by
    obtain ⟨i, hi, rfl⟩ := mem_drop_rev _ 0 f y hy
    rw [l1] at hi
    rw [map_getD_add _ _ _ (by have := m1.len; omega)]
    have := a1 i (by omega) (by omega)
    have := hS i (by omega)
    omega
  have near : ∀ (i : Nat) u v, ((D0.map (· + S.getD 0 0)).reverse.drop f)[i]? = some u → ((D1.map (· + S.getD 1 0)).reverse.drop f)[i]? = some v → u - ((c.dmax - c.dmin) + c.drift - 1) ≤ v ∧ v ≤ u + ((c.dmax - c.dmin) + c.drift - 1) := fun i u v hu hv => by
    have hi : f + i < n := by
      rcases Nat.lt_or_ge (f + i) n with h | h
      · exact h
      · rw [List.getElem?_drop, List.getElem?_eq_none (by rw [List.length_reverse, l0]; exact h)] at hu; cases hu
    rw [List.getElem?_drop, List.getElem?_reverse (by rw [l0]; exact hi), l0] at hu
    rw [List.getElem?_drop, List.getElem?_reverse (by rw [l1]; exact hi), l1] at hv
    have hu' := map_getD_add D0 (S.getD 0 0) (n - 1 - (f + i)) (by have := m0.len; omega)
    have hv' := map_getD_add D1 (S.getD 1 0) (n - 1 - (f + i)) (by have := m1.len; omega)
    rw [List.getD_eq_getElem?_getD, hu] at hu'
    rw [List.getD_eq_getElem?_getD, hv] at hv'
    have := a0 (n - 1 - (f + i)) (by omega) (by omega)
    have := a1 (n - 1 - (f + i)) (by omega) (by omega)
    simp only [Option.getD_some] at hu' hv'
    omega
  have hm := mids_near _ _ n f (by rw [List.length_reverse]; exact l0) (by rw [List.length_reverse]; exact l1) (by omega) _ _ _ g0 g1 near
  have b0 := mid_among _ f (by rw [List.length_reverse, l0]; omega) _ _ (fun y hy => (g0 y hy).1) (fun y hy => (g0 y hy).2)
  have b1 := mid_among _ f (by rw [List.length_reverse, l1]; omega) _ _ (fun y hy => (g1 y hy).1) (fun y hy => (g1 y hy).2)
  rw [w0, w1] at hm
  rw [w0] at b0
  rw [w1] at b1
  have hd := h.rg.drift
  have hp := h.rg.prec
  have d1 := h.rg.d1
  have mg := h.mg
  have gp := h.gp
  have ns := h.rg.ns
  have hR : c.gap ≤ c.round := by unfold Cfg.round; omega
  have hpe : c.prec / 2 = 2 * (c.dmax - c.dmin) + 8 * c.drift + 32 := by unfold Cfg.prec; omega
  have hq : 2 * (c.prec / 2) ≤ c.round := by omega
  have u0 := ma1 (c.dmax - c.dmin) c.drift (c.prec / 2) c.round (midz D0 f) (S.getD 0 0) base (by omega) (by omega) hpe hq s0 b0
  have u1 := ma1 (c.dmax - c.dmin) c.drift (c.prec / 2) c.round (midz D1 f) (S.getD 1 0) base (by omega) (by omega) hpe hq s1 b1
  exact ma2 (c.dmax - c.dmin) c.drift (c.prec / 2) c.round (midz D0 f) (midz D1 f) (S.getD 0 0) (S.getD 1 0) base _ _ (by omega) (by omega) hpe hm (rclk_near h _ r0 _ hr0 u0) (rclk_near h _ r1 _ hr1 u1)
end Go.Proofs.Ytnmhfdkmiblknaa
