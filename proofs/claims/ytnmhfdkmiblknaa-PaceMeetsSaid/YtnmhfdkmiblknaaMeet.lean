/- PaceMeets: for every table, skews, delays, lie and rates the law returns true, and leaves memory as it was. No condition. -/
import Derived.Test.YtnmhfdkmiblknaaMeetC
import Derived.Test.YtnmhfdkmiblknaaRef6
set_option linter.unusedSimpArgs false
set_option linter.unusedVariables false
namespace Go.Proofs.Ytnmhfdkmiblknaa
open Go.RowKit Go.Maps

theorem getD_set_eq {α : Type} (l : List α) {i : Nat} (x d : α) (h : i < l.length) : (l.set i x).getD i d = x := by
  rw [List.getD_eq_getElem?_getD, List.getElem?_set_self h]; rfl
theorem getD_set_ne2 {α : Type} (l : List α) {i j : Nat} (x d : α) (h : i ≠ j) : (l.set i x).getD j d = l.getD j d := by
  rw [List.getD_eq_getElem?_getD, List.getD_eq_getElem?_getD, List.getElem?_set_ne h]
theorem tmod_rng2 (x m : Int) (h : 0 < m) : -m < x.tmod m ∧ x.tmod m < m := ⟨Int.lt_tmod_of_pos x h, Int.tmod_lt_of_pos x h⟩
/-- The inner loop's relation. -/
structure MeetR (c : Cfg) (n f : Nat) (S : List Int) (k : Nat) (r : Int) (i : Nat) (devs : List Int) (has : List Bool) : Prop where
  ld : devs.length = n
  lh : has.length = n
  self : devs.getD k 0 = 0
  new : ∀ j, i ≤ j → has.getD j false = false
  z : ∀ x ∈ devs, -500000000 ≤ x ∧ x ≤ 500000000
  good : ∀ j, j < i → j ≠ k → (f = 0 ∨ j + 1 < n) → ∃ t, S.getD j 0 + c.send j + c.dmin ≤ t ∧ t ≤ S.getD j 0 + c.send j + c.dmax ∧ devs.getD j 0 = devOf c (S.getD k 0) r j t
theorem MeetR.start (c : Cfg) (n f : Nat) (S : List Int) (k : Nat) (r : Int) : MeetR c n f S k r 0 (List.replicate n 0) (List.replicate n false) := by
  refine ⟨by simp, by simp, ?_, fun j _ => ?_, fun x hx => ?_, fun j h => by omega⟩
  · rw [List.getD_eq_getElem?_getD, List.getElem?_replicate]; split <;> rfl
  · rw [List.getD_eq_getElem?_getD, List.getElem?_replicate]; split <;> rfl
  · rw [List.mem_replicate] at hx; omega
theorem MeetR.skip {c : Cfg} {n f : Nat} {S : List Int} {k : Nat} {r : Int} {i : Nat} {devs : List Int} {has : List Bool} (h : MeetR c n f S k r i devs has) (hk : i = k) : MeetR c n f S k r (i + 1) devs has :=
  ⟨h.ld, h.lh, h.self, fun j hj => h.new j (by omega), h.z, fun j hj hjk hg => h.good j (by omega) hjk hg⟩
theorem MeetR.hear {c : Cfg} {n f : Nat} {S : List Int} {k : Nat} {r : Int} {i : Nat} {devs : List Int} {has : List Bool} (h : MeetR c n f S k r i devs has) (hi : i < n) (hk : i ≠ k) (d t : Int) (hd : -500000000 ≤ d ∧ d ≤ 500000000) (hdv : devOf c (S.getD k 0) r i t = d)
    (ht : (f = 0 ∨ i + 1 < n) → S.getD i 0 + c.send i + c.dmin ≤ t ∧ t ≤ S.getD i 0 + c.send i + c.dmax) : MeetR c n f S k r (i + 1) (devs.set i d) (has.set i true) := by
  refine ⟨by rw [List.length_set]; exact h.ld, by rw [List.length_set]; exact h.lh, by rw [getD_set_ne2 _ _ _ hk]; exact h.self, fun j hj => by rw [getD_set_ne2 _ _ _ (by omega)]; exact h.new j (by omega), fun x hx => ?_, fun j hj hjk hg => ?_⟩
  · rcases List.mem_or_eq_of_mem_set hx with h1 | h1
    · exact h.z x h1
    · rw [h1]; exact hd
  · by_cases hji : j = i
    · subst hji
      exact ⟨t, (ht hg).1, (ht hg).2, by rw [getD_set_eq _ _ _ (by rw [h.ld]; exact hi), hdv]⟩
    · obtain ⟨t', a1, a2, a3⟩ := h.good j (by omega) hjk hg
      exact ⟨t', a1, a2, by rw [getD_set_ne2 _ _ _ (Ne.symm hji)]; exact a3⟩
theorem MeetR.done {c : Cfg} {n f : Nat} {S : List Int} {k : Nat} {r : Int} {devs : List Int} {has : List Bool} (h : MeetR c n f S k r n devs has) : MeetD c n f S k r devs := ⟨h.ld, h.self, fun i hi hk hg => h.good i hi hk hg⟩
/-- The beginnings lie near one another. -/
def SOk (c : Cfg) (S : List Int) (m : Nat) : Prop := ∀ i, i < m → 2 * c.round ≤ S.getD i 0 ∧ S.getD i 0 ≤ 2 * c.round + c.prec / 2
theorem SOk.set {c : Cfg} {S : List Int} {m : Nat} (h : SOk c S m) (x : Int) (hm : m < S.length) (hx : 2 * c.round ≤ x ∧ x ≤ 2 * c.round + c.prec / 2) : SOk c (S.set m x) (m + 1) := fun i hi => by
  by_cases hmi : i = m
  · subst hmi
    rw [getD_set_eq _ _ _ hm]; exact hx
  · rw [getD_set_ne2 _ _ _ (Ne.symm hmi)]; exact h i (by omega)
/-- What a node reckoned. -/
def NextIs (c : Cfg) (n f : Nat) (S : List Int) (k : Nat) (r x : Int) : Prop := ∃ D, MeetD c n f S k r D ∧ x = nextV c (S.getD k 0) r D f
theorem dev_mid {n f : Nat} (hf : 3 * f + 1 ≤ n) {D : List Int} (hl : D.length = n) (hz : ∀ x ∈ D, -500000000 ≤ x ∧ x ≤ 500000000) : midE D f = none ∧ (-900000000000 ≤ midV D f ∧ midV D f ≤ 900000000000) := by
  have hn : ¬ CutNo D (f : Int) := by unfold CutNo; omega
  have hm := mid_among D f (by omega) (-500000000) 500000000 (fun x hx => (hz x (List.mem_of_mem_drop hx)).1) (fun x hx => (hz x (List.mem_of_mem_drop hx)).2)
  unfold midE midV
  rw [if_neg hn, if_neg hn]
  exact ⟨rfl, by omega, by omega⟩
theorem lclk_rng3 (since rate real : Int) (hr : -200 ≤ rate ∧ rate ≤ 200) (hx : -200000000 ≤ real - since ∧ real - since ≤ 200000000) : -300000000 ≤ lclk since rate real ∧ lclk since rate real ≤ 300000000 := by
  unfold lclk
  obtain ⟨x, hx0⟩ : ∃ x, real - since = x := ⟨_, rfl⟩
  rw [hx0] at hx ⊢
  have key : -200100000000000 ≤ x * (1000000 + rate) ∧ x * (1000000 + rate) ≤ 200100000000000 := by
    rcases (by omega : 0 ≤ x ∨ x < 0) with h | h
    · have h1 := Int.mul_le_mul (a := x) (b := 1000000 + rate) (c := 200000000) (d := 1000200) (by omega) (by omega) (by omega) (by omega)
      have h2 := Int.mul_nonneg (a := x) (b := 1000000 + rate) h (by omega)
      omega
    · obtain ⟨y, rfl⟩ : ∃ y, x = -y := ⟨-x, by omega⟩
      have h1 := Int.mul_le_mul (a := y) (b := 1000000 + rate) (c := 200000000) (d := 1000200) (by omega) (by omega) (by omega) (by omega)
      have h2 := Int.mul_nonneg (a := y) (b := 1000000 + rate) (by omega) (by omega)
      rw [Int.neg_mul]
      omega
  omega
/-- The cells of next, behind k nodes. -/
structure MeetN (c : Cfg) (n f : Nat) (S A : List Int) (k : Nat) (N : List Int) : Prop where
  len : N.length = 2
  h : ∀ j, j < k → NextIs c n f S j ((A.getD j 0).tmod (c.rho + 1)) (N.getD j 0)
theorem MeetN.set {c : Cfg} {n f : Nat} {S A : List Int} {k : Nat} {N : List Int} (h : MeetN c n f S A k N) (hk : k < 2) {x r : Int} (hr : (A.getD k 0).tmod (c.rho + 1) = r) (hx : NextIs c n f S k r x) : MeetN c n f S A (k + 1) (N.set k x) := by
  refine ⟨by rw [List.length_set]; exact h.len, fun j hj => ?_⟩
  by_cases hjk : j = k
  · subst hjk
    rw [getD_set_eq _ _ _ (by rw [h.len]; exact hk), hr]; exact hx
  · rw [getD_set_ne2 _ _ _ (Ne.symm hjk)]; exact h.h j (by omega)
theorem MeetN.near {c : Cfg} (h : Works c) {n f : Nat} (hn : c.nodes = (n : Int)) (hf : c.faulty = (f : Int)) (h2 : 2 ≤ n) {S A N : List Int} (hS : SOk c S n) (m : MeetN c n f S A 2 N) :
    -(c.prec / 2) ≤ N.getD 0 0 - N.getD 1 0 ∧ N.getD 0 0 - N.getD 1 0 ≤ c.prec / 2 := by
  obtain ⟨D0, m0, e0⟩ := m.h 0 (by omega)
  obtain ⟨D1, m1, e1⟩ := m.h 1 (by omega)
  have r0 := h.rg.r0
  have t0 := tmod_rng2 (A.getD 0 0) (c.rho + 1) (by omega)
  have t1 := tmod_rng2 (A.getD 1 0) (c.rho + 1) (by omega)
  rw [e0, e1]
  exact meets_plain h hn hf h2 hS (by omega) (by omega) m0 m1
/-- What is in memory: the tables, the rates, the beginnings, the answers. -/
structure MB (w : World) (b0 b1 sb nb : Nat) (c : Cfg) (pv qv rv : Value) (A S N : List Int) (W : World) : Prop where
  V : Below w.heap.size w W
  K : Bk W b0 26 (c.cells pv qv rv)
  R : Bk W b1 28 (A.map (Value.int .i64))
  S : Bk W sb 3 (S.map (Value.int .i64))
  N : Bk W nb 28 (N.map (Value.int .i64))
  ne : b1 ≠ nb ∧ w.heap.size ≤ nb
section
variable {w W W' : World} {b0 b1 sb nb : Nat} {c : Cfg} {pv qv rv : Value} {A S N : List Int}
theorem MB.below (h : MB w b0 b1 sb nb c pv qv rv A S N W) (V : Below W.heap.size W W') : MB w b0 b1 sb nb c pv qv rv A S N W' :=
  ⟨below_then h.V V, h.K.same (V.block _ h.K.lt), h.R.same (V.block _ h.R.lt), h.S.same (V.block _ h.S.lt), h.N.same (V.block _ h.N.lt), h.ne⟩
theorem MB.fr {C C' : Nat → Nat} {B : Nat} (h : MB w b0 b1 sb nb c pv qv rv A S N W) (f : Fr (· = 600) C C' W W') (hC : ∀ b, b < B → C b = 0) (hw : w.heap.size ≤ B) (hB : b0 < B ∧ b1 < B ∧ sb < B ∧ nb < B) : MB w b0 b1 sb nb c pv qv rv A S N W' := by
  have g : ∀ b, b < B → b < W.heap.size → W'.heap[b]? = W.heap[b]? := fun b hb hb' => (f.block b hb' (by rw [hC b hb]; decide)).1
  exact ⟨⟨f.os.trans h.V.os, f.tape.trans h.V.tape, f.output.trans h.V.output, Nat.le_trans h.V.size f.size, fun b hb => (g b (by omega) (Nat.lt_of_lt_of_le hb h.V.size)).trans (h.V.block b hb)⟩,
    h.K.same (g _ hB.1 h.K.lt), h.R.same (g _ hB.2.1 h.R.lt), h.S.same (g _ hB.2.2.1 h.S.lt), h.N.same (g _ hB.2.2.2 h.N.lt), h.ne⟩
theorem MB.setN (h : MB w b0 b1 sb nb c pv qv rv A S N W) (k : Nat) (x : Int) : MB w b0 b1 sb nb c pv qv rv A S (N.set k x) (W.setCell ⟨nb, k, none⟩ (.int .i64 x)) :=
  ⟨h.V.setCell h.ne.2 _, h.K.far (h.K.ne h.N (by decide)) _, h.R.far h.ne.1 _, h.S.far (h.S.ne h.N (by decide)) _, by have := h.N.set k (.int .i64 x); rw [List.map_set]; exact this, h.ne⟩
theorem MB.cells (h : MB w b0 b1 sb nb c pv qv rv A S N W) {k : Nat} {s a : Int} (hs : S[k]? = some s) (ha : A[k]? = some a) :
    W.cell? ⟨b0, 0, none⟩ = some (.int .i64 c.nodes) ∧ W.cell? ⟨b0, 1, none⟩ = some (.int .i64 c.faulty) ∧ W.cell? ⟨b0, 2, none⟩ = some (.int .i64 c.slot) ∧ W.cell? ⟨b0, 3, none⟩ = some (.int .i64 c.gap) ∧ W.cell? ⟨b0, 4, none⟩ = some (.int .i64 c.rho) ∧ W.cell? ⟨b0, 5, none⟩ = some (.int .i64 c.dmin) ∧ W.cell? ⟨b0, 6, none⟩ = some (.int .i64 c.dmax) ∧ W.cell? ⟨b0, 7, none⟩ = some (.int .i64 c.margin) ∧ W.cell? ⟨b0, 8, none⟩ = some pv ∧ W.cell? ⟨b0, 9, none⟩ = some qv ∧ W.cell? ⟨b0, 10, none⟩ = some rv ∧
      W.cell? ⟨sb, k, none⟩ = some (.int .i64 s) ∧ W.cell? ⟨b1, k, none⟩ = some (.int .i64 a) :=
  ⟨h.K.cell_ 0 rfl, h.K.cell_ 1 rfl, h.K.cell_ 2 rfl, h.K.cell_ 3 rfl, h.K.cell_ 4 rfl, h.K.cell_ 5 rfl, h.K.cell_ 6 rfl, h.K.cell_ 7 rfl, h.K.cell_ 8 rfl, h.K.cell_ 9 rfl, h.K.cell_ 10 rfl, h.S.cell_ k (by rw [List.getElem?_map, hs]; rfl), h.R.cell_ k (by rw [List.getElem?_map, ha]; rfl)⟩
theorem MB.cellsS (h : MB w b0 b1 sb nb c pv qv rv A S N W) {k : Nat} {s : Int} (hs : S[k]? = some s) :
    W.cell? ⟨b0, 0, none⟩ = some (.int .i64 c.nodes) ∧ W.cell? ⟨b0, 1, none⟩ = some (.int .i64 c.faulty) ∧ W.cell? ⟨b0, 2, none⟩ = some (.int .i64 c.slot) ∧ W.cell? ⟨b0, 3, none⟩ = some (.int .i64 c.gap) ∧ W.cell? ⟨b0, 4, none⟩ = some (.int .i64 c.rho) ∧ W.cell? ⟨b0, 5, none⟩ = some (.int .i64 c.dmin) ∧ W.cell? ⟨b0, 6, none⟩ = some (.int .i64 c.dmax) ∧ W.cell? ⟨b0, 7, none⟩ = some (.int .i64 c.margin) ∧ W.cell? ⟨b0, 8, none⟩ = some pv ∧ W.cell? ⟨b0, 9, none⟩ = some qv ∧ W.cell? ⟨b0, 10, none⟩ = some rv ∧
      W.cell? ⟨sb, k, none⟩ = some (.int .i64 s) :=
  ⟨h.K.cell_ 0 rfl, h.K.cell_ 1 rfl, h.K.cell_ 2 rfl, h.K.cell_ 3 rfl, h.K.cell_ 4 rfl, h.K.cell_ 5 rfl, h.K.cell_ 6 rfl, h.K.cell_ 7 rfl, h.K.cell_ 8 rfl, h.K.cell_ 9 rfl, h.K.cell_ 10 rfl, h.S.cell_ k (by rw [List.getElem?_map, hs]; rfl)⟩
end
theorem get_getD (l : List Int) (i : Nat) (h : i < l.length) : l[i]? = some (l.getD i 0) := by
  rw [List.getD_eq_getElem?_getD, List.getElem?_eq_getElem h]; rfl

theorem meet_q (u sv dn dx x T j k : Int) (hj : 0 ≤ j ∧ j ≤ 7) (hk : 0 ≤ k ∧ k ≤ 2) (hu : 0 ≤ u ∧ u ≤ 1000000000) (hs : 0 ≤ sv ∧ sv ≤ 150000000) (hd : 0 ≤ dn ∧ dn ≤ dx ∧ dx ≤ 1048576) (hx : 0 ≤ x ∧ x ≤ dx - dn) (hT : u + sv + dn + x = T) :
    wrap64 (2 * j) = 2 * j ∧ IntKind.i64.wrap (2 * j) = 2 * j ∧ wrap64 (2 * j + k) = 2 * j + k ∧ IntKind.i64.wrap (2 * j + k) = 2 * j + k ∧ wrap64 (dx - dn) = dx - dn ∧ IntKind.i64.wrap (dx - dn) = dx - dn ∧ wrap64 (dx - dn + 1) = dx - dn + 1 ∧ IntKind.i64.wrap (dx - dn + 1) = dx - dn + 1 ∧
      wrap64 (u + sv) = u + sv ∧ IntKind.i64.wrap (u + sv) = u + sv ∧ wrap64 (u + sv + dn) = u + sv + dn ∧ IntKind.i64.wrap (u + sv + dn) = u + sv + dn ∧ wrap64 (u + sv + dn + x) = T ∧ IntKind.i64.wrap (u + sv + dn + x) = T := by
  subst hT
  refine ⟨?_, ?_, ?_, ?_, ?_, ?_, ?_, ?_, ?_, ?_, ?_, ?_, ?_, ?_⟩ <;> first | exact IntWalk.i64_in _ (by omega) | (unfold wrap64; omega)

set_option maxRecDepth 100000 in
set_option maxHeartbeats 16000000 in
theorem meets_walk (c : Cfg) (hok : c.ok) (pv qv rv : Value) (skews delays : List Int) (lie a0 a1 : Int) (skv dlv : Value) (w : World) (hl : Lists w (fun _ => 0) c pv qv rv) (hsk : IsInts w (fun _ => 0) skv skews) (hde : IsInts w (fun _ => 0) dlv delays) :
    Calls Try.prog 3 #[c.v pv qv rv, skv, dlv, .int .i64 lie, .agg #[.int .i64 a0, .int .i64 a1]] w fun e w' => e = .returned (.bool true) ∧ Below w.heap.size w w' := by
  obtain ⟨oa, oc, rfl, hoc, hom⟩ := id hsk.form
  obtain ⟨la, lc, rfl, hlc, hlm⟩ := id hde.form
  unfold maxLen at hom hlm
  have HL := hid_ hl
  have HSK := hid_ hsk
  have HDE := hid_ hde
  have HOK := hid_ hok
  have b0 : Below w.heap.size w ((w.alloc (.cells (c.cells pv qv rv).toArray 26)).alloc (.cells #[.int .i64 a0, .int .i64 a1] 28)) := ((Below.refl _ _).alloc (Nat.le_refl _) _).alloc (by simp) _
  have k0 := (Bk.new w 26 (c.cells pv qv rv)).alloc (.cells #[.int .i64 a0, .int .i64 a1] 28)
  have k1 := Bk.new (w.alloc (.cells (c.cells pv qv rv).toArray 26)) 28 ([a0, a1].map (Value.int .i64))
  simp only [World.size_alloc] at k1
  have HB0 := hid_ b0
  have HK0 := hid_ k0
  have HR0 := hid_ k1
  clear hl hsk hde hok b0 k0 k1
  unfold Cfg.v
  go_enter Try.func3, Try.ntmps3
  go_upto_region 1 with fail
  refine gen_world (fun W => Below w.heap.size w W ∧ Bk W w.heap.size 26 (c.cells pv qv rv) ∧ Bk W (w.heap.size + 1) 28 ([a0, a1].map (Value.int .i64))) ⟨HB0.out, HK0.out, HR0.out⟩ ?_
  rintro W0 ⟨V0, K0, R0⟩
  have HV0 := hid_ V0
  have HKK := hid_ K0
  have HRR := hid_ R0
  clear V0 K0 R0 HB0 HK0 HR0
  go_wp2_with fail
  refine (awake11 W0).mono ?_
  rintro e w1 ⟨rfl, V1⟩
  have HV1 := hid_ (below_then HV0.out V1)
  have HK1 := hid_ (HKK.out.same (V1.block _ HKK.out.lt))
  have HR1 := hid_ (HRR.out.same (V1.block _ HRR.out.lt))
  have dc := HK1.out.cfg0
  have hl1 : Lists w1 (fun _ => 0) c pv qv rv := HL.out.fr (Fr.of_below HV1.out (fun _ => False)) (fun h => h)
  have hWK := law6Works c HOK.out (fun _ => 0) pv qv rv w1 hl1 (fun _ _ => rfl)
  clear V1 HKK HRR HV0
  unfold Cfg.v at hWK
  go_wp2_with fail
  cases hs : sndE c with
  | some x =>
    rw [hs] at hWK
    refine hWK.mono ?_
    rintro e w3 ⟨rfl, V3⟩
    have HE := hid_ (below_then HV1.out V3)
    clear hs hWK hl1 V3 dc
    rw [show (some x : Option (Int × Int)).isNone = false from rfl]
    go_wp2
    go_ret
    exact ⟨rfl, HE.out⟩
  | none =>
    rw [hs] at hWK
    have HW := hid_ (Works.of hs)
    have HSN := hid_ hs
    have HG := hid_ (sndE_good hs)
    refine hWK.mono ?_
    rintro e w3 ⟨rfl, V3⟩
    have HV3 := hid_ (below_then HV1.out V3)
    have HK3 := hid_ (HK1.out.same (V3.block _ HK1.out.lt))
    have HR3 := hid_ (HR1.out.same (V3.block _ HR1.out.lt))
    have HL3 := hid_ (hl1.fr (Fr.of_below V3 (fun _ => False)) (fun h => h))
    clear hs hWK hl1 V3 dc HV1 HK1 HR1
    have dc := HK3.out.cfg0
    have n0 := HG.out.rg.n0
    have n1 := HG.out.rg.n1
    rw [show (none : Option (Int × Int)).isNone = true from rfl]
    by_cases hn2 : c.nodes < 2
    · have g0 : decide (c.nodes < 2) = true := decide_eq_true hn2
      go_wp2
      go_ret
      exact ⟨rfl, HV3.out⟩
    · have g0 : decide (c.nodes < 2) = false := decide_eq_false hn2
      have HPR := hid_ (fun W => ref6Prec c pv qv rv HG.out.rg W)
      have HRD := hid_ (fun W => ref6Round c pv qv rv HG.out.rg W)
      unfold Cfg.v at HPR HRD
      go_wp2_with fail
      refine (HPR.out _).mono ?_
      rintro e w4 ⟨rfl, V4⟩
      have HV4 := hid_ (below_then HV3.out V4)
      have HK4 := hid_ (HK3.out.same (V4.block _ HK3.out.lt))
      have HR4 := hid_ (HR3.out.same (V4.block _ HR3.out.lt))
      clear dc V4 HV3 HK3 HR3
      have dc := HK4.out.cfg0
      go_wp2_with fail
      refine (HRD.out _).mono ?_
      rintro e w5 ⟨rfl, V5⟩
      have HV5 := hid_ (below_then HV4.out V5)
      have HK5 := hid_ (HK4.out.same (V5.block _ HK4.out.lt))
      have HR5 := hid_ (HR4.out.same (V5.block _ HR4.out.lt))
      clear dc V5 HV4 HK4 HR4
      have dc := HK5.out.cfg0
      obtain ⟨n, hn⟩ := Int.eq_ofNat_of_zero_le (show 0 ≤ c.nodes by omega)
      obtain ⟨f, hf⟩ := Int.eq_ofNat_of_zero_le (show 0 ≤ c.faulty from HG.out.rg.f0)
      have hn7 : n ≤ 7 := by omega
      have hn20 : 2 ≤ n := by omega
      have HN := hid_ hn
      have HF := hid_ hf
      have hrd := HG.out.rg.round
      have hpr := HG.out.rg.prec
      have hmg := HW.out.mg
      have hm1 := HG.out.rg.m1
      have hd1 := HG.out.rg.d1
      have hdr := HG.out.rg.drift
      obtain ⟨rd, hrd2⟩ : ∃ x, c.round = x := ⟨_, rfl⟩
      obtain ⟨pi, hpi⟩ : ∃ x, c.prec = x := ⟨_, rfl⟩
      rw [hrd2] at hrd
      rw [hpi] at hpr hmg
      have HRD2 := hid_ hrd2
      have HPI := hid_ hpi
      have HRDB := hid_ (show 0 ≤ rd ∧ rd ≤ 200000000 by omega)
      have HPIB := hid_ (show 0 ≤ pi ∧ pi ≤ 16777216 by omega)
      rw [hrd2, hpi]
      clear hrd hpr hmg hm1 hd1 hdr hrd2 hpi hf
      obtain ⟨rd0, rd1⟩ := HRDB.out
      obtain ⟨pi0, pi1⟩ := HPIB.out
      have a1 : wrap64 (2 * rd) = 2 * rd := by unfold wrap64; omega
      have hmk : ∀ W, (Instr.makeSlice 27 (.int .i64 c.nodes) (.int .i64 c.nodes)).run Try.prog W = .ok (.slice (some ⟨W.heap.size, 0, none⟩) n n) (W.alloc (.cells ((List.replicate n (0 : Int)).map (Value.int .i64)).toArray 3)) := fun W => by rw [hn]; exact mk_devs n hn7 W
      have HMK := hid_ hmk
      clear hn hmk
      have hmk := HMK.out
      go_upto_region 9 with fail
      obtain ⟨sb, hsb⟩ : ∃ x, w5.heap.size = x := ⟨_, rfl⟩
      have s6 := Bk.new w5 3 ((List.replicate n (0 : Int)).map (Value.int .i64))
      have v6 : Below w5.heap.size w5 (w5.alloc (.cells ((List.replicate n (0 : Int)).map (Value.int .i64)).toArray 3)) := (Below.refl _ _).alloc (Nat.le_refl _) _
      have e6 : ((List.replicate n (0 : Int)).map (Value.int .i64)).toArray = Array.replicate n (Value.int .i64 0) := by simp
      rw [e6] at s6 v6
      rw [hsb] at s6 v6
      clear e6
      have HSB := hid_ hsb
      have HS6 := hid_ s6
      have HV6 := hid_ v6
      rw [hsb]
      refine gen_world (fun W => Below sb w5 W ∧ Bk W sb 3 ((List.replicate n (0 : Int)).map (Value.int .i64))) ⟨HV6.out, HS6.out⟩ ?_
      clear hsb s6 v6 HS6 HV6
      rintro w6 ⟨V6, S6⟩
      have HV6 := hid_ V6
      have HS6 := hid_ S6
      have HSK5 := hid_ (fun (W : World) (V : Below sb w5 W) => HSK.out.fr (Fr.of_below (below_then HV5.out ((by rw [HSB.out]; exact V) : Below w5.heap.size w5 W)) (fun _ => False)) (fun h => h))
      have HDE5 := hid_ (fun (W : World) (V : Below sb w5 W) => HDE.out.fr (Fr.of_below (below_then HV5.out ((by rw [HSB.out]; exact V) : Below w5.heap.size w5 W)) (fun _ => False)) (fun h => h))
      clear V6 S6 dc hmk a1
      have p2 : wrap64 (pi / 2 + 1) = pi / 2 + 1 := by unfold wrap64; omega
      have p3 : IntKind.i64.wrap (pi / 2 + 1) = pi / 2 + 1 := IntWalk.i64_in _ (by omega)
      go_wp2_with fail
      go_loopw [43] (fun iv wr => ∃ (i : Nat) (S : List Int), i ≤ n ∧ iv = .int .i64 i ∧ S.length = n ∧ SOk c S i ∧ Below sb w5 wr ∧ Bk wr sb 3 (S.map (Value.int .i64))) (fun iv _ => n - (intOf iv).toNat)
      case atStart => exact ⟨0, _, Nat.zero_le _, rfl, List.length_replicate .., fun i hi => by omega, HV6.out, HS6.out⟩
      case round =>
        obtain ⟨i, S, hin, rfl, hSl, hSo, V, B⟩ := hrel
        have j0 : (0 : Int) ≤ (i : Int) := Int.natCast_nonneg _
        have HSl := hid_ hSl
        have HSo := hid_ hSo
        have HVr := hid_ V
        have HBr := hid_ B
        clear hSl hSo V B
        by_cases hlt : i < n
        · have j1 : (i : Int) < (n : Int) := by omega
          have hAT := meetAt skews _ i (pi / 2 + 1) (by omega) (by omega) wr (HSK5.out wr HVr.out)
          obtain ⟨x, hx⟩ : ∃ x, atV skews i (pi / 2 + 1) = x := ⟨_, rfl⟩
          have hxr := atV_rng skews i (pi / 2 + 1) (by omega)
          rw [hx] at hAT hxr
          have HX := hid_ hxr
          obtain ⟨x0, x1⟩ := hxr
          have y1 : wrap64 (2 * rd + x) = 2 * rd + x := by unfold wrap64; omega
          have fz := HBr.out.frozen i
          have cl := HBr.out.cell_ i (by rw [List.getElem?_map, get_getD _ _ (by rw [HSl.out]; exact hlt)]; rfl)
          clear hx
          go_wp2_with fail
          refine hAT.mono ?_
          rintro e w7 ⟨rfl, rfl⟩
          go_wp2
          go_roundw
          case rel => exact ⟨i + 1, S.set i (2 * rd + x), by omega, by go_num, by rw [List.length_set]; exact HSl.out, HSo.out.set _ (by rw [HSl.out]; exact hlt) (by rw [HRD2.out, HPI.out]; have := HX.out; omega), HVr.out.setCell (by show sb ≤ sb; omega) _, by have := HBr.out.set i (.int .i64 (2 * rd + x)); rw [List.map_set]; exact this⟩
          case measure => simp [intOf]; omega
        · obtain rfl : i = n := by omega
          have v8 : Below w.heap.size w (wr.alloc (.cells #[.int .i64 0, .int .i64 0] 28)) := (below_then HV5.out ((by rw [HSB.out]; exact HVr.out) : Below w5.heap.size w5 wr)).alloc (Nat.le_trans HV5.out.size (by have := HVr.out.size; omega)) _
          have n8 := Bk.new wr 28 ([(0 : Int), 0].map (Value.int .i64))
          have s8 := HBr.out.alloc (.cells #[.int .i64 0, .int .i64 0] 28)
          have k8 := (HK5.out.same (HVr.out.block _ (by rw [← HSB.out]; exact HK5.out.lt))).alloc (.cells #[.int .i64 0, .int .i64 0] 28)
          have r8 := (HR5.out.same (HVr.out.block _ (by rw [← HSB.out]; exact HR5.out.lt))).alloc (.cells #[.int .i64 0, .int .i64 0] 28)
          obtain ⟨nb, hnb⟩ : ∃ x, wr.heap.size = x := ⟨_, rfl⟩
          rw [hnb] at n8
          have HM8 := hid_ (MB.mk (N := [0, 0]) v8 k8 r8 s8 n8 (by have h1 := HR5.out.lt; have h2 := HVr.out.size; have h3 := HSB.out; omega))
          clear v8 n8 s8 k8 r8
          go_upto_region 15 with fail
          try rw [hnb]
          refine gen_world (fun W => MB w w.heap.size (w.heap.size + 1) sb nb c pv qv rv [a0, a1] S [0, 0] W) HM8.out ?_
          clear hnb HM8
          rintro w8 M8
          have HM8 := hid_ M8
          clear M8
          go_wp2_with fail
          go_loopw [17] (fun kv wr => ∃ (k : Nat) (N : List Int), k ≤ 2 ∧ kv = .int .i64 k ∧ MeetN c i f S [a0, a1] k N ∧ MB w w.heap.size (w.heap.size + 1) sb nb c pv qv rv [a0, a1] S N wr) (fun kv _ => 2 - (intOf kv).toNat)
          case atStart => exact ⟨0, _, Nat.zero_le _, rfl, ⟨rfl, fun j hj => by omega⟩, HM8.out⟩
          case round =>
            obtain ⟨k, N, hk2, rfl, MN, M⟩ := hrel
            have HMN := hid_ MN
            have HM := hid_ M
            have l0 : (0 : Int) ≤ (k : Int) := Int.natCast_nonneg _
            clear MN M HM8
            by_cases hlt2 : k < 2
            · have l1 : (k : Int) < 2 := by omega
              have l2 : (k : Int) < (i : Int) := by omega
              obtain ⟨wo, rfl⟩ : ∃ wo : World, wo = wr := ⟨_, rfl⟩
              obtain ⟨a, ha⟩ : ∃ a, ([a0, a1] : List Int).getD k 0 = a := ⟨_, rfl⟩
              have hak := get_getD [a0, a1] k (by simp; omega)
              rw [ha] at hak
              obtain ⟨s, hs⟩ : ∃ s, S.getD k 0 = s := ⟨_, rfl⟩
              have hsk := get_getD S k (by rw [HSl.out]; omega)
              rw [hs] at hsk
              have hsr := HSo.out k (by omega)
              rw [hs, HRD2.out, HPI.out] at hsr
              have HS := hid_ hs
              have HA := hid_ ha
              have HAK := hid_ hak
              have HSKK := hid_ hsk
              have HSR := hid_ hsr
              have r0 := HG.out.rg.r0
              have r1 := HG.out.rg.r1
              obtain ⟨r, hr⟩ : ∃ r, a.tmod (c.rho + 1) = r := ⟨_, rfl⟩
              have hrr := tmod_rng2 a (c.rho + 1) (by omega)
              rw [hr] at hrr
              have HRM := hid_ hr
              have HRR := hid_ (show -200 ≤ r ∧ r ≤ 200 by omega)
              have q1 : wrap64 (c.rho + 1) = c.rho + 1 := by unfold wrap64; omega
              have q2 : IntKind.i64.wrap (c.rho + 1) = c.rho + 1 := IntWalk.i64_in _ (by omega)
              have q3 : wrap64 r = r := by unfold wrap64; omega
              have q4 : IntKind.i64.wrap r = r := IntWalk.i64_in _ (by omega)
              have q5 : (c.rho + 1 == 0) = false := by simp; omega
              have q6 : ¬ c.rho + 1 = 0 := by omega
              have HMD := hid_ (HM.out.below ((Below.refl _ wo).drew))
              have HNW := hid_ (fun (W : World) (M : MB w w.heap.size (w.heap.size + 1) sb nb c pv qv rv [a0, a1] S N W) => paceNew (fun _ => 0) 600 c HOK.out pv qv rv (k : Int) false s r i HSN.out HG.out HN.out (by have := HN.out; omega) (by unfold clkBad; have := HSR.out; have := HRR.out; omega) W (HL.out.fr (Fr.of_below M.V (fun _ => False)) (fun h => h)) (fun _ _ => rfl))
              unfold Cfg.v at HNW
              obtain ⟨c0, c1, c2, c3, c4, c5, c6, c7, c8, c9, c10, u0, u1⟩ := HM.out.cells hsk hak
              clear ha hs hsk hak hsr hrr r0 r1
              go_upto_region 18 with fail
              go_region_held3 (fun w' => w'.cell? ⟨w.heap.size, 0, none⟩ = some (.int .i64 c.nodes) ∧ w'.cell? ⟨w.heap.size, 1, none⟩ = some (.int .i64 c.faulty) ∧ w'.cell? ⟨w.heap.size, 2, none⟩ = some (.int .i64 c.slot) ∧ w'.cell? ⟨w.heap.size, 3, none⟩ = some (.int .i64 c.gap) ∧ w'.cell? ⟨w.heap.size, 4, none⟩ = some (.int .i64 c.rho) ∧ w'.cell? ⟨w.heap.size, 5, none⟩ = some (.int .i64 c.dmin) ∧ w'.cell? ⟨w.heap.size, 6, none⟩ = some (.int .i64 c.dmax) ∧ w'.cell? ⟨w.heap.size, 7, none⟩ = some (.int .i64 c.margin) ∧ w'.cell? ⟨w.heap.size, 8, none⟩ = some pv ∧ w'.cell? ⟨w.heap.size, 9, none⟩ = some qv ∧ w'.cell? ⟨w.heap.size, 10, none⟩ = some rv ∧ w'.cell? ⟨sb, k, none⟩ = some (.int .i64 s) ∧ w'.cell? ⟨w.heap.size + 1, k, none⟩ = some (.int .i64 a)) (first | exact MB.cells HME.out HSKK.out HAK.out | exact MB.cells HMD.out HSKK.out HAK.out) (first | ((with_reducible refine (HNW.out _ HMD.out).mono ?_); rintro e w9 ⟨pb, kb, db, hb, C4, rfl, F4, P4⟩; have HME := hid_ (HMD.out.below (F4.below (fun _ _ h => h))); have HF4 := hid_ F4; have HP4 := hid_ P4; clear F4 P4))
              all_goals
                have HC4 := hid_ (show ∀ b, b < wo.heap.size → C4 b = 0 from fun b hb => (HF4.out.block b hb (fun h => h)).2)
                clear c0 c1 c2 c3 c4 c5 c6 c7 c8 c9 c10 u0 u1 q1 q2 q3 q4 q5 q6 hr HNW HMD
                go_wp2_with fail
                go_loopw [20] (fun jv wr => ∃ (j : Nat) (devs : List Int) (has : List Bool), j ≤ i ∧ jv = .int .i64 j ∧ MeetR c i f S k r j devs has ∧ MB w w.heap.size (w.heap.size + 1) sb nb c pv qv rv [a0, a1] S N wr ∧ IsPace wr C4 600 pb kb db hb c pv qv rv (k : Int) false s r devs has) (fun jv _ => i - (intOf jv).toNat)
                case atStart => exact ⟨0, _, _, Nat.zero_le _, rfl, MeetR.start c i f S k r, HME.out, HP4.out⟩
                case round =>
                  obtain ⟨j, devs, has, hji, rfl, R, M, P⟩ := hrel
                  have HR := hid_ R
                  have HM2 := hid_ M
                  have HP := hid_ P
                  have m0 : (0 : Int) ≤ (j : Int) := Int.natCast_nonneg _
                  clear R M P HP4
                  have dn := HM2.out.K.cell_ 0 rfl
                  have HDN := hid_ HN.out
                  by_cases hlt3 : j < i
                  · have m1 : (j : Int) < (i : Int) := by omega
                    have m2 : (j : Int) < c.nodes := by have := HN.out; omega
                    have m7 : (j : Int) ≤ 7 := by omega
                    obtain ⟨u, hu⟩ : ∃ u, S.getD j 0 = u := ⟨_, rfl⟩
                    have huj := get_getD S j (by rw [HSl.out]; exact hlt3)
                    rw [hu] at huj
                    have hur := HSo.out j hlt3
                    rw [hu, HRD2.out, HPI.out] at hur
                    have HU := hid_ hu
                    have HUJ := hid_ huj
                    have hs2 := HSR.out
                    have d0 := HG.out.rg.d0
                    have d1 := HG.out.rg.d1
                    have x1 := HG.out.rg.x1
                    obtain ⟨sv, hsv⟩ : ∃ v, c.send (j : Int) = v := ⟨_, rfl⟩
                    obtain ⟨mv, hmv⟩ : ∃ v, c.mean = v := ⟨_, rfl⟩
                    have hs1 := send_rng HG.out.rg (j : Int) ⟨m0, m7⟩
                    have hm1 := mean_rng HG.out.rg
                    rw [hsv] at hs1
                    rw [hmv] at hm1
                    have HSV := hid_ hsv
                    have HMV := hid_ hmv
                    obtain ⟨x, hx⟩ : ∃ x, atV delays (2 * j + k) (c.dmax - c.dmin + 1) = x := ⟨_, rfl⟩
                    have hxr := atV_rng delays (2 * j + k) (c.dmax - c.dmin + 1) (by omega)
                    rw [hx] at hxr
                    have HSD := hid_ (fun (W : World) (V : Below wr.heap.size wr W) => ref6Send c pv qv rv HG.out.rg (j : Int) ⟨by omega, by omega⟩ W)
                    have hat := fun (W : World) (V : Below wr.heap.size wr W) => meetAt delays _ (2 * j + k) (c.dmax - c.dmin + 1) (by omega) (by omega) W (HDE.out.fr (Fr.of_below (below_then HM2.out.V V) (fun _ => False)) (fun h => h))
                    rw [show ((2 * j + k : Nat) : Int) = 2 * (j : Int) + (k : Int) by omega, hx] at hat
                    have HAT := hid_ (fun (W : World) (V : Below wr.heap.size wr W) => (hat W V).mono (fun e w' (h : _ ∧ w' = W) => (⟨h.1, by rw [h.2]; exact Below.refl _ _⟩ : _ ∧ Below W.heap.size W w')))
                    unfold Cfg.v at HSD
                    rw [hsv] at HSD
                    obtain ⟨T, hT⟩ : ∃ T, u + sv + c.dmin + x = T := ⟨_, rfl⟩
                    have HTT := hid_ hT
                    have HXR := hid_ hxr
                    obtain ⟨q1, q2, q3, q4, q5, q6, q7, q8, q9, qa, qb, qc, qd, qe⟩ := meet_q u sv c.dmin c.dmax x T (j : Int) (k : Int) ⟨m0, m7⟩ ⟨l0, by omega⟩ (by omega) hs1 ⟨d0, d1, x1⟩ (by omega) hT
                    clear hu huj hsv hmv hx hat hT
                    go_upto_region 24 with fail
                    have dcm : ∀ m : Aft wr, _ := fun m => (HM2.out.below m.h).cellsS HUJ.out
                    refine wp_region_aft (by kernel_rfl) (by kernel_rfl) ?_
                    repeat (go_big_quiet_step (first | exact Aft.calls _ (HSD.out _ (Aft.h _)) | exact Aft.calls _ (HAT.out _ (Aft.h _))))
                    refine wpQuiet_nil ?_
                    rintro _ ⟨m, rfl⟩
                    go_upto_region 25 with fail
                    refine gen_world (fun W => Below wr.heap.size wr W) m.h ?_
                    rintro W1 VW1
                    have HM3 := hid_ (HM2.out.below VW1)
                    have HP3 := hid_ (HP.out.below VW1)
                    clear dcm q1 q2 q3 q4 q5 q6 q7 q8 q9 qa qb qc qd qe m VW1 HSD HAT HM2 HP dn
                    have dn := HM3.out.K.cell_ 0 rfl
                    have df := HM3.out.K.cell_ 1 rfl
                    have o1 : wrap64 (c.nodes - 1) = c.nodes - 1 := by unfold wrap64; omega
                    have o2 : IntKind.i64.wrap (c.nodes - 1) = c.nodes - 1 := IntWalk.i64_in _ (by omega)
                    have HTB0 := hid_ (show -160000000 ≤ T - s ∧ T - s ≤ 160000000 from by have := HTT.out; omega)
                    have HTG0 := hid_ (show S.getD j 0 + c.send j + c.dmin ≤ T ∧ T ≤ S.getD j 0 + c.send j + c.dmax from by rw [HU.out, HSV.out]; have := HTT.out; omega)
                    rcases (by omega : (¬ 0 < c.faulty) ∨ (0 < c.faulty ∧ ¬ (j : Int) = c.nodes - 1) ∨ (0 < c.faulty ∧ (j : Int) = c.nodes - 1)) with hA | ⟨hA, hB⟩ | ⟨hA, hB⟩
                    · have t1 : decide (0 < c.faulty) = false := decide_eq_false hA
                      have HTB := hid_ (show -200000000 ≤ T - s ∧ T - s ≤ 200000000 from by have := HTB0.out; omega)
                      have HTG := hid_ (show (f = 0 ∨ j + 1 < i) → S.getD j 0 + c.send j + c.dmin ≤ T ∧ T ≤ S.getD j 0 + c.send j + c.dmax from fun _ => HTG0.out)
                      by_cases hjk : j = k
                      · have sb1 : ((j : Int) != (k : Int)) = false := by simp; omega
                        have HJK := hid_ hjk
                        clear hjk
                        go_wp2
                        go_roundw
                        case rel => exact ⟨j + 1, devs, has, by omega, by go_num, HR.out.skip HJK.out, HM3.out, HP3.out⟩
                        case measure => simp [intOf]; omega
                      · have sb1 : ((j : Int) != (k : Int)) = true := by simp; omega
                        have HJK := hid_ hjk
                        have HHB := hid_ (show hearB c.nodes (k : Int) false has (j : Int) = true from by unfold hearB; rw [HN.out, Int.toNat_natCast, HR.out.new j (Nat.le_refl _)]; simp; omega)
                        obtain ⟨lcv, hlcv⟩ : ∃ v, lclk s r T = v := ⟨_, rfl⟩
                        have hlr := lclk_rng3 s r T HRR.out (by have := HTB.out; omega)
                        rw [hlcv] at hlr
                        obtain ⟨d, hd⟩ : ∃ d, devOf c s r (j : Int) T = d := ⟨_, rfl⟩
                        have hd2 : d = lcv - sv - mv := by rw [← hd]; unfold devOf; rw [hlcv, HSV.out, HMV.out]
                        have HD := hid_ hd
                        have HDB := hid_ (show -500000000 ≤ d ∧ d ≤ 500000000 from by omega)
                        have HY := paceHear_yes C4 600 pb kb db hb c pv qv rv (k : Int) false s r devs has (j : Int) T HG.out.rg HRR.out (by have := HTB.out; omega) W1 HP3.out HHB.out
                        rw [hd, Int.toNat_natCast] at HY
                        have HY := hid_ HY
                        clear hjk hlcv hlr hd hd2
                        go_wp2_with fail
                        refine HY.out.mono ?_
                        rintro e W2 ⟨rfl, F2, P2⟩
                        have HM4 := hid_ (HM3.out.fr F2 HC4.out HM.out.V.size ⟨HM.out.K.lt, HM.out.R.lt, HM.out.S.lt, HM.out.N.lt⟩)
                        have HP4 := hid_ P2
                        clear F2 P2 HY
                        go_wp2
                        go_roundw
                        case rel => exact ⟨j + 1, _, _, by omega, by go_num, HR.out.hear hlt3 HJK.out d T HDB.out (by rw [HS.out]; exact HD.out) HTG.out, HM4.out, HP4.out⟩
                        case measure => simp [intOf]; omega
                    · have t1 : decide (0 < c.faulty) = true := decide_eq_true hA
                      have t2 : ((j : Int) == c.nodes - 1) = false := by simp; exact hB
                      have HTB := hid_ (show -200000000 ≤ T - s ∧ T - s ≤ 200000000 from by have := HTB0.out; omega)
                      have HTG := hid_ (show (f = 0 ∨ j + 1 < i) → S.getD j 0 + c.send j + c.dmin ≤ T ∧ T ≤ S.getD j 0 + c.send j + c.dmax from fun _ => HTG0.out)
                      clear hB
                      by_cases hjk : j = k
                      · have sb1 : ((j : Int) != (k : Int)) = false := by simp; omega
                        have HJK := hid_ hjk
                        clear hjk
                        go_wp2
                        go_roundw
                        case rel => exact ⟨j + 1, devs, has, by omega, by go_num, HR.out.skip HJK.out, HM3.out, HP3.out⟩
                        case measure => simp [intOf]; omega
                      · have sb1 : ((j : Int) != (k : Int)) = true := by simp; omega
                        have HJK := hid_ hjk
                        have HHB := hid_ (show hearB c.nodes (k : Int) false has (j : Int) = true from by unfold hearB; rw [HN.out, Int.toNat_natCast, HR.out.new j (Nat.le_refl _)]; simp; omega)
                        obtain ⟨lcv, hlcv⟩ : ∃ v, lclk s r T = v := ⟨_, rfl⟩
                        have hlr := lclk_rng3 s r T HRR.out (by have := HTB.out; omega)
                        rw [hlcv] at hlr
                        obtain ⟨d, hd⟩ : ∃ d, devOf c s r (j : Int) T = d := ⟨_, rfl⟩
                        have hd2 : d = lcv - sv - mv := by rw [← hd]; unfold devOf; rw [hlcv, HSV.out, HMV.out]
                        have HD := hid_ hd
                        have HDB := hid_ (show -500000000 ≤ d ∧ d ≤ 500000000 from by omega)
                        have HY := paceHear_yes C4 600 pb kb db hb c pv qv rv (k : Int) false s r devs has (j : Int) T HG.out.rg HRR.out (by have := HTB.out; omega) W1 HP3.out HHB.out
                        rw [hd, Int.toNat_natCast] at HY
                        have HY := hid_ HY
                        clear hjk hlcv hlr hd hd2
                        go_wp2_with fail
                        refine HY.out.mono ?_
                        rintro e W2 ⟨rfl, F2, P2⟩
                        have HM4 := hid_ (HM3.out.fr F2 HC4.out HM.out.V.size ⟨HM.out.K.lt, HM.out.R.lt, HM.out.S.lt, HM.out.N.lt⟩)
                        have HP4 := hid_ P2
                        clear F2 P2 HY
                        go_wp2
                        go_roundw
                        case rel => exact ⟨j + 1, _, _, by omega, by go_num, HR.out.hear hlt3 HJK.out d T HDB.out (by rw [HS.out]; exact HD.out) HTG.out, HM4.out, HP4.out⟩
                        case measure => simp [intOf]; omega
                    · have t1 : decide (0 < c.faulty) = true := decide_eq_true hA
                      have t2 : ((j : Int) == c.nodes - 1) = true := by simp; exact hB
                      obtain ⟨lv, hlv⟩ : ∃ x, lie.tmod 1048576 = x := ⟨_, rfl⟩
                      have hlr := tmod_rng2 lie 1048576 (by omega)
                      rw [hlv] at hlr
                      obtain ⟨L, hL⟩ : ∃ L, ((k : Int) * 2 - 1) * lv = L := ⟨_, rfl⟩
                      have hLr : -1048576 ≤ L ∧ L ≤ 1048576 := by
                        rcases (by omega : k = 0 ∨ k = 1) with rfl | rfl
                        · simp at hL; omega
                        · simp at hL; omega
                      have HNG := hid_ (show ¬ (f = 0 ∨ j + 1 < i) from by have := HN.out; have := HF.out; omega)
                      have o3 : wrap64 ((k : Int) * 2) = (k : Int) * 2 := by unfold wrap64; omega
                      have o4 : wrap64 ((k : Int) * 2 - 1) = (k : Int) * 2 - 1 := by unfold wrap64; omega
                      have o5 : wrap64 lv = lv := by unfold wrap64; omega
                      have o6 : wrap64 (((k : Int) * 2 - 1) * lv) = L := by rw [hL]; unfold wrap64; omega
                      have o7 : IntKind.i64.wrap lv = lv := IntWalk.i64_in _ (by omega)
                      have htb := HTB0.out
                      have o8 : wrap64 (T + L) = T + L := by unfold wrap64; omega
                      have HTB := hid_ (show -200000000 ≤ (T + L) - s ∧ (T + L) - s ≤ 200000000 from by omega)
                      have HTG := hid_ (show (f = 0 ∨ j + 1 < i) → S.getD j 0 + c.send j + c.dmin ≤ (T + L) ∧ (T + L) ≤ S.getD j 0 + c.send j + c.dmax from fun h => absurd h HNG.out)
                      clear hB hL htb
                      go_upto_region 27 with fail
                      clear hlv o3 o4 o5 o6 o7
                      by_cases hjk : j = k
                      · have sb1 : ((j : Int) != (k : Int)) = false := by simp; omega
                        have HJK := hid_ hjk
                        clear hjk
                        go_wp2
                        go_roundw
                        case rel => exact ⟨j + 1, devs, has, by omega, by go_num, HR.out.skip HJK.out, HM3.out, HP3.out⟩
                        case measure => simp [intOf]; omega
                      · have sb1 : ((j : Int) != (k : Int)) = true := by simp; omega
                        have HJK := hid_ hjk
                        have HHB := hid_ (show hearB c.nodes (k : Int) false has (j : Int) = true from by unfold hearB; rw [HN.out, Int.toNat_natCast, HR.out.new j (Nat.le_refl _)]; simp; omega)
                        obtain ⟨lcv, hlcv⟩ : ∃ v, lclk s r (T + L) = v := ⟨_, rfl⟩
                        have hlr := lclk_rng3 s r (T + L) HRR.out (by have := HTB.out; omega)
                        rw [hlcv] at hlr
                        obtain ⟨d, hd⟩ : ∃ d, devOf c s r (j : Int) (T + L) = d := ⟨_, rfl⟩
                        have hd2 : d = lcv - sv - mv := by rw [← hd]; unfold devOf; rw [hlcv, HSV.out, HMV.out]
                        have HD := hid_ hd
                        have HDB := hid_ (show -500000000 ≤ d ∧ d ≤ 500000000 from by omega)
                        have HY := paceHear_yes C4 600 pb kb db hb c pv qv rv (k : Int) false s r devs has (j : Int) (T + L) HG.out.rg HRR.out (by have := HTB.out; omega) W1 HP3.out HHB.out
                        rw [hd, Int.toNat_natCast] at HY
                        have HY := hid_ HY
                        clear hjk hlcv hlr hd hd2
                        go_wp2_with fail
                        refine HY.out.mono ?_
                        rintro e W2 ⟨rfl, F2, P2⟩
                        have HM4 := hid_ (HM3.out.fr F2 HC4.out HM.out.V.size ⟨HM.out.K.lt, HM.out.R.lt, HM.out.S.lt, HM.out.N.lt⟩)
                        have HP4 := hid_ P2
                        clear F2 P2 HY
                        go_wp2
                        go_roundw
                        case rel => exact ⟨j + 1, _, _, by omega, by go_num, HR.out.hear hlt3 HJK.out d (T + L) HDB.out (by rw [HS.out]; exact HD.out) HTG.out, HM4.out, HP4.out⟩
                        case measure => simp [intOf]; omega
                  · obtain rfl : j = i := by omega
                    have m2 : ¬ (j : Int) < c.nodes := by have := HN.out; omega
                    have HNF := hid_ (show 3 * f + 1 ≤ j from by have := HW.out.nf; have := HN.out; have := HF.out; omega)
                    have hmid := dev_mid (f := f) HNF.out HR.out.ld HR.out.z
                    have hsr := HSR.out
                    have HNX := paceNext C4 600 pb kb db hb (by decide) c pv qv rv (k : Int) false s r devs has f HG.out.rg HRR.out (by omega) HF.out (fun x hx => by have := HR.out.z x hx; unfold Z64; omega) (by rw [show turnL false (k : Int) devs has = devs from rfl]; exact hmid.2) wr HP.out
                    rw [show turnL false (k : Int) devs has = devs from rfl, hmid.1, show errN none = .nilIface from rfl] at HNX
                    obtain ⟨xv, hxv⟩ : ∃ x, nextV c s r devs f = x := ⟨_, rfl⟩
                    rw [hxv] at HNX
                    have HXV := hid_ hxv
                    have HNX := hid_ HNX
                    clear hmid hxv
                    go_wp2_with fail
                    refine HNX.out.mono ?_
                    rintro e w10 ⟨rfl, V10⟩
                    have HM3 := hid_ (HM2.out.below V10)
                    clear V10 HM2 HP dn HNX
                    have fz := HM3.out.N.frozen k
                    have cl := HM3.out.N.cell_ k (by rw [List.getElem?_map, get_getD _ _ (by rw [HMN.out.len]; omega)]; rfl)
                    go_wp2
                    go_roundw
                    case rel => exact ⟨k + 1, N.set k xv, by omega, by go_num, HMN.out.set hlt2 (by rw [HA.out]; exact HRM.out) ⟨devs, HR.out.done, by rw [HS.out]; exact HXV.out.symm⟩, HM3.out.setN k xv⟩
                    case measure => simp [intOf]; omega
            · obtain rfl : k = 2 := by omega
              have hnear := HMN.out.near HW.out HN.out HF.out hn20 HSo.out
              have g0 := HM.out.N.cell_ 0 (by rw [List.getElem?_map, get_getD _ _ (by rw [HMN.out.len]; omega)]; rfl)
              have g1 := HM.out.N.cell_ 1 (by rw [List.getElem?_map, get_getD _ _ (by rw [HMN.out.len]; omega)]; rfl)
              obtain ⟨x, hx⟩ : ∃ x, N.getD 0 0 = x := ⟨_, rfl⟩
              obtain ⟨y, hy⟩ : ∃ x, N.getD 1 0 = x := ⟨_, rfl⟩
              rw [hx, hy, HPI.out] at hnear
              rw [hx] at g0
              rw [hy] at g1
              obtain ⟨h0, h1⟩ := hnear
              obtain ⟨d, hd⟩ : ∃ d, x - y = d := ⟨_, rfl⟩
              rw [hd] at h0 h1
              have z1 : wrap64 (x - y) = d := by rw [hd]; unfold wrap64; omega
              have z2 : IntKind.i64.wrap (x - y) = d := by rw [hd]; exact IntWalk.i64_in _ (by omega)
              clear hx hy hd
              rcases (by omega : d < 0 ∨ 0 ≤ d) with hd0 | hd0
              · have z3 : wrap64 (-d) = -d := by unfold wrap64; omega
                have z4 : -d ≤ pi / 2 := by omega
                go_wp2
                go_ret
                exact ⟨by simp, HM.out.V⟩
              · go_wp2
                go_ret
                exact ⟨by simp, HM.out.V⟩
end Go.Proofs.Ytnmhfdkmiblknaa
