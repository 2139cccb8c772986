/- Slices that came in, with their weights; bytes that came in. No condition. -/
import Derived.Test.YtogfbeibpfdleaaRowKit
import Derived.Test.YtogfbeibpfdleaaSl
set_option linter.unusedSimpArgs false
set_option linter.unusedVariables false
namespace Go.Proofs.Ytogfbeibpfdleaa
open Go.ChangeShapes Go.WideShapes Go.ChangeAt Go.RowKit Go.Deep

/-- No part of a datum weighs more than may be reached. -/
def Light {H : Type} (t : TypeId) (d : DataW H) : Prop := ∀ n ∈ d.weights Try.prog t, n ≤ reachBytes
theorem Light.of_each {H : Type} {ts : List TypeId} {ds : List (DataW H)} (h : (DataW.weightsEach Try.prog ts ds).all (· ≤ reachBytes) = true) {j : Nat} {t : TypeId} {d : DataW H} (ht : ts[j]? = some t) (hd : ds[j]? = some d) : Light t d := by
  intro n hn
  have := List.all_eq_true.1 h _ (DataW.weights_mem_each ht hd n hn)
  simpa using this
theorem weights_all_mem {H : Type} {e : TypeId} : ∀ {l : List (DataW H)} {d : DataW H}, d ∈ l → ∀ n ∈ d.weights Try.prog e, n ∈ DataW.weightsAll Try.prog e l
  | a :: l, d, hd, n, hn => by
    simp only [DataW.weightsAll, List.mem_append]
    rcases List.mem_cons.1 hd with rfl | hd
    · exact .inl hn
    · exact .inr (weights_all_mem hd n hn)
theorem Light.elem {H : Type} {t e : TypeId} {elems spare : List (DataW H)} (h : Light t (.slice elems spare)) (ht : Try.prog.underlying t = some (.slice e)) {d : DataW H} (hd : d ∈ elems) : Light e d := by
  intro n hn
  refine h n ?_
  simp only [DataW.weights, ht]
  simp only [List.mem_cons, List.mem_append]
  exact .inr (.inl (weights_all_mem hd n hn))
theorem Light.len {H : Type} {t e : TypeId} {elems spare : List (DataW H)} (h : Light t (.slice elems spare)) (ht : Try.prog.underlying t = some (.slice e)) : elems.length * Try.prog.bytesOf e ≤ reachBytes := by
  have := h ((elems.length + spare.length) * Try.prog.bytesOf e) (by simp [DataW.weights, ht])
  exact Nat.le_trans (Nat.mul_le_mul_right _ (Nat.le_add_right _ _)) this
theorem Light.field {H : Type} {t : TypeId} {fs : Array Field} {parts : List (DataW H)} (h : Light t (.agg parts)) (ht : Try.prog.underlying t = some (.struct fs)) {i : Nat} {f : Field} {d : DataW H} (hf : fs[i]? = some f) (hd : parts[i]? = some d) : Light f.type d := by
  intro n hn
  refine h n ?_
  simp only [DataW.weights, ht]
  exact DataW.weights_mem_each (by simpa using ⟨f, hf, rfl⟩) hd n hn

/-- A slice that came in: its elements' cells, row by row; how each row reads, and what it weighs. -/
theorem open_rdw {H : Type} {enc : TypeId × Value → H} {w : World} {base fuel : Nat} {t e : TypeId} {v : Value} {x : DataW H × List MemPlace} (ht : Try.prog.underlying t = some (.slice e)) (hsz : 0 < Try.prog.cellsOf e)
    (h : DataW.trod enc Try.prog w base (fun _ => true) true fuel t [v] = some x) (hL : Light t x.1) :
    ∃ rows : List (List Value), Rd w (fun _ => 0) v (Try.prog.cellsOf e) rows.length rows.flatten ∧ rows.length * Try.prog.bytesOf e ≤ reachBytes ∧ ∀ r ∈ rows, r.length = Try.prog.cellsOf e ∧ ∃ m d, DataW.trod enc Try.prog w base (fun _ => true) true m e r = some d ∧ Light e d.1 := by
  rcases open_slice ht h with ⟨h0, _⟩ | ⟨a, len, cap, m, n, D, Pl, hcs, hb, hl, hm, hmm, hx, hi⟩
  · simp only [List.cons.injEq, and_true] at h0
    subst h0
    exact ⟨[], ⟨none, 0, rfl, Nat.le_refl _, Nat.zero_le _, by simp, fun h => absurd h (by simp)⟩, by simp, by simp⟩
  · simp only [List.cons.injEq, and_true] at hcs
    subst hcs
    simp only [if_true] at hmm
    subst hmm
    subst hx
    have hrow : ∀ i, ∃ r : List Value, i < len → w.cells? base (a.add (i * Try.prog.cellsOf e)) (Try.prog.cellsOf e) = some r ∧ ∃ d, DataW.trod enc Try.prog w base (fun _ => true) true n e r = some d ∧ Light e d.1 := by
      intro i
      by_cases hlt : i < len
      · obtain ⟨cs', h1, h2⟩ := hi i (by omega)
        exact ⟨cs', fun _ => ⟨h1, _, h2, hL.elem ht (List.mem_map.2 ⟨i, by simpa using hlt, rfl⟩)⟩⟩
      · exact ⟨[], fun h => absurd h hlt⟩
    obtain ⟨R, hR⟩ := Classical.axiomOfChoice hrow
    have hlenR : ∀ i, i < len → (R i).length = Try.prog.cellsOf e := fun i hlt => (World.cells?_some (hR i hlt).1).2.1
    have hrows : ∀ r ∈ (List.range len).map R, r.length = Try.prog.cellsOf e := by
      intro r hr
      obtain ⟨i, hi', rfl⟩ := List.mem_map.1 hr
      exact hlenR i (by simpa using hi')
    have hll : ((List.range len).map R).length = len := by simp
    refine ⟨(List.range len).map R, ⟨some a, m, by rw [hll], by rw [hll]; exact hl, hm, flatten_length _ _ hrows, fun hn => ?_⟩, ?_, fun r hr => ?_⟩
    · rw [hll] at hn
      have c0 := (World.cells?_some (hR 0 hn).1).2.2 0 hsz
      rw [Nat.zero_mul, List.getElem?_eq_getElem (by rw [hlenR 0 hn]; exact hsz)] at c0
      have hs : a.spot = none := by
        rcases add_cell c0 with h | h
        · simpa [Addr.add] using h
        · exact absurd rfl h
      refine ⟨a.block, a.off, by cases a; simp_all, rfl, ?_, fun i x hix => ?_⟩
      · have := World.block_lt_of_cell? _ _ c0
        simpa [Addr.add] using this
      · have hil : i < len * Try.prog.cellsOf e := by
          have := (List.getElem?_eq_some_iff.1 hix).1
          rw [flatten_length _ _ hrows, hll] at this
          exact this
        have hk : i / Try.prog.cellsOf e < len := Nat.div_lt_of_lt_mul (by rw [Nat.mul_comm]; exact hil)
        have hj : i % Try.prog.cellsOf e < Try.prog.cellsOf e := Nat.mod_lt _ hsz
        have e1 : i / Try.prog.cellsOf e * Try.prog.cellsOf e + i % Try.prog.cellsOf e = i := by rw [Nat.mul_comm]; exact Nat.div_add_mod _ _
        have g := flatten_get _ _ hrows (i / Try.prog.cellsOf e) (i % Try.prog.cellsOf e) (R (i / Try.prog.cellsOf e)) (by simp [hk]) hj
        rw [e1, hix] at g
        have c := (World.cells?_some (hR _ hk).1).2.2 _ hj
        rw [← g, add_spot a _ (.inl hs), add_spot _ _ (.inl rfl)] at c
        simp only at c
        rw [show a.off + i = a.off + i / Try.prog.cellsOf e * Try.prog.cellsOf e + i % Try.prog.cellsOf e by rw [Nat.add_assoc, e1]]
        exact c
    · have := hL.len ht
      simpa using this
    · obtain ⟨i, hi', rfl⟩ := List.mem_map.1 hr
      obtain ⟨d, hd, hdl⟩ := (hR i (by simpa using hi')).2
      exact ⟨hlenR i (by simpa using hi'), n, d, hd, hdl⟩

theorem list_ofw {H : Type} {enc : TypeId × Value → H} {w : World} {base fuel : Nat} {t e : TypeId} {v : Value} {x : DataW H × List MemPlace} {α : Type} {g : α → List Value} {p : α → Prop} {sz : Nat} (ht : Try.prog.underlying t = some (.slice e)) (hsz : Try.prog.cellsOf e = sz) (h0 : 0 < sz)
    (hg : ∀ m r d, DataW.trod enc Try.prog w base (fun _ => true) true m e r = some d → Light e d.1 → ∃ x, r = g x ∧ p x) (h : DataW.trod enc Try.prog w base (fun _ => true) true fuel t [v] = some x) (hL : Light t x.1) :
    ∃ l : List α, Rd w (fun _ => 0) v sz l.length (l.flatMap g) ∧ l.length * Try.prog.bytesOf e ≤ reachBytes ∧ ∀ x ∈ l, p x := by
  obtain ⟨rows, hrd, hw, hrow⟩ := open_rdw ht (by rw [hsz]; exact h0) h hL
  rw [hsz] at hrd hrow
  obtain ⟨l, h1, h2, h3⟩ := rows_of (g := g) (p := p) rows (fun r hr => by
    obtain ⟨_, m, d, hd, hdl⟩ := hrow r hr
    exact hg m r d hd hdl)
  rw [h1, h2] at hrd
  rw [h2] at hw
  exact ⟨l, hrd, hw, h3⟩

def byteV (d : List UInt8) : List Value := d.map fun x => .int .u8 x.toNat
/-- A slice of bytes that nobody writes. -/
def IsBytes (w : World) (C : Nat → Nat) (v : Value) (d : List UInt8) : Prop := Rd w C v 1 d.length (byteV d)
theorem bytes_of {H : Type} {enc : TypeId × Value → H} {w : World} {base fuel : Nat} {v : Value} {x : DataW H × List MemPlace} (h : DataW.trod enc Try.prog w base (fun _ => true) true fuel 40 [v] = some x) (hL : Light 40 x.1) :
    ∃ d : List UInt8, IsBytes w (fun _ => 0) v d ∧ d.length ≤ reachBytes := by
  obtain ⟨l, h1, h2, _⟩ := list_ofw (g := fun x : UInt8 => [.int .u8 x.toNat]) (p := fun _ => True) Try.underlying40 (show Try.prog.cellsOf 5 = 1 by kernel_rfl) (by omega) (fun m r d hd _ => by
    have hr : r.length = 1 := by
      have h1 := Try.underlying5
      cases m with
      | zero => simp [DataW.trod] at hd
      | succ m =>
        unfold DataW.trod at hd
        rw [h1] at hd
        match r, hd with
        | [c], _ => rfl
        | [], hd => simp at hd
        | _ :: _ :: _, hd => simp at hd
    match r, hr with
    | [c], _ =>
      obtain ⟨a, rfl, hw⟩ := cell_int (q := .u8) Try.underlying5 hd
      obtain ⟨a0, a1⟩ := u8_of_wf hw
      refine ⟨UInt8.ofNat a.toNat, ?_, trivial⟩
      rw [UInt8.toNat_ofNat', Nat.mod_eq_of_lt (by omega)]
      congr 2
      omega) h hL
  have hb : Try.prog.bytesOf 5 = 1 := by kernel_rfl
  rw [hb, Nat.mul_one] at h2
  refine ⟨l, ?_, h2⟩
  have e1 : ∀ l : List UInt8, l.flatMap (fun x : UInt8 => [Value.int .u8 x.toNat]) = byteV l := by
    intro l
    unfold byteV
    induction l with
    | nil => rfl
    | cons a l ih => simp [ih]
  rw [e1] at h1
  exact h1
end Go.Proofs.Ytogfbeibpfdleaa
