/- The base: what a call may turn in memory, told by a colouring of the blocks. No condition. -/
import Derived.WalkKit
import Derived.KernelRfl
import Derived.Maps.OwnSet
import Derived.Deep.QuietTactic
import Derived.Deep.Draws
import Derived.BigQuiet
import Derived.StillTailTactics
import Derived.WalkLawsBesides
import Derived.WalkSpells
set_option linter.unusedSimpArgs false
set_option linter.unusedVariables false
namespace Go.Proofs.Ytogfbeibpfdleaa
open Go.RowKit Go.Maps

/-- Blocks whose colour is outside K stay as they were, and keep their colour; what is not yet there has colour 0. -/
structure Fr (K : Nat → Prop) (C C' : Nat → Nat) (w w' : World) : Prop where
  os : w'.os = w.os
  tape : w'.tape = w.tape
  output : w'.output = w.output
  size : w.heap.size ≤ w'.heap.size
  block : ∀ b, b < w.heap.size → ¬ K (C b) → w'.heap[b]? = w.heap[b]? ∧ C' b = C b
  fin : (∀ b, w.heap.size ≤ b → C b = 0) → ∀ b, w'.heap.size ≤ b → C' b = 0

/-- What is not yet there has colour 0. -/
def Fin (C : Nat → Nat) (w : World) : Prop := ∀ b, w.heap.size ≤ b → C b = 0

theorem Fr.refl (K : Nat → Prop) (C : Nat → Nat) (w : World) : Fr K C C w w := ⟨rfl, rfl, rfl, Nat.le_refl _, fun _ _ _ => ⟨rfl, rfl⟩, fun h => h⟩
theorem Fr.trans {K : Nat → Prop} {C C1 C2 : Nat → Nat} {w w1 w2 : World} (h : Fr K C C1 w w1) (k : Fr K C1 C2 w1 w2) : Fr K C C2 w w2 :=
  ⟨k.os.trans h.os, k.tape.trans h.tape, k.output.trans h.output, Nat.le_trans h.size k.size, fun b hb hk => by
    obtain ⟨h1, h2⟩ := h.block b hb hk
    obtain ⟨k1, k2⟩ := k.block b (Nat.lt_of_lt_of_le hb h.size) (by rw [h2]; exact hk)
    exact ⟨k1.trans h1, k2.trans h2⟩, fun hf => k.fin (h.fin hf)⟩
theorem Fr.mono {K K' : Nat → Prop} {C C' : Nat → Nat} {w w' : World} (h : Fr K C C' w w') (hk : ∀ c, K c → K' c) : Fr K' C C' w w' :=
  ⟨h.os, h.tape, h.output, h.size, fun b hb hn => h.block b hb (fun x => hn (hk _ x)), h.fin⟩
theorem Fr.of_below {C : Nat → Nat} {w w' : World} (h : Below w.heap.size w w') (K : Nat → Prop) : Fr K C C w w' :=
  ⟨h.os, h.tape, h.output, h.size, fun b hb _ => ⟨h.block b hb, rfl⟩, fun hf b hb => hf b (Nat.le_trans h.size hb)⟩
theorem Fr.below {K : Nat → Prop} {C C' : Nat → Nat} {w w' : World} (h : Fr K C C' w w') (hn : ∀ b, b < w.heap.size → ¬ K (C b)) : Below w.heap.size w w' :=
  ⟨h.os, h.tape, h.output, h.size, fun b hb => (h.block b hb (hn b hb)).1⟩
theorem Fr.Fin {K : Nat → Prop} {C C' : Nat → Nat} {w w' : World} (h : Fr K C C' w w') (hf : Fin C w) : Fin C' w' := h.fin hf
theorem Fr.alloc {K : Nat → Prop} {C C' : Nat → Nat} {w w' : World} (h : Fr K C C' w w') (o : Obj) : Fr K C C' w (w'.alloc o) :=
  h.trans (Fr.of_below ((Below.refl _ _).alloc (Nat.le_refl _) o) K)
theorem Fr.drew {K : Nat → Prop} {C C' : Nat → Nat} {w w' : World} (h : Fr K C C' w w') : Fr K C C' w w'.drew :=
  ⟨h.os, h.tape, h.output, h.size, h.block, h.fin⟩
theorem Fr.drewN {K : Nat → Prop} {C C' : Nat → Nat} {w w' : World} (h : Fr K C C' w w') (n : Nat) : Fr K C C' w (w'.drewN n) :=
  ⟨h.os, h.tape, h.output, h.size, h.block, h.fin⟩
theorem Fr.setCell {K : Nat → Prop} {C C' : Nat → Nat} {w w' : World} (h : Fr K C C' w w') {a : Addr} (ha : w.heap.size ≤ a.block ∨ K (C a.block)) (u : Value) : Fr K C C' w (w'.setCell a u) :=
  ⟨h.os, h.tape, h.output, by rw [World.size_setCell]; exact h.size, fun b hb hn => by
    have hne : b ≠ a.block := by
      rintro rfl
      rcases ha with h1 | h1
      · omega
      · exact hn h1
    exact ⟨(Below.heap_setCell w' a u b hne).trans (h.block b hb hn).1, (h.block b hb hn).2⟩, fun hf b hb => h.fin hf b (by rw [World.size_setCell] at hb; exact hb)⟩
/-- Colours that are given to blocks that are new, or were in K, anew. -/
theorem Fr.recolour {K : Nat → Prop} {C C' D : Nat → Nat} {w w' : World} (h : Fr K C C' w w') (hD : ∀ b, b < w.heap.size → ¬ K (C b) → D b = C b) (hf : ∀ b, w'.heap.size ≤ b → D b = 0) : Fr K C D w w' :=
  ⟨h.os, h.tape, h.output, h.size, fun b hb hn => ⟨(h.block b hb hn).1, hD b hb hn⟩, fun _ => hf⟩

theorem addr_add (b off j : Nat) : (⟨b, off, none⟩ : Addr).add j = ⟨b, off + j, none⟩ := by
  unfold Addr.add
  split <;> simp_all
theorem cell_alloc_keep {W : World} {a : Addr} {v : Value} (o : Obj) (h : W.cell? a = some v) : (W.alloc o).cell? a = some v := (World.cell?_alloc_lt W o a (World.block_lt_of_cell? W a h)).trans h
theorem hid_ {p : Prop} (h : p) : Hid p := h
/-- Of the world no more is kept than what F says of it. -/
theorem gen_world {P : Program} {c : Code} {Q : Exit → Act → World → Prop} {a : Act} {w : World} (F : World → Prop) (hF : F w) (h : ∀ w1, F w1 → c.wp P Q a w1) : c.wp P Q a w := h w hF

theorem below_drew (w : World) : Below w.heap.size w { w with drawn := w.drawn + 1 } := (Below.refl _ w).drew
theorem below_then {w w' w2 : World} (h : Below w.heap.size w w') (h2 : Below w'.heap.size w' w2) : Below w.heap.size w w2 := h.trans (h2.mono h.size)
/-- A world that is as w0 was below w0's heap's size. -/
structure Aft (w0 : World) where
  W : World
  h : Below w0.heap.size w0 W
instance (w0 : World) : Nonempty (Aft w0) := ⟨⟨w0, Below.refl _ _⟩⟩
theorem Aft.cell {w0 : World} (n : Aft w0) {a : Addr} {v : Value} (h : w0.cell? a = some v) : n.W.cell? a = some v := (n.h.cell (World.block_lt_of_cell? _ _ h)).trans h
/-- A callee that makes memory, in a region that draws its order. -/
theorem Aft.calls {P : Program} {f : FuncId} {args : Array Value} {w0 : World} (n : Aft w0) {v : Value} (h : Calls P f args n.W fun e w' => e = .returned v ∧ Below n.W.heap.size n.W w') :
    Calls P f args n.W fun e w'' => e = .returned v ∧ ∃ m : Aft w0, w'' = m.W :=
  h.mono fun _ w' ⟨he, hb⟩ => ⟨he, ⟨w', below_then n.h hb⟩, rfl⟩
/-- A region that draws its order, whose operations make memory at most, and bring the same value in each world that has grown: walked once, in the text's order. -/
theorem wp_region_aft {P : Program} {id : Nat} {Q : Exit → Act → World → Prop} {a : Act} {w : World} {l : List Oper} (hm : P.follows .mixedOrders = true) (hB : Region.lexB .any l.toArray = true)
    (h : wpQuiet P l.toArray (fun w' => ∃ n : Aft w, w' = n.W) (fun a' => ∀ w', (∃ n : Aft w, w' = n.W) → Q .normal a' w') l a) : (Code.region id l.toArray true).wp P Q a w :=
  wp_region_quiet (C := fun w' => ∃ n : Aft w, w' = n.W) hm hB ⟨⟨_, below_drew w⟩, rfl⟩ (by simpa using h)

/-- A block that is known whole: its cells, none frozen. -/
def Bk (w : World) (b t : Nat) (cs : List Value) : Prop := w.heap[b]? = some (.cells cs.toArray t (0, 0))

theorem Bk.lt {w : World} {b t : Nat} {cs : List Value} (h : Bk w b t cs) : b < w.heap.size := by
  rcases Nat.lt_or_ge b w.heap.size with h1 | h1
  · exact h1
  · unfold Bk at h; rw [Array.getElem?_eq_none h1] at h; cases h
theorem Bk.cell {w : World} {b t : Nat} {cs : List Value} (h : Bk w b t cs) (i : Nat) : w.cell? ⟨b, i, none⟩ = cs[i]? := by
  unfold Bk at h
  simp [World.cell?, h]
theorem Bk.cell_ {w : World} {b t : Nat} {cs : List Value} (h : Bk w b t cs) (i : Nat) {v : Value} (hv : cs[i]? = some v) : w.cell? ⟨b, i, none⟩ = some v := (h.cell i).trans hv
theorem Bk.frozen {w : World} {b t : Nat} {cs : List Value} (h : Bk w b t cs) (i : Nat) : w.frozen? ⟨b, i, none⟩ = false := by
  unfold Bk at h
  simp [World.frozen?, h]
theorem Bk.same {w w' : World} {b t : Nat} {cs : List Value} (h : Bk w b t cs) (hh : w'.heap[b]? = w.heap[b]?) : Bk w' b t cs := hh.trans h
theorem Bk.fr {K : Nat → Prop} {C C' : Nat → Nat} {w w' : World} {b t : Nat} {cs : List Value} (h : Bk w b t cs) (f : Fr K C C' w w') (hk : ¬ K (C b)) : Bk w' b t cs := h.same (f.block b h.lt hk).1
theorem Bk.alloc {w : World} {b t : Nat} {cs : List Value} (h : Bk w b t cs) (o : Obj) : Bk (w.alloc o) b t cs := h.same (Below.heap_alloc w o b h.lt)
theorem Bk.drewN {w : World} {b t : Nat} {cs : List Value} (h : Bk w b t cs) (n : Nat) : Bk (w.drewN n) b t cs := h
theorem Bk.drew {w : World} {b t : Nat} {cs : List Value} (h : Bk w b t cs) : Bk w.drew b t cs := h
theorem Bk.new (w : World) (t : Nat) (cs : List Value) : Bk (w.alloc (.cells cs.toArray t)) w.heap.size t cs := by
  unfold Bk World.alloc
  simp
theorem Bk.set {w : World} {b t : Nat} {cs : List Value} (h : Bk w b t cs) (i : Nat) (u : Value) : Bk (w.setCell ⟨b, i, none⟩ u) b t (cs.set i u) := by
  unfold Bk at h ⊢
  simp [World.setCell, Array.getElem?_modify, h]
theorem Bk.far {w : World} {b t : Nat} {cs : List Value} (h : Bk w b t cs) {a : Addr} (ha : b ≠ a.block) (u : Value) : Bk (w.setCell a u) b t cs := h.same (Below.heap_setCell w a u b ha)
theorem Bk.ne {w : World} {b b' t t' : Nat} {cs cs' : List Value} (h : Bk w b t cs) (h' : Bk w b' t' cs') (hne : t ≠ t') : b ≠ b' := by
  rintro rfl
  unfold Bk at h h'
  rw [h] at h'
  injection h' with h'
  injection h' with _ ht
  exact hne ht

/-- A slice that nobody writes (its block has colour 0): n elements of sz cells each, the cells cs. -/
def Rd (w : World) (C : Nat → Nat) (v : Value) (sz n : Nat) (cs : List Value) : Prop :=
  ∃ a cap, v = .slice a n cap ∧ n ≤ cap ∧ cap ≤ maxLen ∧ cs.length = n * sz ∧
    (0 < n → ∃ b off, a = some ⟨b, off, none⟩ ∧ C b = 0 ∧ b < w.heap.size ∧ ∀ i x, cs[i]? = some x → w.cell? ⟨b, off + i, none⟩ = some x)

theorem Rd.fr {K : Nat → Prop} {C C' : Nat → Nat} {w w' : World} {v : Value} {sz n : Nat} {cs : List Value} (h : Rd w C v sz n cs) (f : Fr K C C' w w') (hk : ¬ K 0) : Rd w' C' v sz n cs := by
  obtain ⟨a, cap, hv, h1, h2, h3, h4⟩ := h
  refine ⟨a, cap, hv, h1, h2, h3, fun hn => ?_⟩
  obtain ⟨b, off, ha, hc, hb, hcs⟩ := h4 hn
  obtain ⟨f1, f2⟩ := f.block b hb (by rw [hc]; exact hk)
  exact ⟨b, off, ha, f2.trans hc, Nat.lt_of_lt_of_le hb f.size, fun i x hx => (World.cell?_of_block f1).trans (hcs i x hx)⟩
theorem flatMap_get {α : Type} (sz : Nat) (g : α → List Value) (hg : ∀ x, (g x).length = sz) : ∀ (l : List α) (k j : Nat) (x : α), l[k]? = some x → j < sz → (l.flatMap g)[k * sz + j]? = (g x)[j]?
  | [], k, j, x, h, _ => by simp at h
  | y :: l, 0, j, x, h, hj => by
    simp only [List.getElem?_cons_zero, Option.some.injEq] at h
    subst h
    rw [List.flatMap_cons, Nat.zero_mul, Nat.zero_add, List.getElem?_append_left (by rw [hg]; exact hj)]
  | y :: l, k + 1, j, x, h, hj => by
    simp only [List.getElem?_cons_succ] at h
    have e : (k + 1) * sz + j = sz + (k * sz + j) := by rw [Nat.add_mul]; omega
    rw [List.flatMap_cons, e, List.getElem?_append_right (by rw [hg]; omega), hg, show sz + (k * sz + j) - sz = k * sz + j by omega]
    exact flatMap_get sz g hg l k j x h hj

/-- An element's cells. -/
theorem Rd.row {α : Type} [Inhabited α] {w : World} {C : Nat → Nat} {a : Option Addr} {cap sz : Nat} {g : α → List Value} {l : List α} (h : Rd w C (.slice a l.length cap) sz l.length (l.flatMap g)) (hg : ∀ x, (g x).length = sz) {i : Nat} (hi : i < l.length) :
    ∃ b off, a = some ⟨b, off, none⟩ ∧ C b = 0 ∧ ∀ j v, (g (l.getD i default))[j]? = some v → w.cell? ⟨b, off + i * sz + j, none⟩ = some v := by
  obtain ⟨a', cap', hv, _, _, _, h4⟩ := h
  injection hv with e1 _ _
  subst e1
  obtain ⟨b, off, ha, hC, _, hc⟩ := h4 (by omega)
  refine ⟨b, off, ha, hC, fun j v hjv => ?_⟩
  have hj : j < sz := by
    have := (List.getElem?_eq_some_iff.1 hjv).1
    rwa [hg] at this
  have := hc (i * sz + j) v (by
    rw [flatMap_get sz g hg l i j (l.getD i default) (by rw [List.getD_eq_getElem?_getD, List.getElem?_eq_getElem hi]; rfl) hj]
    exact hjv)
  rwa [← Nat.add_assoc] at this

/-- Memory that has only grown holds what it held. -/
theorem grown_cell {w w' : World} (h : Below w.heap.size w w') {a : Addr} {v : Value} (hc : w.cell? a = some v) : w'.cell? a = some v :=
  (h.cell (World.block_lt_of_cell? w a hc)).trans hc

theorem Rd.at {w : World} {C : Nat → Nat} {a : Option Addr} {cap sz n : Nat} {cs : List Value} (h : Rd w C (.slice a n cap) sz n cs) {i : Nat} (hi : i < n) : ∃ b off, a = some ⟨b, off, none⟩ ∧ ∀ j v, cs[j]? = some v → w.cell? ⟨b, off + j, none⟩ = some v := by
  obtain ⟨a', cap', hv, _, _, _, h4⟩ := h
  injection hv with e1 _ _
  subst e1
  obtain ⟨b, off, ha, _, _, hc⟩ := h4 (by omega)
  exact ⟨b, off, ha, hc⟩

theorem fin0 (w : World) : Fin (fun _ => 0) w := fun _ _ => rfl
/-- From all at colour 0: whatever was written has another colour. -/
theorem Fr.old {C' : Nat → Nat} {w w' : World} (h : Fr (· ≠ 0) (fun _ => 0) C' w w') : Below w.heap.size w w' := h.below (fun _ _ hn => hn rfl)

theorem Rd.recolour {w : World} {C D : Nat → Nat} {v : Value} {sz n : Nat} {cs : List Value} (h : Rd w C v sz n cs) (hD : ∀ b, b < w.heap.size → C b = 0 → D b = 0) : Rd w D v sz n cs := by
  obtain ⟨a, cap, hv, h1, h2, h3, h4⟩ := h
  refine ⟨a, cap, hv, h1, h2, h3, fun hn => ?_⟩
  obtain ⟨b, off, ha, hc, hb, hcs⟩ := h4 hn
  exact ⟨b, off, ha, hD b hb hc, hb, hcs⟩
theorem results_cell1 {fn : Func} {p : Tmp} {ty : TypeId} (h : fn.results = #[.cell p ty]) (tmps : Array Value) (P : Program) (w : World) :
    (results fn tmps).run P w = ((asAddr (tmps.getD p undef)).run P w).andThen fun a w₁ => (loadVar ty a).run P w₁ := by
  simp only [results, h]
  simp [Sem.run_bind, Result.andThen]
theorem rd_nil (w : World) (C : Nat → Nat) (sz : Nat) : Rd w C (.slice none 0 0) sz 0 [] := ⟨none, 0, rfl, Nat.le_refl _, Nat.zero_le _, by simp, fun h => absurd h (by simp)⟩
end Go.Proofs.Ytogfbeibpfdleaa
