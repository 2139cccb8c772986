/- escapementref13.Ports in memory: its layout is that of ports.Ports. No condition. -/
import Derived.Test.YtogfbeibpfdleaaPPutS
import Derived.BigQuiet
import Derived.Deep.QuietTactic
set_option linter.unusedSimpArgs false
set_option linter.unusedVariables false
namespace Go.Proofs.Ytogfbeibpfdleaa
open Go.RowKit Go.Maps

/-- A node's ports at block b: the head and the states have colour k, port i's list has colour k + 1 + i. -/
structure IsRPs (w : World) (C : Nat → Nat) (k b ab : Nat) (c : Cfg) (pv qv rv : Value) (node : Int) (lv : Nat → Value) (st : List PSt) : Prop where
  head : Bk w b 110 (c.cells pv qv rv ++ [.int .i64 node, .slice (some ⟨ab, 0, none⟩) st.length st.length])
  hcol : C b = k
  lists : Lists w C c pv qv rv
  all : Bk w ab 113 (pcells lv st)
  acol : C ab = k
  len : st.length = c.ports.length
  each : ∀ i, i < st.length → IsList w C (k + 1 + i) (lv i) (st.getD i default).q
theorem IsRPs.fr {K : Nat → Prop} {C C' : Nat → Nat} {w w' : World} {k b ab : Nat} {c : Cfg} {pv qv rv : Value} {node : Int} {lv : Nat → Value} {st : List PSt} (h : IsRPs w C k b ab c pv qv rv node lv st) (f : Fr K C C' w w') (hk : ∀ x, K x → x ≠ 0 ∧ (x < k ∨ k + 100 ≤ x)) (hn : st.length ≤ 24) :
    IsRPs w' C' k b ab c pv qv rv node lv st := by
  have k0 : ¬ K 0 := fun h => (hk 0 h).1 rfl
  have kk : ∀ i, i ≤ 24 → ¬ K (k + i) := fun i hi h => by have := (hk _ h).2; omega
  obtain ⟨a1, a2⟩ := f.block b h.head.lt (by rw [h.hcol]; exact kk 0 (by omega))
  obtain ⟨b1, b2⟩ := f.block ab h.all.lt (by rw [h.acol]; exact kk 0 (by omega))
  exact ⟨h.head.same a1, a2.trans h.hcol, h.lists.fr f k0, h.all.same b1, b2.trans h.acol, h.len, fun i hi => (h.each i hi).fr f (by have := kk (1 + i) (by omega); rwa [← Nat.add_assoc] at this) k0⟩
/-- The cells of the head that the walks read. -/
theorem IsRPs.cells {w : World} {C : Nat → Nat} {k b ab : Nat} {c : Cfg} {pv qv rv : Value} {node : Int} {lv : Nat → Value} {st : List PSt} (h : IsRPs w C k b ab c pv qv rv node lv st) :
    w.cell? ⟨b, 8, none⟩ = some pv ∧ w.cell? ⟨b, 9, none⟩ = some qv ∧ w.cell? ⟨b, 10, none⟩ = some rv ∧ w.cell? ⟨b, 11, none⟩ = some (.int .i64 node) ∧ w.cell? ⟨b, 12, none⟩ = some (.slice (some ⟨ab, 0, none⟩) st.length st.length) :=
  ⟨h.head.cell_ 8 rfl, h.head.cell_ 9 rfl, h.head.cell_ 10 rfl, h.head.cell_ 11 rfl, h.head.cell_ 12 rfl⟩
theorem IsRPs.state {w : World} {C : Nat → Nat} {k b ab : Nat} {c : Cfg} {pv qv rv : Value} {node : Int} {lv : Nat → Value} {st : List PSt} (h : IsRPs w C k b ab c pv qv rv node lv st) {j : Nat} (hj : j < st.length) :
    w.cell? ⟨ab, j * 2, none⟩ = some (lv j) ∧ w.cell? ⟨ab, j * 2 + 1, none⟩ = some (.int .i64 (st.getD j default).age) :=
  ⟨h.all.cell_ (j * 2) (by have := pcells_get lv st j 0 hj (by omega); simpa using this), h.all.cell_ (j * 2 + 1) (by have := pcells_get lv st j 1 hj (by omega); simpa using this)⟩
/-- A port's list is turned: the state's cell, and the list's own memory. -/
theorem IsRPs.turn {w : World} {C : Nat → Nat} {k b ab : Nat} {c : Cfg} {pv qv rv : Value} {node : Int} {lv : Nat → Value} {st : List PSt} (h : IsRPs w C k b ab c pv qv rv node lv st) (hn : st.length ≤ 24) (hk : k ≠ 0) {j : Nat} (hj : j < st.length) {v : Value} {q : List (List UInt8)} {w' : World} {C' : Nat → Nat}
    (f : Fr (· = k + 1 + j) C C' w w') (hl : IsList w' C' (k + 1 + j) v q) (hab : ab ≠ b) :
    IsRPs (w'.setCell ⟨ab, j * 2, none⟩ v) C' k b ab c pv qv rv node (fun i => if i = j then v else lv i) (st.set j { st.getD j default with q := q }) := by
  obtain ⟨a1, a2⟩ := f.block b h.head.lt (by rw [h.hcol]; omega)
  obtain ⟨b1, b2⟩ := f.block ab h.all.lt (by rw [h.acol]; omega)
  have hA : C' ab = k := b2.trans h.acol
  have g : Fr (· = k) C' C' w' (w'.setCell ⟨ab, j * 2, none⟩ v) := (Fr.refl _ _ _).setCell (.inr hA) _
  refine ⟨?_, a2.trans h.hcol, (h.lists.fr f (by omega)).fr g (by omega), ?_, hA, by rw [List.length_set]; exact h.len, fun i hi => ?_⟩
  · rw [List.length_set]
    exact (h.head.same a1).far (Ne.symm hab) _
  · have := (h.all.same b1).set (j * 2) v
    rw [pcells_setL lv st j v { st.getD j default with q := q } hj rfl] at this
    exact this
  · rw [List.length_set] at hi
    by_cases hij : i = j
    · subst hij
      rw [if_pos rfl, List.getD_eq_getElem?_getD, List.getElem?_set_self hi]
      exact hl.fr g (by omega) (by omega)
    · rw [if_neg hij, List.getD_eq_getElem?_getD, List.getElem?_set_ne (Ne.symm hij), ← List.getD_eq_getElem?_getD]
      exact ((h.each i hi).fr f (by omega) (by omega)).fr g (by omega) (by omega)
/-- A port's age is turned. -/
theorem IsRPs.age {w : World} {C : Nat → Nat} {k b ab : Nat} {c : Cfg} {pv qv rv : Value} {node : Int} {lv : Nat → Value} {st : List PSt} (h : IsRPs w C k b ab c pv qv rv node lv st) (hk : k ≠ 0) {j : Nat} (hj : j < st.length) (s : PSt) (hs : s.q = (st.getD j default).q) (hab : ab ≠ b) :
    IsRPs (w.setCell ⟨ab, j * 2 + 1, none⟩ (.int .i64 s.age)) C k b ab c pv qv rv node lv (st.set j s) := by
  have g : Fr (· = k) C C w (w.setCell ⟨ab, j * 2 + 1, none⟩ (.int .i64 s.age)) := (Fr.refl _ _ _).setCell (.inr h.acol) _
  refine ⟨?_, h.hcol, h.lists.fr g (by omega), ?_, h.acol, by rw [List.length_set]; exact h.len, fun i hi => ?_⟩
  · rw [List.length_set]
    exact h.head.far (Ne.symm hab) _
  · have := h.all.set (j * 2 + 1) (.int .i64 s.age)
    rw [pcells_setA lv st j s hj] at this
    exact this
  · rw [List.length_set] at hi
    by_cases hij : i = j
    · subst hij
      rw [List.getD_eq_getElem?_getD, List.getElem?_set_self hi, Option.getD_some, hs]
      exact (h.each i hi).fr g (by omega) (by omega)
    · rw [List.getD_eq_getElem?_getD, List.getElem?_set_ne (Ne.symm hij), ← List.getD_eq_getElem?_getD]
      exact (h.each i hi).fr g (by omega) (by omega)
end Go.Proofs.Ytogfbeibpfdleaa
