/- Package ports: how its objects lie in memory; find; slices.Clone at bytes. No condition but that the tables work. -/
import Derived.Test.YtogfbeibpfdleaaSound
import Derived.Test.YtogfbeibpfdleaaBytes
import Derived.Deep.RegionHeld3
import Derived.Deep.RegionLaw
import Derived.Deep.DrawnRows
import Derived.Deep.CutBlock
import Derived.Outline
set_option linter.unusedSimpArgs false
set_option linter.unusedVariables false
namespace Go.Proofs.Ytogfbeibpfdleaa
open Go.RowKit Go.Maps

/-- What a port holds. -/
structure PSt where
  q : List (List UInt8)
  age : Int
  deriving Inhabited
/-- A list of byte slices whose array has colour k. -/
def IsList (w : World) (C : Nat → Nat) (k : Nat) (v : Value) (q : List (List UInt8)) : Prop := ∃ vs, Sl w C k v 40 1 vs.length vs ∧ BytesAll w C vs q
theorem IsList.fr {K : Nat → Prop} {C C' : Nat → Nat} {w w' : World} {k : Nat} {v : Value} {q : List (List UInt8)} (h : IsList w C k v q) (f : Fr K C C' w w') (hk : ¬ K k) (h0 : ¬ K 0) : IsList w' C' k v q := by
  obtain ⟨vs, h1, h2⟩ := h
  exact ⟨vs, h1.fr f hk, h2.fr f h0⟩
theorem IsList.nil (w : World) (C : Nat → Nat) (k : Nat) : IsList w C k (.slice none 0 0) [] := ⟨[], Sl.nil _ _ _ _ _, trivial⟩

def pcells (lv : Nat → Value) (st : List PSt) : List Value := (List.range st.length).flatMap fun i => [lv i, .int .i64 (st.getD i default).age]
theorem pcells_len (lv : Nat → Value) (st : List PSt) : (pcells lv st).length = st.length * 2 := by
  unfold pcells
  generalize st.length = n
  induction n with
  | zero => simp
  | succ n ih => rw [List.range_succ, List.flatMap_append, List.length_append, ih]; simp; omega
theorem pcells_get (lv : Nat → Value) (st : List PSt) (i j : Nat) (hi : i < st.length) (hj : j < 2) : (pcells lv st)[i * 2 + j]? = [lv i, .int .i64 (st.getD i default).age][j]? := by
  unfold pcells
  exact flatMap_get 2 (fun i => [lv i, Value.int .i64 (st.getD i default).age]) (fun _ => rfl) (List.range st.length) i j i (by simp [hi]) hj
theorem ext2 {A B : List Value} (n : Nat) (hA : A.length = n * 2) (hB : B.length = n * 2) (h : ∀ i j, i < n → j < 2 → A[i * 2 + j]? = B[i * 2 + j]?) : A = B := by
  apply List.ext_getElem?
  intro m
  by_cases hm : m < n * 2
  · have := h (m / 2) (m % 2) (by omega) (by omega)
    rw [show m / 2 * 2 + m % 2 = m by omega] at this
    exact this
  · rw [List.getElem?_eq_none (by omega), List.getElem?_eq_none (by omega)]
theorem pcells_setL (lv : Nat → Value) (st : List PSt) (i : Nat) (v : Value) (s : PSt) (hi : i < st.length) (hs : s.age = (st.getD i default).age) :
    (pcells lv st).set (i * 2) v = pcells (fun j => if j = i then v else lv j) (st.set i s) := by
  refine ext2 st.length (by rw [List.length_set, pcells_len]) (by rw [pcells_len, List.length_set]) fun m j hm hj => ?_
  rw [pcells_get _ _ m j (by rw [List.length_set]; exact hm) hj, List.getElem?_set]
  by_cases h : i * 2 = m * 2 + j
  · have h1 : m = i := by omega
    have h2 : j = 0 := by omega
    subst h1 h2
    simp [pcells_len]
    omega
  · rw [if_neg h, pcells_get _ _ m j hm hj]
    by_cases hmi : m = i
    · subst hmi
      have h2 : j = 1 := by omega
      subst h2
      simp only [List.getElem?_cons_succ, List.getElem?_cons_zero, List.getD_eq_getElem?_getD, List.getElem?_set_self hi, Option.getD_some]
      rw [hs, List.getD_eq_getElem?_getD]
    · rw [if_neg hmi]
      simp only [List.getD_eq_getElem?_getD, List.getElem?_set_ne (Ne.symm hmi)]
theorem pcells_setA (lv : Nat → Value) (st : List PSt) (i : Nat) (s : PSt) (hi : i < st.length) :
    (pcells lv st).set (i * 2 + 1) (.int .i64 s.age) = pcells lv (st.set i s) := by
  refine ext2 st.length (by rw [List.length_set, pcells_len]) (by rw [pcells_len, List.length_set]) fun m j hm hj => ?_
  rw [pcells_get _ _ m j (by rw [List.length_set]; exact hm) hj, List.getElem?_set]
  by_cases h : i * 2 + 1 = m * 2 + j
  · have h1 : m = i := by omega
    have h2 : j = 1 := by omega
    subst h1 h2
    rw [if_pos rfl, if_pos (by rw [pcells_len]; omega)]
    simp only [List.getElem?_cons_succ, List.getElem?_cons_zero, List.getD_eq_getElem?_getD, List.getElem?_set_self hi, Option.getD_some]
  · rw [if_neg h, pcells_get _ _ m j hm hj]
    by_cases hmi : m = i
    · subst hmi
      have h2 : j = 0 := by omega
      subst h2
      rfl
    · simp only [List.getD_eq_getElem?_getD, List.getElem?_set_ne (Ne.symm hmi)]

/-- A node's ports at block b: the head and the states have colour k, port i's list has colour k + 1 + i. -/
structure IsPorts (w : World) (C : Nat → Nat) (k b ab : Nat) (c : Cfg) (pv qv rv : Value) (node : Int) (lv : Nat → Value) (st : List PSt) : Prop where
  head : Bk w b 84 (c.cells pv qv rv ++ [.int .i64 node, .slice (some ⟨ab, 0, none⟩) st.length st.length])
  hcol : C b = k
  lists : Lists w C c pv qv rv
  all : Bk w ab 88 (pcells lv st)
  acol : C ab = k
  len : st.length = c.ports.length
  each : ∀ i, i < st.length → IsList w C (k + 1 + i) (lv i) (st.getD i default).q
theorem IsPorts.fr {K : Nat → Prop} {C C' : Nat → Nat} {w w' : World} {k b ab : Nat} {c : Cfg} {pv qv rv : Value} {node : Int} {lv : Nat → Value} {st : List PSt} (h : IsPorts w C k b ab c pv qv rv node lv st) (f : Fr K C C' w w') (hk : ∀ x, K x → x ≠ 0 ∧ (x < k ∨ k + 100 ≤ x)) (hn : st.length ≤ 24) :
    IsPorts w' C' k b ab c pv qv rv node lv st := by
  have k0 : ¬ K 0 := fun h => (hk 0 h).1 rfl
  have kk : ∀ i, i ≤ 24 → ¬ K (k + i) := fun i hi h => by have := (hk _ h).2; omega
  obtain ⟨a1, a2⟩ := f.block b h.head.lt (by rw [h.hcol]; exact kk 0 (by omega))
  obtain ⟨b1, b2⟩ := f.block ab h.all.lt (by rw [h.acol]; exact kk 0 (by omega))
  exact ⟨h.head.same a1, a2.trans h.hcol, h.lists.fr f k0, h.all.same b1, b2.trans h.acol, h.len, fun i hi => (h.each i hi).fr f (by have := kk (1 + i) (by omega); rwa [← Nat.add_assoc] at this) k0⟩

/-- The cells of the head that the walks read. -/
theorem IsPorts.cells {w : World} {C : Nat → Nat} {k b ab : Nat} {c : Cfg} {pv qv rv : Value} {node : Int} {lv : Nat → Value} {st : List PSt} (h : IsPorts w C k b ab c pv qv rv node lv st) :
    w.cell? ⟨b, 8, none⟩ = some pv ∧ w.cell? ⟨b, 9, none⟩ = some qv ∧ w.cell? ⟨b, 10, none⟩ = some rv ∧ w.cell? ⟨b, 11, none⟩ = some (.int .i64 node) ∧ w.cell? ⟨b, 12, none⟩ = some (.slice (some ⟨ab, 0, none⟩) st.length st.length) :=
  ⟨h.head.cell_ 8 rfl, h.head.cell_ 9 rfl, h.head.cell_ 10 rfl, h.head.cell_ 11 rfl, h.head.cell_ 12 rfl⟩

/-- What find says: a code and a place. -/
def findE (c : Cfg) (node part port : Int) (out : Bool) : Option (Int × Int) :=
  if port < 0 ∨ (c.ports.length : Int) ≤ port ∨ (c.port port.toNat).part ≠ part ∨ (c.part part.toNat).node ≠ node then some (17, if port < -1 then -1 else port)
  else if (c.port port.toNat).out ≠ out then some (13, port) else none

set_option maxRecDepth 100000 in
set_option maxHeartbeats 1000000 in
theorem clone_any (C : Nat → Nat) (v : Value) (d : List UInt8) (w : World) (hf : Fin C w) (h : IsBytes w C v d) (hd : d.length ≤ 140737488355328) :
    Calls Try.prog 40 #[v] w fun e w' => ∃ v', e = .returned v' ∧ IsBytes w' C v' d ∧ v'.oneCell' = true ∧ Below w.heap.size w w' := by
  obtain ⟨a, cap, rfl, -⟩ := id h
  cases a with
  | none =>
    obtain ⟨_, _, hv, h1, h2, h3, h4⟩ := id h
    have hd0 : d = [] := by
      by_cases hn : 0 < d.length
      · obtain ⟨b, off, ha, _⟩ := h4 hn
        injection hv with hv _ _
        rw [ha] at hv
        cases hv
      · exact List.eq_nil_of_length_eq_zero (by omega)
    subst hd0
    have q1 := fun w => Lib.run_eql_slice_nil (P := Try.prog) w 40 5 none 0 cap 0 0 Try.underlying40
    go_enter Try.func40, Try.ntmps40
    go_wp2
    go_ret
    exact ⟨_, rfl, rd_nil _ _ _, rfl, Below.refl _ _⟩
  | some a =>
    have q1 := fun w => Lib.run_eql_slice_nil (P := Try.prog) w 40 5 (some a) d.length cap 0 0 Try.underlying40
    obtain ⟨b1, o1, p1, W1, hr1, hR1, hb1, hge1, hraw1⟩ := copy_of (P := Try.prog) w hf Try.underlying40 info_u8' h.src (by unfold maxLen; omega) (by omega)
    have HR := hid_ hr1
    clear hr1
    go_enter Try.func40, Try.ntmps40
    go_wp2_with (refine wpList_append_run HR.out (by rfl) (by rfl) (by rfl) (by rfl) ?_)
    go_ret
    exact ⟨_, rfl, hR1, rfl, hb1⟩

theorem below_drewN {B : Nat} {a w : World} (h : Below B a w) (n : Nat) : Below B a (w.drewN n) := ⟨h.os, h.tape, h.output, h.size, h.block⟩
theorem part_in {c : Cfg} (hg : Good c) {j : Nat} (hj : j < c.ports.length) : 0 ≤ (c.port j).part ∧ (c.port j).part < c.parts.length := by
  have := hg.ports j hj
  unfold portOk inb at this
  simp only [Bool.and_eq_true, decide_eq_true_eq] at this
  omega

end Go.Proofs.Ytogfbeibpfdleaa
