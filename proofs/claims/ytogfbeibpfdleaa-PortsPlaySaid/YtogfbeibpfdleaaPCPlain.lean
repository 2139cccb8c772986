/- Chapter 13's PortsClear: what its calls do, in plain lists. No condition. -/
import Derived.Test.YtogfbeibpfdleaaAwk13
import Derived.Test.YtogfbeibpfdleaaPDeliver
import Derived.Test.YtogfbeibpfdleaaPImage
import Derived.Test.YtogfbeibpfdleaaPClear
set_option linter.unusedSimpArgs false
set_option linter.unusedVariables false
namespace Go.Proofs.Ytogfbeibpfdleaa
open Go.RowKit Go.Maps

/-- At most four messages in a port, of at most sixteen bytes. -/
def Inv (c : Cfg) (st : List PSt) : Prop := st.length = c.ports.length ∧ ∀ i, i < st.length → (st.getD i default).q.length ≤ 4 ∧ ∀ x ∈ (st.getD i default).q, x.length ≤ 16
theorem getD_set {α : Type} (l : List α) (j i : Nat) (x d : α) (hj : j < l.length) : (l.set j x).getD i d = if i = j then x else l.getD i d := by
  rw [List.getD_eq_getElem?_getD, List.getElem?_set, List.getD_eq_getElem?_getD]
  by_cases h : j = i
  · subst h
    rw [if_pos rfl, if_pos hj, if_pos rfl]
    rfl
  · rw [if_neg h, if_neg (fun e => h e.symm)]
theorem set_out {α : Type} : ∀ (l : List α) (j : Nat) (x : α), ¬ j < l.length → l.set j x = l
  | [], _, _, _ => rfl
  | _ :: _, 0, _, h => absurd (by simp) h
  | a :: l, j + 1, x, h => by rw [List.set_cons_succ, set_out l j x (by simp at h ⊢; omega)]
theorem inv0 (c : Cfg) : Inv c (st0 c.ports.length) := by
  refine ⟨by simp [st0], fun i hi => ?_⟩
  have e : (st0 c.ports.length).getD i default = ⟨[], 0⟩ := by
    rw [List.getD_eq_getElem?_getD, List.getElem?_eq_getElem hi]
    simp [st0]
  rw [e]
  simp
theorem putS_inv {c : Cfg} (hg : Good c) {st : List PSt} (h : Inv c st) (j : Nat) {d : List UInt8} (hd : d.length ≤ 16) : Inv c (putS c st j d) := by
  unfold putS
  split
  · rename_i hp
    unfold putIn
    by_cases hj : j < st.length
    · refine ⟨by rw [List.length_set]; exact h.1, fun i hi => ?_⟩
      rw [List.length_set] at hi
      rw [getD_set _ _ _ _ _ hj]
      by_cases e : i = j
      · subst e
        rw [if_pos rfl]
        obtain ⟨h1, h2⟩ := h.2 i hi
        by_cases hk : (c.port i).kind = 1
        · rw [if_pos hk]
          refine ⟨by simp, fun x hx => ?_⟩
          obtain rfl : x = d := by simpa using hx
          exact hd
        · rw [if_neg hk]
          have hpo := hg.ports i (by rw [← h.1]; exact hi)
          unfold portOk inb at hpo
          rw [if_neg hk] at hpo
          have hq : ((st.getD i default).q.length : Int) < (c.port i).depth := by
            unfold putB at hp
            simpa [hk] using hp
          have hdep : (c.port i).depth ≤ 4 := by
            by_cases hk2 : (c.port i).kind = 2
            · rw [if_pos hk2] at hpo
              simp only [Bool.and_eq_true, decide_eq_true_eq] at hpo
              omega
            · rw [if_neg hk2] at hpo
              simp at hpo
          refine ⟨?_, fun x hx => ?_⟩
          · show ((st.getD i default).q ++ [d]).length ≤ 4
            rw [List.length_append, List.length_singleton]
            omega
          · have hx' : x ∈ (st.getD i default).q ++ [d] := hx
            rcases List.mem_append.1 hx' with hx | hx
            · exact h2 x hx
            · obtain rfl : x = d := by simpa using hx
              exact hd
      · rw [if_neg e]
        exact h.2 i hi
    · rw [set_out _ _ _ hj]
      exact h
  · exact h
theorem viaR_inv {c : Cfg} (hg : Good c) {st : List PSt} (h : Inv c st) (node : Int) (p : Nat) {d : List UInt8} (hd : d.length ≤ 16) : ∀ n, Inv c (viaR c node st p d n).1
  | 0 => h
  | n + 1 => by
    have ih := viaR_inv hg h node p hd n
    unfold viaR
    simp only
    split
    · exact putS_inv hg ih _ hd
    · exact ih
theorem delivR_inv {c : Cfg} (hg : Good c) {st : List PSt} (h : Inv c st) (node src : Int) (ms : List Msg) : ∀ n, Inv c (delivR c node src st ms n).1
  | 0 => h
  | n + 1 => by
    have ih := delivR_inv hg h node src ms n
    unfold delivR
    simp only
    split
    · rename_i hm
      refine viaR_inv hg ih _ _ ?_ _
      unfold msgB at hm
      simp only [Bool.and_eq_true, decide_eq_true_eq] at hm
      obtain ⟨⟨⟨⟨h1, h2⟩, -⟩, -⟩, h5⟩ := hm
      have hpo := hg.ports (ms.getD n default).port.toNat (by omega)
      unfold portOk inb at hpo
      simp only [Bool.and_eq_true, decide_eq_true_eq] at hpo
      omega
    · exact ih
theorem image_port (c : Cfg) (node : Int) (st : List PSt) : ∀ n, ∀ m ∈ imageMs c node st n, 0 ≤ m.port ∧ m.port < (n : Int)
  | 0, m, h => by simp [imageMs] at h
  | n + 1, m, h => by
    unfold imageMs at h
    rcases List.mem_append.1 h with h | h
    · have := image_port c node st n m h
      omega
    · split at h
      · obtain ⟨d, -, rfl⟩ := List.mem_map.1 h
        simp only
        omega
      · simp at h
theorem image_d {c : Cfg} {st : List PSt} (hi : Inv c st) (node : Int) : ∀ n, n ≤ st.length → ∀ m ∈ imageMs c node st n, m.d.length ≤ 16
  | 0, _, m, h => by simp [imageMs] at h
  | n + 1, hn, m, h => by
    unfold imageMs at h
    rcases List.mem_append.1 h with h | h
    · exact image_d hi node n (by omega) m h
    · split at h
      · obtain ⟨d, hd, rfl⟩ := List.mem_map.1 h
        exact (hi.2 n (by omega)).2 d hd
      · simp at h
theorem clearSt_get (c : Cfg) (part : Int) (st : List PSt) : ∀ n, n ≤ st.length → ∀ i, i < st.length → (clearSt c part st n).getD i default = if i < n ∧ (c.port i).part = part then ⟨[], 0⟩ else st.getD i default
  | 0, _, i, hi => by rw [if_neg (by omega)]; rfl
  | n + 1, hn, i, hi => by
    have ih := clearSt_get c part st n (by omega) i hi
    have hl := clearSt_len c part st n
    unfold clearSt
    by_cases hp : (c.port n).part = part
    · rw [if_pos hp, getD_set _ _ _ _ _ (by omega)]
      by_cases e : i = n
      · subst e
        rw [if_pos rfl, if_pos ⟨by omega, hp⟩]
      · rw [if_neg e, ih]
        by_cases h : i < n ∧ (c.port i).part = part
        · rw [if_pos h, if_pos ⟨by omega, h.2⟩]
        · rw [if_neg h, if_neg (fun h' => h ⟨by omega, h'.2⟩)]
    · rw [if_neg hp, ih]
      by_cases h : i < n ∧ (c.port i).part = part
      · rw [if_pos h, if_pos ⟨by omega, h.2⟩]
      · rw [if_neg h, if_neg (fun h' => by
          by_cases e : i = n
          · subst e; exact hp h'.2
          · exact h ⟨by omega, h'.2⟩)]
theorem clear_none (c : Cfg) (part : Int) (st : List PSt) : ∀ n, (∀ i, i < n → (c.port i).part ≠ part) → clearSt c part st n = st
  | 0, _ => rfl
  | n + 1, h => by
    unfold clearSt
    rw [if_neg (h n (by omega))]
    exact clear_none c part st n (fun i hi => h i (by omega))
/-- What PortsClear keeps. -/
def keepB (c : Cfg) (part : Int) (m : Msg) : Bool := decide (¬ (c.port m.port.toNat).part = part)
theorem image_clear (c : Cfg) (node part : Int) (st : List PSt) : ∀ n, n ≤ st.length → imageMs c node (clearSt c part st st.length) n = (imageMs c node st n).filter (keepB c part)
  | 0, _ => rfl
  | n + 1, h => by
    unfold imageMs
    rw [image_clear c node part st n (by omega), List.filter_append, clearSt_get c part st _ (Nat.le_refl _) n (by omega)]
    congr 1
    by_cases hm : mineB c node n = true
    · rw [if_pos hm, if_pos hm]
      by_cases hp : (c.port n).part = part
      · rw [if_pos ⟨by omega, hp⟩]
        symm
        rw [List.map_nil, List.filter_eq_nil_iff]
        intro m hx
        obtain ⟨d, -, rfl⟩ := List.mem_map.1 hx
        simp [keepB, hp]
      · rw [if_neg (fun h => hp h.2)]
        symm
        rw [List.filter_eq_self]
        intro m hx
        obtain ⟨d, -, rfl⟩ := List.mem_map.1 hx
        simp [keepB, hp]
    · rw [if_neg hm, if_neg hm]
      rfl
theorem clear_inv {c : Cfg} {st : List PSt} (h : Inv c st) (part : Int) : Inv c (clearSt c part st st.length) := by
  refine ⟨(clearSt_len c part st _).trans h.1, fun i hi => ?_⟩
  rw [clearSt_len] at hi
  rw [clearSt_get c part st _ (Nat.le_refl _) i hi]
  split
  · simp
  · exact h.2 i hi
end Go.Proofs.Ytogfbeibpfdleaa
