/- Regions that draw their order: operations that read, two allocations next to them, two stores: three ways. No condition. -/
import Derived.Test.YtogfbeibpfdleaaReg
set_option linter.unusedSimpArgs false
set_option linter.unusedVariables false
namespace Go.Proofs.Ytogfbeibpfdleaa
open Go

section
variable {P : Program} {ops : Array Oper} {md : Region.Mode} {C : World → Prop} {Q : Exit → Act → World → Prop}

def pend (n : Nat) (listed : Array Bool) : Bool := (List.range n).any fun k => !listed.getD k true
/-- All that reads has come: what makes something, and the rest, in any order. -/
def wpAnyB (P : Program) (md : Region.Mode) (ops : Array Oper) (C : World → Prop) (Q : Exit → Act → World → Prop) (m : Nat) : Nat → Array Bool → Act → World → Prop
  | 0, listed, a, w => Region.ready md ops listed = [] ∧ Q .normal a w
  | f + 1, listed, a, w => Region.ready md ops listed ≠ [] ∧ ∀ i ∈ Region.ready md ops listed,
      if i < m then mOp P ops C 0 i (wpAnyB P md ops C Q m f (listed.setIfInBounds i true)) a w else wpOp P ops Q i (wpAnyB P md ops C Q m f (listed.setIfInBounds i true)) a w
def wpAnyN (P : Program) (md : Region.Mode) (ops : Array Oper) (C : World → Prop) (Q : Exit → Act → World → Prop) (n m : Nat) : Nat → Array Bool → Act → World → Prop
  | 0, listed, a, w => pend n listed = false ∧ wpAnyB P md ops C Q m 0 listed a w
  | f + 1, listed, a, w => if pend n listed = true then Region.ready md ops listed ≠ [] ∧ ∀ i ∈ Region.ready md ops listed, i < m ∧ mOp P ops C n i (wpAnyN P md ops C Q n m f (listed.setIfInBounds i true)) a w
      else wpAnyB P md ops C Q m (f + 1) listed a w

theorem mOp_zero {n i : Nat} (h : n ≤ i) {K : Act → World → Prop} {a : Act} {w : World} (hh : mOp P ops C 0 i K a w) : mOp P ops C n i K a w := by
  unfold mOp at *
  split
  · rename_i h0; rw [h0] at hh; exact hh
  · rename_i o h0
    simp only [h0] at hh
    rw [if_neg (by omega)] at hh ⊢
    exact hh
theorem wpOp_of_mOp0 {i : Nat} {a : Act} {w : World} {K : Act → World → Prop} {K' : Act → World → Prop} {Q' : Exit → Act → World → Prop} (h : ∀ a w, K a w → K' a w) (hh : mOp P ops C 0 i K a w) : wpOp P ops Q' i K' a w := by
  unfold mOp at hh
  unfold wpOp
  split
  · rename_i h0; rw [h0] at hh; exact hh.elim
  · rename_i o h0
    simp only [h0] at hh
    rw [if_neg (by omega)] at hh
    obtain ⟨V, N, h1, h2⟩ := hh
    rw [if_pos (wanted_none h1.guard _)]
    refine .inl ?_
    unfold Oper.wp
    rw [h1.run a w]
    exact h _ _ h2
theorem wpAny_of_B {m : Nat} : ∀ (f : Nat) (listed : Array Bool) (a : Act) (w : World), wpAnyB P md ops C Q m f listed a w → wpAny P md ops Q f listed a w
  | 0, _, _, _, h => h
  | f + 1, listed, a, w, h => ⟨fun h0 => absurd h0 h.1, fun i hi => by
    have := h.2 i hi
    split at this
    · exact wpOp_of_mOp0 (fun a' w' h' => wpAny_of_B f _ a' w' h') this
    · exact wpOp_mono (fun a' w' h' => wpAny_of_B f _ a' w' h') this⟩
theorem wpAny_of_N {n m : Nat} : ∀ (f : Nat) (listed : Array Bool) (a : Act) (w : World), C w → wpAnyN P md ops C Q n m f listed a w → wpAny P md ops Q f listed a w
  | 0, _, _, _, _, h => h.2
  | f + 1, listed, a, w, hC, h => by
    unfold wpAnyN at h
    split at h
    · exact ⟨fun h0 => absurd h0 h.1, fun i hi => wpOp_of_mOp hC (fun a' w' hC' h' => wpAny_of_N f _ a' w' hC' h') (h.2 i hi).2⟩
    · exact wpAny_of_B _ _ _ _ h
theorem pend_spec {n : Nat} {listed : Array Bool} (h : pend n listed = false) : ∀ i, i < n → listed.getD i true = true := by
  intro i hi
  unfold pend at h
  rw [List.any_eq_false] at h
  have := h i (List.mem_range.2 hi)
  simpa using this
theorem pend_of {n i : Nat} {listed : Array Bool} (hi : i < n) (h : listed.getD i true = false) : pend n listed = true := by
  unfold pend
  rw [List.any_eq_true]
  exact ⟨i, List.mem_range.2 hi, by rw [h]; rfl⟩
theorem pend_set {n j : Nat} {listed : Array Bool} (h : pend n listed = false) : pend n (listed.setIfInBounds j true) = false := by
  unfold pend
  rw [List.any_eq_false]
  intro i hi
  have h1 := pend_spec h i (List.mem_range.1 hi)
  by_cases hij : j = i
  · subst hij
    by_cases hs : j < listed.size
    · simp [hs]
    · simp [hs]
  · rw [getD_set_ne true hij, h1]; simp
/-- One more head operation out of a state that has some. -/
theorem wpAnyN_step {n m f j : Nat} {listed : Array Bool} {a : Act} {w : World} (h : wpAnyN P md ops C Q n m (f + 1) listed a w) (hj : j ∈ Region.ready md ops listed) (hjm : j < m) :
    mOp P ops C n j (wpAnyN P md ops C Q n m f (listed.setIfInBounds j true)) a w := by
  unfold wpAnyN at h
  split at h
  · exact (h.2 j hj).2
  · rename_i hp
    have hp' : pend n listed = false := by simpa using hp
    have h1 := h.2 j hj
    rw [if_pos hjm] at h1
    have hjn : n ≤ j := by
      rcases Nat.lt_or_ge j n with h2 | h2
      · have h3 := pend_spec hp' j h2
        have h4 := (mem_ready.1 hj).1
        rw [h3] at h4
        cases h4
      · exact h2
    refine mOp_zero hjn (mOp_mono (fun a' w' h' => ?_) h1)
    have hp2 := pend_set (j := j) hp'
    cases f with
    | zero => exact ⟨hp2, h'⟩
    | succ f =>
      unfold wpAnyN
      rw [if_neg (by rw [hp2]; simp)]
      exact h'

def sinkN (md : Region.Mode) (ops : Array Oper) (n m : Nat) : Bool :=
  (List.range n).all fun i => (List.range (m + 1)).any fun j => decide (i < j ∧ (j < n ∨ j = m)) && Region.waitsFor md ops j i
theorem tail_waitsN {n m : Nat} {listed : Array Bool} (hs : sinkN md ops n m = true) (hc : Region.chainB md ops m = true) (hm : m < ops.size) (hnm : n ≤ m) (hcl : ∀ j oj, ops[j]? = some oj → listed.getD j false = true → ∀ e ∈ oj.after, Region.binds md e = true → listed.getD e.on false = true)
    (hsz : listed.size = ops.size) (htl : ∀ t, m ≤ t → t < ops.size → listed.getD t true = false) :
    ∀ (d i : Nat), m - i = d → i < n → listed.getD i true = false → ∀ t, m ≤ t → t ∉ Region.ready md ops listed := by
  intro d
  induction d using Nat.strongRecOn with
  | _ d ih =>
    intro i hd hi hun t ht hr
    obtain ⟨_, ot, hot, hall⟩ := mem_ready.1 hr
    have htlt : t < ops.size := (Array.getElem?_eq_some_iff.1 hot).1
    by_cases htn : t = m
    · subst htn
      have h1 := List.all_eq_true.1 hs i (List.mem_range.2 hi)
      obtain ⟨j, hj, hj2⟩ := List.any_eq_true.1 h1
      simp only [Bool.and_eq_true, decide_eq_true_eq] at hj2
      obtain ⟨oj, hoj, e, he, hb, hon⟩ := Region.waitsFor_spec hj2.2
      rcases hj2.1.2 with hjn | hjt
      · cases hl : listed.getD j false with
        | true =>
          have h2 := hcl j oj hoj hl e he hb
          rw [hon, getD_both hun] at h2
          cases h2
        | false =>
          have hjs : j < listed.size := by rw [hsz]; omega
          exact ih (t - j) (by omega) j rfl hjn (getD_in hjs hl) t (Nat.le_refl _) hr
      · subst hjt
        have : oj = ot := Option.some.inj (hoj.symm.trans hot)
        subst this
        have h2 := hall e he hb
        rw [hon, getD_both hun] at h2
        cases h2
    · have h1 := List.all_eq_true.1 hc t (List.mem_range.2 htlt)
      simp only [Bool.or_eq_true, decide_eq_true_eq] at h1
      rcases h1 with h1 | h1
      · omega
      · obtain ⟨o', ho', e, he, hb, hon⟩ := Region.waitsFor_spec h1
        have : o' = ot := Option.some.inj (ho'.symm.trans hot)
        subst this
        have h2 := hall e he hb
        rw [hon, getD_both (htl (t - 1) (by omega) (by omega))] at h2
        cases h2

theorem wpAnyN_first {n m i : Nat} {oi : Oper} {v : Value} (hi : ops[i]? = some oi) (hsel : ∀ (j : Nat) (o : Oper) cs b, ops[j]? = some o → o.op ≠ .select cs b)
    (hs : sinkN md ops n m = true) (hc : Region.chainB md ops m = true) (hm : m < ops.size) (hin : i < n) (hnm : n ≤ m) :
    ∀ (f : Nat) (listed : Array Bool) (a : Act) (w : World), HeadInv md ops m listed →
      (∀ j oj, ops[j]? = some oj → j ≠ i → listed.getD j true = false → (∀ e ∈ oj.after, Region.binds md e = true → e.on ≠ i) → oi.apart ops oj = true) →
      i ∈ Region.ready md ops listed → Reads P ops C oi v a →
      wpAnyN P md ops C Q n m f (listed.setIfInBounds i true) (a.put oi.dst v) w → wpAnyN P md ops C Q n m (f + 1) listed a w := by
  intro f
  induction f with
  | zero =>
    intro listed a w inv _ hr hy H
    have hun := (mem_ready.1 hr).1
    unfold wpAnyN
    rw [if_pos (pend_of hin hun)]
    refine ⟨fun h => (by rw [h] at hr; cases hr), fun j hj => ?_⟩
    have hjn : j < m := by
      rcases Nat.lt_or_ge j m with h | h
      · exact h
      · exact absurd hj (tail_waitsN hs hc hm hnm inv.closed inv.size inv.tail _ i rfl hin hun j h)
    refine ⟨hjn, ?_⟩
    by_cases hji : j = i
    · subst hji; exact hy.mOp hi hin H
    · have h1 := ready_mono hj hji
      have h2 : Region.ready md ops (listed.setIfInBounds i true) = [] := H.2.1
      rw [h2] at h1
      cases h1
  | succ f ih =>
    intro listed a w inv hfree hr hy H
    have hun := (mem_ready.1 hr).1
    unfold wpAnyN
    rw [if_pos (pend_of hin hun)]
    refine ⟨fun h => (by rw [h] at hr; cases hr), fun j hj => ?_⟩
    have hjn : j < m := by
      rcases Nat.lt_or_ge j m with h | h
      · exact h
      · exact absurd hj (tail_waitsN hs hc hm hnm inv.closed inv.size inv.tail _ i rfl hin hun j h)
    refine ⟨hjn, ?_⟩
    by_cases hji : j = i
    · subst hji; exact hy.mOp hi hin H
    · have h1 := wpAnyN_step H (ready_mono hj hji) hjn
      obtain ⟨hjun, oj, hoj, hall⟩ := mem_ready.1 hj
      have hnot : ∀ e ∈ oj.after, Region.binds md e = true → e.on ≠ i := fun e he hb heq => by
        have h1 := hall e he hb
        rw [heq, getD_both hun] at h1
        cases h1
      have h2 := mOp_put hoj (hfree j oj hoj hji hjun hnot) (fun cs b => hsel i oi cs b hi) (fun cs b => hsel j oj cs b hoj) hy h1
      have hfree' : ∀ k ok, ops[k]? = some ok → k ≠ i → (listed.setIfInBounds j true).getD k true = false →
          (∀ e ∈ ok.after, Region.binds md e = true → e.on ≠ i) → oi.apart ops ok = true := fun k ok hk hki hun hno => by
        refine hfree k ok hk hki ?_ hno
        by_cases hjk : j = k
        · subst hjk; exact hjun
        · rw [getD_set_ne true hjk] at hun; exact hun
      refine mOp_mono (fun a' w' h3 => ih (listed.setIfInBounds j true) a' w' (inv.set hj hjn) hfree' (ready_mono hr (Ne.symm hji)) h3.1 ?_) h2
      rw [Array.setIfInBounds_comm _ _ hji]
      exact h3.2

theorem wpAnyN_lex {n m g : Nat} {B : Array Bool → Bool} {Lq : Act → Prop} {w : World} (hsel : Region.noSelect ops = true) (hs : sinkN md ops n m = true) (hc : Region.chainB md ops m = true) (hm : m < ops.size) (hnm : n ≤ m)
    (hB0 : ∀ listed a, B listed = true → Lq a → wpAnyN P md ops C Q n m g listed a w) :
    ∀ (l : List Oper) (k : Nat) (listed : Array Bool) (a : Act), (∀ j, j < l.length → l[j]? = ops[k + j]?) → k + l.length = n → HeadInv md ops m listed →
    lexHeadM md ops B l.length k listed = true → wpReads P ops C Lq l a → wpAnyN P md ops C Q n m (l.length + g) listed a w
  | [], k, listed, a, _, hk, inv, hB, h => by
    rw [List.length_nil, Nat.zero_add]
    exact hB0 listed a hB h
  | o :: l, k, listed, a, hl, hk, inv, hB, h => by
    have h0 : ops[k]? = some o := by simpa using (hl 0 (by simp)).symm
    simp only [List.length_cons, lexHeadM, Bool.and_eq_true] at hB
    obtain ⟨⟨hr, hf⟩, hB'⟩ := hB
    have hkn : k < n := by simp only [List.length_cons] at hk; omega
    have hr' : k ∈ Region.ready md ops listed := by simpa using hr
    obtain ⟨v, hy, hK⟩ := h
    rw [List.length_cons, show l.length + 1 + g = (l.length + g) + 1 by omega]
    exact wpAnyN_first h0 (Region.noSelect_spec hsel) hs hc hm hkn hnm (l.length + g) listed a w inv (Region.free_spec h0 hf) hr' hy
      (wpAnyN_lex hsel hs hc hm hnm hB0 l (k + 1) _ _ (fun j hj => by have := hl (j + 1) (by simp; omega); simpa [Nat.add_assoc, Nat.add_comm 1 j] using this) (by simp only [List.length_cons] at hk; omega) (inv.set hr' (by omega)) hB' hK)

theorem wpOp_of_list {i : Nat} {o : Oper} {K : Act → World → Prop} {a : Act} {w : World} (hi : ops[i]? = some o) (h : wpList P ops (Exit.then K Q) [o] a w) : wpOp P ops Q i K a w := by
  unfold wpOp
  simp only [hi]
  unfold wpList at h
  have hn : ∀ a w, wpList P ops (Exit.then K Q) [] a w = K a w := fun a w => rfl
  split
  · rename_i hw
    rw [if_pos hw] at h
    refine h.imp (fun h => ?_) (fun h => ⟨h.1, h.2⟩)
    unfold Oper.wp at *
    generalize (execOp a.eval o).run P w = r at *
    cases r with
    | ok n w' =>
      cases n <;> simp only [Oper.upon] at h ⊢
      all_goals first
        | exact h
        | exact h.mono fun e w'' he => by cases e <;> exact he
    | halt x w' => cases x <;> simp only [Oper.upon] at h ⊢ <;> exact h
  · rename_i hw
    rw [if_neg hw] at h
    exact h

def threeB (ops : Array Oper) (n : Nat) : Bool :=
  Region.noSelect ops && decide (ops.size = n + 4) && sinkN .any ops n (n + 2) && Region.chainB .any ops (n + 2) &&
    lexHeadM .any ops (fun L => !pend n L && decide (Region.ready .any ops L = [n, n + 1]) && decide (Region.ready .any ops (L.setIfInBounds n true) = [n + 1, n + 2]) && decide (Region.ready .any ops (L.setIfInBounds (n + 1) true) = [n]) &&
      decide (Region.ready .any ops ((L.setIfInBounds n true).setIfInBounds (n + 1) true) = [n + 2]) && decide (Region.ready .any ops ((L.setIfInBounds n true).setIfInBounds (n + 2) true) = [n + 1]) &&
      decide (Region.ready .any ops (((L.setIfInBounds n true).setIfInBounds (n + 1) true).setIfInBounds (n + 2) true) = [n + 3]) &&
      decide (Region.ready .any ops ((((L.setIfInBounds n true).setIfInBounds (n + 1) true).setIfInBounds (n + 2) true).setIfInBounds (n + 3) true) = [])) n 0 (Array.replicate ops.size false)

theorem mOp_makes {i m : Nat} {o : Oper} {V : World → Value} {N : World → World} (ho : ops[i]? = some o) (hM : Makes P C o V N) {K : Act → World → Prop} {a : Act} {w : World} (h : K (a.put o.dst (V w)) (N w)) : mOp P ops C 0 i K a w := by
  unfold mOp
  simp only [ho]
  rw [if_neg (by omega)]
  exact ⟨V, N, hM, h⟩

theorem wp_region_three {id : Nat} {a : Act} {w : World} {l : List Oper} (n : Nat) (hm : P.follows .mixedOrders = true) (hB : threeB l.toArray n = true)
    (hC : C w.drew) {o o' s s' : Oper} {V V' : World → Value} {N N' : World → World} (ho : l[n]? = some o) (ho' : l[n + 1]? = some o') (hs : l[n + 2]? = some s) (hs' : l[n + 3]? = some s') (hM : Makes P C o V N) (hM' : Makes P C o' V' N')
    (h : wpReads P l.toArray C (fun a' =>
      wpList P l.toArray Q [s, s'] ((a'.put o.dst (V w.drew)).put o'.dst (V' (N w.drew))) (N' (N w.drew)) ∧
      wpList P l.toArray Q [s, s'] ((a'.put o'.dst (V' w.drew)).put o.dst (V (N' w.drew))) (N (N' w.drew)) ∧
      wpList P l.toArray (Exit.then (fun a2 w2 => wpList P l.toArray Q [s'] (a2.put o'.dst (V' w2)) (N' w2)) Q) [s] (a'.put o.dst (V w.drew)) (N w.drew)) (l.take n) a) : (Code.region id l.toArray true).wp P Q a w := by
  simp only [threeB, Bool.and_eq_true, decide_eq_true_eq] at hB
  obtain ⟨⟨⟨⟨hsel, hn⟩, hsk⟩, hc⟩, hlex⟩ := hB
  have hn' : l.length = n + 4 := by simpa using hn
  have htl : (l.take n).length = n := by simp; omega
  refine wp_region_any hm ?_
  refine wpAny_of_N (C := C) (n := n) (m := n + 2) _ _ _ _ hC ?_
  have e1 : l.toArray[n]? = some o := by simpa using ho
  have e2 : l.toArray[n + 1]? = some o' := by simpa using ho'
  have e3 : l.toArray[n + 2]? = some s := by simpa using hs
  have e4 : l.toArray[n + 3]? = some s' := by simpa using hs'
  have key := wpAnyN_lex (P := P) (C := C) (Q := Q) (md := .any) (n := n) (m := n + 2) (g := 4) (w := w.drew) (B := (fun L => !pend n L && decide (Region.ready .any l.toArray L = [n, n + 1]) && decide (Region.ready .any l.toArray (L.setIfInBounds n true) = [n + 1, n + 2]) && decide (Region.ready .any l.toArray (L.setIfInBounds (n + 1) true) = [n]) &&
      decide (Region.ready .any l.toArray ((L.setIfInBounds n true).setIfInBounds (n + 1) true) = [n + 2]) && decide (Region.ready .any l.toArray ((L.setIfInBounds n true).setIfInBounds (n + 2) true) = [n + 1]) &&
      decide (Region.ready .any l.toArray (((L.setIfInBounds n true).setIfInBounds (n + 1) true).setIfInBounds (n + 2) true) = [n + 3]) &&
      decide (Region.ready .any l.toArray ((((L.setIfInBounds n true).setIfInBounds (n + 1) true).setIfInBounds (n + 2) true).setIfInBounds (n + 3) true) = []))) hsel hsk hc (by omega) (by omega)
    (Lq := fun a' =>
      wpList P l.toArray Q [s, s'] ((a'.put o.dst (V w.drew)).put o'.dst (V' (N w.drew))) (N' (N w.drew)) ∧
      wpList P l.toArray Q [s, s'] ((a'.put o'.dst (V' w.drew)).put o.dst (V (N' w.drew))) (N (N' w.drew)) ∧
      wpList P l.toArray (Exit.then (fun a2 w2 => wpList P l.toArray Q [s'] (a2.put o'.dst (V' w2)) (N' w2)) Q) [s] (a'.put o.dst (V w.drew)) (N w.drew))
    (fun L a hb hq => by
      simp only [Bool.and_eq_true, decide_eq_true_eq, Bool.not_eq_true'] at hb
      obtain ⟨⟨⟨⟨⟨⟨⟨b0, b1⟩, b2⟩, b3⟩, b4⟩, b5⟩, b6⟩, b7⟩ := hb
      obtain ⟨q1, q2, q3⟩ := hq
      unfold wpAnyN
      rw [if_neg (by rw [b0]; simp)]
      have last : ∀ a w, wpList P l.toArray Q [s'] a w → wpAnyB P .any l.toArray C Q (n + 2) 1 (((L.setIfInBounds n true).setIfInBounds (n + 1) true).setIfInBounds (n + 2) true) a w := fun a w hw => by
        refine ⟨by rw [b6]; simp, fun i hi => ?_⟩
        rw [b6] at hi
        obtain rfl : i = n + 3 := by simpa using hi
        rw [if_neg (by omega)]
        refine wpOp_mono (K := fun a w => Q .normal a w) (fun a' w' h' => ⟨b7, h'⟩) ?_
        unfold wpOp
        simp only [e4]
        exact hw
      have two : ∀ a w, wpList P l.toArray Q [s, s'] a w → wpAnyB P .any l.toArray C Q (n + 2) 2 ((L.setIfInBounds n true).setIfInBounds (n + 1) true) a w := fun a w hw => by
        refine ⟨by rw [b4]; simp, fun i hi => ?_⟩
        rw [b4] at hi
        obtain rfl : i = n + 2 := by simpa using hi
        rw [if_neg (by omega)]
        refine wpOp_mono (K := wpList P l.toArray Q [s']) (fun a' w' h' => last a' w' h') ?_
        unfold wpOp
        simp only [e3]
        exact hw
      refine ⟨by rw [b1]; simp, fun i hi => ?_⟩
      rw [b1] at hi
      have : i = n ∨ i = n + 1 := by simpa using hi
      rcases this with rfl | rfl
      · rw [if_pos (by omega)]
        refine mOp_makes (m := i) e1 hM ?_
        refine ⟨by rw [b2]; simp, fun j hj => ?_⟩
        rw [b2] at hj
        have : j = i + 1 ∨ j = i + 2 := by simpa using hj
        rcases this with rfl | rfl
        · rw [if_pos (by omega)]
          exact mOp_makes (m := i) e2 hM' (two _ _ q1)
        · rw [if_neg (by omega)]
          refine wpOp_mono (fun a' w' h' => ?_) (wpOp_of_list e3 q3)
          refine ⟨by rw [b5]; simp, fun k hk => ?_⟩
          rw [b5] at hk
          obtain rfl : k = i + 1 := by simpa using hk
          rw [if_pos (by omega)]
          refine mOp_makes (m := i) e2 hM' ?_
          rw [Array.setIfInBounds_comm _ _ (by omega)]
          exact last _ _ h'
      · rw [if_pos (by omega)]
        refine mOp_makes (m := n) e2 hM' ?_
        refine ⟨by rw [b3]; simp, fun j hj => ?_⟩
        rw [b3] at hj
        obtain rfl : j = n := by simpa using hj
        rw [if_pos (by omega)]
        refine mOp_makes (m := j) e1 hM ?_
        rw [Array.setIfInBounds_comm _ _ (by omega)]
        exact two _ _ q2)
    (l.take n) 0 (Array.replicate l.toArray.size false) a (fun j hj => by rw [htl] at hj; simp [List.getElem?_take, hj]) (by rw [htl, Nat.zero_add]) (headInv0 _ _) (by rw [htl]; exact hlex) h
  rw [htl] at key
  have hsz : l.toArray.size = n + 4 := hn
  rw [hsz] at key ⊢
  exact key

/-- Operations that read, two allocations, two stores: three ways. -/
theorem wp_reads_alloc3 {id : Nat} {a : Act} {w : World} {l : List Oper} (n : Nat) {t t' : TypeId} {z z' : List Value} {d d' : Option Tmp} {s s' : Oper} (hm : P.follows .mixedOrders = true)
    (ha : ∀ w : World, (Instr.alloc t true (.tuple #[])).run P w = .ok (.pointer (some ⟨w.heap.size, 0, none⟩)) (w.alloc (.cells z.toArray t)))
    (ha' : ∀ w : World, (Instr.alloc t' true (.tuple #[])).run P w = .ok (.pointer (some ⟨w.heap.size, 0, none⟩)) (w.alloc (.cells z'.toArray t')))
    (hB : threeB l.toArray n = true) (hp : (l.take n).all plainB = true) (ho : (l[n]?).map (fun o => (o.op, o.guard, o.dst)) = some (.alloc t, none, d)) (ho' : (l[n + 1]?).map (fun o => (o.op, o.guard, o.dst)) = some (.alloc t', none, d')) (hs : l[n + 2]? = some s) (hs' : l[n + 3]? = some s')
    (h : wpQuiet P l.toArray (fun w' => ∃ n : Aft w, w' = n.W) (fun a' =>
      wpList P l.toArray Q [s, s'] ((a'.put d (.pointer (some ⟨w.heap.size, 0, none⟩))).put d' (.pointer (some ⟨w.heap.size + 1, 0, none⟩))) ((w.drew.alloc (.cells z.toArray t)).alloc (.cells z'.toArray t')) ∧
      wpList P l.toArray Q [s, s'] ((a'.put d' (.pointer (some ⟨w.heap.size, 0, none⟩))).put d (.pointer (some ⟨w.heap.size + 1, 0, none⟩))) ((w.drew.alloc (.cells z'.toArray t')).alloc (.cells z.toArray t)) ∧
      wpList P l.toArray (Exit.then (fun a2 w2 => wpList P l.toArray Q [s'] (a2.put d' (.pointer (some ⟨w2.heap.size, 0, none⟩))) (w2.alloc (.cells z'.toArray t'))) Q) [s] (a'.put d (.pointer (some ⟨w.heap.size, 0, none⟩))) (w.drew.alloc (.cells z.toArray t))) (l.take n) a) :
    (Code.region id l.toArray true).wp P Q a w := by
  cases hl : l[n]? with
  | none => rw [hl] at ho; cases ho
  | some o =>
    cases hl' : l[n + 1]? with
    | none => rw [hl'] at ho'; cases ho'
    | some o' =>
      rw [hl] at ho
      rw [hl'] at ho'
      simp only [Option.map_some, Option.some.injEq, Prod.mk.injEq] at ho ho'
      obtain ⟨h1, h2, rfl⟩ := ho
      obtain ⟨h1', h2', rfl⟩ := ho'
      refine wp_region_three (C := fun w' => ∃ n : Aft w, w' = n.W) n hm hB ⟨⟨_, below_drew w⟩, rfl⟩ hl hl' hs hs' (Makes.alloc ha h1 h2 (aft_alloc _)) (Makes.alloc ha' h1' h2' (aft_alloc _)) ?_
      have e1 : (w.drew.alloc (.cells z.toArray t)).heap.size = w.heap.size + 1 := World.size_alloc _ _
      have e2 : (w.drew.alloc (.cells z'.toArray t')).heap.size = w.heap.size + 1 := World.size_alloc _ _
      have e3 : w.drew.heap.size = w.heap.size := rfl
      simp only [e1, e2, e3]
      exact wpReads_of_quiet ⟨_, ⟨⟨_, below_drew w⟩, rfl⟩⟩ _ _ hp h
end
end Go.Proofs.Ytogfbeibpfdleaa
