/- Regions that draw their order: operations that read; next to them some that make memory or write what is new; then a tail: one walk of the first serves. No condition. -/
import Derived.Test.YtogfbeibpfdleaaReg2
set_option linter.unusedSimpArgs false
set_option linter.unusedVariables false
namespace Go.Proofs.Ytogfbeibpfdleaa
open Go

section
variable {P : Program} {ops : Array Oper} {md : Region.Mode} {C : World → Prop} {Q : Exit → Act → World → Prop}

/-- An operation next to those that read: it brings a value, or nothing, and a world of the class. -/
def side (P : Program) (ops : Array Oper) (C : World → Prop) (o : Oper) (K : Act → World → Prop) (a : Act) (w : World) : Prop :=
  if Region.wanted o (yielded ops a.tmps) then ∃ v w', ((execOp a.eval o).run P w = .ok (.value v) w' ∨ (execOp a.eval o).run P w = .ok .skip w' ∧ v = undef) ∧ C w' ∧ K (a.put o.dst v) w' else K (a.put o.dst undef) w
def sOp (P : Program) (ops : Array Oper) (C : World → Prop) (n : Nat) (i : Nat) (K : Act → World → Prop) (a : Act) (w : World) : Prop :=
  match ops[i]? with
  | none => False
  | some o => if i < n then ∃ v, Reads P ops C o v a ∧ K (a.put o.dst v) w else side P ops C o K a w
theorem side_mono {o : Oper} {a : Act} {w : World} {K K' : Act → World → Prop} (h : ∀ a w, K a w → K' a w) (hh : side P ops C o K a w) : side P ops C o K' a w := by
  unfold side at *
  split
  · rename_i hw
    rw [if_pos hw] at hh
    obtain ⟨v, w', h1, h2, h3⟩ := hh
    exact ⟨v, w', h1, h2, h _ _ h3⟩
  · rename_i hw
    rw [if_neg hw] at hh
    exact h _ _ hh
theorem sOp_mono {n i : Nat} {a : Act} {w : World} {K K' : Act → World → Prop} (h : ∀ a w, K a w → K' a w) (hh : sOp P ops C n i K a w) : sOp P ops C n i K' a w := by
  unfold sOp at *
  split
  · rename_i h0; rw [h0] at hh; exact hh
  · rename_i o h0
    simp only [h0] at hh
    split
    · rename_i hn; rw [if_pos hn] at hh; obtain ⟨v, h1, h2⟩ := hh; exact ⟨v, h1, h _ _ h2⟩
    · rename_i hn; rw [if_neg hn] at hh; exact side_mono h hh
theorem wpOp_of_side {i : Nat} {o : Oper} (h0 : ops[i]? = some o) {a : Act} {w : World} {K : Act → World → Prop} {K' : Act → World → Prop} {Q' : Exit → Act → World → Prop} (hC : C w) (h : ∀ a w, C w → K a w → K' a w) (hh : side P ops C o K a w) : wpOp P ops Q' i K' a w := by
  unfold wpOp
  simp only [h0]
  unfold side at hh
  split
  · rename_i hw
    rw [if_pos hw] at hh
    obtain ⟨v, w', h1 | ⟨h1, rfl⟩, h2, h3⟩ := hh
    · refine .inl ?_
      unfold Oper.wp
      rw [h1]
      exact h _ _ h2 h3
    · refine .inl ?_
      unfold Oper.wp
      rw [h1]
      exact h _ _ h2 h3
  · rename_i hw
    rw [if_neg hw] at hh
    exact h _ _ hC hh
theorem wpOp_of_side0 {i : Nat} {o : Oper} (h0 : ops[i]? = some o) {a : Act} {w : World} {K : Act → World → Prop} {K' : Act → World → Prop} {Q' : Exit → Act → World → Prop} (h : ∀ a w, K a w → K' a w) (hh : side P ops C o K a w) : wpOp P ops Q' i K' a w := by
  unfold wpOp
  simp only [h0]
  unfold side at hh
  split
  · rename_i hw
    rw [if_pos hw] at hh
    obtain ⟨v, w', h1 | ⟨h1, rfl⟩, h2, h3⟩ := hh
    · refine .inl ?_
      unfold Oper.wp
      rw [h1]
      exact h _ _ h3
    · refine .inl ?_
      unfold Oper.wp
      rw [h1]
      exact h _ _ h3
  · rename_i hw
    rw [if_neg hw] at hh
    exact h _ _ hh
theorem wpOp_of_sOp {n i : Nat} {a : Act} {w : World} {K : Act → World → Prop} {K' : Act → World → Prop} {Q' : Exit → Act → World → Prop} (hC : C w) (h : ∀ a w, C w → K a w → K' a w) (hh : sOp P ops C n i K a w) : wpOp P ops Q' i K' a w := by
  unfold sOp at hh
  cases h0 : ops[i]? with
  | none => rw [h0] at hh; exact hh.elim
  | some o =>
    simp only [h0] at hh
    split at hh
    · unfold wpOp
      simp only [h0]
      obtain ⟨v, h1 | h1, h2⟩ := hh
      · rw [if_pos h1.1]
        refine .inl ?_
        unfold Oper.wp
        rw [h1.2 w hC]
        exact h _ _ hC h2
      · rw [if_neg (by rw [h1.1]; simp), ← h1.2]
        exact h _ _ hC h2
    · exact wpOp_of_side h0 hC h hh
theorem wpOp_of_sOp0 {i : Nat} {a : Act} {w : World} {K : Act → World → Prop} {K' : Act → World → Prop} {Q' : Exit → Act → World → Prop} (h : ∀ a w, K a w → K' a w) (hh : sOp P ops C 0 i K a w) : wpOp P ops Q' i K' a w := by
  unfold sOp at hh
  cases h0 : ops[i]? with
  | none => rw [h0] at hh; exact hh.elim
  | some o =>
    simp only [h0] at hh
    rw [if_neg (by omega)] at hh
    exact wpOp_of_side0 h0 h hh
theorem sOp_zero {n i : Nat} (h : n ≤ i) {K : Act → World → Prop} {a : Act} {w : World} (hh : sOp P ops C 0 i K a w) : sOp P ops C n i K a w := by
  unfold sOp at *
  split
  · rename_i h0; rw [h0] at hh; exact hh
  · rename_i o h0
    simp only [h0] at hh
    rw [if_neg (by omega)] at hh ⊢
    exact hh
theorem reads_sOp {n i : Nat} {o : Oper} {v : Value} {a : Act} {w : World} (hi : ops[i]? = some o) (hin : i < n) (hy : Reads P ops C o v a) {K : Act → World → Prop} (h : K (a.put o.dst v) w) : sOp P ops C n i K a w := by
  unfold sOp
  simp only [hi]
  rw [if_pos hin]
  exact ⟨v, hy, h⟩
theorem sOp_put {n j : Nat} {oi oj : Oper} {v : Value} (hj : ops[j]? = some oj) (hap : oi.apart ops oj = true)
    (hsi : ∀ cs b, oi.op ≠ .select cs b) (hsj : ∀ cs b, oj.op ≠ .select cs b) {K : Act → World → Prop} {a : Act} {w : World}
    (hy : Reads P ops C oi v a) (h : sOp P ops C n j K (a.put oi.dst v) w) :
    sOp P ops C n j (fun a' w' => Reads P ops C oi v a' ∧ K (a'.put oi.dst v) w') a w := by
  obtain ⟨h1, h2, h3⟩ := Oper.apart_spec hap
  have keep : ∀ (a : Act), Reads P ops C oi v a → ∀ u, Reads P ops C oi v (a.put oj.dst u) := fun a hy u =>
    hy.of_same (execOp_put oi hsi a oj.dst u h3) (wanted_put oi a oj.dst u h3)
  unfold sOp at *
  simp only [hj] at *
  split
  · rename_i hn
    rw [if_pos hn] at h
    obtain ⟨u, hu, hk⟩ := h
    refine ⟨u, ?_, keep a hy u, by rw [← Act.put_comm a v u h2]; exact hk⟩
    exact hu.of_same (execOp_put oj hsj a oi.dst v h1).symm (wanted_put oj a oi.dst v h1).symm
  · rename_i hn
    rw [if_neg hn] at h
    unfold side at *
    rw [wanted_put oj a oi.dst v h1, execOp_put oj hsj a oi.dst v h1] at h
    split
    · rename_i hw
      rw [if_pos hw] at h
      obtain ⟨u, w', h4, h5, h6⟩ := h
      exact ⟨u, w', h4, h5, keep a hy _, by rw [← Act.put_comm a v _ h2]; exact h6⟩
    · rename_i hw
      rw [if_neg hw] at h
      exact ⟨keep a hy _, by rw [← Act.put_comm a v _ h2]; exact h⟩

/-- All that reads has come: what makes something, and the rest, in any order. -/
def wpAnyD (P : Program) (md : Region.Mode) (ops : Array Oper) (C : World → Prop) (Q : Exit → Act → World → Prop) (m : Nat) : Nat → Array Bool → Act → World → Prop
  | 0, listed, a, w => Region.ready md ops listed = [] ∧ Q .normal a w
  | f + 1, listed, a, w => Region.ready md ops listed ≠ [] ∧ ∀ i ∈ Region.ready md ops listed,
      if i < m then sOp P ops C 0 i (wpAnyD P md ops C Q m f (listed.setIfInBounds i true)) a w else wpOp P ops Q i (wpAnyD P md ops C Q m f (listed.setIfInBounds i true)) a w
def wpAnyE (P : Program) (md : Region.Mode) (ops : Array Oper) (C : World → Prop) (Q : Exit → Act → World → Prop) (n m : Nat) : Nat → Array Bool → Act → World → Prop
  | 0, listed, a, w => pend n listed = false ∧ wpAnyD P md ops C Q m 0 listed a w
  | f + 1, listed, a, w => if pend n listed = true then Region.ready md ops listed ≠ [] ∧ ∀ i ∈ Region.ready md ops listed, i < m ∧ sOp P ops C n i (wpAnyE P md ops C Q n m f (listed.setIfInBounds i true)) a w
      else wpAnyD P md ops C Q m (f + 1) listed a w

theorem wpAny_of_D {m : Nat} : ∀ (f : Nat) (listed : Array Bool) (a : Act) (w : World), wpAnyD P md ops C Q m f listed a w → wpAny P md ops Q f listed a w
  | 0, _, _, _, h => h
  | f + 1, listed, a, w, h => ⟨fun h0 => absurd h0 h.1, fun i hi => by
    have := h.2 i hi
    split at this
    · exact wpOp_of_sOp0 (fun a' w' h' => wpAny_of_D f _ a' w' h') this
    · exact wpOp_mono (fun a' w' h' => wpAny_of_D f _ a' w' h') this⟩
theorem wpAny_of_E {n m : Nat} : ∀ (f : Nat) (listed : Array Bool) (a : Act) (w : World), C w → wpAnyE P md ops C Q n m f listed a w → wpAny P md ops Q f listed a w
  | 0, _, _, _, _, h => h.2
  | f + 1, listed, a, w, hC, h => by
    unfold wpAnyE at h
    split at h
    · exact ⟨fun h0 => absurd h0 h.1, fun i hi => wpOp_of_sOp hC (fun a' w' hC' h' => wpAny_of_E f _ a' w' hC' h') (h.2 i hi).2⟩
    · exact wpAny_of_D _ _ _ _ h
/-- One more head operation out of a state that has some. -/
theorem wpAnyE_step {n m f j : Nat} {listed : Array Bool} {a : Act} {w : World} (h : wpAnyE P md ops C Q n m (f + 1) listed a w) (hj : j ∈ Region.ready md ops listed) (hjm : j < m) :
    sOp P ops C n j (wpAnyE P md ops C Q n m f (listed.setIfInBounds j true)) a w := by
  unfold wpAnyE at h
  split at h
  · exact (h.2 j hj).2
  · rename_i hp
    have hp' : pend n listed = false := by simpa using hp
    have h1 := h.2 j hj
    rw [if_pos hjm] at h1
    have hjn : n ≤ j := by
      rcases Nat.lt_or_ge j n with h2 | h2
      · have h3 := pend_spec hp' j h2
        have h4 := (mem_ready.1 hj).1
        rw [h3] at h4
        cases h4
      · exact h2
    refine sOp_zero hjn (sOp_mono (fun a' w' h' => ?_) h1)
    have hp2 := pend_set (j := j) hp'
    cases f with
    | zero => exact ⟨hp2, h'⟩
    | succ f =>
      unfold wpAnyE
      rw [if_neg (by rw [hp2]; simp)]
      exact h'

theorem wpAnyE_first {n m i : Nat} {oi : Oper} {v : Value} (hi : ops[i]? = some oi) (hsel : ∀ (j : Nat) (o : Oper) cs b, ops[j]? = some o → o.op ≠ .select cs b)
    (hs : sinkN md ops n m = true) (hc : Region.chainB md ops m = true) (hm : m < ops.size) (hin : i < n) (hnm : n ≤ m) :
    ∀ (f : Nat) (listed : Array Bool) (a : Act) (w : World), HeadInv md ops m listed →
      (∀ j oj, ops[j]? = some oj → j ≠ i → listed.getD j true = false → (∀ e ∈ oj.after, Region.binds md e = true → e.on ≠ i) → oi.apart ops oj = true) →
      i ∈ Region.ready md ops listed → Reads P ops C oi v a →
      wpAnyE P md ops C Q n m f (listed.setIfInBounds i true) (a.put oi.dst v) w → wpAnyE P md ops C Q n m (f + 1) listed a w := by
  intro f
  induction f with
  | zero =>
    intro listed a w inv _ hr hy H
    have hun := (mem_ready.1 hr).1
    unfold wpAnyE
    rw [if_pos (pend_of hin hun)]
    refine ⟨fun h => (by rw [h] at hr; cases hr), fun j hj => ?_⟩
    have hjn : j < m := by
      rcases Nat.lt_or_ge j m with h | h
      · exact h
      · exact absurd hj (tail_waitsN hs hc hm hnm inv.closed inv.size inv.tail _ i rfl hin hun j h)
    refine ⟨hjn, ?_⟩
    by_cases hji : j = i
    · subst hji; exact reads_sOp hi hin hy H
    · have h1 := ready_mono hj hji
      have h2 : Region.ready md ops (listed.setIfInBounds i true) = [] := H.2.1
      rw [h2] at h1
      cases h1
  | succ f ih =>
    intro listed a w inv hfree hr hy H
    have hun := (mem_ready.1 hr).1
    unfold wpAnyE
    rw [if_pos (pend_of hin hun)]
    refine ⟨fun h => (by rw [h] at hr; cases hr), fun j hj => ?_⟩
    have hjn : j < m := by
      rcases Nat.lt_or_ge j m with h | h
      · exact h
      · exact absurd hj (tail_waitsN hs hc hm hnm inv.closed inv.size inv.tail _ i rfl hin hun j h)
    refine ⟨hjn, ?_⟩
    by_cases hji : j = i
    · subst hji; exact reads_sOp hi hin hy H
    · have h1 := wpAnyE_step H (ready_mono hj hji) hjn
      obtain ⟨hjun, oj, hoj, hall⟩ := mem_ready.1 hj
      have hnot : ∀ e ∈ oj.after, Region.binds md e = true → e.on ≠ i := fun e he hb heq => by
        have h1 := hall e he hb
        rw [heq, getD_both hun] at h1
        cases h1
      have h2 := sOp_put hoj (hfree j oj hoj hji hjun hnot) (fun cs b => hsel i oi cs b hi) (fun cs b => hsel j oj cs b hoj) hy h1
      have hfree' : ∀ k ok, ops[k]? = some ok → k ≠ i → (listed.setIfInBounds j true).getD k true = false →
          (∀ e ∈ ok.after, Region.binds md e = true → e.on ≠ i) → oi.apart ops ok = true := fun k ok hk hki hun hno => by
        refine hfree k ok hk hki ?_ hno
        by_cases hjk : j = k
        · subst hjk; exact hjun
        · rw [getD_set_ne true hjk] at hun; exact hun
      refine sOp_mono (fun a' w' h3 => ih (listed.setIfInBounds j true) a' w' (inv.set hj hjn) hfree' (ready_mono hr (Ne.symm hji)) h3.1 ?_) h2
      rw [Array.setIfInBounds_comm _ _ hji]
      exact h3.2

theorem wpAnyE_lex {n m g : Nat} {B : Array Bool → Bool} {Lq : Act → Prop} {w : World} (hsel : Region.noSelect ops = true) (hs : sinkN md ops n m = true) (hc : Region.chainB md ops m = true) (hm : m < ops.size) (hnm : n ≤ m)
    (hB0 : ∀ listed a, B listed = true → Lq a → wpAnyE P md ops C Q n m g listed a w) :
    ∀ (l : List Oper) (k : Nat) (listed : Array Bool) (a : Act), (∀ j, j < l.length → l[j]? = ops[k + j]?) → k + l.length = n → HeadInv md ops m listed →
    lexHeadM md ops B l.length k listed = true → wpReads P ops C Lq l a → wpAnyE P md ops C Q n m (l.length + g) listed a w
  | [], k, listed, a, _, hk, inv, hB, h => by
    rw [List.length_nil, Nat.zero_add]
    exact hB0 listed a hB h
  | o :: l, k, listed, a, hl, hk, inv, hB, h => by
    have h0 : ops[k]? = some o := by simpa using (hl 0 (by simp)).symm
    simp only [List.length_cons, lexHeadM, Bool.and_eq_true] at hB
    obtain ⟨⟨hr, hf⟩, hB'⟩ := hB
    have hkn : k < n := by simp only [List.length_cons] at hk; omega
    have hr' : k ∈ Region.ready md ops listed := by simpa using hr
    obtain ⟨v, hy, hK⟩ := h
    rw [List.length_cons, show l.length + 1 + g = (l.length + g) + 1 by omega]
    exact wpAnyE_first h0 (Region.noSelect_spec hsel) hs hc hm hkn hnm (l.length + g) listed a w inv (Region.free_spec h0 hf) hr' hy
      (wpAnyE_lex hsel hs hc hm hnm hB0 l (k + 1) _ _ (fun j hj => by have := hl (j + 1) (by simp; omega); simpa [Nat.add_assoc, Nat.add_comm 1 j] using this) (by simp only [List.length_cons] at hk; omega) (inv.set hr' (by omega)) hB' hK)


/-- Operations that may stand next to those that read. -/
def sideB (o : Oper) : Bool :=
  match o.op with
  | .move _ | .assign _ | .load _ _ | .fieldAddr _ _ _ | .indexAddr _ _ _ | .binOp _ _ _ _ _ | .unOp _ _ _ | .alloc _ | .box _ _ | .store _ _ _ => true
  | _ => false
theorem unit_of {s : Sem Unit} {w w' : World} {n : Next} (h : (do s; pure Next.skip : Sem Next).run P w = .ok n w') : n = .skip := by
  simp only [bind_pure_comp, Sem.run_map] at h
  generalize s.run P w = r at h
  cases r with
  | ok v w1 =>
    simp only [Result.andThen_ok, Result.ok.injEq] at h
    exact h.1.symm
  | halt x w1 => simp only [Result.andThen_halt] at h; cases h
theorem side_next {o : Oper} (h : sideB o = true) {ρ : Operand → Value} {w w' : World} {n : Next} (hr : (execOp ρ o).run P w = .ok n w') : (∃ u, n = .value u) ∨ n = .skip := by
  obtain ⟨dst, op, type, pos, after, guard⟩ := o
  cases op <;> simp only [sideB, Bool.false_eq_true] at h <;> simp only [execOp] at hr
  all_goals first
    | exact .inl (val_of hr)
    | exact .inr (unit_of hr)
    | (cases hr; exact .inl ⟨_, rfl⟩)
/-- One operation next to those that read, as a walk of a list of one. -/
def step1 (P : Program) (ops : Array Oper) (C : World → Prop) (o : Oper) (K : Act → World → Prop) (a : Act) (w : World) : Prop := wpList P ops (fun e a w => e = .normal ∧ C w ∧ K a w) [o] a w
theorem side_of_step {o : Oper} (hs : sideB o = true) {K : Act → World → Prop} {a : Act} {w : World} (h : step1 P ops C o K a w) : side P ops C o K a w := by
  unfold step1 wpList at h
  unfold side
  split
  · rename_i hw
    rw [if_pos hw] at h
    rcases h with h | ⟨_, a1, w1, h1, _⟩
    · unfold Oper.wp at h
      generalize hr : (execOp a.eval o).run P w = r at h
      cases r with
      | ok n w' =>
        rcases side_next hs hr with ⟨u, rfl⟩ | rfl
        · simp only [Oper.upon] at h
          obtain ⟨_, h2, h3⟩ := h
          exact ⟨u, w', .inl rfl, h2, h3⟩
        · simp only [Oper.upon] at h
          obtain ⟨_, h2, h3⟩ := h
          exact ⟨undef, w', .inr ⟨rfl, rfl⟩, h2, h3⟩
      | halt x w' =>
        exfalso
        cases x <;> simp only [Oper.upon] at h
        all_goals first
          | exact h
          | (obtain ⟨h, _⟩ := h; cases h)
    · cases h1
  · rename_i hw
    rw [if_neg hw] at h
    exact h.2.2

def fourB (ops : Array Oper) (n : Nat) : Bool :=
  Region.noSelect ops && decide (ops.size = n + 4) && sinkN .any ops n (n + 3) && Region.chainB .any ops (n + 3) &&
    lexHeadM .any ops (fun L => !pend n L && decide (Region.ready .any ops L = [n, n + 1]) && decide (Region.ready .any ops (L.setIfInBounds n true) = [n + 1]) && decide (Region.ready .any ops (L.setIfInBounds (n + 1) true) = [n]) &&
      decide (Region.ready .any ops ((L.setIfInBounds n true).setIfInBounds (n + 1) true) = [n + 2]) &&
      decide (Region.ready .any ops (((L.setIfInBounds n true).setIfInBounds (n + 1) true).setIfInBounds (n + 2) true) = [n + 3]) &&
      decide (Region.ready .any ops ((((L.setIfInBounds n true).setIfInBounds (n + 1) true).setIfInBounds (n + 2) true).setIfInBounds (n + 3) true) = [])) n 0 (Array.replicate ops.size false)

theorem sOp_step {i : Nat} {o : Oper} (ho : ops[i]? = some o) (hs : sideB o = true) {K K' : Act → World → Prop} (hK : ∀ a w, K a w → K' a w) {a : Act} {w : World} (h : step1 P ops C o K a w) : sOp P ops C 0 i K' a w := by
  unfold sOp
  simp only [ho]
  rw [if_neg (by omega)]
  exact side_mono hK (side_of_step hs h)

/-- n operations that read; an allocation, another one, a store into the first; a tail of one. -/
theorem wp_region_four {id : Nat} {a : Act} {w : World} {l : List Oper} (n : Nat) {o o' s s' : Oper} (hm : P.follows .mixedOrders = true) (hB : fourB l.toArray n = true) (hp : (l.take n).all plainB = true)
    (hC : C w.drew) (ho : l[n]? = some o) (ho' : l[n + 1]? = some o') (hs : l[n + 2]? = some s) (hs' : l[n + 3]? = some s') (hso : (sideB o && sideB o' && sideB s) = true)
    (h : wpQuiet P l.toArray C (fun a' =>
      step1 P l.toArray C o (step1 P l.toArray C o' (step1 P l.toArray C s (wpList P l.toArray Q [s']))) a' w.drew ∧
      step1 P l.toArray C o' (step1 P l.toArray C o (step1 P l.toArray C s (wpList P l.toArray Q [s']))) a' w.drew) (l.take n) a) : (Code.region id l.toArray true).wp P Q a w := by
  simp only [fourB, Bool.and_eq_true, decide_eq_true_eq] at hB
  simp only [Bool.and_eq_true] at hso
  obtain ⟨⟨t1, t2⟩, t3⟩ := hso
  obtain ⟨⟨⟨⟨hsel, hn⟩, hsk⟩, hc⟩, hlex⟩ := hB
  have hn' : l.length = n + 4 := by simpa using hn
  have htl : (l.take n).length = n := by simp; omega
  refine wp_region_any hm ?_
  refine wpAny_of_E (C := C) (n := n) (m := n + 3) _ _ _ _ hC ?_
  have e1 : l.toArray[n]? = some o := by simpa using ho
  have e2 : l.toArray[n + 1]? = some o' := by simpa using ho'
  have e3 : l.toArray[n + 2]? = some s := by simpa using hs
  have e4 : l.toArray[n + 3]? = some s' := by simpa using hs'
  have key := wpAnyE_lex (P := P) (C := C) (Q := Q) (md := .any) (n := n) (m := n + 3) (g := 4) (w := w.drew) (B := fun L => !pend n L && decide (Region.ready .any l.toArray L = [n, n + 1]) && decide (Region.ready .any l.toArray (L.setIfInBounds n true) = [n + 1]) && decide (Region.ready .any l.toArray (L.setIfInBounds (n + 1) true) = [n]) &&
      decide (Region.ready .any l.toArray ((L.setIfInBounds n true).setIfInBounds (n + 1) true) = [n + 2]) &&
      decide (Region.ready .any l.toArray (((L.setIfInBounds n true).setIfInBounds (n + 1) true).setIfInBounds (n + 2) true) = [n + 3]) &&
      decide (Region.ready .any l.toArray ((((L.setIfInBounds n true).setIfInBounds (n + 1) true).setIfInBounds (n + 2) true).setIfInBounds (n + 3) true) = [])) hsel hsk hc (by omega) (by omega)
    (Lq := fun a' =>
      step1 P l.toArray C o (step1 P l.toArray C o' (step1 P l.toArray C s (wpList P l.toArray Q [s']))) a' w.drew ∧
      step1 P l.toArray C o' (step1 P l.toArray C o (step1 P l.toArray C s (wpList P l.toArray Q [s']))) a' w.drew)
    (fun L a hb hq => by
      simp only [Bool.and_eq_true, decide_eq_true_eq, Bool.not_eq_true'] at hb
      obtain ⟨⟨⟨⟨⟨⟨b0, b1⟩, b2⟩, b3⟩, b4⟩, b6⟩, b7⟩ := hb
      obtain ⟨q1, q3⟩ := hq
      unfold wpAnyE
      rw [if_neg (by rw [b0]; simp)]
      have last : ∀ a w, wpList P l.toArray Q [s'] a w → wpAnyD P .any l.toArray C Q (n + 3) 1 (((L.setIfInBounds n true).setIfInBounds (n + 1) true).setIfInBounds (n + 2) true) a w := fun a w hw => by
        refine ⟨by rw [b6]; simp, fun i hi => ?_⟩
        rw [b6] at hi
        obtain rfl : i = n + 3 := by simpa using hi
        rw [if_neg (by omega)]
        refine wpOp_mono (K := fun a w => Q .normal a w) (fun a' w' h' => ⟨b7, h'⟩) ?_
        unfold wpOp
        simp only [e4]
        exact hw
      have two : ∀ a w, step1 P l.toArray C s (wpList P l.toArray Q [s']) a w → wpAnyD P .any l.toArray C Q (n + 3) 2 ((L.setIfInBounds n true).setIfInBounds (n + 1) true) a w := fun a w hw => by
        refine ⟨by rw [b4]; simp, fun i hi => ?_⟩
        rw [b4] at hi
        obtain rfl : i = n + 2 := by simpa using hi
        rw [if_pos (by omega)]
        exact sOp_step e3 t3 (fun a' w' h' => last a' w' h') hw
      refine ⟨by rw [b1]; simp, fun i hi => ?_⟩
      rw [b1] at hi
      have : i = n ∨ i = n + 1 := by simpa using hi
      rcases this with rfl | rfl
      · rw [if_pos (by omega)]
        refine sOp_step e1 t1 (fun a' w' h' => ?_) q1
        refine ⟨by rw [b2]; simp, fun j hj => ?_⟩
        rw [b2] at hj
        obtain rfl : j = i + 1 := by simpa using hj
        rw [if_pos (by omega)]
        exact sOp_step e2 t2 two h'
      · rw [if_pos (by omega)]
        refine sOp_step e2 t2 (fun a' w' h' => ?_) q3
        refine ⟨by rw [b3]; simp, fun j hj => ?_⟩
        rw [b3] at hj
        obtain rfl : j = n := by simpa using hj
        rw [if_pos (by omega)]
        refine sOp_step e1 t1 (fun a2 w2 h2 => ?_) h'
        rw [Array.setIfInBounds_comm _ _ (by omega)]
        exact two _ _ h2)
    (l.take n) 0 (Array.replicate l.toArray.size false) a (fun j hj => by rw [htl] at hj; simp [List.getElem?_take, hj]) (by rw [htl, Nat.zero_add]) (headInv0 _ _) (by rw [htl]; exact hlex) (wpReads_of_quiet ⟨_, hC⟩ _ _ hp h)
  rw [htl] at key
  have hsz : l.toArray.size = n + 4 := hn
  rw [hsz] at key ⊢
  exact key
end
end Go.Proofs.Ytogfbeibpfdleaa
