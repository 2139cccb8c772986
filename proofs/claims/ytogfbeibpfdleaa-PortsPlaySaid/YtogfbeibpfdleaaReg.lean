/- Regions that draw their order: operations that read, allocations next to them, and a tail in one order: one walk serves. No condition. -/
import Derived.Test.YtogfbeibpfdleaaBase
import Derived.StillTail
import Derived.Deep.Quiet
set_option linter.unusedSimpArgs false
set_option linter.unusedVariables false
namespace Go.Proofs.Ytogfbeibpfdleaa
open Go

section
variable {P : Program} {ops : Array Oper} {md : Region.Mode} {C : World → Prop}

/-- In every world of the class the operation yields v, and leaves the world as it was. -/
def Reads (P : Program) (ops : Array Oper) (C : World → Prop) (o : Oper) (v : Value) (a : Act) : Prop :=
  (Region.wanted o (yielded ops a.tmps) = true ∧ ∀ w, C w → (execOp a.eval o).run P w = .ok (.value v) w) ∨ (Region.wanted o (yielded ops a.tmps) = false ∧ v = undef)
/-- An operation that makes something, whatever the frame. -/
structure Makes (P : Program) (C : World → Prop) (o : Oper) (V : World → Value) (N : World → World) : Prop where
  guard : o.guard = none
  run : ∀ (a : Act) (w : World), (execOp a.eval o).run P w = .ok (.value (V w)) (N w)
  keep : ∀ w, C w → C (N w)
def mOp (P : Program) (ops : Array Oper) (C : World → Prop) (n : Nat) (i : Nat) (K : Act → World → Prop) (a : Act) (w : World) : Prop :=
  match ops[i]? with
  | none => False
  | some o => if i < n then ∃ v, Reads P ops C o v a ∧ K (a.put o.dst v) w else ∃ V N, Makes P C o V N ∧ K (a.put o.dst (V w)) (N w)
theorem mOp_mono {n i : Nat} {a : Act} {w : World} {K K' : Act → World → Prop} (h : ∀ a w, K a w → K' a w) (hh : mOp P ops C n i K a w) : mOp P ops C n i K' a w := by
  unfold mOp at *
  split
  · rename_i h0; rw [h0] at hh; exact hh
  · rename_i o h0
    simp only [h0] at hh
    split
    · rename_i hn; rw [if_pos hn] at hh; obtain ⟨v, h1, h2⟩ := hh; exact ⟨v, h1, h _ _ h2⟩
    · rename_i hn; rw [if_neg hn] at hh; obtain ⟨V, N, h1, h2⟩ := hh; exact ⟨V, N, h1, h _ _ h2⟩
theorem wanted_none {o : Oper} (h : o.guard = none) (y : Nat → Option Bool) : Region.wanted o y = true := by
  unfold Region.wanted
  rw [h]
def wpAnyM (P : Program) (md : Region.Mode) (ops : Array Oper) (C : World → Prop) (n m : Nat) (L : Array Bool → Act → World → Prop) : Nat → Array Bool → Act → World → Prop
  | 0, listed, a, w => L listed a w
  | f + 1, listed, a, w => Region.ready md ops listed ≠ [] ∧ ∀ i ∈ Region.ready md ops listed, i < m ∧ mOp P ops C n i (wpAnyM P md ops C n m L f (listed.setIfInBounds i true)) a w

theorem wpOp_of_mOp {n i : Nat} {a : Act} {w : World} {K : Act → World → Prop} {K' : Act → World → Prop} {Q' : Exit → Act → World → Prop} (hC : C w) (h : ∀ a w, C w → K a w → K' a w) (hh : mOp P ops C n i K a w) : wpOp P ops Q' i K' a w := by
  unfold mOp at hh
  unfold wpOp
  split
  · rename_i h0; rw [h0] at hh; exact hh.elim
  · rename_i o h0
    simp only [h0] at hh
    split at hh
    · obtain ⟨v, h1 | h1, h2⟩ := hh
      · rw [if_pos h1.1]
        refine .inl ?_
        unfold Oper.wp
        rw [h1.2 w hC]
        exact h _ _ hC h2
      · rw [if_neg (by rw [h1.1]; simp), ← h1.2]
        exact h _ _ hC h2
    · obtain ⟨V, N, h1, h2⟩ := hh
      rw [if_pos (wanted_none h1.guard _)]
      refine .inl ?_
      unfold Oper.wp
      rw [h1.run a w]
      exact h _ _ (h1.keep _ hC) h2
theorem wpAny_of_M {n m g : Nat} {L : Array Bool → Act → World → Prop} {Q' : Exit → Act → World → Prop} (hL : ∀ listed a w, L listed a w → wpAny P md ops Q' g listed a w) :
    ∀ (f : Nat) (listed : Array Bool) (a : Act) (w : World), C w → wpAnyM P md ops C n m L f listed a w → wpAny P md ops Q' (f + g) listed a w
  | 0, listed, a, w, _, h => by rw [Nat.zero_add]; exact hL _ _ _ h
  | f + 1, listed, a, w, hC, h => by
    rw [show f + 1 + g = (f + g) + 1 by omega]
    exact ⟨fun h0 => absurd h0 h.1, fun i hi => wpOp_of_mOp hC (fun a' w' hC' h' => wpAny_of_M hL f _ a' w' hC' h') (h.2 i hi).2⟩

theorem Reads.of_same {o : Oper} {v : Value} {a a' : Act} (hy : Reads P ops C o v a) (he : execOp a'.eval o = execOp a.eval o)
    (hw : Region.wanted o (yielded ops a'.tmps) = Region.wanted o (yielded ops a.tmps)) : Reads P ops C o v a' := by
  unfold Reads at *
  rw [he, hw]
  exact hy
theorem Reads.mOp {n i : Nat} {o : Oper} {v : Value} {a : Act} {w : World} (hi : ops[i]? = some o) (hin : i < n) (hy : Reads P ops C o v a) {K : Act → World → Prop} (h : K (a.put o.dst v) w) : mOp P ops C n i K a w := by
  unfold Proofs.Ytogfbeibpfdleaa.mOp
  simp only [hi]
  rw [if_pos hin]
  exact ⟨v, hy, h⟩
theorem mOp_put {n j : Nat} {oi oj : Oper} {v : Value} (hj : ops[j]? = some oj) (hap : oi.apart ops oj = true)
    (hsi : ∀ cs b, oi.op ≠ .select cs b) (hsj : ∀ cs b, oj.op ≠ .select cs b) {K : Act → World → Prop} {a : Act} {w : World}
    (hy : Reads P ops C oi v a) (h : mOp P ops C n j K (a.put oi.dst v) w) :
    mOp P ops C n j (fun a' w' => Reads P ops C oi v a' ∧ K (a'.put oi.dst v) w') a w := by
  obtain ⟨h1, h2, h3⟩ := Oper.apart_spec hap
  have keep : ∀ (a : Act), Reads P ops C oi v a → ∀ u, Reads P ops C oi v (a.put oj.dst u) := fun a hy u =>
    hy.of_same (execOp_put oi hsi a oj.dst u h3) (wanted_put oi a oj.dst u h3)
  unfold mOp at *
  simp only [hj] at *
  split
  · rename_i hn
    rw [if_pos hn] at h
    obtain ⟨u, hu, hk⟩ := h
    refine ⟨u, ?_, keep a hy u, by rw [← Act.put_comm a v u h2]; exact hk⟩
    exact hu.of_same (execOp_put oj hsj a oi.dst v h1).symm (wanted_put oj a oi.dst v h1).symm
  · rename_i hn
    rw [if_neg hn] at h
    obtain ⟨V, N, hu, hk⟩ := h
    exact ⟨V, N, hu, keep a hy _, by rw [← Act.put_comm a v _ h2]; exact hk⟩

theorem wpAnyM_first {n m i : Nat} {oi : Oper} {v : Value} {L : Array Bool → Act → World → Prop} (hi : ops[i]? = some oi) (hsel : ∀ (j : Nat) (o : Oper) cs b, ops[j]? = some o → o.op ≠ .select cs b)
    (hs : Region.sinkB md ops m = true) (hc : Region.chainB md ops m = true) (hm : m < ops.size) (hin : i < n) (hnm : n ≤ m)
    (hdone : ∀ listed a w, L listed a w → ∀ j ∈ Region.ready md ops listed, m ≤ j) :
    ∀ (f : Nat) (listed : Array Bool) (a : Act) (w : World), HeadInv md ops m listed →
      (∀ j oj, ops[j]? = some oj → j ≠ i → listed.getD j true = false → (∀ e ∈ oj.after, Region.binds md e = true → e.on ≠ i) → oi.apart ops oj = true) →
      i ∈ Region.ready md ops listed → Reads P ops C oi v a →
      wpAnyM P md ops C n m L f (listed.setIfInBounds i true) (a.put oi.dst v) w → wpAnyM P md ops C n m L (f + 1) listed a w := by
  intro f
  induction f with
  | zero =>
    intro listed a w inv _ hr hy H
    have hun := (mem_ready.1 hr).1
    refine ⟨fun h => (by rw [h] at hr; cases hr), fun j hj => ?_⟩
    have hjn : j < m := by
      rcases Nat.lt_or_ge j m with h | h
      · exact h
      · exact absurd hj (tail_waits hs hc hm inv _ i rfl (by omega) hun j h)
    refine ⟨hjn, ?_⟩
    by_cases hji : j = i
    · subst hji; exact hy.mOp hi hin H
    · have := hdone _ _ _ H j (ready_mono hj hji)
      omega
  | succ f ih =>
    intro listed a w inv hfree hr hy H
    have hun := (mem_ready.1 hr).1
    refine ⟨fun h => (by rw [h] at hr; cases hr), fun j hj => ?_⟩
    have hjn : j < m := by
      rcases Nat.lt_or_ge j m with h | h
      · exact h
      · exact absurd hj (tail_waits hs hc hm inv _ i rfl (by omega) hun j h)
    refine ⟨hjn, ?_⟩
    by_cases hji : j = i
    · subst hji; exact hy.mOp hi hin H
    · have h1 := (H.2 j (ready_mono hj hji)).2
      obtain ⟨hjun, oj, hoj, hall⟩ := mem_ready.1 hj
      have hnot : ∀ e ∈ oj.after, Region.binds md e = true → e.on ≠ i := fun e he hb heq => by
        have h1 := hall e he hb
        rw [heq, getD_both hun] at h1
        cases h1
      have h2 := mOp_put hoj (hfree j oj hoj hji hjun hnot) (fun cs b => hsel i oi cs b hi) (fun cs b => hsel j oj cs b hoj) hy h1
      have hfree' : ∀ k ok, ops[k]? = some ok → k ≠ i → (listed.setIfInBounds j true).getD k true = false →
          (∀ e ∈ ok.after, Region.binds md e = true → e.on ≠ i) → oi.apart ops ok = true := fun k ok hk hki hun hno => by
        refine hfree k ok hk hki ?_ hno
        by_cases hjk : j = k
        · subst hjk; exact hjun
        · rw [getD_set_ne true hjk] at hun; exact hun
      refine mOp_mono (fun a' w' h3 => ih (listed.setIfInBounds j true) a' w' (inv.set hj hjn) hfree' (ready_mono hr (Ne.symm hji)) h3.1 ?_) h2
      rw [Array.setIfInBounds_comm _ _ hji]
      exact h3.2

/-- The walk of the operations that read, in the text's order. -/
def wpReads (P : Program) (ops : Array Oper) (C : World → Prop) (Q : Act → Prop) : List Oper → Act → Prop
  | [], a => Q a
  | o :: rest, a => ∃ v, Reads P ops C o v a ∧ wpReads P ops C Q rest (a.put o.dst v)
/-- Behind the first k the list reads on in its order; then B. -/
def lexHeadM (md : Region.Mode) (ops : Array Oper) (B : Array Bool → Bool) : Nat → Nat → Array Bool → Bool
  | 0, _, listed => B listed
  | f + 1, k, listed => (Region.ready md ops listed).contains k && Region.free md ops listed k && lexHeadM md ops B f (k + 1) (listed.setIfInBounds k true)

theorem wpAnyM_lex {n m g : Nat} {L : Array Bool → Act → World → Prop} {B : Array Bool → Bool} {Lq : Act → Prop} {w : World} (hsel : Region.noSelect ops = true) (hs : Region.sinkB md ops m = true) (hc : Region.chainB md ops m = true) (hm : m < ops.size) (hnm : n ≤ m)
    (hdone : ∀ listed a w, L listed a w → ∀ j ∈ Region.ready md ops listed, m ≤ j) (hB0 : ∀ listed a, B listed = true → HeadInv md ops m listed → Lq a → wpAnyM P md ops C n m L g listed a w) :
    ∀ (l : List Oper) (k : Nat) (listed : Array Bool) (a : Act), (∀ j, j < l.length → l[j]? = ops[k + j]?) → k + l.length = n → HeadInv md ops m listed →
    lexHeadM md ops B l.length k listed = true → wpReads P ops C Lq l a → wpAnyM P md ops C n m L (l.length + g) listed a w
  | [], k, listed, a, _, hk, inv, hB, h => by
    rw [List.length_nil, Nat.zero_add]
    exact hB0 listed a hB inv h
  | o :: l, k, listed, a, hl, hk, inv, hB, h => by
    have h0 : ops[k]? = some o := by simpa using (hl 0 (by simp)).symm
    simp only [List.length_cons, lexHeadM, Bool.and_eq_true] at hB
    obtain ⟨⟨hr, hf⟩, hB'⟩ := hB
    have hkn : k < n := by simp only [List.length_cons] at hk; omega
    have hr' : k ∈ Region.ready md ops listed := by simpa using hr
    obtain ⟨v, hy, hK⟩ := h
    rw [List.length_cons, show l.length + 1 + g = (l.length + g) + 1 by omega]
    exact wpAnyM_first h0 (Region.noSelect_spec hsel) hs hc hm hkn hnm hdone (l.length + g) listed a w inv (Region.free_spec h0 hf) hr' hy
      (wpAnyM_lex hsel hs hc hm hnm hdone hB0 l (k + 1) _ _ (fun j hj => by have := hl (j + 1) (by simp; omega); simpa [Nat.add_assoc, Nat.add_comm 1 j] using this) (by simp only [List.length_cons] at hk; omega) (inv.set hr' (by omega)) hB' hK)

/-- Operations that are no calls. -/
def plainB (o : Oper) : Bool :=
  match o.op with
  | .move _ | .assign _ | .load _ _ | .fieldAddr _ _ _ | .indexAddr _ _ _ | .binOp _ _ _ _ _ | .unOp _ _ _ => true
  | _ => false
theorem val_of {s : Sem Value} {w w' : World} {n : Next} (h : (do pure (Next.value (← s)) : Sem Next).run P w = .ok n w') : ∃ u, n = .value u := by
  simp only [bind_pure_comp, Sem.run_map] at h
  generalize s.run P w = r at h
  cases r with
  | ok v w1 =>
    simp only [Result.andThen_ok, Result.ok.injEq] at h
    exact ⟨v, h.1.symm⟩
  | halt x w1 => simp only [Result.andThen_halt] at h; cases h
theorem plain_value {o : Oper} (h : plainB o = true) {ρ : Operand → Value} {w w' : World} {n : Next} (hr : (execOp ρ o).run P w = .ok n w') : ∃ u, n = .value u := by
  obtain ⟨dst, op, type, pos, after, guard⟩ := o
  cases op <;> simp only [plainB, Bool.false_eq_true] at h <;> simp only [execOp] at hr
  all_goals first
    | exact val_of hr
    | (cases hr; exact ⟨_, rfl⟩)

theorem wpReads_of_quiet {Q : Act → Prop} (hC : ∃ w, C w) : ∀ (l : List Oper) (a : Act), (l.all plainB) = true → wpQuiet P ops C Q l a → wpReads P ops C Q l a
  | [], _, _, h => h
  | o :: l, a, hp, h => by
    simp only [List.all_cons, Bool.and_eq_true] at hp
    unfold wpQuiet at h
    by_cases hw : Region.wanted o (yielded ops a.tmps) = true
    · rw [if_pos hw] at h
      obtain ⟨v, h1, h2⟩ := h
      refine ⟨v, .inl ⟨hw, fun w hw' => ?_⟩, wpReads_of_quiet hC l _ hp.2 h2⟩
      have h3 := h1 w hw'
      unfold Oper.quietAt at h3
      generalize hr : (execOp a.eval o).run P w = r at *
      cases r with
      | ok n w' =>
        obtain ⟨u, rfl⟩ := plain_value hp.1 hr
        simp only [Oper.quietUpon] at h3
        rw [h3.1, h3.2]
      | halt x w' => simp only [Oper.quietUpon] at h3
    · rw [if_neg hw] at h
      exact ⟨undef, .inr ⟨by simpa using hw, rfl⟩, wpReads_of_quiet hC l _ hp.2 h⟩

theorem Makes.alloc {t : TypeId} {z : List Value} (ha : ∀ w : World, (Instr.alloc t true (.tuple #[])).run P w = .ok (.pointer (some ⟨w.heap.size, 0, none⟩)) (w.alloc (.cells z.toArray t)))
    {o : Oper} (ho : o.op = .alloc t) (hg : o.guard = none) (hC : ∀ w, C w → C (w.alloc (.cells z.toArray t))) : Makes P C o (fun w => .pointer (some ⟨w.heap.size, 0, none⟩)) (fun w => w.alloc (.cells z.toArray t)) := by
  refine ⟨hg, fun a w => ?_, hC⟩
  unfold execOp
  rw [ho]
  simp only [bind_pure_comp, Sem.run_map, ha w, Result.andThen_ok]

/-- What must hold of a region of n operations that read, k that make, and a tail in one order. -/
def oneB (ops : Array Oper) (n : Nat) : Bool :=
  Region.noSelect ops && decide (n + 1 < ops.size) && Region.sinkB .any ops (n + 1) && Region.chainB .any ops (n + 1) &&
    lexHeadM .any ops (fun listed => decide (Region.ready .any ops listed = [n]) && Region.seqB .any ops (ops.size - (n + 1)) (n + 1) (listed.setIfInBounds n true)) n 0 (Array.replicate ops.size false)
def twoB (ops : Array Oper) (n : Nat) : Bool :=
  Region.noSelect ops && decide (n + 2 < ops.size) && Region.sinkB .any ops (n + 2) && Region.chainB .any ops (n + 2) &&
    lexHeadM .any ops (fun listed => decide (Region.ready .any ops listed = [n, n + 1]) && decide (Region.ready .any ops (listed.setIfInBounds n true) = [n + 1]) && decide (Region.ready .any ops (listed.setIfInBounds (n + 1) true) = [n]) &&
      Region.seqB .any ops (ops.size - (n + 2)) (n + 2) ((listed.setIfInBounds n true).setIfInBounds (n + 1) true)) n 0 (Array.replicate ops.size false)

theorem headInv0 (ops : Array Oper) (m : Nat) : HeadInv .any ops m (Array.replicate ops.size false) :=
  ⟨by simp, fun j oj _ hl => (by rw [getD_replicate_false] at hl; cases hl), fun t _ ht => getD_in (by simpa using ht) (getD_replicate_false _ _)⟩

theorem wp_region_one {id : Nat} {Q : Exit → Act → World → Prop} {a : Act} {w : World} {l : List Oper} (n : Nat) (hm : P.follows .mixedOrders = true) (hB : oneB l.toArray n = true)
    (hC : C w.drew) {o : Oper} {V : World → Value} {N : World → World} (ho : l[n]? = some o) (hM : Makes P C o V N)
    (h : wpReads P l.toArray C (fun a' => wpList P l.toArray Q (l.drop (n + 1)) (a'.put o.dst (V w.drew)) (N w.drew)) (l.take n) a) : (Code.region id l.toArray true).wp P Q a w := by
  simp only [oneB, Bool.and_eq_true, decide_eq_true_eq] at hB
  obtain ⟨⟨⟨⟨hsel, hn⟩, hs⟩, hc⟩, hlex⟩ := hB
  have hn' : n + 1 < l.length := by simpa using hn
  have htl : (l.take n).length = n := by simp; omega
  have hsz : l.toArray.size = n + 1 + (l.toArray.size - (n + 1)) := by omega
  refine wp_region_any hm ?_
  rw [hsz]
  refine wpAny_of_M (C := C) (n := n) (m := n + 1) (L := fun listed a w => Region.seqB .any l.toArray (l.toArray.size - (n + 1)) (n + 1) listed = true ∧ wpList P l.toArray Q (l.drop (n + 1)) a w) (fun listed a w hL => ?_) (n + 1) _ a _ hC ?_
  · have := wpAny_of_seq (md := .any) (l.drop (n + 1)) (n + 1) listed a w (fun j => by simp [Nat.add_comm]) (by simpa using hL.1) hL.2
    simpa using this
  · have := wpAnyM_lex (P := P) (C := C) (md := .any) (n := n) (m := n + 1) (g := 1) (w := w.drew) (L := fun listed a w => Region.seqB .any l.toArray (l.toArray.size - (n + 1)) (n + 1) listed = true ∧ wpList P l.toArray Q (l.drop (n + 1)) a w)
      (B := fun listed => decide (Region.ready .any l.toArray listed = [n]) && Region.seqB .any l.toArray (l.toArray.size - (n + 1)) (n + 1) (listed.setIfInBounds n true))
      (Lq := fun a' => wpList P l.toArray Q (l.drop (n + 1)) (a'.put o.dst (V w.drew)) (N w.drew)) hsel hs hc hn (by omega) (fun listed a w hL => seqB_ready hL.1)
      (fun listed a hb inv hq => by
        simp only [Bool.and_eq_true, decide_eq_true_eq] at hb
        refine ⟨by rw [hb.1]; simp, fun i hi => ?_⟩
        rw [hb.1] at hi
        obtain rfl : i = n := by simpa using hi
        refine ⟨by omega, ?_⟩
        unfold mOp
        have : l.toArray[i]? = some o := by simpa using ho
        simp only [this]
        rw [if_neg (by omega)]
        exact ⟨V, N, hM, hb.2, hq⟩)
      (l.take n) 0 (Array.replicate l.toArray.size false) a (fun j hj => by rw [htl] at hj; simp [List.getElem?_take, hj]) (by rw [htl, Nat.zero_add]) (headInv0 _ _) (by rw [htl]; exact hlex) h
    rw [htl] at this
    rw [← hsz]
    exact this

theorem wp_region_two {id : Nat} {Q : Exit → Act → World → Prop} {a : Act} {w : World} {l : List Oper} (n : Nat) (hm : P.follows .mixedOrders = true) (hB : twoB l.toArray n = true)
    (hC : C w.drew) {o o' : Oper} {V V' : World → Value} {N N' : World → World} (ho : l[n]? = some o) (ho' : l[n + 1]? = some o') (hd : ∀ d, o.dst = some d → o'.dst ≠ some d) (hM : Makes P C o V N) (hM' : Makes P C o' V' N')
    (h : wpReads P l.toArray C (fun a' => wpList P l.toArray Q (l.drop (n + 2)) ((a'.put o.dst (V w.drew)).put o'.dst (V' (N w.drew))) (N' (N w.drew)) ∧ wpList P l.toArray Q (l.drop (n + 2)) ((a'.put o.dst (V (N' w.drew))).put o'.dst (V' w.drew)) (N (N' w.drew))) (l.take n) a) : (Code.region id l.toArray true).wp P Q a w := by
  simp only [twoB, Bool.and_eq_true, decide_eq_true_eq] at hB
  obtain ⟨⟨⟨⟨hsel, hn⟩, hs⟩, hc⟩, hlex⟩ := hB
  have hn' : n + 2 < l.length := by simpa using hn
  have htl : (l.take n).length = n := by simp; omega
  have hsz : l.toArray.size = n + 2 + (l.toArray.size - (n + 2)) := by omega
  refine wp_region_any hm ?_
  rw [hsz]
  refine wpAny_of_M (C := C) (n := n) (m := n + 2) (L := fun listed a w => Region.seqB .any l.toArray (l.toArray.size - (n + 2)) (n + 2) listed = true ∧ wpList P l.toArray Q (l.drop (n + 2)) a w) (fun listed a w hL => ?_) (n + 2) _ a _ hC ?_
  · have := wpAny_of_seq (md := .any) (l.drop (n + 2)) (n + 2) listed a w (fun j => by simp [Nat.add_comm]) (by simpa using hL.1) hL.2
    simpa using this
  · have := wpAnyM_lex (P := P) (C := C) (md := .any) (n := n) (m := n + 2) (g := 2) (w := w.drew) (L := fun listed a w => Region.seqB .any l.toArray (l.toArray.size - (n + 2)) (n + 2) listed = true ∧ wpList P l.toArray Q (l.drop (n + 2)) a w)
      (B := fun listed => decide (Region.ready .any l.toArray listed = [n, n + 1]) && decide (Region.ready .any l.toArray (listed.setIfInBounds n true) = [n + 1]) && decide (Region.ready .any l.toArray (listed.setIfInBounds (n + 1) true) = [n]) &&
        Region.seqB .any l.toArray (l.toArray.size - (n + 2)) (n + 2) ((listed.setIfInBounds n true).setIfInBounds (n + 1) true))
      (Lq := fun a' => wpList P l.toArray Q (l.drop (n + 2)) ((a'.put o.dst (V w.drew)).put o'.dst (V' (N w.drew))) (N' (N w.drew)) ∧ wpList P l.toArray Q (l.drop (n + 2)) ((a'.put o.dst (V (N' w.drew))).put o'.dst (V' w.drew)) (N (N' w.drew))) hsel hs hc hn (by omega) (fun listed a w hL => seqB_ready hL.1)
      (fun listed a hb inv hq => by
        simp only [Bool.and_eq_true, decide_eq_true_eq] at hb
        obtain ⟨⟨⟨hb1, hb2⟩, hb3⟩, hb4⟩ := hb
        have e1 : l.toArray[n]? = some o := by simpa using ho
        have e2 : l.toArray[n + 1]? = some o' := by simpa using ho'
        refine ⟨by rw [hb1]; simp, fun i hi => ?_⟩
        rw [hb1] at hi
        have : i = n ∨ i = n + 1 := by simpa using hi
        rcases this with rfl | rfl
        · refine ⟨by omega, ?_⟩
          unfold mOp
          simp only [e1]
          rw [if_neg (by omega)]
          refine ⟨V, N, hM, by rw [hb2]; simp, fun j hj => ?_⟩
          rw [hb2] at hj
          obtain rfl : j = i + 1 := by simpa using hj
          refine ⟨by omega, ?_⟩
          unfold mOp
          simp only [e2]
          rw [if_neg (by omega)]
          exact ⟨V', N', hM', hb4, hq.1⟩
        · refine ⟨by omega, ?_⟩
          unfold mOp
          simp only [e2]
          rw [if_neg (by omega)]
          refine ⟨V', N', hM', by rw [hb3]; simp, fun j hj => ?_⟩
          rw [hb3] at hj
          obtain rfl : j = n := by simpa using hj
          refine ⟨by omega, ?_⟩
          unfold mOp
          simp only [e1]
          rw [if_neg (by omega)]
          refine ⟨V, N, hM, ?_, ?_⟩
          · rw [Array.setIfInBounds_comm _ _ (by omega)]
            exact hb4
          · have := hq.2
            rw [Act.put_comm _ _ _ hd] at this
            exact this)
      (l.take n) 0 (Array.replicate l.toArray.size false) a (fun j hj => by rw [htl] at hj; simp [List.getElem?_take, hj]) (by rw [htl, Nat.zero_add]) (headInv0 _ _) (by rw [htl]; exact hlex) h
    rw [htl] at this
    rw [← hsz]
    exact this

theorem aft_alloc {w0 : World} (o : Obj) : ∀ w, (∃ n : Aft w0, w = n.W) → ∃ n : Aft w0, w.alloc o = n.W := by
  rintro _ ⟨n, rfl⟩
  exact ⟨⟨n.W.alloc o, n.h.alloc n.h.size o⟩, rfl⟩

/-- Operations that read, and one allocation, then a tail. -/
theorem wp_reads_alloc {id : Nat} {Q : Exit → Act → World → Prop} {a : Act} {w : World} {l : List Oper} (n : Nat) {t : TypeId} {z : List Value} {d : Option Tmp} (hm : P.follows .mixedOrders = true)
    (ha : ∀ w : World, (Instr.alloc t true (.tuple #[])).run P w = .ok (.pointer (some ⟨w.heap.size, 0, none⟩)) (w.alloc (.cells z.toArray t)))
    (hB : oneB l.toArray n = true) (hp : (l.take n).all plainB = true) (ho : (l[n]?).map (fun o => (o.op, o.guard, o.dst)) = some (.alloc t, none, d))
    (h : wpQuiet P l.toArray (fun w' => ∃ n : Aft w, w' = n.W) (fun a' => wpList P l.toArray Q (l.drop (n + 1)) (a'.put d (.pointer (some ⟨w.heap.size, 0, none⟩))) (w.drew.alloc (.cells z.toArray t))) (l.take n) a) :
    (Code.region id l.toArray true).wp P Q a w := by
  cases hl : l[n]? with
  | none => rw [hl] at ho; cases ho
  | some o =>
    rw [hl] at ho
    simp only [Option.map_some, Option.some.injEq, Prod.mk.injEq] at ho
    obtain ⟨h1, h2, rfl⟩ := ho
    exact wp_region_one (C := fun w' => ∃ n : Aft w, w' = n.W) n hm hB ⟨⟨_, below_drew w⟩, rfl⟩ hl (Makes.alloc ha h1 h2 (aft_alloc _)) (wpReads_of_quiet ⟨_, ⟨⟨_, below_drew w⟩, rfl⟩⟩ _ _ hp h)

/-- Operations that read, and two allocations, then a tail: two ways. -/
theorem wp_reads_alloc2 {id : Nat} {Q : Exit → Act → World → Prop} {a : Act} {w : World} {l : List Oper} (n : Nat) {t t' : TypeId} {z z' : List Value} {d d' : Option Tmp} (hm : P.follows .mixedOrders = true)
    (ha : ∀ w : World, (Instr.alloc t true (.tuple #[])).run P w = .ok (.pointer (some ⟨w.heap.size, 0, none⟩)) (w.alloc (.cells z.toArray t)))
    (ha' : ∀ w : World, (Instr.alloc t' true (.tuple #[])).run P w = .ok (.pointer (some ⟨w.heap.size, 0, none⟩)) (w.alloc (.cells z'.toArray t')))
    (hB : twoB l.toArray n = true) (hp : (l.take n).all plainB = true) (ho : (l[n]?).map (fun o => (o.op, o.guard, o.dst)) = some (.alloc t, none, d)) (ho' : (l[n + 1]?).map (fun o => (o.op, o.guard, o.dst)) = some (.alloc t', none, d')) (hd : ∀ x, d = some x → d' ≠ some x)
    (h : wpQuiet P l.toArray (fun w' => ∃ n : Aft w, w' = n.W) (fun a' =>
      wpList P l.toArray Q (l.drop (n + 2)) ((a'.put d (.pointer (some ⟨w.heap.size, 0, none⟩))).put d' (.pointer (some ⟨w.heap.size + 1, 0, none⟩))) ((w.drew.alloc (.cells z.toArray t)).alloc (.cells z'.toArray t')) ∧
      wpList P l.toArray Q (l.drop (n + 2)) ((a'.put d (.pointer (some ⟨w.heap.size + 1, 0, none⟩))).put d' (.pointer (some ⟨w.heap.size, 0, none⟩))) ((w.drew.alloc (.cells z'.toArray t')).alloc (.cells z.toArray t))) (l.take n) a) :
    (Code.region id l.toArray true).wp P Q a w := by
  cases hl : l[n]? with
  | none => rw [hl] at ho; cases ho
  | some o =>
    cases hl' : l[n + 1]? with
    | none => rw [hl'] at ho'; cases ho'
    | some o' =>
      rw [hl] at ho
      rw [hl'] at ho'
      simp only [Option.map_some, Option.some.injEq, Prod.mk.injEq] at ho ho'
      obtain ⟨h1, h2, rfl⟩ := ho
      obtain ⟨h1', h2', rfl⟩ := ho'
      refine wp_region_two (C := fun w' => ∃ n : Aft w, w' = n.W) n hm hB ⟨⟨_, below_drew w⟩, rfl⟩ hl hl' hd (Makes.alloc ha h1 h2 (aft_alloc _)) (Makes.alloc ha' h1' h2' (aft_alloc _)) ?_
      have hs : ∀ (w : World) (o : Obj), (w.alloc o).heap.size = w.heap.size + 1 := fun w o => by simp
      have hs' : w.drew.heap.size = w.heap.size := rfl
      simp only [hs, hs']
      exact wpReads_of_quiet ⟨_, ⟨⟨_, below_drew w⟩, rfl⟩⟩ _ _ hp h
end
end Go.Proofs.Ytogfbeibpfdleaa
