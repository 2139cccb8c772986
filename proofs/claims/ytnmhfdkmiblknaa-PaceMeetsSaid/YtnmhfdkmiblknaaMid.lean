/- Sorted numbers: what stands at a place is told by counts; the middle of what is left; the number of more than half. Plain lists. No condition. -/
set_option linter.unusedSimpArgs false
set_option linter.unusedVariables false
namespace Go.Proofs.Ytnmhfdkmiblknaa

def srt (l : List Int) : List Int := l.mergeSort (fun x y => decide (x ≤ y))
theorem srt_perm (l : List Int) : (srt l).Perm l := List.mergeSort_perm _ _
theorem srt_len (l : List Int) : (srt l).length = l.length := (srt_perm l).length_eq
theorem srt_sorted (l : List Int) : (srt l).Pairwise (· ≤ ·) := by
  have := List.pairwise_mergeSort (le := fun x y : Int => decide (x ≤ y)) (fun a b c h1 h2 => by simp at *; omega) (fun a b => by simp; omega) l
  exact this.imp (fun h => by simpa using h)
theorem srt_mono (l : List Int) {i j : Nat} (h : i ≤ j) (hj : j < l.length) : (srt l).getD i 0 ≤ (srt l).getD j 0 := by
  have hj' : j < (srt l).length := by rw [srt_len]; exact hj
  rw [List.getD_eq_getElem?_getD, List.getD_eq_getElem?_getD, List.getElem?_eq_getElem (by omega), List.getElem?_eq_getElem hj']
  simp only [Option.getD_some]
  rcases Nat.lt_or_ge i j with h1 | h1
  · exact List.pairwise_iff_getElem.1 (srt_sorted l) i j _ _ h1
  · obtain rfl : i = j := by omega
    exact Int.le_refl _
theorem countP_srt (p : Int → Bool) (l : List Int) : (srt l).countP p = l.countP p := (srt_perm l).countP_eq p
/-- Of a predicate that goes down: it holds of the k least alone. -/
theorem srt_count (l : List Int) (p : Int → Bool) (hp : ∀ x y, x ≤ y → p y = true → p x = true) {k : Nat} (hk : k < l.length) : p ((srt l).getD k 0) = true ↔ k < l.countP p := by
  rw [← countP_srt p l]
  have hs := srt_sorted l
  have hl : k < (srt l).length := by rw [srt_len]; exact hk
  generalize srt l = s at *
  clear hk
  induction s generalizing k with
  | nil => simp at hl
  | cons a s ih =>
    have hs' := List.pairwise_cons.1 hs
    by_cases ha : p a = true
    · rw [List.countP_cons_of_pos ha]
      cases k with
      | zero => simp [ha]
      | succ k =>
        have := ih hs'.2 (k := k) (by simpa using hl)
        simpa using this
    · have h0 : s.countP p = 0 := by
        rw [List.countP_eq_zero]
        intro x hx hpx
        exact ha (hp a x (hs'.1 x hx) hpx)
      rw [List.countP_cons_of_neg ha, h0]
      constructor
      · intro h
        exfalso
        cases k with
        | zero => exact ha (by simpa using h)
        | succ k =>
          have hk : k < s.length := by simpa using hl
          have hm : s[k] ∈ s := List.getElem_mem hk
          have : p s[k] = true := by
            have h2 : (a :: s).getD (k + 1) 0 = s[k] := by simp [List.getD_eq_getElem?_getD, List.getElem?_eq_getElem hk]
            rw [h2] at h; exact h
          exact ha (hp a _ (hs'.1 _ hm) this)
      · intro h; omega
theorem srt_lt (l : List Int) (x : Int) {k : Nat} (hk : k < l.length) : (srt l).getD k 0 < x ↔ k < l.countP (fun y => decide (y < x)) := by
  have := srt_count l (fun y => decide (y < x)) (fun a b h1 h2 => by simp at *; omega) hk
  simpa using this
theorem srt_le (l : List Int) (x : Int) {k : Nat} (hk : k < l.length) : (srt l).getD k 0 ≤ x ↔ k < l.countP (fun y => decide (y ≤ x)) := by
  have := srt_count l (fun y => decide (y ≤ x)) (fun a b h1 h2 => by simp at *; omega) hk
  simpa using this

/-- What is left, and the middle. -/
def cutz (l : List Int) (f : Nat) : List Int := ((srt l).drop f).take (l.length - 2 * f)
def midz (l : List Int) (f : Nat) : Int := ((srt l).getD f 0 + (srt l).getD (l.length - 1 - f) 0) / 2
theorem cutz_len (l : List Int) (f : Nat) (h : 2 * f ≤ l.length) : (cutz l f).length = l.length - 2 * f := by
  unfold cutz
  rw [List.length_take, List.length_drop, srt_len]; omega
theorem cutz_getD (l : List Int) (f k : Nat) (h : k < l.length - 2 * f) : (cutz l f).getD k 0 = (srt l).getD (f + k) 0 := by
  unfold cutz
  rw [List.getD_eq_getElem?_getD, List.getD_eq_getElem?_getD, List.getElem?_take, if_pos h, List.getElem?_drop]

theorem countP_le_drop (p : Int → Bool) (l : List Int) (f : Nat) : l.countP p ≤ f + (l.drop f).countP p := by
  have h : l.countP p = (l.take f).countP p + (l.drop f).countP p := by
    rw [← List.countP_append, List.take_append_drop]
  have h2 := List.countP_le_length (p := p) (l := l.take f)
  have h3 : (l.take f).length ≤ f := List.length_take_le _ _
  omega
theorem countP_drop_le (p : Int → Bool) (l : List Int) (f : Nat) : (l.drop f).countP p ≤ l.countP p := by
  have h : l.countP p = (l.take f).countP p + (l.drop f).countP p := by
    rw [← List.countP_append, List.take_append_drop]
  omega
theorem countP_not_le (l : List Int) (x : Int) : l.countP (fun y => decide (x < y)) + l.countP (fun y => decide (y ≤ x)) = l.length := by
  induction l with
  | nil => rfl
  | cons a l ih =>
    by_cases h : x < a
    · rw [List.countP_cons_of_pos (by simpa using h), List.countP_cons_of_neg (by simp; omega), List.length_cons]; omega
    · rw [List.countP_cons_of_neg (by simpa using h), List.countP_cons_of_pos (by simp; omega), List.length_cons]; omega

/-- Whatever the first f are: the ends of what is left lie among the others. -/
theorem ends_among (l : List Int) (f : Nat) (hf : 2 * f < l.length) (lo hi : Int) (hlo : ∀ x ∈ l.drop f, lo ≤ x) (hhi : ∀ x ∈ l.drop f, x ≤ hi) :
    lo ≤ (srt l).getD f 0 ∧ (srt l).getD f 0 ≤ (srt l).getD (l.length - 1 - f) 0 ∧ (srt l).getD (l.length - 1 - f) 0 ≤ hi := by
  refine ⟨?_, srt_mono l (by omega) (by omega), ?_⟩
  · have h := srt_lt l lo (k := f) (by omega)
    have h2 := countP_le_drop (fun y => decide (y < lo)) l f
    have h3 : (l.drop f).countP (fun y => decide (y < lo)) = 0 := by
      rw [List.countP_eq_zero]
      intro x hx hh
      have := hlo x hx
      simp at hh; omega
    rcases Int.lt_or_le ((srt l).getD f 0) lo with h4 | h4
    · have := h.1 h4; omega
    · exact h4
  · have h := srt_le l hi (k := l.length - 1 - f) (by omega)
    refine h.2 ?_
    have h2 := countP_le_drop (fun y => decide (hi < y)) l f
    have h3 : (l.drop f).countP (fun y => decide (hi < y)) = 0 := by
      rw [List.countP_eq_zero]
      intro x hx hh
      have := hhi x hx
      simp at hh; omega
    have := countP_not_le l hi
    omega
theorem mid_among (l : List Int) (f : Nat) (hf : 2 * f < l.length) (lo hi : Int) (hlo : ∀ x ∈ l.drop f, lo ≤ x) (hhi : ∀ x ∈ l.drop f, x ≤ hi) : lo ≤ midz l f ∧ midz l f ≤ hi := by
  obtain ⟨h1, h2, h3⟩ := ends_among l f hf lo hi hlo hhi
  unfold midz
  omega

/-- Few are less than the least of what is left, few more than the greatest. -/
theorem less_few (l : List Int) (f : Nat) (hf : f < l.length) : l.countP (fun y => decide (y < (srt l).getD f 0)) ≤ f := by
  have h := srt_lt l ((srt l).getD f 0) hf
  rcases Nat.lt_or_ge f (l.countP (fun y => decide (y < (srt l).getD f 0))) with h1 | h1
  · have := h.2 h1; omega
  · exact h1
theorem more_few (l : List Int) (f : Nat) (hf : f < l.length) : l.countP (fun y => decide ((srt l).getD (l.length - 1 - f) 0 < y)) ≤ f := by
  have h := (srt_le l ((srt l).getD (l.length - 1 - f) 0) (k := l.length - 1 - f) (by omega)).1 (Int.le_refl _)
  have := countP_not_le l ((srt l).getD (l.length - 1 - f) 0)
  omega

theorem countP_near (p q : Int → Bool) : ∀ (a b : List Int), a.length = b.length → (∀ (i : Nat) x y, a[i]? = some x → b[i]? = some y → p x = true → q y = true) → a.countP p ≤ b.countP q
  | [], [], _, _ => by simp
  | x :: a, y :: b, hl, h => by
    have ih := countP_near p q a b (by simpa using hl) (fun i x' y' h1 h2 => h (i + 1) x' y' (by simpa using h1) (by simpa using h2))
    have h0 := h 0 x y rfl rfl
    by_cases hp : p x = true
    · rw [List.countP_cons_of_pos hp, List.countP_cons_of_pos (h0 hp)]; omega
    · rw [List.countP_cons_of_neg hp]
      have := List.countP_cons (p := q) (a := y) (l := b)
      omega

/-- Two lists that are near but for the first f: their middles are. -/
theorem mids_near (a b : List Int) (n f : Nat) (ha : a.length = n) (hb : b.length = n) (hf : 3 * f < n) (x lo hi : Int)
    (hla : ∀ y ∈ a.drop f, lo ≤ y ∧ y ≤ hi) (hlb : ∀ y ∈ b.drop f, lo ≤ y ∧ y ≤ hi) (hnear : ∀ (i : Nat) u v, (a.drop f)[i]? = some u → (b.drop f)[i]? = some v → u - x ≤ v ∧ v ≤ u + x) :
    2 * (midz a f - midz b f) ≤ hi - lo + x + 1 ∧ 2 * (midz b f - midz a f) ≤ hi - lo + x + 1 := by
  have ea := ends_among a f (by omega) lo hi (fun y h => (hla y h).1) (fun y h => (hla y h).2)
  have eb := ends_among b f (by omega) lo hi (fun y h => (hlb y h).1) (fun y h => (hlb y h).2)
  have hgl : f < (a.drop f).length := by rw [List.length_drop]; omega
  have hdl : (a.drop f).length = (b.drop f).length := by rw [List.length_drop, List.length_drop]; omega
  generalize hg : (srt (a.drop f)).getD f 0 = g
  have c1 : f < (a.drop f).countP (fun y => decide (y ≤ g)) := (srt_le (a.drop f) g hgl).1 (by rw [hg]; exact Int.le_refl _)
  have c2 : (a.drop f).countP (fun y => decide (y < g)) ≤ f := by
    have := less_few (a.drop f) f hgl
    rwa [hg] at this
  have a1 : (srt a).getD f 0 ≤ g := (srt_le a g (by omega)).2 (Nat.lt_of_lt_of_le c1 (countP_drop_le _ _ _))
  have a2 : g ≤ (srt a).getD (a.length - 1 - f) 0 := by
    rcases Int.lt_or_le ((srt a).getD (a.length - 1 - f) 0) g with h | h
    · have h1 := (srt_lt a g (by omega)).1 h
      have h2 := countP_le_drop (fun y => decide (y < g)) a f
      omega
    · exact h
  have b1 : (srt b).getD f 0 ≤ g + x := (srt_le b (g + x) (by omega)).2 (by
    refine Nat.lt_of_lt_of_le c1 (Nat.le_trans (countP_near _ _ _ _ hdl (fun i u v h1 h2 h3 => ?_)) (countP_drop_le _ _ f))
    have := hnear i u v h1 h2
    simp only [decide_eq_true_eq] at *
    omega)
  have b2 : g - x ≤ (srt b).getD (b.length - 1 - f) 0 := by
    rcases Int.lt_or_le ((srt b).getD (b.length - 1 - f) 0) (g - x) with h | h
    · have h1 := (srt_lt b (g - x) (by omega)).1 h
      have h2 := countP_le_drop (fun y => decide (y < g - x)) b f
      have h3 : (b.drop f).countP (fun y => decide (y < g - x)) ≤ (a.drop f).countP (fun y => decide (y < g)) := by
        refine countP_near _ _ _ _ hdl.symm (fun i u v h1 h2 h3 => ?_)
        have := hnear i v u h2 h1
        simp only [decide_eq_true_eq] at *
        omega
      omega
    · exact h
  unfold midz
  omega

theorem srt_map_add (l : List Int) (d : Int) : srt (l.map (· + d)) = (srt l).map (· + d) := by
  refine List.Perm.eq_of_pairwise (le := (· ≤ ·)) (fun a b _ _ h1 h2 => Int.le_antisymm h1 h2) (srt_sorted _) ?_ ?_
  · exact List.pairwise_map.2 ((srt_sorted l).imp (fun h => by omega))
  · exact (srt_perm _).trans ((srt_perm l).symm.map _)
theorem srt_of_perm {a b : List Int} (h : a.Perm b) : srt a = srt b := by
  refine List.Perm.eq_of_pairwise (le := (· ≤ ·)) (fun a b _ _ h1 h2 => Int.le_antisymm h1 h2) (srt_sorted _) (srt_sorted _) ?_
  exact (srt_perm a).trans (h.trans (srt_perm b).symm)
theorem mid_moves (a : List Int) (f : Nat) (d : Int) (hf : 2 * f < a.length) : midz (a.map (· + d)).reverse f = midz a f + d := by
  unfold midz
  rw [srt_of_perm (List.reverse_perm _), srt_map_add, List.length_reverse, List.length_map]
  have g : ∀ k, k < a.length → ((srt a).map (· + d)).getD k 0 = (srt a).getD k 0 + d := fun k hk => by
    rw [List.getD_eq_getElem?_getD, List.getD_eq_getElem?_getD, List.getElem?_map, List.getElem?_eq_getElem (by rw [srt_len]; exact hk)]
    rfl
  rw [g _ (by omega), g _ (by omega)]
  omega

/-- The number that may stand in more than half: the walk's best, and its count. -/
def bstep (s : Int × Nat) (x : Int) : Int × Nat := if s.2 = 0 then (x, 1) else if x = s.1 then (s.1, s.2 + 1) else (s.1, s.2 - 1)
def bfold (l : List Int) : Int × Nat := l.foldl bstep (0, 0)
theorem bfold_snoc (l : List Int) (x : Int) : bfold (l ++ [x]) = bstep (bfold l) x := by simp [bfold]
theorem bstep_le (s : Int × Nat) (a : Int) : (bstep s a).2 ≤ s.2 + 1 := by
  unfold bstep
  split
  · simp
  · split <;> simp <;> omega
theorem bfold_le_ : ∀ (l : List Int) (s : Int × Nat), (l.foldl bstep s).2 ≤ s.2 + l.length
  | [], s => by simp
  | a :: l, s => by
    have := bfold_le_ l (bstep s a)
    have h2 := bstep_le s a
    simp only [List.foldl_cons, List.length_cons]
    omega
theorem bfold_le (l : List Int) : (bfold l).2 ≤ l.length := by have := bfold_le_ l (0, 0); simpa [bfold] using this
def pen (s : Int × Nat) (y : Int) : Nat := if s.1 = y then 0 else 2 * s.2
def one (a y : Int) : Nat := if a = y then 1 else 0
theorem pen_step (s : Int × Nat) (a y : Int) (c m : Nat) (h : 2 * c + pen s y ≤ m + s.2) : 2 * (c + one a y) + pen (bstep s a) y ≤ m + 1 + (bstep s a).2 := by
  obtain ⟨b, n⟩ := s
  unfold bstep pen one at *
  simp only at *
  by_cases hn : n = 0
  · subst hn
    rw [if_pos rfl]
    simp only at *
    by_cases hay : a = y
    · rw [if_pos hay, if_pos hay]; omega
    · rw [if_neg hay, if_neg hay]; omega
  · rw [if_neg hn]
    by_cases hab : a = b
    · subst hab
      rw [if_pos rfl]
      simp only
      by_cases hay : a = y
      · simp only [if_pos hay] at h ⊢; omega
      · simp only [if_neg hay] at h ⊢; omega
    · rw [if_neg hab]
      simp only
      by_cases hay : a = y
      · have hby : ¬ b = y := fun e => hab (hay.trans e.symm)
        rw [if_neg hby] at *; rw [if_pos hay]; omega
      · rw [if_neg hay]
        by_cases hby : b = y
        · rw [if_pos hby] at *; omega
        · rw [if_neg hby] at *; omega
theorem bfold_inv_ (y : Int) : ∀ (l : List Int) (c m : Nat) (s : Int × Nat), 2 * c + pen s y ≤ m + s.2 → 2 * (c + l.count y) + pen (l.foldl bstep s) y ≤ m + l.length + (l.foldl bstep s).2
  | [], c, m, s, h => by simpa using h
  | a :: l, c, m, s, h => by
    have hc : (a :: l).count y = one a y + l.count y := by
      unfold one
      rw [List.count_cons]
      by_cases hay : a = y
      · simp [hay]; omega
      · simp [hay]
    have key := bfold_inv_ y l (c + one a y) (m + 1) (bstep s a) (pen_step s a y c m h)
    rw [List.foldl_cons, hc, List.length_cons]
    omega
theorem bfold_inv (y : Int) (l : List Int) : 2 * l.count y + pen (bfold l) y ≤ l.length + (bfold l).2 := by
  have := bfold_inv_ y l 0 0 (0, 0) (by unfold pen; split <;> omega)
  simpa [bfold] using this
def mostz (l : List Int) : Option Int := if 2 * l.count (bfold l).1 ≤ l.length then none else some (bfold l).1
theorem most_of (l : List Int) (y : Int) (h : l.length < 2 * l.count y) : mostz l = some y := by
  have := bfold_inv y l
  have e : (bfold l).1 = y := by
    rcases Decidable.em ((bfold l).1 = y) with h1 | h1
    · exact h1
    · unfold pen at this
      rw [if_neg h1] at this; omega
  unfold mostz
  rw [e, if_neg (by omega)]
theorem most_none (l : List Int) (h : ∀ y, 2 * l.count y ≤ l.length) : mostz l = none := by
  unfold mostz
  rw [if_pos (h _)]
theorem most_some (l : List Int) (y : Int) (h : mostz l = some y) : l.length < 2 * l.count y := by
  unfold mostz at h
  split at h
  · cases h
  · injection h with h; subst h; omega
end Go.Proofs.Ytnmhfdkmiblknaa
