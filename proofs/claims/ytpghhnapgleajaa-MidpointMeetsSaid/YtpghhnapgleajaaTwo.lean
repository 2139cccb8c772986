/- Two lists that a law builds, each in memory of its own. No condition. -/
import Derived.Test.YtpghhnapgleajaaHolds
import Derived.Laws.MakeOwn
import Derived.Laws.OwnMore
set_option linter.unusedSimpArgs false
set_option linter.unusedVariables false
namespace Go.Proofs.Ytpghhnapgleajaa
open Go.RowKit Go.Maps

def Two (ka kb : Nat) (w : World) (va : Value) (xs : List Int) (vb : Value) (ys : List Int) (W : World) : Prop :=
  ∃ C, Fr (· ≠ 0) (fun _ => 0) C w W ∧ Fin C W ∧ Sl W C ka va 3 1 xs.length (xs.map (Value.int .i64)) ∧ Sl W C kb vb 3 1 ys.length (ys.map (Value.int .i64))
theorem Two.swap {ka kb : Nat} {w W : World} {va vb : Value} {xs ys : List Int} (h : Two ka kb w va xs vb ys W) : Two kb ka w vb ys va xs W := by
  obtain ⟨C, h1, h2, h3, h4⟩ := h
  exact ⟨C, h1, h2, h4, h3⟩
theorem Two.ints {ka kb : Nat} {w W : World} {va vb : Value} {xs ys : List Int} (h : Two ka kb w va xs vb ys W) : IsInts W (fun _ => 0) va xs := by
  obtain ⟨C, h1, h2, h3, h4⟩ := h
  exact h3.ints
theorem Two.old {ka kb : Nat} {w W : World} {va vb : Value} {xs ys : List Int} (h : Two ka kb w va xs vb ys W) : Below w.heap.size w W := by
  obtain ⟨C, h1, h2, h3, h4⟩ := h
  exact h1.below (fun b _ h => h rfl)
theorem Two.drew {ka kb : Nat} {w W : World} {va vb : Value} {xs ys : List Int} (h : Two ka kb w va xs vb ys W) : Two ka kb w va xs vb ys W.drew := by
  obtain ⟨C, h1, h2, h3, h4⟩ := h
  exact ⟨C, h1.drew, h2, h3, h4⟩
theorem Two.drewN {ka kb : Nat} {w W : World} {va vb : Value} {xs ys : List Int} (h : Two ka kb w va xs vb ys W) (n : Nat) : Two ka kb w va xs vb ys (W.drewN n) := by
  obtain ⟨C, h1, h2, h3, h4⟩ := h
  exact ⟨C, h1.drewN n, h2, h3.drewN n, h4.drewN n⟩
theorem Sl.block {w : World} {C : Nat → Nat} {k : Nat} {v : Value} {e : TypeId} {sz n b : Nat} {cs : List Value} (h : Sl w C k v e sz n cs) (hv : v.ownBlock = some b) : C b = k := by
  rcases h with ⟨rfl, _⟩ | ⟨b', hb, _, off, cap, cur, rfl, _⟩
  · simp [Value.ownBlock] at hv
  · simp [Value.ownBlock] at hv
    subst hv
    exact hb
theorem Two.set {ka kb : Nat} (hk : ka ≠ kb) (ha : ka ≠ 0) {w W : World} {b o n cap : Nat} {vb : Value} {xs ys : List Int} (h : Two ka kb w (.slice (some ⟨b, o, none⟩) n cap) xs vb ys W) (i : Nat) (hi : i < n) (x : Int) :
    Two ka kb w (.slice (some ⟨b, o, none⟩) n cap) (xs.set i x) vb ys (W.setCell ⟨b, o + i, none⟩ (.int .i64 x)) := by
  obtain ⟨C, hF, hfin, hS, hT⟩ := h
  have hC : C b = ka := hS.block (by simp [Value.ownBlock])
  have hge : w.heap.size ≤ b := by
    rcases Nat.lt_or_ge b w.heap.size with h | h
    · have := (hF.block b h (fun h => h rfl)).2
      rw [hC] at this
      exact absurd this ha
    · exact h
  obtain ⟨a', cap', hv, h1, h2, h3⟩ := hS.form
  injection hv with e1 e2 e3
  subst e2
  have hS' := hS.set i (by omega) (.int .i64 x)
  refine ⟨C, hF.setCell (.inl hge) _, fun y hy => hfin y (by rw [World.size_setCell] at hy; exact hy), ?_, hT.far (fun e => hk ((hT.block e ▸ hC).symm.trans (by rfl))) _⟩
  rw [List.length_set, List.map_set]
  exact hS'
theorem Two.start {w W : World} {b1 b2 n : Nat} (hW : Below w.heap.size w W) (hn : n ≤ 1000) (hne : b1 ≠ b2) (g1 : w.heap.size ≤ b1) (g2 : w.heap.size ≤ b2)
    (h1 : W.heap[b1]? = some (.cells (List.replicate n (Value.int .i64 0)).toArray 3 (0, 0))) (h2 : W.heap[b2]? = some (.cells (List.replicate n (Value.int .i64 0)).toArray 3 (0, 0))) :
    Two 7 8 w (.slice (some ⟨b1, 0, none⟩) n n) (List.replicate n 0) (.slice (some ⟨b2, 0, none⟩) n n) (List.replicate n 0) W := by
  have l1 : b1 < W.heap.size := (Array.getElem?_eq_some_iff.1 h1).1
  have l2 : b2 < W.heap.size := (Array.getElem?_eq_some_iff.1 h2).1
  have hfr : Fr (· ≠ 0) (fun _ => 0) (fun y => if y = b1 then 7 else if y = b2 then 8 else 0) w W := (Fr.of_below hW (· ≠ 0)).recolour (fun b hb _ => by rw [if_neg (by omega), if_neg (by omega)]) (fun b hb => by rw [if_neg (by omega), if_neg (by omega)])
  have hr : ∀ b, W.heap[b]? = some (.cells (List.replicate n (Value.int .i64 0)).toArray 3 (0, 0)) → Raw W (.slice (some ⟨b, 0, none⟩) n n) 3 1 n (List.replicate n (Value.int .i64 0)) b := fun b hb =>
    ⟨by simp, 0, n, _, rfl, Nat.le_refl _, by unfold maxLen; omega, hb, by simp, fun i x hx => by rw [Nat.zero_add, List.getElem?_toArray]; exact hx⟩
  refine ⟨_, hfr, hfr.Fin (fun _ _ => rfl), .inr ⟨b1, if_pos rfl, ?_⟩, .inr ⟨b2, (if_neg (Ne.symm hne)).trans (if_pos rfl), ?_⟩⟩
  · rw [List.length_replicate, List.map_replicate]
    exact hr b1 h1
  · rw [List.length_replicate, List.map_replicate]
    exact hr b2 h2

/-- make([]int, n) -/
theorem make_ints (n : Nat) (hn : n ≤ 1000) (W : World) : (Instr.makeSlice 22 (.int .i64 (n : Int)) (.int .i64 (n : Int))).run Try.prog W = .ok (.slice (some ⟨W.heap.size, 0, none⟩) n n) (W.alloc (.cells (List.replicate n (Value.int .i64 0)).toArray 3)) := by
  obtain ⟨i, hi, hz, hs, hb⟩ := info_parts info_int
  have hr := run_make (P := Try.prog) W 22 3 i (.int .i64 0) Try.underlying22 hi hz .i64 .i64 n n (by omega) (Int.le_refl _) (by rw [hb]; omega) (by omega)
  simp only [Int.toNat_natCast] at hr
  rw [hr, hs, Nat.mul_one, ← toList_madeCells_one, show (Value.int IntKind.i64 0).cells = #[.int .i64 0] from rfl]
end Go.Proofs.Ytpghhnapgleajaa
