/- MidpointMost: the walk. No condition. -/
import Derived.Test.YtpghhnapgleajaaParts
import Derived.Deep.RegionHeld3
import Derived.Deep.RegionLaw
import Derived.Deep.DrawnRows
set_option linter.unusedSimpArgs false
set_option linter.unusedVariables false
namespace Go.Proofs.Ytpghhnapgleajaa
open Go.RowKit Go.Maps

theorem rot_count (l : List Int) (k : Nat) (x : Int) : (l.drop k ++ l.take k).count x = l.count x := by
  rw [List.count_append, Nat.add_comm, ← List.count_append, List.take_append_drop]
theorem most_rot (l : List Int) (x : Int) (k : Nat) : mostz ((l ++ List.replicate (l.length + 1) x).drop k ++ (l ++ List.replicate (l.length + 1) x).take k) = some x := by
  refine most_of _ x ?_
  rw [rot_count, List.count_append, List.count_replicate_self]
  have h1 : ((l ++ List.replicate (l.length + 1) x).drop k ++ (l ++ List.replicate (l.length + 1) x).take k).length = l.length + (l.length + 1) := by
    rw [List.length_append, Nat.add_comm, ← List.length_append, List.take_append_drop, List.length_append, List.length_replicate]
  omega

/-- A list that a law builds: a slice of colour 7. -/
def Bld (w : World) (v : Value) (xs : List Int) (W : World) : Prop := ∃ C, Fr (· ≠ 0) (fun _ => 0) C w W ∧ Fin C W ∧ Sl W C 7 v 3 1 xs.length (xs.map (Value.int .i64))

theorem Sl.ints {w : World} {C : Nat → Nat} {k : Nat} {v : Value} {xs : List Int} (h : Sl w C k v 3 1 xs.length (xs.map (Value.int .i64))) : IsInts w (fun _ => 0) v xs := by
  obtain ⟨a, cap, rfl, h1, h2, h3⟩ := h.form
  exact ⟨a, cap, rfl, h1, h2, h3, fun hn => by
    obtain ⟨b, off, h4, h5, h6, h7⟩ := h.at hn
    exact ⟨b, off, h4, rfl, h6, h7⟩⟩
/-- Two pieces behind one another, in new memory. -/
theorem two_pieces {W : World} {x1 x2 : Value} {m1 m2 : Nat} {n1 n2 : List Int} (e1 : m1 = n1.length) (e2 : m2 = n2.length) (h1 : Src W x1 1 m1 (n1.map (Value.int .i64))) (h2 : Src W x2 1 m2 (n2.map (Value.int .i64))) (hl : n1.length + n2.length ≤ 1000) :
    ∃ v1 W1 v2 W2, (Builtin.append_ #[22, 22] 0 #[.slice (some ⟨W.heap.size, 0, none⟩) 0 0, x1]).run Try.prog (W.alloc (.cells #[] 3)) = .ok v1 W1 ∧ v1.oneCell' = true ∧
      (Builtin.append_ #[22, 22] 0 #[v1, x2]).run Try.prog W1 = .ok v2 W2 ∧ v2.oneCell' = true ∧ Below W.heap.size W W2 ∧ IsInts W2 (fun _ => 0) v2 (n1 ++ n2) := by
  subst e1 e2
  obtain ⟨b, off, cap, W1, hr1, -, hb1, hge, hraw⟩ := copy_of (P := Try.prog) (C := fun _ => 0) W (fun _ _ => rfl) Try.underlying22 info_int' h1 (by unfold maxLen; omega) (by omega)
  obtain ⟨i1, z1, hi1, hz1, hzs1, his1, hby1⟩ := info_row (P := Try.prog) (e := 3) (size := 1) (bytes := 8) info_int'
  have hS : Sl W1 (fun y => if y = b then 7 else 0) 7 (.slice (some ⟨b, off, none⟩) n1.length cap) 3 1 n1.length (n1.map (Value.int .i64)) := .inr ⟨b, if_pos rfl, hraw⟩
  obtain ⟨v2, W2, C2, hr2, hS2, hF2, ho2, _⟩ := Sl.append (P := Try.prog) (t := 22) 0 Try.underlying22 hi1 his1 hz1 hzs1 hS (h2.same (fun a v h => grown_cell hb1 h)) (fun u hu => by obtain ⟨y, _, rfl⟩ := List.mem_map.1 hu; rfl) (by unfold maxLen; omega) (by rw [hby1]; omega)
  refine ⟨_, W1, v2, W2, hr1, rfl, hr2, ho2, ?_, ?_⟩
  · refine hb1.trans ⟨hF2.os, hF2.tape, hF2.output, hF2.size, fun y hy => (hF2.block y (Nat.lt_of_lt_of_le hy hb1.size) (fun hh => ?_)).1⟩
    rw [if_neg (by omega)] at hh
    omega
  · rw [← List.length_append, ← List.map_append] at hS2
    exact hS2.ints
theorem Bld.push {w W : World} {v : Value} {xs : List Int} (x : Int) (h : Bld w v xs W) (hl : xs.length < 1000) :
    ∃ v' W', (Builtin.append_ #[22, 22] 0 #[v, .slice (some ⟨W.heap.size, 0, none⟩) 1 1]).run Try.prog (W.alloc (.cells #[.int .i64 x] 3)) = .ok v' W' ∧ Bld w v' (xs ++ [x]) W' ∧ v'.oneCell' = true := by
  obtain ⟨C, hF, hfin, hS⟩ := h
  obtain ⟨i1, z1, hi1, hz1, hzs1, his1, hby1⟩ := info_row (P := Try.prog) (e := 3) (size := 1) (bytes := 8) info_int'
  obtain ⟨v', w', C', hr, h1, h2, h3, _⟩ := Sl.append (P := Try.prog) (t := 22) 0 Try.underlying22 hi1 his1 hz1 hzs1 (hS.alloc (.cells #[.int .i64 x] 3)) (Src.new W 3 1 1 1 [.int .i64 x] rfl) (by simp [Value.oneCell']) (by unfold maxLen; omega) (by rw [hby1]; omega)
  refine ⟨v', w', hr, ⟨C', (hF.trans (((Fr.refl (· ≠ 0) C W).alloc (.cells #[.int .i64 x] 3)).trans (h2.mono (fun y hy => by omega)))), h2.Fin (((Fr.refl (· ≠ 0) C W).alloc _).Fin hfin), ?_⟩, h3⟩
  rw [List.length_append, List.map_append]
  exact h1

set_option maxRecDepth 100000 in
set_option maxHeartbeats 4000000 in
theorem mostlaw_walk (x : Int) (hx : Z64 x) (l : List Int) (hl : ∀ x ∈ l, Z64 x) (lv : Value) (f0 : Int) (hf0 : Z64 f0) (w : World) (h : IsInts w (fun _ => 0) lv l) :
    Calls Try.prog 7 #[.int .i64 x, lv, .int .i64 f0] w fun e w' => e = .returned (.bool true) ∧ Below w.heap.size w w' := by
  obtain ⟨a, cap, rfl, hc1, hc2⟩ := h.form
  unfold maxLen at hc2
  go_enter Try.func7, Try.ntmps7
  go_wp2_with fail
  refine (awake10 _).mono ?_
  rintro e w1 ⟨rfl, V1⟩
  by_cases h2 : (100 : Int) < (l.length : Int)
  · go_wp2
    go_ret
    exact ⟨rfl, V1⟩
  have h1 := h.below V1
  have hl100 : l.length ≤ 100 := by omega
  obtain ⟨b1, o1, p1, W1, hr1, hi1, hb1, hge1, hraw1⟩ := copy_ints w1 h1 (by omega)
  have HR1 := hid_ hr1
  have B0 : Bld w (.slice (some ⟨b1, o1, none⟩) l.length p1) l W1 := by
    have hw1 : w.heap.size ≤ b1 := Nat.le_trans V1.size hge1
    have hfr : Fr (· ≠ 0) (fun _ => 0) (fun y => if y = b1 then 7 else 0) w W1 := (Fr.of_below (below_then V1 hb1) (· ≠ 0)).recolour (fun b hb _ => if_neg (by omega)) (fun b hb => if_neg (by have := hraw1.lt; omega))
    exact ⟨_, hfr, hfr.Fin (fun _ _ => rfl), .inr ⟨b1, by simp, hraw1⟩⟩
  have HB0 := hid_ B0
  clear hr1 hi1 hraw1 B0 h1 h V1 hb1
  go_upto_block 1 with (refine wpList_append_run HR1.out (by rfl) (by rfl) (by rfl) (by rfl) ?_)
  clear HR1
  go_loopw [7, 21] (fun v i wr => ∃ k : Nat, k ≤ l.length + 1 ∧ i = .int .i64 k ∧ Bld w v (l ++ List.replicate k x) wr) (fun _ i _ => l.length + 1 - (intOf i).toNat)
  case atStart => exact ⟨0, Nat.zero_le _, rfl, by simpa using HB0.out⟩
  case round =>
    obtain ⟨k, hk, rfl, hB⟩ := hrel
    clear HB0
    by_cases hlt : k < l.length + 1
    · obtain ⟨v', W', hr, hB', ho⟩ := hB.push x (by rw [List.length_append, List.length_replicate]; omega)
      rw [List.append_assoc, ← List.replicate_succ'] at hB'
      have HR := hid_ hr
      have HB := hid_ hB'
      clear hr hB' hB
      have hlt2 : (k : Int) < (l.length : Int) + 1 := by omega
      go_wp2_with (refine wpList_append_run HR.out (by rfl) (by rfl) (by rfl) (by rfl) ?_)
      clear HR
      go_roundw
      case rel => exact ⟨k + 1, by omega, by go_num, HB.out⟩
      case measure => simp [intOf]; omega
    · obtain rfl : k = l.length + 1 := by omega
      have hm := fun j => most_rot l x j
      have hn : (l ++ List.replicate (l.length + 1) x).length = 2 * l.length + 1 := by rw [List.length_append, List.length_replicate]; omega
      generalize l ++ List.replicate (l.length + 1) x = all at *
      obtain ⟨C, hF, hfin, hS⟩ := hB
      obtain ⟨sa, sc, rfl, hsc, hsm, -⟩ := id hS.form
      obtain ⟨sb, so, rfl, -, hsb, hcell⟩ := hS.at (by omega)
      have HM := hid_ hm
      have HS := hid_ hS
      have HN := hid_ hn
      have hn1 : 1 ≤ all.length := by omega
      have hn2 : all.length ≤ 201 := by omega
      unfold maxLen at hsm
      clear hm hn hlt hk
      go_upto_region 11 with (fail)
      obtain ⟨F, hF', hFm⟩ := rem_nat f0 (all.length : Int) (by omega) (by omega)
      rw [hF']
      clear hF'
      have f1 : (0 : Int) ≤ (F : Int) := Int.natCast_nonneg _
      have f2 : (F : Int) ≤ (all.length : Int) := by omega
      have f3 : F ≤ all.length := by omega
      have hFs : F < sc := by omega
      have f4 : (F : Int) ≤ (sc : Int) := by omega
      have f5 : (all.length : Int) ≤ (sc : Int) := by omega
      have sA : Src wr.drew (.slice (some ⟨sb, so + F, none⟩) (all.length - F) (sc - F)) 1 (all.length - F) ((all.drop F).map (Value.int .i64)) :=
        ⟨_, _, rfl, by simp, fun _ => ⟨_, rfl, fun j u hu => by
          rw [addr_add]
          have := hcell (F + j) u (by rw [List.getElem?_map] at hu ⊢; rwa [List.getElem?_drop] at hu)
          rw [Nat.add_assoc]
          exact this⟩⟩
      have sB : Src wr.drew (.slice (some ⟨sb, so, none⟩) F sc) 1 F ((all.take F).map (Value.int .i64)) :=
        ⟨_, _, rfl, by simp; omega, fun _ => ⟨_, rfl, fun j u hu => by
          rw [addr_add]
          have hjF : j < F := by
            have := (List.getElem?_eq_some_iff.1 hu).1
            simp at this; omega
          exact hcell j u (by rw [List.getElem?_map] at hu ⊢; rwa [List.getElem?_take, if_pos hjF] at hu)⟩⟩
      obtain ⟨v1, W1, v2, W2, hr1, ho1, hr2, ho2, hb2, hi2⟩ := two_pieces (by simp) (by simp; omega) sA sB (by simp; omega)
      have HR1 := hid_ hr1
      have HR2 := hid_ hr2
      clear sA sB hcell hr1 hr2 hS
      have hne : ¬ sc = F := by omega
      go_region_held3 (fun _ => True) (trivial) (first | (refine step_append_run HR1.out (by rfl) (by rfl) (by rfl) (by rfl) ?_) | (refine step_append_run HR2.out (by rfl) (by rfl) (by rfl) (by rfl) ?_))
      clear HR1 HR2
      have hlen : (all.drop F ++ all.take F).length ≤ 1000 := by simp; omega
      go_wp2_with fail
      refine (most_any (fun _ => 0) (all.drop F ++ all.take F) _ _ hi2 hlen).mono ?_
      rintro e w5 ⟨rfl, rfl⟩
      rw [HM.out F]
      have hfin2 := (hF.trans (((Fr.refl (· ≠ 0) C wr).drew).trans (Fr.of_below hb2 (· ≠ 0)))).below (fun b _ h => h rfl)
      clear hi2 hb2 HM HS HN
      go_wp2_with fail
      go_ret
      exact ⟨rfl, hfin2⟩
end Go.Proofs.Ytpghhnapgleajaa
