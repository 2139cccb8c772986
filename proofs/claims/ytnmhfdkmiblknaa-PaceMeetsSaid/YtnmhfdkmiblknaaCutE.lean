/- midpoint.Cut and Middle. No condition but a list of moderate length. -/
import Derived.Test.YtnmhfdkmiblknaaIterE
import Derived.Outline
import Derived.Test.YtnmhfdkmiblknaaMidBits
import Derived.IntWalk
import Derived.BigQuiet
import Derived.Deep.QuietTactic
set_option linter.unusedSimpArgs false
set_option linter.unusedVariables false
namespace Go.Proofs.Ytnmhfdkmiblknaa
open Go.RowKit Go.Shelf Go.Sort Go.Maps

section
attribute [local go_sem] Oper.semAt_some

set_option maxHeartbeats 1000000 in
theorem collect_in (n : Nat) (hn : 4 ≤ n) (Bs b off cap : Nat) (xs : List Int) (hlen : xs.length ≤ 1000) (w : World) (hBs : Bs < w.heap.size)
    (hb : b < w.heap.size) (hcell : w.cell? ⟨Bs, 0, none⟩ = some (.slice (some ⟨b, off, none⟩) xs.length cap)) (hI : ∀ j, j < xs.length → w.cell? ⟨b, off + j, none⟩ = some (.int .i64 (xs[j]?.getD 0))) :
    CallsIn Fence.wide n Try.prog 62 #[.func (.func 64) #[] #[.pointer (some ⟨Bs, 0, none⟩)]] w fun e W' => ∃ v, e = .returned v ∧ W'.ownsRow w.heap.size 3 1 v xs.length (xs.map (Value.int .i64)) ∧ Below w.heap.size w W' := by
  have h1 : 1 ≤ n := by omega
  have hf : Fence.wide.fn 65 := trivial
  have c := appendSeq_in Fence.wide (n - 1) trivial trivial rfl (by omega) Bs b off cap xs hlen w hBs hb hcell hI
  refine callsIn_of_wp Try.func62 rfl trivial ?_ rfl
  simp only [Try.ntmps62, List.size_toArray, List.length_cons, List.length_nil, Nat.reduceAdd, Nat.reduceSub, Array.replicate_succ, Array.replicate_zero, List.push_toArray, List.append_toArray, List.nil_append, List.cons_append]
  gi_wp2_with (gi_at_call 65; refine c.mono ?_; rintro e w' ⟨v, rfl, hrow, hb⟩)
  go_ret
  exact ⟨v, rfl, hrow, hb⟩

theorem sort_calls (blk off cap : Nat) (zs : List Int) (w : World) (hH : Holds (Value.int .i64) w blk off zs.toArray) (hblk : blk < w.heap.size) (hsz : zs.length < 4611686018427387904) :
    Calls Try.prog 63 #[.slice (some ⟨blk, off, none⟩) zs.length cap] w fun e w' =>
      e = .returned (.tuple #[]) ∧ ∃ n os, w' = grow (putRow (Value.int .i64) (Sort.ahead w n) blk off (srt zs).toArray) os :=
  AnyM.slices_Sort_int sortA blk off cap zs w hH hblk hsz

set_option maxHeartbeats 1000000 in
theorem sorted_in (n : Nat) (hn : 5 ≤ n) (Bs b off cap : Nat) (xs : List Int) (hpos : 0 < xs.length) (hlen : xs.length ≤ 1000) (w : World) (hBs : Bs < w.heap.size)
    (hb : b < w.heap.size) (hcell : w.cell? ⟨Bs, 0, none⟩ = some (.slice (some ⟨b, off, none⟩) xs.length cap)) (hI : ∀ j, j < xs.length → w.cell? ⟨b, off + j, none⟩ = some (.int .i64 (xs[j]?.getD 0))) :
    CallsIn Fence.wide n Try.prog 58 #[.func (.func 64) #[] #[.pointer (some ⟨Bs, 0, none⟩)]] w fun e W' => ∃ v, e = .returned v ∧ W'.ownsRow w.heap.size 3 1 v xs.length ((srt xs).map (Value.int .i64)) ∧ Below w.heap.size w W' := by
  have h1 : 1 ≤ n := by omega
  have hf : Fence.wide.fn 62 := trivial
  have hf2 : Fence.wide.fn 63 := trivial
  have c := collect_in (n - 1) (by omega) Bs b off cap xs hlen w hBs hb hcell hI
  refine callsIn_of_wp Try.func58 rfl trivial ?_ rfl
  simp only [Try.ntmps58, List.size_toArray, List.length_cons, List.length_nil, Nat.reduceAdd, Nat.reduceSub, Array.replicate_succ, Array.replicate_zero, List.push_toArray, List.append_toArray, List.nil_append, List.cons_append]
  gi_wp2_with (gi_at_call 62; refine c.mono ?_; rintro e W ⟨v, rfl, hrow, hb⟩)
  rcases hrow.2 with ⟨rfl, hz⟩ | ⟨gb, cap', cur, rfl, hbase, hgb, r1, r2, r3, r4⟩
  · omega
  · have hH : Holds (Value.int .i64) W gb 0 xs.toArray := holds_of_blockI hgb (by simpa using r4)
    have hgl : gb < W.heap.size := (Array.getElem?_eq_some_iff.1 hgb).1
    have cS := callsIn_wide (n := n - 1).2 (sort_calls gb 0 cap' xs W hH hgl (by omega))
    gi_wp2_with (gi_at_call 63; refine cS.mono ?_; rintro e w' ⟨rfl, nn, os, rfl⟩)
    go_ret
    exact ⟨_, rfl, ownsRow_sortedI (by rw [srt_len]) hbase hgb r1 r2 r3, hb.grown (grownBy_sortedI _) hb.size (fun j hj => by cases hj; exact hbase)⟩
end

theorem sorted_calls (Bs b off cap : Nat) (xs : List Int) (hpos : 0 < xs.length) (hlen : xs.length ≤ 1000) (w : World) (hBs : Bs < w.heap.size)
    (hb : b < w.heap.size) (hcell : w.cell? ⟨Bs, 0, none⟩ = some (.slice (some ⟨b, off, none⟩) xs.length cap)) (hI : ∀ j, j < xs.length → w.cell? ⟨b, off + j, none⟩ = some (.int .i64 (xs[j]?.getD 0))) :
    Calls Try.prog 58 #[.func (.func 64) #[] #[.pointer (some ⟨Bs, 0, none⟩)]] w fun e W' => ∃ g c, e = .returned (.slice (some ⟨g, 0, none⟩) xs.length c) ∧ xs.length ≤ c ∧ w.heap.size ≤ g ∧ g < W'.heap.size ∧ (∀ j, j < xs.length → W'.cell? ⟨g, j, none⟩ = some (.int .i64 ((srt xs).getD j 0))) ∧ c ≤ maxLen ∧ Below w.heap.size w W' := by
  refine (callsIn_wide.1 (sorted_in 6 (by omega) Bs b off cap xs hpos hlen w hBs hb hcell hI)).mono ?_
  rintro e W' ⟨v, rfl, hrow, hbel⟩
  rcases hrow.2 with ⟨rfl, hz⟩ | ⟨g, c, cur, rfl, hbase, hg, r1, r2, r3, r4⟩
  · omega
  · refine ⟨g, c, rfl, r1, hbase, (Array.getElem?_eq_some_iff.1 hg).1, fun j hj => ?_, r2, hbel⟩
    have h1 : (cur.toList.take (xs.length * 1))[j]? = ((srt xs).map (Value.int .i64))[j]? := by rw [r4]
    rw [List.getElem?_take, if_pos (by omega), List.getElem?_map, List.getElem?_eq_getElem (l := srt xs) (by rw [srt_len]; exact hj)] at h1
    simp only [World.cell?, hg]
    rw [← Array.getElem?_toList, h1, List.getD_eq_getElem?_getD, List.getElem?_eq_getElem (l := srt xs) (by rw [srt_len]; exact hj)]
    rfl

set_option maxHeartbeats 1000000 in
theorem values_calls (a : Option Addr) (len cap : Nat) (w : World) :
    Calls Try.prog 59 #[.slice a len cap] w fun e w' => e = .returned (.func (.func 64) #[] #[.pointer (some ⟨w.heap.size, 0, none⟩)]) ∧ w' = w.alloc (.cells #[.slice a len cap] 27) := by
  go_enter Try.func59, Try.ntmps59
  go_wp2
  go_ret
  exact ⟨rfl, rfl⟩

theorem info_int' : (Try.prog.info? 3).map (fun i => (i.zero.map (·.cells.size), i.size, i.bytes)) = some (some 1, 1, 8) := by kernel_rfl

set_option maxRecDepth 100000 in
set_option maxHeartbeats 1000000 in
theorem clone_ints (C : Nat → Nat) (v : Value) (xs : List Int) (w : World) (hf : Fin C w) (h : IsInts w C v xs) (hne : 0 < xs.length) (hd : xs.length ≤ 1000) :
    Calls Try.prog 60 #[v] w fun e w' => ∃ v', e = .returned v' ∧ IsInts w' C v' xs ∧ Below w.heap.size w w' := by
  obtain ⟨a, cap, rfl, -⟩ := h.form
  obtain ⟨b, off, rfl, -⟩ := h.at hne
  have q1 := fun w => Lib.run_eql_slice_nil (P := Try.prog) w 27 3 (some ⟨b, off, none⟩) xs.length cap 0 0 Try.underlying27
  obtain ⟨b1, o1, p1, W1, hr1, hR1, hb1, hge1, hraw1⟩ := copy_of (P := Try.prog) w hf Try.underlying27 info_int' h.src (by unfold maxLen; omega) (by omega)
  have HR := hid_ hr1
  clear hr1
  go_enter Try.func60, Try.ntmps60
  go_wp2_with (refine wpList_append_run HR.out (by rfl) (by rfl) (by rfl) (by rfl) ?_)
  go_ret
  exact ⟨_, rfl, hR1, hb1⟩

/-- What Cut refuses. -/
def CutNo (xs : List Int) (f : Int) : Prop := xs.length = 0 ∨ f < 0 ∨ ((xs.length : Int) - 1) / 2 < f
instance (xs : List Int) (f : Int) : Decidable (CutNo xs f) := by unfold CutNo; infer_instance

set_option maxRecDepth 100000 in
set_option maxHeartbeats 1000000 in
theorem cut_no (C : Nat → Nat) (xs : List Int) (f : Int) (v : Value) (w : World) (h : IsInts w C v xs) (hl : xs.length ≤ 1000) (hno : CutNo xs f) :
    Calls Try.prog 53 #[v, .int .i64 f] w fun e w' => e = .returned (.tuple #[.slice none 0 0, .iface 63 (.int .i64 2)]) ∧ w' = w := by
  obtain ⟨a, cap, rfl, h1, h2⟩ := id h.form
  unfold maxLen at h2
  by_cases h0 : xs.length = 0
  · have e0 : ((xs.length : Int) == 0) = true := by simp [h0]
    go_enter Try.func53, Try.ntmps53
    go_wp2
    go_ret2
    exact ⟨rfl, rfl⟩
  · have e0 : ((xs.length : Int) == 0) = false := beq_eq_false_iff_ne.2 (by omega)
    by_cases hf0 : f < 0
    · go_enter Try.func53, Try.ntmps53
      go_wp2
      go_ret2
      exact ⟨rfl, rfl⟩
    · have hgt : ((xs.length : Int) - 1) / 2 < f := by unfold CutNo at hno; omega
      have hnn : (0 : Int) ≤ (xs.length : Int) - 1 := by omega
      go_enter Try.func53, Try.ntmps53
      go_wp2
      go_ret2
      exact ⟨rfl, rfl⟩

set_option maxRecDepth 100000 in
set_option maxHeartbeats 1000000 in
theorem cut_yes (C : Nat → Nat) (xs : List Int) (f : Nat) (v : Value) (w : World) (hf : Fin C w) (h : IsInts w C v xs) (hl : xs.length ≤ 1000) (hf2 : 2 * f < xs.length) :
    Calls Try.prog 53 #[v, .int .i64 (f : Int)] w fun e w' => ∃ v', e = .returned (.tuple #[v', .nilIface]) ∧ IsInts w' C v' (cutz xs f) ∧ Below w.heap.size w w' := by
  obtain ⟨a, cap, rfl, h1, h2⟩ := id h.form
  unfold maxLen at h2
  obtain ⟨b, off, rfl, hb0, hlt, hc⟩ : ∃ b off, a = some ⟨b, off, none⟩ ∧ C b = 0 ∧ b < w.heap.size ∧ ∀ j, j < xs.length → w.cell? ⟨b, off + j, none⟩ = some (.int .i64 (xs[j]?.getD 0)) := by
    obtain ⟨a', cap', hv, _, _, _, h4⟩ := h
    injection hv with e1 _ _
    subst e1
    obtain ⟨b, off, rfl, hC, hlt, hc⟩ := h4 (by omega)
    exact ⟨b, off, rfl, hC, hlt, fun j hj => hc j _ (by rw [List.getElem?_map, List.getElem?_eq_getElem hj]; rfl)⟩
  have e0 : ((xs.length : Int) == 0) = false := beq_eq_false_iff_ne.2 (by omega)
  have ef : (0 : Int) ≤ (f : Int) := Int.natCast_nonneg _
  have hnn : (0 : Int) ≤ (xs.length : Int) - 1 := by omega
  have hle : (f : Int) ≤ ((xs.length : Int) - 1) / 2 := by omega
  have hlt' := World.block_lt_of_cell? w _ (hc 0 (by omega))
  have HC := hid_ hc
  clear hc
  go_enter Try.func53, Try.ntmps53
  go_wp2_with fail
  refine (values_calls _ _ _ _).mono ?_
  rintro e w1 ⟨rfl, rfl⟩
  go_wp2_with fail
  have hB := (Below.refl w.heap.size w).alloc (Nat.le_refl _) (.cells #[.slice (some ⟨b, off, none⟩) xs.length cap] 27)
  refine (sorted_calls w.heap.size b off cap xs (by omega) hl _ (by simp) (by simp; omega) ?_ (fun j hj => (hB.cell (p := ⟨b, off + j, none⟩) hlt).trans (HC.out j hj))).mono ?_
  · exact (Bk.new w 27 [.slice (some ⟨b, off, none⟩) xs.length cap]).cell_ 0 rfl
  rintro e w2 ⟨g, c, rfl, hcl, hgb, hgl, hcs, hcm, hbel⟩
  have hbel2 := below_then hB hbel
  have hC0 : C g = 0 := hf g (by simp at hgb; omega)
  have hsub : (f : Int) ≤ (xs.length : Int) - (f : Int) := by omega
  have hsub2 : (xs.length : Int) - (f : Int) ≤ (c : Int) := by omega
  unfold maxLen at hcm
  have hcl' : (cutz xs f).length = xs.length - 2 * f := cutz_len xs f (by omega)
  have hint : IsInts w2 C (.slice (some ⟨g, f, none⟩) (xs.length - f - f) (c - f)) (cutz xs f) := by
    refine ⟨_, _, by rw [hcl', show xs.length - 2 * f = xs.length - f - f by omega], by omega, by unfold maxLen; omega, by simp, fun hn => ⟨g, f, rfl, hC0, hgl, fun i x hx => ?_⟩⟩
    have hi : i < xs.length - 2 * f := by
      have := (List.getElem?_eq_some_iff.1 hx).1
      rw [List.length_map, hcl'] at this
      exact this
    have e1 := hcs (f + i) (by omega)
    rw [e1]
    rw [List.getElem?_map] at hx
    have e2 := cutz_getD xs f i hi
    rw [List.getD_eq_getElem?_getD, List.getElem?_eq_getElem (by rw [hcl']; exact hi)] at e2
    rw [List.getElem?_eq_getElem (by rw [hcl']; exact hi)] at hx
    simp only [Option.map_some, Option.some.injEq, Option.getD_some] at hx e2
    rw [← hx, e2]
  clear HC hcs
  go_wp2_with fail
  refine (clone_ints C _ (cutz xs f) w2 ((Fr.of_below hbel2 (fun _ => False)).Fin hf) hint (by omega) (by omega)).mono ?_
  rintro e w3 ⟨v', rfl, hi3, hb3⟩
  go_wp2
  go_ret2
  exact ⟨_, rfl, hi3, below_then hbel2 hb3⟩

set_option maxRecDepth 100000 in
set_option maxHeartbeats 1000000 in
theorem mid_no (C : Nat → Nat) (xs : List Int) (f : Int) (v : Value) (w : World) (h : IsInts w C v xs) (hl : xs.length ≤ 1000) (hno : CutNo xs f) :
    Calls Try.prog 41 #[v, .int .i64 f] w fun e w' => e = .returned (.tuple #[.int .i64 0, .iface 63 (.int .i64 2)]) ∧ w' = w := by
  obtain ⟨a, cap, rfl, h1, h2⟩ := id h.form
  go_enter Try.func41, Try.ntmps41
  go_wp2_with fail
  refine (cut_no C xs f _ w h hl hno).mono ?_
  rintro e w1 ⟨rfl, rfl⟩
  go_wp2
  go_ret2
  exact ⟨rfl, rfl⟩

set_option maxRecDepth 100000 in
set_option maxHeartbeats 1000000 in
theorem mid_yes (C : Nat → Nat) (xs : List Int) (hx : ∀ x ∈ xs, Z64 x) (f : Nat) (v : Value) (w : World) (hf : Fin C w) (h : IsInts w C v xs) (hl : xs.length ≤ 1000) (hf2 : 2 * f < xs.length) :
    Calls Try.prog 41 #[v, .int .i64 (f : Int)] w fun e w' => e = .returned (.tuple #[.int .i64 (midz xs f), .nilIface]) ∧ Below w.heap.size w w' := by
  obtain ⟨a, cap, rfl, h1, h2⟩ := id h.form
  go_enter Try.func41, Try.ntmps41
  go_wp2_with fail
  refine (cut_yes C xs f _ w hf h hl hf2).mono ?_
  rintro e w1 ⟨v', rfl, hi, hb⟩
  have hcl : (cutz xs f).length = xs.length - 2 * f := cutz_len xs f (by omega)
  obtain ⟨a', c', rfl, h3, h4⟩ := id hi.form
  unfold maxLen at h4
  obtain ⟨b, off, rfl, hc⟩ := hi.at (i := 0) (by omega)
  have c0 := hc 0 (by omega)
  have c1 := hc (xs.length - 2 * f - 1) (by omega)
  rw [cutz_getD xs f _ (by omega)] at c0 c1
  rw [show f + (xs.length - 2 * f - 1) = xs.length - 1 - f by omega] at c1
  rw [hcl] at *
  clear hc
  have hm : midz xs f = ((srt xs).getD f 0 + (srt xs).getD (xs.length - 1 - f) 0) / 2 := rfl
  have HM := hid_ hm
  clear hm
  rw [Nat.add_zero] at c0
  have zA := srt_getD_Z hx (k := f) (by omega)
  have zB := srt_getD_Z hx (k := xs.length - 1 - f) (by omega)
  generalize (srt xs).getD f 0 = A at *
  generalize (srt xs).getD (xs.length - 1 - f) 0 = B at *
  obtain ⟨a0, a1⟩ := zA
  obtain ⟨b0, b1⟩ := zB
  clear hcl
  obtain ⟨n, hn⟩ : ∃ n, n = xs.length - 2 * f := ⟨_, rfl⟩
  have hn1 : 1 ≤ n := by omega
  have hn2 : n ≤ 1000 := by omega
  have c1' : w1.cell? ⟨b, off + (n - 1), none⟩ = some (.int .i64 B) := by rw [hn]; exact c1
  rw [← hn]
  clear hn hf2 hi h hl c1
  have n1 : (0 : Int) ≤ (n : Int) - 1 := by omega
  have n2 : (n : Int) - 1 < (n : Int) := by omega
  have n3 : ((n : Int) - 1).toNat = n - 1 := by omega
  have n4 : (1 : Int) ≤ (n : Int) := by omega
  have n5 : 0 < n := by omega
  have n6 : IntKind.i64.wrap ((n : Int) - 1) = (n : Int) - 1 := IntWalk.i64_in _ (by omega)
  go_wp2_with fail
  go_quiet (fail)
  clear n3 n6
  have HMB := hid_ (mid_half A B)
  go_wp2_with fail
  go_ret2
  refine ⟨?_, ⟨hb.os, hb.tape, hb.output, hb.size, hb.block⟩⟩
  rw [HM.out, HMB.out, show wrap64 ((A + B) / 2) = (A + B) / 2 by unfold wrap64; omega]
  rfl
end Go.Proofs.Ytnmhfdkmiblknaa
