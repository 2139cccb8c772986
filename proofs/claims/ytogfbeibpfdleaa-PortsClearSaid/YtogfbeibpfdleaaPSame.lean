/- escapementref04.SameMessages of the same messages. No condition. -/
import Derived.Test.YtogfbeibpfdleaaPCopied
set_option linter.unusedSimpArgs false
set_option linter.unusedVariables false
namespace Go.Proofs.Ytogfbeibpfdleaa
open Go.RowKit Go.Maps

theorem RdK.below {w w' : World} {C : Nat → Nat} {k : Nat} {v : Value} {sz n : Nat} {cs : List Value} (h : RdK w C k v sz n cs) (V : Below w.heap.size w w') : RdK w' C k v sz n cs := by
  obtain ⟨a, c, h1, h2, h3, h4, h5⟩ := h
  refine ⟨a, c, h1, h2, h3, h4, fun hn => ?_⟩
  obtain ⟨b, off, ha, hC, hl, hc⟩ := h5 hn
  exact ⟨b, off, ha, hC, Nat.lt_of_lt_of_le hl V.size, fun i x hx => (World.cell?_of_block (a := ⟨b, off + i, none⟩) (V.block b hl)).trans (hc i x hx)⟩

set_option maxRecDepth 100000 in
set_option maxHeartbeats 8000000 in
theorem sameMsgs (C : Nat → Nat) (k1 k2 : Nat) (v1 v2 : Value) (cs1 cs2 : List Value) (ms : List Msg) (w : World) (h1 : RdK w C k1 v1 2 ms.length cs1) (h2 : RdK w C k2 v2 2 ms.length cs2) (m1 : IsMsgs w C cs1 ms) (m2 : IsMsgs w C cs2 ms) (hml : ms.length ≤ 10000) :
    Calls Try.prog 24 #[v1, v2] w fun e w' => e = .returned (.bool true) ∧ Below w.heap.size w w' := by
  obtain ⟨a1, c1, rfl, hc1, hm1, -⟩ := id h1
  obtain ⟨a2, c2, rfl, hc2, hm2, -⟩ := id h2
  have H1 := hid_ h1
  have H2 := hid_ h2
  have M1 := hid_ m1
  have M2 := hid_ m2
  clear h1 h2 m1 m2
  go_enter Try.func24, Try.ntmps24
  go_upto_block 1 with (fail)
  go_loopw [5] (fun iv wr => ∃ i : Nat, i ≤ ms.length ∧ iv = .int .i64 i ∧ Below w.heap.size w wr) (fun iv _ => ms.length - (intOf iv).toNat)
  case atStart => exact ⟨0, Nat.zero_le _, rfl, Below.refl _ _⟩
  case round =>
    obtain ⟨i, hi, rfl, V⟩ := hrel
    by_cases hlt : i < ms.length
    · have i0 : (0 : Int) ≤ (i : Int) := Int.natCast_nonneg _
      have i1 : (i : Int) < (ms.length : Int) := by omega
      have G := Fr.of_below (C := C) V (fun _ => False)
      obtain ⟨x1, p10, p11, b1, -⟩ := (M1.out.fr G (fun h => h)).get hlt
      obtain ⟨x2, p20, p21, b2, -⟩ := (M2.out.fr G (fun h => h)).get hlt
      generalize ms.getD i default = m at *
      obtain ⟨mp, md⟩ := m
      obtain ⟨_, _, e1, -, -, -, q1⟩ := H1.out.below V
      obtain ⟨_, _, e2, -, -, -, q2⟩ := H2.out.below V
      obtain ⟨bb1, o1, ha1, -, -, hc1⟩ := q1 (by omega)
      obtain ⟨bb2, o2, ha2, -, -, hc2⟩ := q2 (by omega)
      obtain rfl : a1 = some ⟨bb1, o1, none⟩ := by injection e1 with e1 _ _; exact e1.trans ha1
      obtain rfl : a2 = some ⟨bb2, o2, none⟩ := by injection e2 with e2 _ _; exact e2.trans ha2
      have f10 := hc1 _ _ p10
      have f11 := hc1 _ _ p11
      have f20 := hc2 _ _ p20
      have f21 := hc2 _ _ p21
      rw [← Nat.add_assoc] at f11 f21
      simp only at f10 f20 b1 b2
      have s1 := bytes_str b1
      have s2 := bytes_str b2
      have t1 : ∀ n, (convert 40 9 x1).run Try.prog (wr.drewN n) = .ok (.string ⟨md.toArray⟩) (wr.drewN n) := fun n => bytes_str (C := C) (show IsBytes (wr.drewN n) C x1 md from b1)
      have t2 : ∀ n, (convert 40 9 x2).run Try.prog (wr.drewN n) = .ok (.string ⟨md.toArray⟩) (wr.drewN n) := fun n => bytes_str (C := C) (show IsBytes (wr.drewN n) C x2 md from b2)
      obtain ⟨y1, z1, rfl, -⟩ := id b1
      obtain ⟨y2, z2, rfl, -⟩ := id b2
      clear hc1 hc2 p10 p11 p20 p21 b1 b2 q1 q2 G e1 e2 ha1 ha2
      go_upto_region 6 with (fail)
      go_quiet (fail)
      all_goals
        try go_wp2_with fail
        go_roundw
        case rel => exact ⟨i + 1, by omega, by go_num, below_drewN V _⟩
        case measure => simp [intOf]; omega
    · obtain rfl : i = ms.length := by omega
      go_wp2
      go_ret
      exact ⟨rfl, V⟩
end Go.Proofs.Ytogfbeibpfdleaa
