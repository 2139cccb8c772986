/- Package pace: New. No condition but that the tables work and moderate times. -/
import Derived.Test.YtnmhfdkmiblknaaPace3
import Derived.Test.YtnmhfdkmiblknaaTail
import Derived.Deep.RegionLaw
import Derived.Deep.RegionHeld3
set_option linter.unusedSimpArgs false
set_option linter.unusedVariables false
namespace Go.Proofs.Ytnmhfdkmiblknaa
open Go.RowKit Go.Maps

theorem mk_marks (k : Nat) (hk : k ≤ 7) (w : World) : (Instr.makeSlice 67 (.int .i64 k) (.int .i64 k)).run Try.prog w = .ok (.slice (some ⟨w.heap.size, 0, none⟩) k k) (w.alloc (.cells ((List.replicate k false).map Value.bool).toArray 4)) := by
  rcases (by omega : k = 0 ∨ k = 1 ∨ k = 2 ∨ k = 3 ∨ k = 4 ∨ k = 5 ∨ k = 6 ∨ k = 7) with rfl | rfl | rfl | rfl | rfl | rfl | rfl | rfl <;> kernel_rfl
theorem mk_devs (k : Nat) (hk : k ≤ 7) (w : World) : (Instr.makeSlice 27 (.int .i64 k) (.int .i64 k)).run Try.prog w = .ok (.slice (some ⟨w.heap.size, 0, none⟩) k k) (w.alloc (.cells ((List.replicate k (0 : Int)).map (Value.int .i64)).toArray 3)) := by
  rcases (by omega : k = 0 ∨ k = 1 ∨ k = 2 ∨ k = 3 ∨ k = 4 ∨ k = 5 ∨ k = 6 ∨ k = 7) with rfl | rfl | rfl | rfl | rfl | rfl | rfl | rfl <;> kernel_rfl

theorem three_new (W : World) (t1 t2 t3 : Nat) (c1 c2 c3 : List Value) : Bk (((W.alloc (.cells c1.toArray t1)).alloc (.cells c2.toArray t2)).alloc (.cells c3.toArray t3)).drew W.heap.size t1 c1 ∧ Bk (((W.alloc (.cells c1.toArray t1)).alloc (.cells c2.toArray t2)).alloc (.cells c3.toArray t3)).drew (W.heap.size + 1) t2 c2 ∧
    Bk (((W.alloc (.cells c1.toArray t1)).alloc (.cells c2.toArray t2)).alloc (.cells c3.toArray t3)).drew (W.heap.size + 1 + 1) t3 c3 ∧ Below W.heap.size W (((W.alloc (.cells c1.toArray t1)).alloc (.cells c2.toArray t2)).alloc (.cells c3.toArray t3)).drew := by
  have a1 := ((Bk.new W t1 c1).alloc (.cells c2.toArray t2)).alloc (.cells c3.toArray t3)
  have a2 := (Bk.new (W.alloc (.cells c1.toArray t1)) t2 c2).alloc (.cells c3.toArray t3)
  have a3 := Bk.new ((W.alloc (.cells c1.toArray t1)).alloc (.cells c2.toArray t2)) t3 c3
  simp only [World.size_alloc] at a2 a3
  exact ⟨a1, a2, a3, ((((Below.refl _ W).alloc (Nat.le_refl _) _).alloc (by simp) _).alloc (by simp; omega) _).drew⟩
/-- What New leaves. -/
def PaceNewP (C : Nat → Nat) (k : Nat) (c : Cfg) (pv qv rv : Value) (me : Int) (cold : Bool) (since rate : Int) (n : Nat) (w : World) (e : Ending) (w' : World) : Prop :=
  ∃ pb kb db hb C', e = .returned (.tuple #[.pointer (some ⟨pb, 0, none⟩), .nilIface]) ∧ Fr (fun _ => False) C C' w w' ∧ IsPace w' C' k pb kb db hb c pv qv rv me cold since rate (List.replicate n 0) (List.replicate n false)
theorem pace_made {C : Nat → Nat} {k : Nat} {c : Cfg} {pv qv rv : Value} {me : Int} {cold : Bool} {since rate : Int} {n : Nat} {w w' : World} {pb kb db hb : Nat} (hf : Fin C w) (V : Below w.heap.size w w') (hn : c.nodes = (n : Int))
    (g : w.heap.size ≤ pb ∧ w.heap.size ≤ kb ∧ w.heap.size ≤ db ∧ w.heap.size ≤ hb)
    (b1 : Bk w' pb 69 (c.cells pv qv rv ++ [.int .i64 me, .bool cold, .pointer (some ⟨kb, 0, none⟩), .slice (some ⟨db, 0, none⟩) n n, .slice (some ⟨hb, 0, none⟩) n n])) (b2 : Bk w' kb 90 [.int .i64 since, .int .i64 rate])
    (b3 : Bk w' db 3 ((List.replicate n (0 : Int)).map (Value.int .i64))) (b4 : Bk w' hb 4 ((List.replicate n false).map Value.bool)) :
    PaceNewP C k c pv qv rv me cold since rate n w (.returned (.tuple #[.pointer (some ⟨pb, 0, none⟩), .nilIface])) w' := by
  have hsz := V.size
  refine ⟨pb, kb, db, hb, fun x => if w.heap.size ≤ x ∧ x < w'.heap.size then k else C x, rfl, (Fr.of_below V _).recolour (fun x hx _ => if_neg (by omega)) (fun x hx => ?_), ?_⟩
  · rw [if_neg (by omega)]
    exact hf x (by omega)
  · have l1 := b1.lt
    have l2 := b2.lt
    have l3 := b3.lt
    have l4 := b4.lt
    exact ⟨by rw [List.length_replicate, List.length_replicate]; exact b1, b2, b3, b4, ⟨if_pos ⟨g.1, l1⟩, if_pos ⟨g.2.1, l2⟩, if_pos ⟨g.2.2.1, l3⟩, if_pos ⟨g.2.2.2, l4⟩⟩, by rw [List.length_replicate]; exact hn.symm, by rw [List.length_replicate]; exact hn.symm⟩

set_option maxRecDepth 100000 in
set_option maxHeartbeats 4000000 in
theorem paceNew (C : Nat → Nat) (k : Nat) (c : Cfg) (hok : c.ok) (pv qv rv : Value) (me : Int) (cold : Bool) (since rate : Int) (n : Nat) (hs : sndE c = none) (hgood : Good c) (hn : c.nodes = (n : Int)) (hme : ¬ me < -1 ∧ ¬ c.nodes ≤ me) (hb : ¬ clkBad since rate) (w : World) (hl : Lists w C c pv qv rv) (hf : Fin C w) :
    Calls Try.prog 11 #[c.v pv qv rv, .int .i64 me, .int .i64 since, .int .i64 rate, .bool cold] w (PaceNewP C k c pv qv rv me cold since rate n w) := by
  have n1 := hgood.rg.n1
  obtain ⟨m1, m2⟩ := hme
  have b0 : Below w.heap.size w (w.alloc (.cells (c.cells pv qv rv).toArray 26)) := (Below.refl _ _).alloc (Nat.le_refl _) _
  have k0 := Bk.new w 26 (c.cells pv qv rv)
  have HCK0 := hid_ (fun (W : World) (V : Below w.heap.size w W) => sndCheck c hok C pv qv rv W (hl.fr (Fr.of_below V (fun _ => False)) (fun h => h)) ((Fr.of_below (C := C) V (fun _ => False)).Fin hf))
  rw [hs] at HCK0
  have HCN := hid_ (clkNew_ok since rate hb)
  have hnn : n ≤ 7 := by omega
  have HM1 := hid_ (mk_devs n hnn)
  have HM2 := hid_ (mk_marks n hnn)
  have HF := hid_ hf
  have HB0 := hid_ b0
  have HK0 := hid_ k0
  have HN := hid_ hn
  clear hl hf hs hb hok hgood b0 k0 hn hnn
  unfold Cfg.v
  go_enter Try.func11, Try.ntmps11
  go_upto_region 1 with fail
  refine gen_world (fun W => Below w.heap.size w W ∧ Bk W w.heap.size 26 (c.cells pv qv rv)) ⟨HB0.out, HK0.out⟩ ?_
  rintro W0 ⟨V0, K0⟩
  have HCK := hid_ (HCK0.out W0 V0)
  unfold Cfg.v at HCK
  have dc := K0.cfg0
  have HB1 := hid_ V0
  have HK1' := hid_ K0
  clear V0 K0 HCK0
  go_wp2_with fail
  refine HCK.out.mono ?_
  rintro e w1 ⟨ev, rfl, V1, hE⟩
  obtain rfl : ev = .nilIface := hE
  clear dc
  have V1' := below_then HB1.out V1
  have K1 := HK1'.out.same (V1.block _ HK1'.out.lt)
  have dc := K1.cfg0
  have HV1 := hid_ V1'
  have HK1 := hid_ K1
  clear V1 V1' K1 HK0 HK1' HB0 HB1
  go_wp2_with fail
  refine (HCN.out _).mono ?_
  rintro e w2 ⟨rfl, rfl⟩
  clear dc
  have dc := (HK1.out.alloc (.cells #[.int .i64 since, .int .i64 rate] 90)).cfg0
  go_upto_region 9 with fail
  have V2 := HV1.out.alloc HV1.out.size (.cells #[.int .i64 since, .int .i64 rate] 90)
  have L2 := Bk.new w1 90 [.int .i64 since, .int .i64 rate]
  have HK2 := hid_ (HK1.out.alloc (.cells #[.int .i64 since, .int .i64 rate] 90))
  have g1 := HV1.out.size
  have hnd : w1.heap.size = w1.heap.size := rfl
  refine gen_world (fun W => Below w.heap.size w W ∧ Bk W w1.heap.size 90 [.int .i64 since, .int .i64 rate] ∧ Bk W w.heap.size 26 (c.cells pv qv rv)) ⟨V2, L2, HK2.out⟩ ?_
  rintro W ⟨V, L, K⟩
  have dn : c.nodes = (n : Int) := HN.out
  have dcW := K.cfg0
  have dcA := fun o => (K.alloc o).cfg0
  have dcB := fun o o' => ((K.alloc o).alloc o').cfg0
  rw [dn] at dcW dcA dcB
  have HV := hid_ V
  have HL := hid_ L
  have HKK := hid_ K
  have s1 := V.size
  clear V L K V2 L2 HK2 HK1 HV1 dc dn
  have mk1 := HM1.out
  have mk2 := HM2.out
  obtain ⟨a1, a2, a3, V3⟩ := three_new W 3 4 69 ((List.replicate n (0 : Int)).map (Value.int .i64)) ((List.replicate n false).map Value.bool) (c.cells pv qv rv ++ [.int .i64 me, .bool cold, .pointer (some ⟨w1.heap.size, 0, none⟩), .slice (some ⟨W.heap.size, 0, none⟩) n n, .slice (some ⟨W.heap.size + 1, 0, none⟩) n n])
  obtain ⟨e1, e2, e3, U3⟩ := three_new W 4 3 69 ((List.replicate n false).map Value.bool) ((List.replicate n (0 : Int)).map (Value.int .i64)) (c.cells pv qv rv ++ [.int .i64 me, .bool cold, .pointer (some ⟨w1.heap.size, 0, none⟩), .slice (some ⟨W.heap.size + 1, 0, none⟩) n n, .slice (some ⟨W.heap.size, 0, none⟩) n n])
  have HA := hid_ (And.intro a1 (And.intro a2 (And.intro a3 V3)))
  have HE := hid_ (And.intro e1 (And.intro e2 (And.intro e3 U3)))
  clear a1 a2 a3 V3 e1 e2 e3 U3
  unfold Cfg.cells at HA HE
  rw [HN.out] at HA HE
  simp only [List.map_replicate, List.toArray_replicate] at HA HE
  go_region
  all_goals
    go_wp2_with fail
    go_ret2
    first
      | exact pace_made (pb := W.heap.size + 1 + 1) (kb := w1.heap.size) (db := W.heap.size) (hb := W.heap.size + 1) HF.out (below_then HV.out HA.out.2.2.2) HN.out ⟨by omega, by omega, by omega, by omega⟩ (by unfold Cfg.cells; rw [HN.out]; exact HA.out.2.2.1) (HL.out.same (HA.out.2.2.2.block _ HL.out.lt)) (by rw [List.map_replicate]; exact HA.out.1) (by rw [List.map_replicate]; exact HA.out.2.1)
      | exact pace_made (pb := W.heap.size + 1 + 1) (kb := w1.heap.size) (db := W.heap.size + 1) (hb := W.heap.size) HF.out (below_then HV.out HE.out.2.2.2) HN.out ⟨by omega, by omega, by omega, by omega⟩ (by unfold Cfg.cells; rw [HN.out]; exact HE.out.2.2.1) (HL.out.same (HE.out.2.2.2.block _ HL.out.lt)) (by rw [List.map_replicate]; exact HE.out.2.1) (by rw [List.map_replicate]; exact HE.out.1)
end Go.Proofs.Ytnmhfdkmiblknaa
