/- Chapter 1's examples. No condition but that errors.errorType holds its handle. -/
import Derived.Test.YtohmnkjiohjjoaaDoorMade2
import Derived.Test.YtohmnkjiohjjoaaDoorRTrail
set_option linter.unusedSimpArgs false
set_option linter.unusedVariables false
namespace Go.Proofs.YtohmnkjiohjjoaaDoor
open Go.RowKit Go.Maps

set_option maxRecDepth 100000 in
set_option maxHeartbeats 4000000 in
theorem awake01 (w : World) (hg : ErrT w) : Calls Tryd.prog 6 #[] w fun e w' => e = .returned (.bool true) ∧ Below w.heap.size w w' := by
  have HG := hid_ hg
  clear hg
  have ht : (⟨(errT [(40, some 9), (12, some 3)]).toArray⟩ : ByteArray) = ⟨#[52, 48, 64, 57, 62, 49, 50, 64, 51]⟩ := by
    simp [errT, joinT, linkT, atT, num, numN]
  have HT := hid_ ht
  clear ht
  go_enter Tryd.func6, Tryd.ntmps6
  go_wp2_with fail
  refine (fault_new 12 3 _ rfl).mono ?_
  rintro e w1 ⟨ev, rfl, ⟨u, v, rfl⟩, hE, b1⟩
  have HE := hid_ hE
  clear hE
  go_wp2_with fail
  refine (fault_wrap 40 9 u v _ _ rfl HE.out).mono ?_
  rintro e w2 ⟨ev, rfl, ⟨u2, v2, rfl⟩, hE, b2⟩
  have B2 := below_then b1 b2
  have HE2 := hid_ (show IsErr w2 z0 (.iface u2 v2) [(40, some 9), (12, some 3)] from hE)
  clear hE b1 b2 HE
  go_wp2_with fail
  refine (read_any z0 _ _ _ HE2.out ⟨by simp, fun x hx => by simp at hx; rcases hx with rfl | rfl <;> exact ⟨by simp, by simp, by simp, fun a ha => by simp at ha; omega⟩⟩).mono ?_
  rintro e w3 ⟨rfl, b3⟩
  rw [HT.out]
  have B3 := below_then B2 b3
  have HE3 := hid_ (HE2.out.fr (Fr.of_below b3 (fun _ => False)) (fun h => h))
  clear b3 B2 HE2
  go_wp2_with fail
  refine (fault_code z0 _ _ _ (HG.out.below B3) HE3.out).mono ?_
  rintro e w4 ⟨rfl, b4⟩
  rw [show codeE [((40 : Int), some (9 : Int)), (12, some 3)] = 40 from rfl]
  have B4 := below_then B3 b4
  have HE4 := hid_ (HE3.out.fr (Fr.of_below b4 (fun _ => False)) (fun h => h))
  clear b4 B3 HE3
  go_wp2_with fail
  refine (fault_root z0 _ _ _ (HG.out.below B4) HE4.out (by simp)).mono ?_
  rintro e w5 ⟨rfl, b5⟩
  rw [show rootE [((40 : Int), some (9 : Int)), (12, some 3)] = 12 from rfl]
  have B5 := below_then B4 b5
  have HE5 := hid_ (HE4.out.fr (Fr.of_below b5 (fun _ => False)) (fun h => h))
  clear b5 B4 HE4
  go_wp2_with fail
  refine (fault_place z0 _ _ _ (HG.out.below B5) HE5.out).mono ?_
  rintro e w6 ⟨rfl, b6⟩
  rw [show placeE [((40 : Int), some (9 : Int)), (12, some 3)] = 9 from rfl]
  have B6 := below_then B5 b6
  clear b6 B5 HE5
  go_wp2_with fail
  refine (fault_new0 3 _).mono ?_
  rintro e w7 ⟨rfl, rfl⟩
  go_wp2
  go_ret
  exact ⟨rfl, B6⟩
end Go.Proofs.YtohmnkjiohjjoaaDoor
