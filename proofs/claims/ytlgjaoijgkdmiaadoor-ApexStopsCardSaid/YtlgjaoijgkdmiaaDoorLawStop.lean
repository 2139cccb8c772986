/- ApexStops: for all arguments the call returns true, and the arguments read as before; errors.errorType is tied to the program's text. No condition. -/
import Derived.Test.YtlgjaoijgkdmiaaDoorOpenK
import Derived.Test.YtlgjaoijgkdmiaaDoorStop
import Derived.Test.YtlgjaoijgkdmiaaDoorRows
import Derived.Test.YtlgjaoijgkdmiaaDoorCards
import Derived.Test.YtlgjaoijgkdmiaaDoorTie
import Derived.SevenTiedAt
set_option linter.unusedSimpArgs false
set_option linter.unusedVariables false
namespace Go.Proofs.YtlgjaoijgkdmiaaDoor
open Go.ChangeShapes Go.WideShapes Go.ChangeAt Go.RowKit Go.Deep

theorem stops_walk (ahead behind a kind : Int) (ha : U8 a) (w : World) (hT : ErrT w) :
    Calls Tryd.prog 5 #[.int .i64 ahead, .int .i64 behind, .int .u8 a, .int .i64 kind] w fun e w' => e = .returned (.bool true) ∧ Below w.heap.size w w' := by
  have h := rem_small16 kind 3 (by omega) (by omega)
  rcases (by omega : wrap64 ((IntKind.u64.wrap kind).tmod 3) = 0 ∨ wrap64 ((IntKind.u64.wrap kind).tmod 3) = 1 ∨ wrap64 ((IntKind.u64.wrap kind).tmod 3) = 2) with h | h | h
  · exact stops_walk1 ahead behind a kind ha h w hT
  · exact stops_walk2 ahead behind a kind ha h w hT
  · exact stops_walk3 ahead behind a kind ha h w hT

set_option maxRecDepth 100000 in
theorem stops_lifted (os : Os) (started : os.Started) (H : Type) (enc : TypeId × Value → H) :
    ReturnsInHanded {} Tryd.checked os 5 .any (fun w args => (Rows.apexStopsSpec.pre enc Tryd.prog Tryd.f5 [] false w args ∧ laidMetH Tryd.prog laidL w) ∧ sizedMet enc Tryd.prog Tryd.f5 (OpenSpec.ofChange Rows.apexStopsSpec) false w args) (Rows.apexStopsSpec.post enc Tryd.prog Tryd.f5 false true false false) := by
  refine lifted_door os started H enc 5 Tryd.f5 Rows.apexStopsSpec Tryd.func5 (by kernel_rfl) rfl rfl (by kernel_rfl) ?_
    (ChangeSpec.witness_at (enc := enc) (C := Tryd.checked) (os := os) (X := fun w _ => laidMetH Tryd.prog laidL w) false (laidWorld os) #[.int .i64 0, .int .i64 0, .int .u8 0, .int .i64 0] 8 rfl (by kernel_rfl) (by kernel_rfl) (by kernel_rfl) (by kernel_rfl) (by kernel_rfl) (laidWorld_met os _)) ?_
  · intro ds hds
    match ds, hds with
    | [d0, d1, d2, d3], _ => rfl
  · intro W args ds ps hg hval hA hsz
    rw [Tryd.params5] at hA hval
    obtain ⟨v0, v1, v2, v3, d0, d1, d2, d3, p0, p1, p2, p3, rfl, rfl, rfl, h0, h1, h2, h3⟩ := trodAll_four hA
    obtain ⟨b0, k0⟩ := hval 0 3 v0 rfl rfl
    obtain ⟨b1, k1⟩ := hval 1 3 v1 rfl rfl
    obtain ⟨b2, k2⟩ := hval 2 5 v2 rfl rfl
    obtain ⟨b3, k3⟩ := hval 3 3 v3 rfl rfl
    obtain ⟨z0, rfl, rfl, rfl, wf0⟩ := open_int Tryd.underlying3 k0 h0
    obtain ⟨z1, rfl, rfl, rfl, wf1⟩ := open_int Tryd.underlying3 k1 h1
    obtain ⟨z2, rfl, rfl, rfl, wf2⟩ := open_int Tryd.underlying5 k2 h2
    obtain ⟨z3, rfl, rfl, rfl, wf3⟩ := open_int Tryd.underlying3 k3 h3
    exact stops_walk z0 z1 z2 z3 (u8_of_wf wf2) W hg

theorem stops_row : Rows.ApexStopsSaid :=
  OpenClaim.holds_of_wide 5 Tryd.f5 rfl rfl rfl rfl rfl rfl rfl ⟨rfl, rfl, rfl, rfl, rfl⟩ rfl rfl rfl rfl rfl (by kernel_rfl) Tryd.func5 (by kernel_rfl)
    (of_decide_eq_true (by kernel_rfl)) (by unfold Func.isWrapper; first | (rw [if_pos (by decide +kernel)]; kernel_rfl) | (rw [if_neg (by decide +kernel)]; exact ⟨rfl, rfl⟩))
    (fun os started H enc _ => stops_lifted os started H enc)

theorem stops_holds : Rows.ApexStopsCardSaid :=
  Claim7.holds_tied_plain_at .later [] [.handle] true (true, "101b45a94dad8ecc7159bbb1b11cd99a81cf472a8702530aa6de0eb0944ddefb") true
    stops_row (fun _ h => by cases h) (by kernel_rfl) (fun _ h => by cases h) apexStops_row_tie rfl ⟨rfl, rfl⟩ (by kernel_rfl) rfl
    (fun f fn hf hfn => by
      obtain rfl : f = 5 := Option.some.inj ((show Tryd.prog.funcNamed "escapement/escapementlaw16.ApexStops" = some 5 by kernel_rfl).symm.trans hf) |>.symm
      obtain rfl : fn = Tryd.f5 := (Option.some.inj (Tryd.func5.symm.trans hfn)).symm
      refine ⟨by kernel_rfl, fun j t ht => ?_⟩
      rw [Tryd.params5] at ht
      rcases j with _ | _ | _ | _ | j
      · obtain rfl : t = 3 := by simpa using ht.symm
        kernel_rfl
      · obtain rfl : t = 3 := by simpa using ht.symm
        kernel_rfl
      · obtain rfl : t = 5 := by simpa using ht.symm
        kernel_rfl
      · obtain rfl : t = 3 := by simpa using ht.symm
        kernel_rfl
      · simp at ht)
    (by kernel_rfl)
#print axioms stops_holds
end Go.Proofs.YtlgjaoijgkdmiaaDoor
