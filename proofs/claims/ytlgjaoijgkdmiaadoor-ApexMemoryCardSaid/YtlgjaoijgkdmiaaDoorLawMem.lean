/- ApexMemory: for all arguments the call returns true, and the arguments read as before; errors.errorType is tied to the program's text. No condition. -/
import Derived.Test.YtlgjaoijgkdmiaaDoorOpenK
import Derived.Test.YtlgjaoijgkdmiaaDoorMem
import Derived.Test.YtlgjaoijgkdmiaaDoorRows
import Derived.Test.YtlgjaoijgkdmiaaDoorCards
import Derived.Test.YtlgjaoijgkdmiaaDoorTie
import Derived.SevenTiedAt
set_option linter.unusedSimpArgs false
set_option linter.unusedVariables false
namespace Go.Proofs.YtlgjaoijgkdmiaaDoor
open Go.ChangeShapes Go.WideShapes Go.ChangeAt Go.RowKit Go.Deep

theorem trod_arrayM {H : Type} {enc : TypeId × Value → H} {P : Program} {w : World} {base fuel : Nat} {spare : Nat → Bool} {held : Bool} {t e : TypeId} {n : Nat} {cs : List Value} {x : DataW H × List MemPlace} (ht : P.underlying t = some (.array n e)) (h : DataW.trod enc P w base spare held fuel t cs = some x) :
    cs.length = P.cellsOf t ∧ ∃ m, ∀ i, i < n → ∃ d, DataW.trod enc P w base spare held m e ((cs.drop (i * P.cellsOf e)).take (P.cellsOf e)) = some d := by
  cases fuel with
  | zero => simp [DataW.trod] at h
  | succ m =>
    unfold DataW.trod at h
    rw [ht] at h
    split at h <;> simp_all
    obtain ⟨hl, xs, hp, hd⟩ := h
    have hlen := mapM_some_length hp
    rw [List.length_range] at hlen
    refine ⟨m, fun i hi => ?_⟩
    have := mapM_some_get hp i i (by simp [hi])
    rw [List.getElem?_eq_getElem (by omega)] at this
    exact ⟨_, _, this⟩
set_option maxRecDepth 100000 in
theorem pairrow_of {H : Type} {enc : TypeId × Value → H} {w : World} {m : Nat} {r : List Value} {d : DataW H × List MemPlace} (hd : DataW.trod enc Tryd.prog w 0 (fun _ => true) true m 72 r = some d) : ∃ p : Int × Int, r = pairC p ∧ True := by
  obtain ⟨hlen, k, ha⟩ := trod_arrayM Tryd.underlying72 hd
  have hC : Tryd.prog.cellsOf 72 = 2 := by kernel_rfl
  have ki : Tryd.prog.cellsOf 3 = 1 := by kernel_rfl
  rw [hC] at hlen
  match r, hlen with
  | [c0, c1], _ =>
    obtain ⟨d0, h0⟩ := ha 0 (by omega)
    obtain ⟨d1, h1⟩ := ha 1 (by omega)
    simp only [ki, Nat.zero_mul, Nat.one_mul, Nat.mul_one, List.drop_zero, List.drop_succ_cons, List.take_succ_cons, List.take_zero] at h0 h1
    obtain ⟨a0, rfl, w0⟩ := cell_int (q := .i64) Tryd.underlying3 h0
    obtain ⟨a1, rfl, w1⟩ := cell_int (q := .i64) Tryd.underlying3 h1
    exact ⟨(a0, a1), rfl, trivial⟩

set_option maxRecDepth 100000 in
theorem memory_lifted (os : Os) (started : os.Started) (H : Type) (enc : TypeId × Value → H) :
    ReturnsInHanded {} Tryd.checked os 6 .any (fun w args => (Rows.apexMemorySpec.pre enc Tryd.prog Tryd.f6 [] false w args ∧ laidMetH Tryd.prog laidL w) ∧ sizedMet enc Tryd.prog Tryd.f6 (OpenSpec.ofChange Rows.apexMemorySpec) false w args) (Rows.apexMemorySpec.post enc Tryd.prog Tryd.f6 false true false false) := by
  refine lifted_door os started H enc 6 Tryd.f6 Rows.apexMemorySpec Tryd.func6 (by kernel_rfl) rfl rfl (by kernel_rfl) ?_
    (ChangeSpec.witness_at (enc := enc) (C := Tryd.checked) (os := os) (X := fun w _ => laidMetH Tryd.prog laidL w) false (laidWorld os) #[.slice none 0 0] 8 rfl (by kernel_rfl) (by kernel_rfl) (by kernel_rfl) (by kernel_rfl) (by kernel_rfl) (laidWorld_met os _)) ?_
  · intro ds hds
    match ds, hds with
    | [d0], _ => rfl
  · intro W args ds ps hg hval hA hsz
    rw [Tryd.params6] at hA hval
    obtain ⟨v0, d0, rfl, rfl, h0⟩ := trodAll_one hA
    obtain ⟨b0, k0⟩ := hval 0 70 v0 rfl rfl
    obtain ⟨a0, n0, m0, rfl⟩ := okWide_slice Tryd.underlying70 k0
    obtain ⟨fu0, hf0⟩ := h0
    obtain ⟨l0, hi0, _, _⟩ := list_ofw (g := pairC) (p := fun _ => True) Tryd.underlying70 (show Tryd.prog.cellsOf 72 = 2 by kernel_rfl) (by omega) (fun m r d h _ => pairrow_of h) hf0 (Light.of_each hsz (j := 0) rfl rfl)
    exact memory_walk _ l0 W hg hi0

theorem memory_row : Rows.ApexMemorySaid :=
  OpenClaim.holds_of_wide 6 Tryd.f6 rfl rfl rfl rfl rfl rfl rfl ⟨rfl, rfl, rfl, rfl, rfl⟩ rfl rfl rfl rfl rfl (by kernel_rfl) Tryd.func6 (by kernel_rfl)
    (of_decide_eq_true (by kernel_rfl)) (by unfold Func.isWrapper; first | (rw [if_pos (by decide +kernel)]; kernel_rfl) | (rw [if_neg (by decide +kernel)]; exact ⟨rfl, rfl⟩))
    (fun os started H enc _ => memory_lifted os started H enc)

theorem memory_holds : Rows.ApexMemoryCardSaid :=
  Claim7.holds_tied_plain_at .later [] [.handle] true (true, "101b45a94dad8ecc7159bbb1b11cd99a81cf472a8702530aa6de0eb0944ddefb") true
    memory_row (fun _ h => by cases h) (by kernel_rfl) (fun _ h => by cases h) apexMemory_row_tie rfl ⟨rfl, rfl⟩ (by kernel_rfl) rfl
    (fun f fn hf hfn => by
      obtain rfl : f = 6 := Option.some.inj ((show Tryd.prog.funcNamed "escapement/escapementlaw16.ApexMemory" = some 6 by kernel_rfl).symm.trans hf) |>.symm
      obtain rfl : fn = Tryd.f6 := (Option.some.inj (Tryd.func6.symm.trans hfn)).symm
      refine ⟨by kernel_rfl, fun j t ht => ?_⟩
      rw [Tryd.params6] at ht
      rcases j with _ | j
      · obtain rfl : t = 70 := by simpa using ht.symm
        kernel_rfl
      · simp at ht)
    (by kernel_rfl)
#print axioms memory_holds
end Go.Proofs.YtlgjaoijgkdmiaaDoor
