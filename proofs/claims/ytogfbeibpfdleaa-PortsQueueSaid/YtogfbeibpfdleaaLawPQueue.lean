/- PortsQueue: for all arguments the call returns true, and the arguments read as before. No condition. -/
import Derived.Test.YtogfbeibpfdleaaOpenW
import Derived.Test.YtogfbeibpfdleaaPQueue
import Derived.Test.YtogfbeibpfdleaaRows
set_option linter.unusedSimpArgs false
set_option linter.unusedVariables false
namespace Go.Proofs.Ytogfbeibpfdleaa
open Go.ChangeShapes Go.WideShapes Go.ChangeAt Go.RowKit Go.Deep

set_option maxRecDepth 100000 in
theorem bytesrow_of {H : Type} {enc : TypeId × Value → H} {w : World} {m : Nat} {r : List Value} {d : DataW H × List MemPlace} (hd : DataW.trod enc Try.prog w 0 (fun _ => true) true m 40 r = some d) (hL : Light 40 d.1) :
    ∃ p : Value × List UInt8, r = [p.1] ∧ (IsBytes w (fun _ => 0) p.1 p.2 ∧ p.2.length ≤ 140737488355328) := by
  have hr : r.length = 1 := by
    have h1 := Try.underlying40
    cases m with
    | zero => simp [DataW.trod] at hd
    | succ m =>
      unfold DataW.trod at hd
      rw [h1] at hd
      match r, hd with
      | [c], _ => rfl
      | [], hd => simp at hd
      | _ :: _ :: _, hd => simp at hd
  match r, hr, hd with
  | [c], _, hd =>
    obtain ⟨dd, hb, hn⟩ := bytes_of hd hL
    exact ⟨(c, dd), rfl, hb, by unfold reachBytes at hn; simp only; omega⟩

set_option maxRecDepth 100000 in
theorem queue_lifted (os : Os) (started : os.Started) (H : Type) (enc : TypeId × Value → H) :
    ReturnsInHanded {} Try.checked os 3 .any (Rows.portsQueueSpec.pre6 enc Try.prog Try.f3 Rows.portsQueueRow.domain false) (Rows.portsQueueSpec.post enc Try.prog Try.f3 false true false false) := by
  refine lifted_of os started H enc 3 Try.f3 Rows.portsQueueSpec Try.func3 (by kernel_rfl) rfl rfl (by kernel_rfl) ?_
    (ChangeSpec.witness6 (enc := enc) (C := Try.checked) false ⟨#[], #[.slice none 0 0, .int .i64 0], []⟩ 8 (by kernel_rfl) (by kernel_rfl) (by kernel_rfl) (by kernel_rfl)) ?_
  · intro ds hds
    match ds, hds with
    | [d0, d1], _ => rfl
  · intro W args ds ps hval hA hsz
    rw [Try.params3] at hA hval
    obtain ⟨v0, v1, d0, d1, p0, p1, rfl, rfl, rfl, h0, h1⟩ := trodAll_two hA
    obtain ⟨b0, k0⟩ := hval 0 22 v0 rfl rfl
    obtain ⟨b1, k1⟩ := hval 1 3 v1 rfl rfl
    obtain ⟨a0, n0, m0, rfl⟩ := okWide_slice Try.underlying22 k0
    obtain ⟨fu0, hf0⟩ := h0
    obtain ⟨l0, hi0, _, hlk0⟩ := list_ofw (g := fun p : Value × List UInt8 => [p.1]) (p := fun p : Value × List UInt8 => IsBytes W (fun _ => 0) p.1 p.2 ∧ p.2.length ≤ 140737488355328) Try.underlying22 (show Try.prog.cellsOf 40 = 1 by kernel_rfl) (by omega) (fun m r d h hL => bytesrow_of h hL) hf0 (Light.of_each hsz (j := 0) rfl rfl)
    obtain ⟨z1, rfl, rfl, rfl, wf1⟩ := open_int Try.underlying3 k1 h1
    exact queue_walk l0 _ z1 (i64_of_wf wf1) W hi0 hlk0

theorem queue_holds : Rows.PortsQueueSaid :=
  OpenClaim.holds_of_wide 3 Try.f3 rfl rfl rfl rfl rfl rfl rfl ⟨rfl, rfl, rfl, rfl, rfl⟩ rfl rfl rfl rfl rfl (by kernel_rfl) Try.func3 (by kernel_rfl)
    (of_decide_eq_true (by kernel_rfl)) (by unfold Func.isWrapper; first | (rw [if_pos (by decide +kernel)]; kernel_rfl) | (rw [if_neg (by decide +kernel)]; exact ⟨rfl, rfl⟩))
    (fun os started H enc _ => queue_lifted os started H enc)
#print axioms queue_holds
end Go.Proofs.Ytogfbeibpfdleaa
