/- ReplicaVotes: for all arguments the call returns true, and the arguments read as before. No condition. -/
import Derived.Test.YtomcjmgbkpbdpaaOpen14
import Derived.Test.YtomcjmgbkpbdpaaVotes
import Derived.Test.YtomcjmgbkpbdpaaRows
set_option linter.unusedSimpArgs false
set_option linter.unusedVariables false
namespace Go.Proofs.Ytomcjmgbkpbdpaa
open Go.ChangeShapes Go.WideShapes Go.ChangeAt Go.RowKit Go.Deep

set_option maxRecDepth 100000 in
theorem cmdsrow_of {H : Type} {enc : TypeId × Value → H} {w : World} {base m : Nat} {r : List Value} {d : DataW H × List MemPlace} (hd : DataW.trod enc Try.prog w base (fun _ => true) true m 22 r = some d) :
    ∃ p : Value × List Cmd, r = [p.1] ∧ ((∀ c ∈ p.2, c.ok) ∧ Rd w (fun _ => 0) p.1 4 p.2.length (p.2.flatMap Cmd.cells)) := by
  have hr : r.length = 1 := by
    have h1 := Try.underlying22
    cases m with
    | zero => simp [DataW.trod] at hd
    | succ m =>
      unfold DataW.trod at hd
      rw [h1] at hd
      match r, hd with
      | [c], _ => rfl
      | [], hd => simp at hd
      | _ :: _ :: _, hd => simp at hd
  match r, hr, hd with
  | [c], _, hd =>
    obtain ⟨l, hb, hn⟩ := cmds_of hd
    exact ⟨(c, l), rfl, hn, hb⟩

set_option maxRecDepth 100000 in
theorem votes_lifted (os : Os) (started : os.Started) (H : Type) (enc : TypeId × Value → H) :
    ReturnsInHanded {} Try.checked os 5 .any (Rows.replicaVotesSpec.pre6 enc Try.prog Try.f5 Rows.replicaVotesRow.domain false) (Rows.replicaVotesSpec.post enc Try.prog Try.f5 false true false false) := by
  refine lifted_of os started H enc 5 Try.f5 Rows.replicaVotesSpec Try.func5 (by kernel_rfl) rfl rfl (by kernel_rfl) ?_
    (ChangeSpec.witness6 (enc := enc) (C := Try.checked) false ⟨#[], #[.slice none 0 0, .slice none 0 0, .int .u8 0], []⟩ 8 (by kernel_rfl) (by kernel_rfl) (by kernel_rfl) (by kernel_rfl)) ?_
  · intro ds hds
    match ds, hds with
    | [d0, d1, d2], _ => rfl
  · intro W args ds ps hval hA hsz
    rw [Try.params5] at hA hval
    obtain ⟨v0, v1, v2, d0, d1, d2, p0, p1, p2, rfl, rfl, rfl, h0, h1, h2⟩ := trodAll_three hA
    obtain ⟨b0, k0⟩ := hval 0 22 v0 rfl rfl
    obtain ⟨b1, k1⟩ := hval 1 40 v1 rfl rfl
    obtain ⟨b2, k2⟩ := hval 2 5 v2 rfl rfl
    obtain ⟨a0, n0, m0, rfl⟩ := okWide_slice Try.underlying22 k0
    obtain ⟨fu0, hf0⟩ := h0
    obtain ⟨l0, hr0, ho0⟩ := cmds_of hf0
    obtain ⟨a1, n1, m1, rfl⟩ := okWide_slice Try.underlying40 k1
    obtain ⟨fu1, hf1⟩ := h1
    have hc1 : Try.prog.cellsOf 22 = 1 := by kernel_rfl
    obtain ⟨rows, hrd, hrow⟩ := open_rd Try.underlying40 (by rw [hc1]; omega) hf1
    rw [hc1] at hrd hrow
    obtain ⟨l1, e1, e2, e3⟩ := rows_of (g := fun p : Value × List Cmd => [p.1]) (p := fun p : Value × List Cmd => (∀ c ∈ p.2, c.ok) ∧ Rd W (fun _ => 0) p.1 4 p.2.length (p.2.flatMap Cmd.cells)) rows (fun r hr => by
      obtain ⟨_, m, d, hd⟩ := hrow r hr
      exact cmdsrow_of hd)
    rw [e1, e2] at hrd
    obtain ⟨key, rfl, rfl, rfl, wk⟩ := open_int Try.underlying5 k2 h2
    exact votes_walk key l0 _ l1 _ W (u8_of_wf wk).1 (u8_of_wf wk).2 ho0 hr0 hrd e3

theorem votes_holds : Rows.ReplicaVotesSaid :=
  OpenClaim.holds_of_wide 5 Try.f5 rfl rfl rfl rfl rfl rfl rfl ⟨rfl, rfl, rfl, rfl, rfl⟩ rfl rfl rfl rfl rfl (by kernel_rfl) Try.func5 (by kernel_rfl)
    (of_decide_eq_true (by kernel_rfl)) (by unfold Func.isWrapper; first | (rw [if_pos (by decide +kernel)]; kernel_rfl) | (rw [if_neg (by decide +kernel)]; exact ⟨rfl, rfl⟩))
    (fun os started H enc _ => votes_lifted os started H enc)
#print axioms votes_holds
end Go.Proofs.Ytomcjmgbkpbdpaa
