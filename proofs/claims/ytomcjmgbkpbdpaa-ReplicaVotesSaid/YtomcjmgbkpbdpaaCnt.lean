/- A map of counts, as a partial function; how its operations run. Printed by gen_cnt.py. No condition. -/
import Derived.Test.YtomcjmgbkpbdpaaTab
set_option linter.unusedSimpArgs false
set_option linter.unusedVariables false
namespace Go.Proofs.Ytomcjmgbkpbdpaa
open Go.RowKit Go.Maps

theorem lawK16 : Keyed Try.prog 27 := int_keyed Try.underlying27
theorem zeroV (w : World) : (zeroValue 3).run Try.prog w = .ok (.int .i64 0) w := by kernel_rfl

/-- What the datum of a map says, as a function of the key. -/
structure CntD (D : DataW Unit) (f : Int → Option Int) : Prop where
  none_ : ∀ x, f x = none → has D (.int .u16 x) = false
  some_ : ∀ x c, f x = some c → has D (.int .u16 x) = true ∧ ∀ z, D.atKey (.int .u16 x) z = .lit (.int .i64 c)
  rng : ∀ x c, f x = some c → 0 ≤ x ∧ x < 65536 ∧ 0 ≤ c ∧ c < 1000000
  keys : ∀ kl, has D kl = true → ∃ x, kl = .int .u16 x ∧ (f x).isSome = true

theorem isKeyK (x : Int) : WideAt.IsKeyLit (.int .u16 x) := by simp [WideAt.IsKeyLit]
theorem wfK {x : Int} (h0 : 0 ≤ x) (h1 : x < 65536) : (Lit.int .u16 x).wf = true := by
  simp [Lit.wf, IntKind.min, IntKind.max, IntKind.signed, IntKind.bits]; omega
theorem wfV {x : Int} (h0 : 0 ≤ x) (h1 : x < 1000000) : (Lit.int .i64 x).wf = true := by
  simp [Lit.wf, IntKind.min, IntKind.max, IntKind.signed, IntKind.bits]; omega
theorem keyK {x : Int} (h0 : 0 ≤ x) (h1 : x < 65536) : keyOf Try.prog 27 (.int .u16 x) = some (.int .u16 x) := keyOf_int_mk Try.underlying27 (wfK h0 h1)

theorem CntD.empty : CntD (.map []) (fun _ => none) := ⟨fun _ _ => rfl, fun _ _ h => (by cases h), fun _ _ h => (by cases h), fun _ h => (by cases h)⟩
theorem CntD.put {D : DataW Unit} {f : Int → Option Int} (h : CntD D f) (hD : IsMap D) {k c : Int} (hk : 0 ≤ k ∧ k < 65536) (hc : 0 ≤ c ∧ c < 1000000) : CntD (D.put (.int .u16 k) (.lit (.int .i64 c))) (upd f k (some c)) := by
  refine ⟨fun x hx => ?_, fun x v hx => ?_, fun x v hx => ?_, fun kl hkl => ?_⟩
  · unfold upd at hx
    split at hx
    · cases hx
    · rename_i hne
      rw [has_put_other (by simpa using hne)]
      exact h.none_ x hx
  · unfold upd at hx
    split at hx
    · rename_i he
      subst he
      cases hx
      exact ⟨has_put_same hD (isKeyK _) _, fun z => atKey_put_same hD (isKeyK _) _ z⟩
    · rename_i hne
      have hne' : (Lit.int .u16 x) ≠ .int .u16 k := by simpa using hne
      rw [has_put_other hne']
      exact ⟨(h.some_ x v hx).1, fun z => by rw [atKey_put_other hne']; exact (h.some_ x v hx).2 z⟩
  · unfold upd at hx
    split at hx
    · cases hx; subst_vars; exact ⟨hk.1, hk.2, hc.1, hc.2⟩
    · exact h.rng x v hx
  · by_cases he : kl = .int .u16 k
    · exact ⟨k, he, by simp [upd]⟩
    · rw [has_put_other he] at hkl
      obtain ⟨x, rfl, hx⟩ := h.keys kl hkl
      refine ⟨x, rfl, ?_⟩
      have : x ≠ k := by simpa using he
      simp [upd, this, hx]
/-- Block b is a map of at most n counts that says what f says. -/
def CntIs (w : World) (b n : Nat) (f : Int → Option Int) : Prop := ∃ D : DataW Unit, w.ownsMap Try.prog 27 (plainElem Try.prog 3) b n D ∧ CntD D f
theorem CntIs.lt {w : World} {b n : Nat} {f : Int → Option Int} (h : CntIs w b n f) : b < w.heap.size := by
  obtain ⟨D, hown, _⟩ := h
  exact hown.lt
theorem CntIs.same {w w' : World} {b n : Nat} {f : Int → Option Int} (h : CntIs w b n f) (hh : w'.heap[b]? = w.heap[b]?) : CntIs w' b n f := by
  obtain ⟨D, ⟨es, clock, hb, F, hs, he⟩, hD⟩ := h
  exact ⟨D, ⟨es, clock, hh.trans hb, F, hs, he⟩, hD⟩
theorem CntIs.made (w : World) : CntIs (w.alloc (.map #[] 0)) w.heap.size 0 (fun _ => none) := ⟨.map [], World.ownsMap_made _ _ _ _, CntD.empty⟩
theorem CntIs.look {w : World} {b n : Nat} {f : Int → Option Int} (h : CntIs w b n f) {x : Int} (h0 : 0 ≤ x) (h1 : x < 65536) :
    (Instr.lookup 66 (.map (some b)) (.int .u16 x) false).run Try.prog w = .ok (.int .i64 ((f x).getD 0)) w := by
  obtain ⟨D, hown, hD⟩ := h
  obtain ⟨c, hrun, hat, _⟩ := hown.lookup_int lawK16 Try.underlying66 Try.underlying3 (zeroV w) (keyK h0 h1)
  rw [hrun]
  cases hx : f x with
  | none =>
    rw [atKey_of_not_has (hD.none_ x hx)] at hat
    simp only [DataW.lit.injEq, Lit.int.injEq] at hat
    obtain ⟨_, rfl⟩ := hat
    rfl
  | some v =>
    rw [(hD.some_ x v hx).2] at hat
    simp only [DataW.lit.injEq, Lit.int.injEq] at hat
    obtain ⟨_, rfl⟩ := hat
    rfl
theorem CntIs.store {w : World} {b n : Nat} {f : Int → Option Int} (h : CntIs w b n f) (hn : n ≤ 1000) {x c : Int} (h0 : 0 ≤ x) (h1 : x < 65536) (c0 : 0 ≤ c) (c1 : c < 1000000) :
    ∃ w', (Instr.mapUpdate 66 (.map (some b)) (.int .u16 x) (.int .i64 c)).run Try.prog w = .ok () w' ∧ CntIs w' b (n + 1) (upd f x (some c)) ∧ w.mapTurned w' b := by
  obtain ⟨D, hown, hD⟩ := h
  obtain ⟨w', hrun, hown', ht⟩ := hown.store lawK16 Try.underlying66 (by unfold maxLen; omega) (keyK h0 h1) (plainElem_int Try.underlying3 (wfV c0 c1))
  exact ⟨w', hrun, ⟨_, hown', hD.put hown.isMap ⟨h0, h1⟩ ⟨c0, c1⟩⟩, ht⟩
end Go.Proofs.Ytomcjmgbkpbdpaa
