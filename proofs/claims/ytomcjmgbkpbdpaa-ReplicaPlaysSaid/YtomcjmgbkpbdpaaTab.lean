/- The replicated table's map, as a partial function; how its operations run. No condition. -/
import Derived.Test.YtomcjmgbkpbdpaaBase
import Derived.Test.YtomcjmgbkpbdpaaProg
set_option linter.unusedSimpArgs false
set_option linter.unusedVariables false
namespace Go.Proofs.Ytomcjmgbkpbdpaa
open Go.RowKit Go.Maps

theorem lawK8 : Keyed Try.prog 5 := int_keyed Try.underlying5
theorem zero16 (w : World) : (zeroValue 27).run Try.prog w = .ok (.int .u16 0) w := by kernel_rfl

/-- What the datum of a map says, as a function of the key. -/
structure TabD (D : DataW Unit) (f : Int → Option Int) : Prop where
  none_ : ∀ x, f x = none → has D (.int .u8 x) = false
  some_ : ∀ x c, f x = some c → has D (.int .u8 x) = true ∧ ∀ z, D.atKey (.int .u8 x) z = .lit (.int .u16 c)
  rng : ∀ x c, f x = some c → 0 ≤ x ∧ x < 8 ∧ 0 ≤ c ∧ c < 65536
  keys : ∀ kl, has D kl = true → ∃ x, kl = .int .u8 x ∧ (f x).isSome = true

/-- A function changed at one place. -/
def upd (f : Int → Option Int) (k : Int) (v : Option Int) (x : Int) : Option Int := if x = k then v else f x

theorem isKey8 (x : Int) : WideAt.IsKeyLit (.int .u8 x) := by simp [WideAt.IsKeyLit]
theorem wf8 {x : Int} (h0 : 0 ≤ x) (h1 : x < 256) : (Lit.int .u8 x).wf = true := by
  simp [Lit.wf, IntKind.min, IntKind.max, IntKind.signed, IntKind.bits]; omega
theorem wf16 {x : Int} (h0 : 0 ≤ x) (h1 : x < 65536) : (Lit.int .u16 x).wf = true := by
  simp [Lit.wf, IntKind.min, IntKind.max, IntKind.signed, IntKind.bits]; omega
theorem key8 {x : Int} (h0 : 0 ≤ x) (h1 : x < 256) : keyOf Try.prog 5 (.int .u8 x) = some (.int .u8 x) := keyOf_int_mk Try.underlying5 (wf8 h0 h1)

theorem TabD.empty : TabD (.map []) (fun _ => none) := ⟨fun _ _ => rfl, fun _ _ h => (by cases h), fun _ _ h => (by cases h), fun _ h => (by cases h)⟩
theorem TabD.put {D : DataW Unit} {f : Int → Option Int} (h : TabD D f) (hD : IsMap D) {k c : Int} (hk : 0 ≤ k ∧ k < 8) (hc : 0 ≤ c ∧ c < 65536) : TabD (D.put (.int .u8 k) (.lit (.int .u16 c))) (upd f k (some c)) := by
  refine ⟨fun x hx => ?_, fun x v hx => ?_, fun x v hx => ?_, fun kl hkl => ?_⟩
  · unfold upd at hx
    split at hx
    · cases hx
    · rename_i hne
      rw [has_put_other (by simpa using hne)]
      exact h.none_ x hx
  · unfold upd at hx
    split at hx
    · rename_i he
      subst he
      cases hx
      exact ⟨has_put_same hD (isKey8 _) _, fun z => atKey_put_same hD (isKey8 _) _ z⟩
    · rename_i hne
      have hne' : (Lit.int .u8 x) ≠ .int .u8 k := by simpa using hne
      rw [has_put_other hne']
      exact ⟨(h.some_ x v hx).1, fun z => by rw [atKey_put_other hne']; exact (h.some_ x v hx).2 z⟩
  · unfold upd at hx
    split at hx
    · cases hx; subst_vars; exact ⟨hk.1, hk.2, hc.1, hc.2⟩
    · exact h.rng x v hx
  · by_cases he : kl = .int .u8 k
    · exact ⟨k, he, by simp [upd]⟩
    · rw [has_put_other he] at hkl
      obtain ⟨x, rfl, hx⟩ := h.keys kl hkl
      refine ⟨x, rfl, ?_⟩
      have : x ≠ k := by simpa using he
      simp [upd, this, hx]
theorem TabD.del {D : DataW Unit} {f : Int → Option Int} (h : TabD D f) (k : Int) : TabD (D.del (.int .u8 k)) (upd f k none) := by
  refine ⟨fun x hx => ?_, fun x v hx => ?_, fun x v hx => ?_, fun kl hkl => ?_⟩
  · by_cases he : x = k
    · subst he; exact has_del_same
    · rw [has_del_other (by simpa using he)]
      simp [upd, he] at hx
      exact h.none_ x hx
  · unfold upd at hx
    split at hx
    · cases hx
    · rename_i hne
      have hne' : (Lit.int .u8 x) ≠ .int .u8 k := by simpa using hne
      rw [has_del_other hne']
      exact ⟨(h.some_ x v hx).1, fun z => by rw [atKey_del_other hne']; exact (h.some_ x v hx).2 z⟩
  · unfold upd at hx
    split at hx
    · cases hx
    · exact h.rng x v hx
  · by_cases he : kl = .int .u8 k
    · subst he; rw [has_del_same] at hkl; cases hkl
    · rw [has_del_other he] at hkl
      obtain ⟨x, rfl, hx⟩ := h.keys kl hkl
      refine ⟨x, rfl, ?_⟩
      have : x ≠ k := by simpa using he
      simp [upd, this, hx]

open Classical in
theorem nodup_le {α : Type} : ∀ (l m : List α), l.Nodup → (∀ x ∈ l, x ∈ m) → l.length ≤ m.length
  | [], m, _, _ => by simp
  | a :: l, m, hn, hs => by
    have ha : a ∈ m := hs a (by simp)
    have h1 := nodup_le l (m.erase a) (List.nodup_cons.1 hn).2 (fun x hx => by
      have hne : x ≠ a := by rintro rfl; exact (List.nodup_cons.1 hn).1 hx
      exact (List.mem_erase_of_ne hne).2 (hs x (by simp [hx])))
    rw [List.length_erase_of_mem ha] at h1
    have : 0 < m.length := List.length_pos_of_mem ha
    simp only [List.length_cons]
    omega

theorem TabD.size {D : DataW Unit} {f : Int → Option Int} (h : TabD D f) {es : List (Lit × DataW Unit)} (hD : D = .map es) (hp : es.Pairwise (fun p q => p.1 ≠ q.1)) (hkl : ∀ p ∈ es, WideAt.IsKeyLit p.1) : es.length ≤ 8 := by
  subst hD
  have h1 := nodup_le (es.map (·.1)) ((List.range 8).map fun (i : Nat) => Lit.int .u8 (i : Int)) (by
    rw [List.nodup_iff_pairwise_ne, List.pairwise_map]; exact hp) (fun x hx => by
    obtain ⟨p, hpm, rfl⟩ := List.mem_map.1 hx
    have hh : has (.map es) p.1 = true := by
      rw [has_eq, List.any_eq_true]
      exact ⟨p, hpm, WideAt.sameKey_self (hkl p hpm)⟩
    obtain ⟨x, hx, hs⟩ := h.keys p.1 hh
    obtain ⟨c, hc⟩ := Option.isSome_iff_exists.1 hs
    obtain ⟨r0, r1, _⟩ := h.rng x c hc
    rw [hx]
    exact List.mem_map.2 ⟨x.toNat, by simp; omega, by congr 1; omega⟩)
  simpa using h1

/-- Block b is a map that says what f says. -/
def MapIs (w : World) (b : Nat) (f : Int → Option Int) : Prop := ∃ (D : DataW Unit) (n : Nat), w.ownsMap Try.prog 5 (plainElem Try.prog 27) b n D ∧ TabD D f

theorem MapIs.tight {w : World} {b : Nat} {f : Int → Option Int} (h : MapIs w b f) : ∃ (D : DataW Unit), w.ownsMap Try.prog 5 (plainElem Try.prog 27) b 8 D ∧ TabD D f := by
  obtain ⟨D, n, hown, hD⟩ := h
  obtain ⟨es0, e0, hp, hk⟩ := hown.entries lawK8
  have hsz := hD.size e0 hp hk
  obtain ⟨es, clock, hb, F, hs, he⟩ := hown
  refine ⟨D, ⟨es, clock, hb, F, ?_, he⟩, hD⟩
  rw [he] at e0
  have e1 : es0.length = es.size := by
    have := congrArg (fun d => match d with | DataW.map l => l.length | _ => 0) e0
    simp only [length_sorted, List.length_map, Array.length_toList] at this
    exact this.symm
  omega
theorem MapIs.lt {w : World} {b : Nat} {f : Int → Option Int} (h : MapIs w b f) : b < w.heap.size := by
  obtain ⟨D, n, hown, _⟩ := h
  exact hown.lt
theorem MapIs.same {w w' : World} {b : Nat} {f : Int → Option Int} (h : MapIs w b f) (hh : w'.heap[b]? = w.heap[b]?) : MapIs w' b f := by
  obtain ⟨D, n, ⟨es, clock, hb, F, hs, he⟩, hD⟩ := h
  exact ⟨D, n, ⟨es, clock, hh.trans hb, F, hs, he⟩, hD⟩
theorem MapIs.rng {w : World} {b : Nat} {f : Int → Option Int} (h : MapIs w b f) {x c : Int} (hx : f x = some c) : 0 ≤ x ∧ x < 8 ∧ 0 ≤ c ∧ c < 65536 := by
  obtain ⟨_, _, _, hD⟩ := h
  exact hD.rng x c hx
theorem MapIs.alloc {w : World} {b : Nat} {f : Int → Option Int} (h : MapIs w b f) (o : Obj) : MapIs (w.alloc o) b f := h.same (Below.heap_alloc w o b h.lt)
theorem MapIs.setCell {w : World} {b : Nat} {f : Int → Option Int} (h : MapIs w b f) {a : Addr} (ha : b ≠ a.block) (u : Value) : MapIs (w.setCell a u) b f := h.same (Below.heap_setCell w a u b ha)
theorem MapIs.made (w : World) : MapIs (w.alloc (.map #[] 0)) w.heap.size (fun _ => none) := ⟨.map [], 0, World.ownsMap_made _ _ _ _, TabD.empty⟩
theorem MapIs.drewN {w : World} {b : Nat} {f : Int → Option Int} (h : MapIs w b f) (n : Nat) : MapIs (w.drewN n) b f := h.same rfl

theorem MapIs.look {w : World} {b : Nat} {f : Int → Option Int} (h : MapIs w b f) {x : Int} (h0 : 0 ≤ x) (h1 : x < 256) :
    (Instr.lookup 57 (.map (some b)) (.int .u8 x) true).run Try.prog w = .ok (.tuple #[.int .u16 ((f x).getD 0), .bool (f x).isSome]) w := by
  obtain ⟨D, n, hown, hD⟩ := h
  obtain ⟨v, ps, hrun, hv⟩ := hown.look_ok lawK8 Try.underlying57 (zero16 w) (plainElem_int Try.underlying27 (by decide)) (key8 h0 h1)
  rw [hrun]
  cases hx : f x with
  | none =>
    rw [hD.none_ x hx]
    rw [atKey_of_not_has (hD.none_ x hx)] at hv
    obtain ⟨a, rfl, ha, _⟩ := plainElem_int_inv Try.underlying27 hv
    simp only [Prod.mk.injEq, DataW.lit.injEq, Lit.int.injEq] at ha
    obtain ⟨⟨_, rfl⟩, _⟩ := ha
    rfl
  | some c =>
    obtain ⟨k1, k2⟩ := hD.some_ x c hx
    rw [k1]
    rw [k2] at hv
    obtain ⟨a, rfl, ha, _⟩ := plainElem_int_inv Try.underlying27 hv
    simp only [Prod.mk.injEq, DataW.lit.injEq, Lit.int.injEq] at ha
    obtain ⟨⟨_, rfl⟩, _⟩ := ha
    rfl
theorem MapIs.store {w : World} {b : Nat} {f : Int → Option Int} (h : MapIs w b f) {x c : Int} (h0 : 0 ≤ x) (h1 : x < 8) (c0 : 0 ≤ c) (c1 : c < 65536) :
    ∃ w', (Instr.mapUpdate 57 (.map (some b)) (.int .u8 x) (.int .u16 c)).run Try.prog w = .ok () w' ∧ MapIs w' b (upd f x (some c)) ∧ w.mapTurned w' b := by
  obtain ⟨D, hown, hD⟩ := h.tight
  obtain ⟨w', hrun, hown', ht⟩ := hown.store lawK8 Try.underlying57 (by unfold maxLen; omega) (key8 h0 (by omega)) (plainElem_int Try.underlying27 (wf16 c0 c1))
  exact ⟨w', hrun, ⟨_, _, hown', hD.put hown.isMap ⟨h0, h1⟩ ⟨c0, c1⟩⟩, ht⟩
theorem MapIs.drop {w : World} {b : Nat} {f : Int → Option Int} (h : MapIs w b f) {x : Int} (h0 : 0 ≤ x) (h1 : x < 256) (ty : TypeId) :
    ∃ w', (Builtin.delete_ #[57, 5] ty #[.map (some b), .int .u8 x]).run Try.prog w = .ok (.tuple #[]) w' ∧ MapIs w' b (upd f x none) ∧ w.mapTurned w' b := by
  obtain ⟨D, n, hown, hD⟩ := h
  obtain ⟨w', hrun, hown', ht⟩ := hown.drop lawK8 Try.underlying57 (key8 h0 h1) ty
  exact ⟨w', hrun, ⟨_, _, hown', hD.del x⟩, ht⟩

/-- An error that is an Errno, or nil. -/
def errv : Option Int → Value
  | none => .nilIface
  | some n => .iface 60 (.int .i64 n)

theorem errv_none : errv none = .nilIface := rfl
theorem errv_some (n : Int) : errv (some n) = .iface 60 (.int .i64 n) := rfl

/-- What Ask answers beside the value. -/
def askE (o : Option Int) : Option Int := if o.isSome then none else some 17
theorem askE_some (c : Int) : askE (some c) = none := rfl
theorem askE_ok (o : Option Int) : ∀ n, askE o = some n → n ≠ 0 ∧ -9223372036854775808 ≤ n ∧ n ≤ 9223372036854775807 := by
  cases o <;> intro n h <;> simp [askE] at h
  omega

/-- A command. -/
structure Cmd where
  kind : Int
  key : Int
  val : Int
  old : Int
structure Cmd.ok (c : Cmd) : Prop where
  kind : 0 ≤ c.kind ∧ c.kind < 256
  key : 0 ≤ c.key ∧ c.key < 256
  val : 0 ≤ c.val ∧ c.val < 65536
  old : 0 ≤ c.old ∧ c.old < 65536
def Cmd.v (c : Cmd) : Value := .agg #[.int .u8 c.kind, .int .u8 c.key, .int .u16 c.val, .int .u16 c.old]

def applyE (c : Cmd) : Option Int := if c.kind = 0 then none else if 8 ≤ c.key then some 2 else if 3 < c.kind then some 7 else none
def applied (c : Cmd) : Bool := decide (c.kind ≠ 0) && decide (c.key < 8) && decide (c.kind ≤ 3)
def applyF (f : Int → Option Int) (c : Cmd) : Int → Option Int :=
  if applied c = false then f else if c.kind = 2 then upd f c.key none else if c.kind = 1 then upd f c.key (some c.val) else if f c.key = some c.old then upd f c.key (some c.val) else f
def applyB (f : Int → Option Int) (c : Cmd) : Bool :=
  if applied c = false then false else if c.kind = 2 then (f c.key).isSome else if c.kind = 1 then decide (f c.key ≠ some c.val) else if f c.key = some c.old then decide (c.old ≠ c.val) else false
def applyN (n : Int) (c : Cmd) : Int := if applied c = false then n else wrap64 (n + 1)

/-- A table of colour k at block tb: what it says, and how many commands were done. -/
def IsTab (w : World) (C : Nat → Nat) (k tb : Nat) (f : Int → Option Int) (done : Int) : Prop :=
  ∃ mb, Bk w tb 59 [.map (some mb), .int .i64 done] ∧ MapIs w mb f ∧ C tb = k ∧ C mb = k

theorem IsTab.fr {K : Nat → Prop} {C C' : Nat → Nat} {w w' : World} {k tb : Nat} {f : Int → Option Int} {d : Int} (h : IsTab w C k tb f d) (hf : Fr K C C' w w') (hk : ¬ K k) : IsTab w' C' k tb f d := by
  obtain ⟨mb, hb, hm, h1, h2⟩ := h
  have b1 := hf.block tb hb.lt (by rw [h1]; exact hk)
  have b2 := hf.block mb hm.lt (by rw [h2]; exact hk)
  exact ⟨mb, hb.same b1.1, hm.same b2.1, b1.2.trans h1, b2.2.trans h2⟩
end Go.Proofs.Ytomcjmgbkpbdpaa
