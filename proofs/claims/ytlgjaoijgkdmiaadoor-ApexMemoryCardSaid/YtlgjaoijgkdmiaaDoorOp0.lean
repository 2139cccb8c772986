/- What an op does, in plain words; the state of a node's host in memory. No condition. -/
import Derived.Test.YtlgjaoijgkdmiaaDoorApxC
import Derived.Test.YtlgjaoijgkdmiaaDoorApxK
import Derived.Test.YtlgjaoijgkdmiaaDoorPTot
import Derived.Test.YtlgjaoijgkdmiaaDoorRep0
set_option linter.unusedSimpArgs false
set_option linter.unusedVariables false
namespace Go.Proofs.YtlgjaoijgkdmiaaDoor
open Go.RowKit Go.Maps

/-- What a host and a partition say. -/
structure HSt where
  st : List PSt
  f : Int → Option Int
  cmd : Cmd
  mem : List Int
/-- Where they lie. -/
structure HA where
  b : Nat
  ab : Nat
  tb : Nat
  mb : Nat
  cb : Nat
  pb : Nat
  xb : Nat
  d : Int
  pv : Value
  qv : Value
  rv : Value
  pv2 : Value
  qv2 : Value
  rv2 : Value
  node : Int
  part : Nat
def HA.v (A : HA) : Value := hostV A.b A.tb A.mb A.cb
structure HW (w : World) (C : Nat → Nat) (c : Cfg) (A : HA) (lv : Nat → Value) (s : HSt) : Prop where
  ports : IsPorts w C 100 A.b A.ab c A.pv A.qv A.rv A.node lv s.st
  nab : A.ab ≠ A.b
  tab : IsTab w C 300 A.tb s.f A.d
  cmd : Bk w A.cb 65 s.cmd.cells4
  ccol : C A.cb = 320
  apx : IsApx w C 330 A.pb A.xb c A.pv2 A.qv2 A.rv2 A.part s.mem
theorem HW.fr {K : Nat → Prop} {C C' : Nat → Nat} {w w' : World} {c : Cfg} {A : HA} {lv : Nat → Value} {s : HSt} (h : HW w C c A lv s) (f : Fr K C C' w w') (hn : s.st.length ≤ 24)
    (hk : ∀ x, K x → x ≠ 0 ∧ (x < 100 ∨ 200 ≤ x) ∧ x ≠ 300 ∧ x ≠ 320 ∧ x ≠ 330) : HW w' C' c A lv s :=
  ⟨h.ports.fr f (fun x hx => ⟨(hk x hx).1, (hk x hx).2.1⟩) hn, h.nab, h.tab.fr f (fun hx => (hk _ hx).2.2.1 rfl), h.cmd.fr f (by rw [h.ccol]; exact fun hx => (hk _ hx).2.2.2.1 rfl),
    (f.block _ h.cmd.lt (by rw [h.ccol]; exact fun hx => (hk _ hx).2.2.2.1 rfl)).2.trans h.ccol, h.apx.fr f ⟨fun hx => (hk _ hx).1 rfl, fun hx => (hk _ hx).2.2.2.2 rfl⟩⟩

def low (a : Int) : Int := if a < -1 then -1 else a
def opE (c : Cfg) (node : Int) (part : Nat) (s : HSt) (o : OpT) : Option (Int × Int) :=
  if o.kind = 1 then writeE c node part o.port o.d s.st else if o.kind = 2 then readE c node part o.port s.st
  else if o.kind = 3 ∨ o.kind = 4 then (if o.a < 0 ∨ (s.mem.length : Int) ≤ o.a then some (150, low o.a) else none)
  else if o.kind = 5 then none else if o.kind = 7 ∨ o.kind = 8 ∨ o.kind = 9 then cmdE s.cmd part o
  else if o.kind = 10 then (if o.a < 0 ∨ 8 ≤ o.a then some (2, low o.a) else none) else some (152, (part : Int))
def opS (c : Cfg) (node : Int) (part : Nat) (s : HSt) (o : OpT) : HSt :=
  if o.kind = 1 then ⟨writeS c node part o.port o.d s.st, s.f, s.cmd, s.mem⟩ else if o.kind = 2 then ⟨readS c node part o.port s.st, s.f, s.cmd, s.mem⟩
  else if o.kind = 3 then (if o.a < 0 ∨ (s.mem.length : Int) ≤ o.a then s else ⟨s.st, s.f, s.cmd, s.mem.set o.a.toNat (w16 o.b)⟩)
  else if o.kind = 7 ∨ o.kind = 8 ∨ o.kind = 9 then ⟨s.st, s.f, cmdM s.cmd o, s.mem⟩ else s
/-- The code and the value, if there is no error. -/
def opV (s : HSt) (o : OpT) : Int × Int :=
  if o.kind = 3 then (if o.a < 0 ∨ (s.mem.length : Int) ≤ o.a then (0, 0) else (0, w16 o.b))
  else if o.kind = 4 then (if o.a < 0 ∨ (s.mem.length : Int) ≤ o.a then (0, 0) else (0, s.mem.getD o.a.toNat 0))
  else if o.kind = 10 then (if o.a < 0 ∨ 8 ≤ o.a then (0, 0) else match s.f o.a with | some v => (0, v) | none => (10, 0)) else (0, 0)
def opD (c : Cfg) (node : Int) (part : Nat) (s : HSt) (o : OpT) : Option (List UInt8 × Bool) :=
  if o.kind = 2 then readD c node part o.port s.st else none
def KOp (x : Nat) : Prop := (100 ≤ x ∧ x < 200) ∨ x = 320 ∨ x = 330
/-- What an op leaves. -/
def OpP (c : Cfg) (A : HA) (C : Nat → Nat) (w : World) (E : Option (Int × Int)) (V : Int × Int) (D : Option (List UInt8 × Bool)) (S : HSt) (e : Ending) (w' : World) : Prop :=
  ∃ dv fv ev C' lv', e = .returned (.tuple #[.agg #[.int .i64 V.1, .int .i64 V.2, dv, fv], ev]) ∧ ReadV w' C' dv fv D ∧ ErrO w w' ev E ∧ Fr KOp C C' w w' ∧ HW w' C' c A lv' S
theorem results_cell2 {fn : Func} {p s : Tmp} {ty : TypeId} (h : fn.results = #[.cell p ty, .tmp s]) (tmps : Array Value) (P : Program) (w : World) :
    (results fn tmps).run P w = (((asAddr (tmps.getD p undef)).run P w).andThen fun a w₁ => (loadVar ty a).run P w₁).andThen fun v w₂ => .ok (.tuple #[v, tmps.getD s undef]) w₂ := by
  simp only [results, h]
  simp [Sem.run_bind, Result.andThen]
  cases Sem.run P (asAddr (tmps[p]?.getD undef)) w with
  | halt h w1 => rfl
  | ok a w1 =>
    simp only
theorem HW.ports_ {w w' : World} {C C' : Nat → Nat} {c : Cfg} {A : HA} {lv lv' : Nat → Value} {s : HSt} {st' : List PSt} (h : HW w C c A lv s) (f : Fr (fun x => 100 ≤ x ∧ x < 100 + 100) C C' w w') (hp : IsPorts w' C' 100 A.b A.ab c A.pv A.qv A.rv A.node lv' st') : HW w' C' c A lv' ⟨st', s.f, s.cmd, s.mem⟩ :=
  ⟨hp, h.nab, h.tab.fr f (by omega), h.cmd.fr f (by rw [h.ccol]; omega), (f.block _ h.cmd.lt (by rw [h.ccol]; omega)).2.trans h.ccol, h.apx.fr f ⟨by omega, by omega⟩⟩
theorem ReadV.form {w : World} {C : Nat → Nat} {v fv : Value} {D : Option (List UInt8 × Bool)} (h : ReadV w C v fv D) : ∃ a n m b, v = .slice a n m ∧ fv = .bool b := by
  match D, h with
  | none, h => exact ⟨none, 0, 0, false, h.1, h.2⟩
  | some (d, b), h =>
    obtain ⟨a, m, h1, -⟩ := h.1
    exact ⟨a, _, m, b, h1, h.2⟩
theorem IsApx.fr_heap {w w' : World} {C : Nat → Nat} {k pb mb : Nat} {c : Cfg} {pv qv rv : Value} {part : Nat} {mem : List Int} (h : IsApx w C k pb mb c pv qv rv part mem) (hh : w'.heap = w.heap) (hl : Lists w' C c pv qv rv) : IsApx w' C k pb mb c pv qv rv part mem :=
  ⟨h.head.same (by rw [hh]), h.hcol, hl, h.words.same (by rw [hh]), h.wcol⟩
theorem w16_rng (x : Int) : 0 ≤ w16 x ∧ w16 x < 65536 := by
  have h : w16 x = x % 65536 := rfl
  rw [h]
  omega
theorem ErrO.later {w W w' w'' : World} {ev : Value} {E : Option (Int × Int)} (h : ErrO W w' ev E) (hs : w.heap.size ≤ W.heap.size) (hh : ∀ b, W.heap.size ≤ b → w''.heap[b]? = w'.heap[b]?) : ErrO w w'' ev E := by
  match E, h with
  | none, h => exact h
  | some (c, a), ⟨b, h1, h2, h3⟩ => exact ⟨b, h1, Nat.le_trans hs h2, h3.same (hh b h2)⟩
theorem OpP.drew {c : Cfg} {A : HA} {C : Nat → Nat} {w : World} {E : Option (Int × Int)} {V : Int × Int} {D : Option (List UInt8 × Bool)} {S : HSt} {e : Ending} {w' : World} (h : OpP c A C w E V D S e w') (hl : S.st.length ≤ 24) : OpP c A C w E V D S e w'.drew := by
  obtain ⟨dv, fv, ev, C', lv', h1, h2, h3, h4, h5⟩ := h
  have f : Fr (fun _ => False) C' C' w' w'.drew := (Fr.refl _ _ _).drew
  refine ⟨dv, fv, ev, C', lv', h1, ?_, h3.later (Nat.le_refl _) (fun _ _ => rfl), h4.drew, h5.fr f hl (fun x hx => hx.elim)⟩
  match D, h2 with
  | none, h => exact h
  | some (d, b), h => exact ⟨h.1.fr f (fun e => e), h.2⟩
theorem op_end {c : Cfg} {A : HA} {w W w1 : World} {C C0 C1 : Nat → Nat} {rb : Nat} (hrb : w.heap.size ≤ rb) (hrW : rb < W.heap.size) (F0 : Fr (fun _ => False) C C0 w W) (hC0 : C0 rb = 400) (hFr : Fr KOp C0 C1 W w1)
    {E : Option (Int × Int)} {V : Int × Int} {D : Option (List UInt8 × Bool)} {S : HSt} {lv1 : Nat → Value} {ev dv fv : Value} (hE : ErrO W w1 ev E) (hR : ReadV w1 C1 dv fv D) (hH : HW w1 C1 c A lv1 S) (hl : S.st.length ≤ 24) (v0 v1 v2 v3 : Value) :
    OpP c A C w E V D S (.returned (.tuple #[.agg #[.int .i64 V.1, .int .i64 V.2, dv, fv], ev])) ((((w1.setCell ⟨rb, 0, none⟩ v0).setCell ⟨rb, 1, none⟩ v1).setCell ⟨rb, 2, none⟩ v2).setCell ⟨rb, 3, none⟩ v3) := by
  have hk : ¬ KOp 400 := by unfold KOp; omega
  have h1 : C1 rb = 400 := (hFr.block rb hrW (by rw [hC0]; exact hk)).2.trans hC0
  have f1 : Fr (· = 400) C1 C1 w1 ((((w1.setCell ⟨rb, 0, none⟩ v0).setCell ⟨rb, 1, none⟩ v1).setCell ⟨rb, 2, none⟩ v2).setCell ⟨rb, 3, none⟩ v3) :=
    ((((Fr.refl _ C1 w1).setCell (.inr h1) _).setCell (.inr h1) _).setCell (.inr h1) _).setCell (.inr h1) _
  have f2 : Fr KOp C C1 w ((((w1.setCell ⟨rb, 0, none⟩ v0).setCell ⟨rb, 1, none⟩ v1).setCell ⟨rb, 2, none⟩ v2).setCell ⟨rb, 3, none⟩ v3) :=
    (((((F0.mono fun _ h => h.elim).trans hFr).setCell (.inl hrb) _).setCell (.inl hrb) _).setCell (.inl hrb) _).setCell (.inl hrb) _
  refine ⟨dv, fv, ev, C1, lv1, rfl, ?_, hE.later F0.size ?_, f2, hH.fr f1 hl (fun x hx => by omega)⟩
  · match D, hR with
    | none, h => exact h
    | some (d, b), h => exact ⟨h.1.fr f1 (fun e => by cases e), h.2⟩
  · intro b hb
    rw [Below.heap_setCell _ _ _ _ (by show b ≠ rb; omega), Below.heap_setCell _ _ _ _ (by show b ≠ rb; omega), Below.heap_setCell _ _ _ _ (by show b ≠ rb; omega), Below.heap_setCell _ _ _ _ (by show b ≠ rb; omega)]
end Go.Proofs.YtlgjaoijgkdmiaaDoor
