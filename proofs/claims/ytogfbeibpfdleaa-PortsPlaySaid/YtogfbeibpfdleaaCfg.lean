/- A cluster's tables as data; what is wrong with them. No condition. -/
import Derived.Test.YtogfbeibpfdleaaBase
import Derived.Test.YtogfbeibpfdleaaProg
set_option linter.unusedSimpArgs false
set_option linter.unusedVariables false
namespace Go.Proofs.Ytogfbeibpfdleaa
open Go.RowKit Go.Maps

structure Part where
  node : Int
  start : Int
  length : Int
  budget : Int
  words : Int
  r0 : Int
  r1 : Int
  r2 : Int
  r3 : Int
  deriving Inhabited, DecidableEq
structure Port where
  part : Int
  kind : Int
  out : Bool
  size : Int
  depth : Int
  fresh : Int
  deriving Inhabited, DecidableEq
structure Route where
  src : Int
  dst : Int
  deriving Inhabited, DecidableEq
structure Cfg where
  nodes : Int
  faulty : Int
  slot : Int
  gap : Int
  rho : Int
  dmin : Int
  dmax : Int
  margin : Int
  parts : List Part
  ports : List Port
  routes : List Route

def Part.cells (p : Part) : List Value := [.int .i64 p.node, .int .i64 p.start, .int .i64 p.length, .int .i64 p.budget, .int .i64 p.words, .int .u8 p.r0, .int .u8 p.r1, .int .u8 p.r2, .int .u8 p.r3]
def Port.cells (p : Port) : List Value := [.int .i64 p.part, .int .u8 p.kind, .bool p.out, .int .i64 p.size, .int .i64 p.depth, .int .i64 p.fresh]
def Route.cells (r : Route) : List Value := [.int .i64 r.src, .int .i64 r.dst]

/-- An int. -/
def I64 (x : Int) : Prop := -9223372036854775808 ≤ x ∧ x ≤ 9223372036854775807
def U8 (x : Int) : Prop := 0 ≤ x ∧ x < 256
structure Part.ok (p : Part) : Prop where
  node : I64 p.node
  start : I64 p.start
  length : I64 p.length
  budget : I64 p.budget
  words : I64 p.words
  r0 : U8 p.r0
  r1 : U8 p.r1
  r2 : U8 p.r2
  r3 : U8 p.r3
structure Port.ok (p : Port) : Prop where
  part : I64 p.part
  kind : U8 p.kind
  size : I64 p.size
  depth : I64 p.depth
  fresh : I64 p.fresh
structure Route.ok (r : Route) : Prop where
  src : I64 r.src
  dst : I64 r.dst
structure Cfg.ok (c : Cfg) : Prop where
  nodes : I64 c.nodes
  faulty : I64 c.faulty
  slot : I64 c.slot
  gap : I64 c.gap
  rho : I64 c.rho
  dmin : I64 c.dmin
  dmax : I64 c.dmax
  margin : I64 c.margin
  parts : ∀ p ∈ c.parts, p.ok
  ports : ∀ p ∈ c.ports, p.ok
  routes : ∀ r ∈ c.routes, r.ok

/-- The eleven cells of the tables c. -/
def Cfg.cells (c : Cfg) (pv qv rv : Value) : List Value :=
  [.int .i64 c.nodes, .int .i64 c.faulty, .int .i64 c.slot, .int .i64 c.gap, .int .i64 c.rho, .int .i64 c.dmin, .int .i64 c.dmax, .int .i64 c.margin, pv, qv, rv]
def Cfg.v (c : Cfg) (pv qv rv : Value) : Value :=
  .agg #[.int .i64 c.nodes, .int .i64 c.faulty, .int .i64 c.slot, .int .i64 c.gap, .int .i64 c.rho, .int .i64 c.dmin, .int .i64 c.dmax, .int .i64 c.margin, pv, qv, rv]
/-- The three lists of the tables c. -/
structure Lists (w : World) (C : Nat → Nat) (c : Cfg) (pv qv rv : Value) : Prop where
  parts : Rd w C pv 9 c.parts.length (c.parts.flatMap Part.cells)
  ports : Rd w C qv 6 c.ports.length (c.ports.flatMap Port.cells)
  routes : Rd w C rv 2 c.routes.length (c.routes.flatMap Route.cells)
theorem Lists.fr {K : Nat → Prop} {C C' : Nat → Nat} {w w' : World} {c : Cfg} {pv qv rv : Value} (h : Lists w C c pv qv rv) (f : Fr K C C' w w') (hk : ¬ K 0) : Lists w' C' c pv qv rv :=
  ⟨h.parts.fr f hk, h.ports.fr f hk, h.routes.fr f hk⟩

/-- Is x from lo to hi? -/
def inb (x lo hi : Int) : Bool := decide (lo ≤ x) && decide (x ≤ hi)
/-- The first place that is bad. -/
def firstIdx (n : Nat) (bad : Nat → Bool) : Option Nat := (List.range n).find? bad
theorem firstIdx_some {n i : Nat} {bad : Nat → Bool} (hi : i < n) (h : ∀ j, j < i → bad j = false) (hb : bad i = true) : firstIdx n bad = some i := by
  unfold firstIdx
  rw [List.find?_range_eq_some]
  exact ⟨hb, by simpa using hi, fun j hj => by simp [h j hj]⟩
theorem firstIdx_none {n : Nat} {bad : Nat → Bool} (h : ∀ j, j < n → bad j = false) : firstIdx n bad = none := by
  unfold firstIdx
  rw [List.find?_eq_none]
  intro j hj
  simp [h j (by simpa using hj)]
theorem firstIdx_none_iff {n : Nat} {bad : Nat → Bool} : firstIdx n bad = none ↔ ∀ j, j < n → bad j = false := by
  refine ⟨fun h j hj => ?_, firstIdx_none⟩
  unfold firstIdx at h
  rw [List.find?_eq_none] at h
  simpa using h j (by simpa using hj)

def partOk (nodes : Int) (p : Part) : Bool :=
  decide (p.r0 ≤ 3) && decide (p.r1 ≤ 3) && decide (p.r2 ≤ 3) && decide (p.r3 ≤ 3) && inb p.node 0 (nodes - 1) && inb p.start 0 268435456 && inb p.length 1 268435456 && inb p.budget 0 64 && inb p.words 0 16
def portOk (parts : Int) (p : Port) : Bool :=
  inb p.part 0 (parts - 1) && inb p.size 0 16 &&
    (if p.kind = 1 then decide (p.depth = 0) && inb p.fresh 0 8 && (!p.out || decide (p.fresh = 0)) else if p.kind = 2 then inb p.depth 1 4 && decide (p.fresh = 0) else false)
def routeIn (ports : Int) (r : Route) : Bool := inb r.src 0 (ports - 1) && inb r.dst 0 (ports - 1)
def Cfg.part (c : Cfg) (i : Nat) : Part := c.parts.getD i default
def Cfg.port (c : Cfg) (i : Nat) : Port := c.ports.getD i default
def Cfg.route (c : Cfg) (i : Nat) : Route := c.routes.getD i default
def rangesOk (c : Cfg) : Bool :=
  inb c.nodes 1 7 && inb c.faulty 0 2 && inb c.slot 1 16777216 && inb c.gap 0 16777216 && inb c.rho 0 200 && inb c.dmax 0 1048576 && inb c.dmin 0 c.dmax && inb c.margin 0 16777216
def atE (code : Int) (n : Nat) (bad : Nat → Bool) (next : Option (Int × Int)) : Option (Int × Int) :=
  match firstIdx n bad with
  | some i => some (code, (i : Int))
  | none => next
theorem atE_some {code : Int} {n i : Nat} {bad : Nat → Bool} {next : Option (Int × Int)} (hi : i < n) (h : ∀ j, j < i → bad j = false) (hb : bad i = true) : atE code n bad next = some (code, (i : Int)) := by
  unfold atE
  rw [firstIdx_some hi h hb]
theorem atE_none {code : Int} {n : Nat} {bad : Nat → Bool} {next : Option (Int × Int)} (h : ∀ j, j < n → bad j = false) : atE code n bad next = next := by
  unfold atE
  rw [firstIdx_none h]
theorem atE_eq_none {code : Int} {n : Nat} {bad : Nat → Bool} {next : Option (Int × Int)} (h : atE code n bad next = none) : (∀ j, j < n → bad j = false) ∧ next = none := by
  unfold atE at h
  cases hf : firstIdx n bad with
  | some i => rw [hf] at h; cases h
  | none => rw [hf] at h; exact ⟨firstIdx_none_iff.1 hf, h⟩
def partBad (c : Cfg) (i : Nat) : Bool := !partOk c.nodes (c.part i)
def portBad (c : Cfg) (i : Nat) : Bool := !portOk c.parts.length (c.port i)
def routeOut (c : Cfg) (i : Nat) : Bool := !routeIn c.ports.length (c.route i)
/-- What is out of its range: a code and a place. -/
def tabE (c : Cfg) : Option (Int × Int) :=
  if rangesOk c = false then some (2, -1) else if c.parts.length > 12 ∨ c.ports.length > 24 ∨ c.routes.length > 24 then some (3, -1) else
  atE 2 c.parts.length (partBad c) (atE 8 c.ports.length (portBad c) (atE 72 c.routes.length (routeOut c) none))
def Cfg.round (c : Cfg) : Int := c.nodes * c.slot + c.gap
def Cfg.drift (c : Cfg) : Int := (2 * c.rho * c.round + 999999) / 1000000 + 2
def Cfg.prec (c : Cfg) : Int := 4 * (c.dmax - c.dmin) + 16 * c.drift + 64
def Cfg.mean (c : Cfg) : Int := c.dmin + (c.dmax - c.dmin) / 2
def Cfg.send (c : Cfg) (i : Int) : Int := i * c.slot + c.margin
def meets (p q : Part) : Bool := decide (q.node = p.node) && decide (p.start < q.start + q.length) && decide (q.start < p.start + p.length)
def winBad (c : Cfg) (i : Nat) : Bool := decide (c.nodes * c.slot < (c.part i).start + (c.part i).length) || (List.range i).any fun k => meets (c.part i) (c.part k)
def routeBad (c : Cfg) (i : Nat) : Bool :=
  !(c.port (c.route i).src.toNat).out || (c.port (c.route i).dst.toNat).out || decide ((c.port (c.route i).src.toNat).kind ≠ (c.port (c.route i).dst.toNat).kind) || decide ((c.port (c.route i).dst.toNat).size < (c.port (c.route i).src.toNat).size) ||
    (List.range i).any fun k => decide ((c.route k).dst = (c.route i).dst)
/-- The first thing that doesn't work. -/
def sndE (c : Cfg) : Option (Int × Int) :=
  if (tabE c).isSome = true then tabE c else
    if c.nodes < 3 * c.faulty + 1 then some (70, -1) else if c.margin < c.prec + (c.dmax - c.dmin) + c.drift then some (74, -1) else if c.slot < 2 * c.margin + c.dmax + c.prec then some (73, -1)
    else if c.gap < 2 * (c.margin + c.prec) then some (75, -1) else
    atE 71 c.parts.length (winBad c) (atE 72 c.routes.length (routeBad c) none)

/-- A Fault that lies at block b. -/
def faultV (b : Nat) : Value := .iface 93 (.pointer (some ⟨b, 0, none⟩))
/-- nil, or a Fault without a cause, made since w. -/
def ErrO (w w' : World) (ev : Value) : Option (Int × Int) → Prop
  | none => ev = .nilIface
  | some (c, a) => ∃ b, ev = faultV b ∧ w.heap.size ≤ b ∧ Bk w' b 95 [.int .i64 c, .int .i64 a, .nilIface]
end Go.Proofs.Ytogfbeibpfdleaa
