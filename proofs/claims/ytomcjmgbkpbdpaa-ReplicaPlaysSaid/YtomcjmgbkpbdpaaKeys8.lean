/- slices.Sorted(maps.Keys(m)) of a map with bytes as keys: a new slice that holds the keys, rising. No condition but that there are no more than twelve keys. -/
import Derived.RangeFuncBox
import Derived.RangeFuncLeaves
import Derived.RangeFuncStops
import Derived.Shelf.Abstract
import Derived.Shelf.AbstractIn
import Derived.WalkKit
import Derived.OwnWalkIn
import Derived.TacticsInMore
import Derived.RegionIn
import Derived.LoopNIn
import Derived.LoopIn
import Derived.Maps.AppendAt
import Derived.Sort.MapsRangeIn
import Derived.Test.YtomcjmgbkpbdpaaSort8
import Derived.Test.YtomcjmgbkpbdpaaTab
import Derived.Test.YtomcjmgbkpbdpaaSl
set_option linter.unusedSimpArgs false
set_option linter.unusedVariables false
namespace Go.Proofs.Ytomcjmgbkpbdpaa
open Go.RowKit Go.Shelf Go.Sort Go.Maps

attribute [local go_sem] Oper.semAt_some

/-- What has come: no key twice; each one that the map has and that is no longer to come. -/
def CollK (D0 : DataW Unit) (left : Lit → Bool) (ss : List Int) : Prop := ss.Nodup ∧ ∀ x, x ∈ ss ↔ (has D0 (.int .u8 x) = true ∧ left (.int .u8 x) = false)
theorem CollK.start (D0 : DataW Unit) : CollK D0 (has D0) [] := ⟨List.nodup_nil, fun x => by cases has D0 (.int .u8 x) <;> simp⟩
theorem CollK.step {D0 : DataW Unit} {left : Lit → Bool} {ss : List Int} (h : CollK D0 left ss) {x : Int} {y : DataW Unit} (hlk : left (.int .u8 x) = true) (hat : ∀ zd, D0.atKey (.int .u8 x) zd = y) : CollK D0 (fun z => left z && !z.sameKey (.int .u8 x)) (ss ++ [x]) := by
  have hhas : has D0 (.int .u8 x) = true := has_true_of_atKey hat
  have hnew : x ∉ ss := fun hx => by have := ((h.2 x).1 hx).2; rw [hlk] at this; cases this
  refine ⟨List.nodup_append.2 ⟨h.1, by simp, fun a ha b hb => by simp at hb; subst hb; exact fun e => hnew (e ▸ ha)⟩, fun y => ?_⟩
  by_cases hy : y = x
  · subst hy; simp [hhas, Lit.sameKey]
  · simp [h.2 y, hy, Lit.sameKey]
theorem keyOf_u8 {key : Value} {kl : Lit} (h : keyOf Try.prog 5 key = some kl) : ∃ x : Int, key = .int .u8 x ∧ kl = .int .u8 x ∧ (Lit.int .u8 x).wf = true := by
  have hu := Try.underlying5
  cases key <;> simp [keyOf, hu, mapKey] at h
  rename_i q a
  obtain ⟨⟨rfl, hw⟩, rfl⟩ := h
  exact ⟨a, rfl, rfl, hw⟩
theorem u8_inj {x y : Int} (h : Value.int .u8 x = .int .u8 y) : x = y := by simpa using h

set_option maxRecDepth 100000 in
set_option maxHeartbeats 2000000 in
theorem keys1_in (F : Fence) (n : Nat) (h10 : F.fn 26) (hro : F.round = none) (hn : 1 ≤ n) (l Bm b nn : Nat) (D0 : DataW Unit) (J Jx : List Int → World → Prop)
    (hY : ∀ pre x W, J pre W → pre.length < Maps.size D0 → YieldAt F (n - 1) Try.prog l #[.int .u8 x] W fun e W' =>
      (e = .returned (.bool true) ∧ J (pre ++ [x]) W' ∧ KeepsWalks W W') ∨ (e = .returned (.bool false) ∧ Jx (pre ++ [x]) W'))
    (W : World) (hJ : AbidesFrom W.heap.size J) (hm : W.cell? ⟨Bm, 0, none⟩ = some (.map (some b))) (hown : W.ownsMap Try.prog 5 (plainElem Try.prog 27) b nn D0) (h0 : J [] W) :
    CallsIn F n Try.prog 26 #[.func (.yield l) #[] #[], .pointer (some ⟨Bm, 0, none⟩)] W fun e W' => (∃ v, e = .returned v) ∧
      ((∃ ss : List Int, (ss.Nodup ∧ ss.length ≤ Maps.size D0 ∧ ∀ x, x ∈ ss ↔ has D0 (.int .u8 x) = true) ∧ J ss W') ∨ (∃ pre : List Int, True ∧ Jx pre W')) := by
  refine callsIn_of_wp Try.func26 rfl h10 ?_ hro
  simp only [Try.ntmps26, List.size_toArray, List.length_cons, List.length_nil, Nat.reduceAdd, Nat.reduceSub, Array.replicate_succ, Array.replicate_zero, List.push_toArray, List.append_toArray, List.nil_append, List.cons_append]
  gi_wp2_with (first
    | (gi_at_range; refine wpListIn_range_own _ rfl _ 57 rfl 5 27 lawK8 Try.underlying57 _ b nn _ rfl hown ?_; intro w0 hrg0 hg0 hs0)
    | gi_in)
  go_frame
  gi_loopw [3] (fun _ wr => ∃ (left : Lit → Bool) (cnt : Nat) (ss : List Int), wr.ranges Try.prog 5 (plainElem Try.prog 27) b W.heap.size nn D0 left cnt ∧ ss.length + cnt ≤ Maps.size D0 ∧ CollK D0 left ss ∧ J ss wr)
    (fun _ wr => wr.rangeLeft b W.heap.size)
  case atStart =>
    exact ⟨_, _, [], hrg0, by simp, CollK.start D0, hJ [] W w0 none h0 hg0 (fun r e => by cases e)⟩
  case round =>
    obtain ⟨left, cnt, ss, hrg, hcs, hC, hJs⟩ := hrel
    gi_wp2_with (first
      | (gi_at_next; refine wpListIn_next_ranges _ rfl _ rfl 5 lawK8 (plainElem Try.prog 27) (Value.int .u8) id (fun key kl hk => by obtain ⟨x, hx, _⟩ := keyOf_u8 hk; exact ⟨x, hx⟩) (fun v _ _ => ⟨v, rfl⟩) b W.heap.size nn _ _ _ rfl hrg ?_ ?_)
      | gi_in)
    · intro hc0 hl0
      gi_wp2
      go_end0
      exact ⟨⟨_, rfl⟩, .inl ⟨ss, ⟨hC.1, by omega, fun x => by rw [hC.2 x, hl0]; simp⟩, hJs⟩⟩
    · intro x c kl yd yp w2 cnt2 hkey hlk hv hat hrg2 hlt hg2 hs2 hen
      obtain ⟨x', ex, rfl, _⟩ := keyOf_u8 hkey
      obtain rfl : x = x' := u8_inj ex
      have hJ2 : J ss w2 := hJ ss wr w2 (some W.heap.size) hJs hg2 (fun r e => by cases e; exact ⟨Nat.le_refl _, hrg.iter_walk⟩)
      obtain ⟨fn, tmps, assign, body, hy, hR⟩ := hY ss x w2 hJ2 (by omega)
      clear hs2
      gi_wp2
      refine hR.mono ?_
      have hC2 := hC.step hlk hat
      rintro e W3 (⟨rfl, hJ3, hk3⟩ | ⟨rfl, hJx3⟩)
      · gi_wp2
        have hrg3 := hrg2.of_walks hk3
        go_roundw
        case rel => exact ⟨_, cnt2, ss ++ [x], hrg3, by simp; omega, hC2, hJ3⟩
        case measure => rw [hrg3.left_eq, hrg.left_eq]; exact hlt
      · gi_wp2
        refine bodyPost_ret (results_none rfl _ _ _) rfl ?_
        exact ⟨⟨_, rfl⟩, .inr ⟨ss ++ [x], trivial, hJx3⟩⟩

theorem keys_stops (F : Fence) (n : Nat) (h10 : F.fn 26) (hro : F.round = none) (hn : 1 ≤ n) (Bm b nn : Nat) (D0 : DataW Unit) (w : World) (hBm : Bm < w.heap.size)
    (hm : w.cell? ⟨Bm, 0, none⟩ = some (.map (some b))) (hown : w.ownsMap Try.prog 5 (plainElem Try.prog 27) b nn D0) :
    SeqStopsK F n Try.prog 26 #[.pointer (some ⟨Bm, 0, none⟩)] (fun x : Int => #[Value.int .u8 x]) KeepsWalks (fun ss => ss.Nodup ∧ ss.length ≤ Maps.size D0 ∧ ∀ x, x ∈ ss ↔ has D0 (.int .u8 x) = true) (fun _ => True) (Maps.size D0) w := fun l J Jx W hW hJ _ hY h0 => by
  have hown' : W.ownsMap Try.prog 5 (plainElem Try.prog 27) b nn D0 := by
    have hbl := hown.lt
    obtain ⟨es, clock, hb, Ft, hs, hD⟩ := hown
    exact ⟨es, clock, (hW.block b hbl).trans hb, Ft, hs, hD⟩
  exact keys1_in F n h10 hro hn l Bm b nn D0 J Jx hY W hJ ((hW.cell (p := ⟨Bm, 0, none⟩) hBm).trans hm) hown' h0

theorem info_u8k : (Try.prog.info? 5).map (fun i => (i.zero, i.size, i.bytes)) = some (some (.int .u8 0), 1, 1) := by kernel_rfl

set_option maxRecDepth 100000 in
set_option maxHeartbeats 2000000 in
/-- slices.AppendSeq(nil, maps.Keys(m)). -/
theorem appendSeq8 (F : Fence) (n : Nat) (h3 : F.fn 27) (h7 : F.fn 26) (hro : F.round = none) (hn : 3 ≤ n) (Bm b nn : Nat) (D0 : DataW Unit) (hsz : Maps.size D0 ≤ 12) (w : World) (hBm : Bm < w.heap.size)
    (hm : w.cell? ⟨Bm, 0, none⟩ = some (.map (some b))) (hown : w.ownsMap Try.prog 5 (plainElem Try.prog 27) b nn D0) :
    CallsIn F n Try.prog 27 #[.slice none 0 0, .func (.func 26) #[] #[.pointer (some ⟨Bm, 0, none⟩)]] w fun e W' => ∃ (v : Value) (ss : List Int), e = .returned v ∧ (ss.Nodup ∧ ss.length ≤ Maps.size D0 ∧ ∀ x, x ∈ ss ↔ has D0 (.int .u8 x) = true) ∧ W'.ownsRow w.heap.size 5 1 v ss.length (ss.map (Value.int .u8)) ∧ Below w.heap.size w W' := by
  have h1 : 1 ≤ n := by omega
  obtain ⟨i0, hi, hz0, hz1, hz2⟩ := info_parts info_u8k
  have hmx : (12 : Nat) ≤ maxLen := by unfold maxLen; omega
  refine callsIn_of_wp_marks Try.func27 rfl h3 ?_ hro
  simp only [Try.ntmps27, List.size_toArray, List.length_cons, List.length_nil, Nat.reduceAdd, Nat.reduceSub, Array.replicate_succ, Array.replicate_zero, List.push_toArray, List.append_toArray, List.nil_append, List.cons_append]
  gi_wp2
  have bO := Boxed.new w 67 (.slice none 0 0)
  have hB0 : Below w.heap.size w (w.alloc (.cells #[.slice none 0 0] 67)) := (Below.refl _ w).alloc (Nat.le_refl _) _
  have hown0 : (w.alloc (.cells #[.slice none 0 0] 67)).ownsMap Try.prog 5 (plainElem Try.prog 27) b nn D0 := by
    have hbl := hown.lt
    obtain ⟨es, clock, hb, Ft, hs, hD⟩ := hown
    exact ⟨es, clock, (Below.heap_alloc _ _ b hbl).trans hb, Ft, hs, hD⟩
  refine wpIn_rangeFunc_ownG hro h1 (gf := 26) (lb := #[.pointer (some ⟨Bm, 0, none⟩)]) rfl h7 (enters_of Try.func26 (by kernel_rfl) rfl)
    (keys_stops F (n - 1) h7 hro (by omega) Bm b nn D0 _ (by simp; omega) ((hB0.cell (p := ⟨Bm, 0, none⟩) hBm).trans hm) hown0) walksK_t walksK_b (Below.refl _ _) (fun _ => rfl)
    (fun pre W => (∃ v, Boxed W w.heap.size 67 v ∧ W.ownsRow w.heap.size 5 1 v pre.length (pre.map (Value.int .u8)) ∧ (v = .slice none 0 0 ↔ pre = [])) ∧ Below w.heap.size w W)
    (fun _ _ _ => False)
    (OwnFrom.and (Own.from (holdsRow_own w.heap.size w.heap.size 67 5 1 (fun pre => pre.length) (fun pre => pre.map (Value.int .u8)) (fun pre v => v = .slice none 0 0 ↔ pre = [])) _) (ownFrom_below (Nat.le_refl _) (by simp)))
    (fun _ _ _ _ _ hs _ _ => hs)
    ⟨⟨_, bO, World.ownsRow_nil _ _ _ _, by simp⟩, hB0⟩
    (fun x => { tmps := #[.slice none 0 0, .func (.func 26) #[] #[.pointer (some ⟨Bm, 0, none⟩)], .pointer (some ⟨w.heap.size, 0, none⟩), undef, .slice none 0 0, .int .u8 x, .func (.func 26) #[] #[.pointer (some ⟨Bm, 0, none⟩)], .int .u8 x, undef, undef, undef, undef, undef], defers := [] }) ?assign ?body ?done ?stop
  case assign =>
    intro l x W K hK
    gi_wp2
    exact hK
  case body =>
    rintro l pre x W ⟨⟨v, hv, hrow, hnil⟩, hB⟩ hlt
    have hc := hv.cell
    gi_wp2_with (gi_at_builtin; refine wpListIn_append_own _ rfl _ _ 67 rfl w.heap.size 5 i0 (.int .u8 0) 1 1 Try.underlying67 hi hz0 hz1 hz2 rfl (by decide) _ _ _ rfl (hrow.alloc _) ⟨W.heap.size, 0, none⟩ 1 1 [.int .u8 x] rfl rfl (cell_one_new _ _ _) (by simp [Value.oneCell']) (by omega) (by omega) (by have := hB.size; simp; omega) ?_; intro v' w1 hown' hgrow _; obtain ⟨g', cap', rfl⟩ := ownsRow_succ hown'; obtain ⟨hv1, hv2, hr2, hk2, hb2⟩ := hv.appended (by decide) hrow hB.size (Nat.le_refl _) hown' hgrow; have hc1 := hv1.cell; have hf1 := hv1.frozen)
    exact ⟨hk2.from _, hk2.walks, ⟨_, hv2, by simpa using hr2, by simp⟩, hB.trans hb2⟩
  case done =>
    rintro D ys W hD hS ⟨⟨v, hv, hrow, hnil⟩, hB⟩ hK
    have hc := hv.cell
    gi_wp2
    refine ⟨by simp, .inl ⟨_, _, rfl, run_takeDeferred hK, ?_⟩⟩
    exact ⟨_, results_tmp rfl _ _ _, v, ys, rfl, hS, ownsRow_putObj hrow _ hK rfl, hB.trans (belowK_b (w := w) (Nat.le_refl _) W D _ _ (by simp at hD; omega) hK rfl rfl)⟩
  case stop =>
    rintro D c pre W _ _ h _
    exact h.elim

set_option maxHeartbeats 1000000 in
theorem collect8 (n : Nat) (hn : 4 ≤ n) (Bm b nn : Nat) (D0 : DataW Unit) (hsz : Maps.size D0 ≤ 12) (w : World) (hBm : Bm < w.heap.size)
    (hm : w.cell? ⟨Bm, 0, none⟩ = some (.map (some b))) (hown : w.ownsMap Try.prog 5 (plainElem Try.prog 27) b nn D0) :
    CallsIn Fence.wide n Try.prog 24 #[.func (.func 26) #[] #[.pointer (some ⟨Bm, 0, none⟩)]] w fun e W' => ∃ (v : Value) (ss : List Int), e = .returned v ∧ (ss.Nodup ∧ ss.length ≤ Maps.size D0 ∧ ∀ x, x ∈ ss ↔ has D0 (.int .u8 x) = true) ∧ W'.ownsRow w.heap.size 5 1 v ss.length (ss.map (Value.int .u8)) ∧ Below w.heap.size w W' := by
  have h1 : 1 ≤ n := by omega
  have hf : Fence.wide.fn 27 := trivial
  have c := appendSeq8 Fence.wide (n - 1) trivial trivial rfl (by omega) Bm b nn D0 hsz w hBm hm hown
  refine callsIn_of_wp Try.func24 rfl trivial ?_ rfl
  simp only [Try.ntmps24, List.size_toArray, List.length_cons, List.length_nil, Nat.reduceAdd, Nat.reduceSub, Array.replicate_succ, Array.replicate_zero, List.push_toArray, List.append_toArray, List.nil_append, List.cons_append]
  gi_wp2_with (gi_at_call 27; refine c.mono ?_; rintro e w' ⟨v, ss, rfl, hS, hrow, hb⟩)
  go_ret
  exact ⟨v, ss, rfl, hS, hrow, hb⟩

theorem holds_of_block8 {w : World} {g : Nat} {cur : Array Value} {e : TypeId} {ss : List Int} (hb : w.heap[g]? = some (.cells cur e (0, 0))) (ht : cur.toList.take ss.length = ss.map (Value.int .u8)) : Holds (Value.int .u8) w g 0 ss.toArray := by
  intro j hj
  have hj' : j < ss.length := by simpa using hj
  refine ⟨?_, by simp [World.frozen?, hb]⟩
  have h1 : (cur.toList.take ss.length)[j]? = (ss.map (Value.int .u8))[j]? := by rw [ht]
  rw [List.getElem?_take_of_lt hj'] at h1
  simp only [World.cell?, hb, Nat.zero_add]
  simp only [Option.isSome_none, Bool.false_eq_true, if_false]
  rw [← Array.getElem?_toList, h1]
  simp [hj']
theorem heap_sorted8 {w : World} {g n : Nat} {cur : Array Value} {e : TypeId} {fr : Nat × Nat} (d : Array Int) (hb : w.heap[g]? = some (.cells cur e fr)) :
    (putRow (Value.int .u8) (Sort.ahead w n) g 0 d).heap[g]? = some (.cells (putCells (Value.int .u8) 0 d cur) e fr) := by
  simp [putRow, mapBlock, Sort.ahead, Array.getElem?_modify, hb, onCells]
theorem grownBy_sorted8 {w : World} {g n : Nat} (d : Array Int) : w.grownBy (putRow (Value.int .u8) (Sort.ahead w n) g 0 d) (some g) := by
  refine ⟨rfl, rfl, rfl, by simp, fun k hk hne => ?_⟩
  have : g ≠ k := fun e => hne (by rw [e])
  simp [putRow, mapBlock, Sort.ahead, Array.getElem?_modify, this]
theorem take_putCells8 (cur : Array Value) (ts : List Int) (h : ts.length ≤ cur.size) : (putCells (Value.int .u8) 0 ts.toArray cur).toList.take ts.length = ts.map (Value.int .u8) := by
  apply List.ext_getElem?
  intro j
  by_cases hj : j < ts.length
  · rw [List.getElem?_take_of_lt hj, Array.getElem?_toList]
    simp [putCells, hj, show j < cur.size by omega]
  · rw [List.getElem?_take_eq_none (by omega), List.getElem?_eq_none (by simp; omega)]
theorem ownsRow_sorted8 {w : World} {base g cap n : Nat} {e : TypeId} {cur : Array Value} {ss ts : List Int} (hl : ts.length = ss.length) (hbase : base ≤ g) (hb : w.heap[g]? = some (.cells cur e (0, 0)))
    (h1 : ss.length ≤ cap) (h2 : cap ≤ maxLen) (h3 : cur.size = cap * 1) :
    (putRow (Value.int .u8) (Sort.ahead w n) g 0 ts.toArray).ownsRow base e 1 (.slice (some ⟨g, 0, none⟩) ss.length cap) ss.length (ts.map (Value.int .u8)) :=
  ⟨by simp [hl], .inr ⟨g, cap, _, rfl, hbase, heap_sorted8 _ hb, h1, h2, by simp [putCells, h3], by rw [Nat.mul_one, ← hl]; exact take_putCells8 cur ts (by omega)⟩⟩

theorem insertion8_nil (p : Option Addr) (cap : Nat) (w : World) :
    Calls Try.prog 30 #[.slice p 0 cap, .int .i64 0, .int .i64 0] w fun e w' => e = .returned (.tuple #[]) ∧ w' = w := by
  go_enter Try.func30, Try.ntmps30
  go_wp2
  refine wp_loop_rounds 1 ?_
  rw [rounds_succ]
  go_wp2
  go_end0
  exact ⟨rfl, rfl⟩
theorem pdq8_nil (p : Option Addr) (cap : Nat) (lim : Int) (w : World) :
    Calls Try.prog 28 #[.slice p 0 cap, .int .i64 0, .int .i64 0, .int .i64 lim] w fun e w' => e = .returned (.tuple #[]) ∧ w' = w := by
  go_enter Try.func28, Try.ntmps28
  go_wp2_with fail
  refine wp_loop_rounds 1 ?_
  rw [rounds_succ]
  go_wp2_with fail
  refine (insertion8_nil _ _ _).mono ?_
  rintro e w' ⟨rfl, rfl⟩
  go_wp2
  refine bodyPost_ret (results_none rfl _ _ _) rfl ?_
  exact ⟨rfl, rfl⟩
theorem sort8_nil (p : Option Addr) (cap : Nat) (w : World) :
    Calls Try.prog 25 #[.slice p 0 cap] w fun e w' => e = .returned (.tuple #[]) ∧ w' = w := by
  go_enter Try.func25, Try.ntmps25
  go_wp2_with fail
  refine (bits8 0 w (by omega) (by omega)).mono ?_
  rintro e w' ⟨rfl, rfl⟩
  go_wp2_with fail
  refine (pdq8_nil _ _ _ _).mono ?_
  rintro e w' ⟨rfl, rfl⟩
  go_wp2
  go_end0
  exact ⟨rfl, rfl⟩

def srt8 (l : List Int) : List Int := l.mergeSort fun x y => decide (x ≤ y)
set_option maxHeartbeats 1000000 in
theorem sorted8_in (n : Nat) (hn : 5 ≤ n) (Bm b nn : Nat) (D0 : DataW Unit) (hsz : Maps.size D0 ≤ 12) (w : World) (hBm : Bm < w.heap.size)
    (hm : w.cell? ⟨Bm, 0, none⟩ = some (.map (some b))) (hown : w.ownsMap Try.prog 5 (plainElem Try.prog 27) b nn D0) :
    CallsIn Fence.wide n Try.prog 22 #[.func (.func 26) #[] #[.pointer (some ⟨Bm, 0, none⟩)]] w fun e W' => ∃ (v : Value) (ss : List Int), e = .returned v ∧ (ss.Nodup ∧ ss.length ≤ Maps.size D0 ∧ ∀ x, x ∈ ss ↔ has D0 (.int .u8 x) = true) ∧ W'.ownsRow w.heap.size 5 1 v ss.length ((srt8 ss).map (Value.int .u8)) ∧ Below w.heap.size w W' := by
  have h1 : 1 ≤ n := by omega
  have hf : Fence.wide.fn 24 := trivial
  have hf2 : Fence.wide.fn 25 := trivial
  have c := collect8 (n - 1) (by omega) Bm b nn D0 hsz w hBm hm hown
  refine callsIn_of_wp Try.func22 rfl trivial ?_ rfl
  simp only [Try.ntmps22, List.size_toArray, List.length_cons, List.length_nil, Nat.reduceAdd, Nat.reduceSub, Array.replicate_succ, Array.replicate_zero, List.push_toArray, List.append_toArray, List.nil_append, List.cons_append]
  gi_wp2_with (gi_at_call 24; refine c.mono ?_; rintro e W ⟨v, ss, rfl, hS, hrow, hb⟩)
  rcases hrow.2 with ⟨rfl, hz⟩ | ⟨gb, cap', cur, rfl, hbase, hgb, r1, r2, r3, r4⟩
  · obtain rfl : ss = [] := List.length_eq_zero_iff.1 hz
    have cS := callsIn_wide (n := n - 1).2 (sort8_nil none 0 W)
    gi_wp2_with (gi_at_call 25; refine cS.mono ?_; rintro e w' ⟨rfl, rfl⟩)
    go_ret
    have e0 : srt8 [] = [] := by unfold srt8; simp
    exact ⟨_, [], rfl, hS, by rw [e0]; exact hrow, hb⟩
  · have hH : Holds (Value.int .u8) W gb 0 ss.toArray := holds_of_block8 hgb (by simpa using r4)
    have cS := callsIn_wide (n := n - 1).2 (sort8 gb 0 cap' ss W hH (by have := hS.2.1; omega))
    gi_wp2_with (gi_at_call 25; refine cS.mono ?_; rintro e w' ⟨rfl, nn, rfl⟩)
    go_ret
    exact ⟨_, ss, rfl, hS, ownsRow_sorted8 (ts := srt8 ss) (by unfold srt8; rw [List.length_mergeSort]) hbase hgb r1 r2 r3, hb.grown (grownBy_sorted8 _) hb.size (fun j hj => by cases hj; exact hbase)⟩

/-- The keys of a table, rising. -/
def keysF (f : Int → Option Int) : List Int := ((List.range 8).map fun k : Nat => (k : Int)).filter fun x => (f x).isSome
theorem keysF_eq {f : Int → Option Int} {ss : List Int} (hn : ss.Nodup) (hm : ∀ x, x ∈ ss ↔ (f x).isSome = true) (hr : ∀ x, (f x).isSome = true → 0 ≤ x ∧ x < 8) : srt8 ss = keysF f := by
  have hn2 : (keysF f).Nodup := by
    unfold keysF
    refine List.Pairwise.filter _ ?_
    rw [List.pairwise_map]
    exact List.nodup_range.imp (fun h e => h (by omega))
  have hp : (srt8 ss).Perm (keysF f) := by
    refine (List.mergeSort_perm ss _).trans ((List.perm_ext_iff_of_nodup hn hn2).2 fun x => ?_)
    rw [hm x]
    unfold keysF
    rw [List.mem_filter, List.mem_map]
    constructor
    · intro h
      have := hr x h
      exact ⟨⟨x.toNat, by rw [List.mem_range]; omega, by omega⟩, h⟩
    · exact fun h => h.2
  refine List.Perm.eq_of_pairwise (le := fun a b : Int => a ≤ b) (fun a b _ _ h1 h2 => Int.le_antisymm h1 h2) ?_ ?_ hp
  · have := List.pairwise_mergeSort (le := fun x y : Int => decide (x ≤ y)) (fun a b c h1 h2 => by simp only [decide_eq_true_eq] at *; omega) (fun a b => by simp only [Bool.or_eq_true, decide_eq_true_eq]; omega) ss
    exact this.imp (fun h => by simpa using h)
  · unfold keysF
    refine List.Pairwise.filter _ ?_
    rw [List.pairwise_map]
    exact (List.pairwise_lt_range).imp (fun h => by omega)

/-- slices.Sorted(maps.Keys(m)): the keys, rising, in a new slice, or nil. -/
theorem sorted8 (Bm b : Nat) (f : Int → Option Int) (w : World) (hBm : Bm < w.heap.size) (hm : w.cell? ⟨Bm, 0, none⟩ = some (.map (some b))) (h : MapIs w b f) :
    Calls Try.prog 22 #[.func (.func 26) #[] #[.pointer (some ⟨Bm, 0, none⟩)]] w fun e W' => ∃ v, e = .returned v ∧ W'.ownsRow w.heap.size 5 1 v (keysF f).length ((keysF f).map (Value.int .u8)) ∧ Below w.heap.size w W' := by
  obtain ⟨D, n, hown, hD⟩ := h
  obtain ⟨es0, e0, hp, hk⟩ := hown.entries lawK8
  have hsz := hD.size e0 hp hk
  have hs12 : Maps.size D ≤ 12 := by rw [e0]; show es0.length ≤ 12; omega
  refine (callsIn_wide.1 (sorted8_in 6 (by omega) Bm b n D hs12 w hBm hm hown)).mono ?_
  rintro e W' ⟨v, ss, rfl, hS, hrow, hbel⟩
  have hks := keysF_eq hS.1 (f := f) (fun x => by
    rw [hS.2.2 x]
    constructor
    · intro hx
      cases hf : f x with
      | none => rw [hD.none_ x hf] at hx; cases hx
      | some c => rfl
    · intro hx
      obtain ⟨c, hc⟩ := Option.isSome_iff_exists.1 hx
      exact (hD.some_ x c hc).1) (fun x hx => by
    obtain ⟨c, hc⟩ := Option.isSome_iff_exists.1 hx
    have := hD.rng x c hc
    exact ⟨this.1, this.2.1⟩)
  have hl : ss.length = (keysF f).length := by rw [← hks]; unfold srt8; rw [List.length_mergeSort]
  rw [hks, hl] at hrow
  exact ⟨v, rfl, hrow, hbel⟩
set_option maxHeartbeats 1000000 in
theorem mapsKeys8 (mb : Option Nat) (w : World) :
    Calls Try.prog 23 #[.map mb] w fun e w' => e = .returned (.func (.func 26) #[] #[.pointer (some ⟨w.heap.size, 0, none⟩)]) ∧ w' = w.alloc (.cells #[.map mb] 57) := by
  go_enter Try.func23, Try.ntmps23
  go_wp2
  go_ret
  exact ⟨rfl, rfl⟩
end Go.Proofs.Ytomcjmgbkpbdpaa
