/- From a walk to the row: a law that returns true and leaves memory as it was. No condition. -/
import Derived.Test.YtogfbeibpfdleaaBase
import Derived.Test.YtogfbeibpfdleaaChecked
import Derived.ProofKit
import Derived.SizedLaws
import Derived.ChangeOld
import Derived.OpenShut
import Derived.ShutString
import Derived.Deep.Slices
set_option linter.unusedSimpArgs false
set_option linter.unusedVariables false
namespace Go.Proofs.Ytogfbeibpfdleaa
open Go.ChangeShapes Go.WideShapes Go.ChangeAt Go.RowKit Go.Deep

theorem own_ : ownKnob Try.prog.godebug = none := by kernel_rfl
theorem laidOut_ : laidOutB Try.prog = true := by kernel_rfl

set_option maxRecDepth 100000 in
theorem Below.trodAll {H : Type} {enc : TypeId × Value → H} {W W' : World} (hb : Below W.heap.size W W') : ∀ (ts : List TypeId) (vs : List Value) (ds : List (DataW H)) (ps : List MemPlace),
    (∀ t ∈ ts, Try.prog.readableRec t = true ∧ t < Try.prog.types.size) → DataW.TrodAll enc Try.prog W 0 (fun _ => true) true ts vs ds ps → (∀ x ∈ ps, x.block < W.heap.size) →
    DataW.TrodAll enc Try.prog W' 0 (fun b => decide (b < W.heap.size)) true ts vs ds ps
  | [], vs, ds, ps, _, h, _ => by
    obtain ⟨rfl, rfl, rfl⟩ := trodAll_nil h
    exact trodAll_mk0
  | t :: ts, vs, ds, ps, hr, h, hlt => by
    obtain ⟨v, vs', d, ds', p, q, rfl, rfl, rfl, h1, h2⟩ := trodAll_cons h
    exact trodAll_cons_mk (Below.trod laidOut_ (hr t (by simp)).1 (hr t (by simp)).2 h1 hb (fun x hx => hlt x (by simp [hx])))
      (Below.trodAll hb ts vs' ds' q (fun t' ht' => hr t' (by simp [ht'])) h2 (fun x hx => hlt x (by simp [hx])))

set_option maxRecDepth 100000 in
theorem lifted_of (os : Os) (started : os.Started) (H : Type) (enc : TypeId × Value → H) (f : FuncId) (fn : Func) (s : ChangeSpec) (hfn : Try.prog.funcs[f]? = some fn) (hin : Try.prog.inits.idxOf? f = none)
    (hvars : s.vars = []) (hres : fn.resultTypes = #[4]) (hread : (fn.params.toList.all fun t => Try.prog.readableRec t && decide (t < Try.prog.types.size)) = true)
    (hs : ∀ ds : List (DataW H), ds.length = fn.params.size → s.fn H ds = { results := [.lit (.bool true)], args := ds })
    (wit : ∃ (w : World) (tape : Tape) (i : Input), w.os = os ∧ (w.forCall tape i).Shaped Try.checked.prog ∧ i.vars = [] ∧ Input.okWide Try.checked.prog (w.forCall tape i) .any w.heap.size f i ∧
      s.pre6 enc Try.checked.prog fn [] false (w.forCall tape i).memory i.args ∧ Assume.holds {} Try.checked.prog (lone (Frame.enter Try.checked.prog f i.args .normal) [] (w.forCall tape i)))
    (hw : ∀ (W : World) (args : Array Value) (ds : List (DataW H)) (ps : List MemPlace), (∀ (j : Nat) t v, fn.params[j]? = some t → args[j]? = some v → ∃ base, Value.okWide Try.prog W .any base t v) →
      DataW.TrodAll enc Try.prog W 0 (fun _ => true) true fn.params.toList args.toList ds ps → (DataW.weightsEach Try.prog fn.params.toList ds).all (· ≤ reachBytes) = true →
      Calls Try.prog f args W fun e W' => e = .returned (.bool true) ∧ Below W.heap.size W W') :
    ReturnsInHanded {} Try.checked os f .any (s.pre6 enc Try.prog fn [] false) (s.post enc Try.prog fn false true false false) := by
  refine returnsInHanded_of_change_sized (C := Try.checked) own_ started hin hfn wit ?_
  intro W base args ds gs before hval hW hcnd hsz _
  obtain ⟨p, q, hA, hV, rfl, hfz, hnd⟩ := id hW
  have hlt := hW.lt
  rw [hvars] at hV
  obtain ⟨rfl, rfl⟩ := trodVars_none hV
  have hlen : ds.length = fn.params.size := by
    have : ∀ (ts : List TypeId) (vs : List Value) (ds : List (DataW H)) (ps : List MemPlace), DataW.TrodAll enc Try.prog W 0 (fun _ => true) true ts vs ds ps → ds.length = ts.length := by
      intro ts
      induction ts with
      | nil => intro vs ds ps h; obtain ⟨rfl, rfl, rfl⟩ := trodAll_nil h; rfl
      | cons t ts ih =>
        intro vs ds ps h
        obtain ⟨v, vs', d, ds', p, q, rfl, rfl, rfl, h1, h2⟩ := trodAll_cons h
        simp [ih _ _ _ h2]
    simpa using this _ _ _ _ hA
  have hsz' : (DataW.weightsEach Try.prog fn.params.toList ds).all (· ≤ reachBytes) = true := by
    have hv0 : s.plain.varTypes Try.checked.prog = [] := by simp [ChangeSpec.plain, DataSpec.varTypes, hvars]
    rw [hv0, List.append_nil, List.append_nil] at hsz
    exact hsz
  refine (hw W args ds p (fun j t v h1 h2 => ⟨base, hval j t v h1 h2⟩) hA hsz').mono fun e W' ⟨he, bel⟩ => ?_
  subst he
  have hr : ∀ t ∈ fn.params.toList, Try.prog.readableRec t = true ∧ t < Try.prog.types.size := fun t ht => by
    have := List.all_eq_true.1 hread t ht
    simpa using this
  refine ⟨_, rfl, ds, [], _, [], p, [], hW, ?_, ?_, ?_, ?_, fun h => by cases h⟩
  · rw [List.append_nil, hs ds hlen, hres]
    exact trodAll_mk1 (shut_bool Try.underlying4 _)
  · rw [List.append_nil, hs ds hlen]
    exact Below.trodAll bel _ _ _ _ hr hA (fun x hx => hlt x (by simp [hx]))
  · rw [List.append_nil, hs ds hlen, hvars]
    rfl
  · exact bel.frame _

theorem add_cell {w : World} {a : Addr} {i : Nat} {v : Value} (h : w.cell? (a.add i) = some v) : a.spot = none ∨ i ≠ 0 := by
  by_cases hi : i = 0
  · subst hi
    left
    simp only [Addr.add, if_true] at h
    unfold World.cell? at h
    split at h
    · split at h
      · cases h
      · rename_i hs; simpa using hs
    · cases h
  · exact .inr hi
theorem add_spot (a : Addr) (i : Nat) (h : a.spot = none ∨ i ≠ 0) : a.add i = ⟨a.block, a.off + i, none⟩ := by
  unfold Addr.add
  split
  · rename_i hi
    subst hi
    rcases h with h | h
    · cases a; simp_all
    · exact absurd rfl h
  · rfl

theorem flatten_get {α : Type} (sz : Nat) : ∀ (rows : List (List α)), (∀ r ∈ rows, r.length = sz) → ∀ (k j : Nat) (r : List α), rows[k]? = some r → j < sz → rows.flatten[k * sz + j]? = r[j]?
  | [], _, k, j, r, h, _ => by simp at h
  | r0 :: rows, hr, 0, j, r, h, hj => by
    simp only [List.getElem?_cons_zero, Option.some.injEq] at h
    subst h
    rw [List.flatten_cons, Nat.zero_mul, Nat.zero_add, List.getElem?_append_left (by rw [hr r0 (by simp)]; exact hj)]
  | r0 :: rows, hr, k + 1, j, r, h, hj => by
    simp only [List.getElem?_cons_succ] at h
    have h0 := hr r0 (by simp)
    have e : (k + 1) * sz + j = sz + (k * sz + j) := by rw [Nat.add_mul]; omega
    rw [List.flatten_cons, e, List.getElem?_append_right (by omega), h0, show sz + (k * sz + j) - sz = k * sz + j by omega]
    exact flatten_get sz rows (fun r hr' => hr r (by simp [hr'])) k j r h hj
theorem flatten_length {α : Type} (sz : Nat) : ∀ (rows : List (List α)), (∀ r ∈ rows, r.length = sz) → rows.flatten.length = rows.length * sz
  | [], _ => by simp
  | r :: rows, h => by
    rw [List.flatten_cons, List.length_append, flatten_length sz rows (fun r hr => h r (by simp [hr])), h r (by simp), List.length_cons, Nat.add_mul]
    omega

/-- A slice that came in: its elements' cells, row by row, and how each row reads. -/
theorem open_rd {H : Type} {enc : TypeId × Value → H} {w : World} {base fuel : Nat} {t e : TypeId} {v : Value} {x : DataW H × List MemPlace} (ht : Try.prog.underlying t = some (.slice e)) (hsz : 0 < Try.prog.cellsOf e)
    (h : DataW.trod enc Try.prog w base (fun _ => true) true fuel t [v] = some x) :
    ∃ rows : List (List Value), Rd w (fun _ => 0) v (Try.prog.cellsOf e) rows.length rows.flatten ∧ ∀ r ∈ rows, r.length = Try.prog.cellsOf e ∧ ∃ m d, DataW.trod enc Try.prog w base (fun _ => true) true m e r = some d := by
  rcases open_slice ht h with ⟨h0, _⟩ | ⟨a, len, cap, m, n, D, Pl, hcs, hb, hl, hm, hmm, hx, hi⟩
  · simp only [List.cons.injEq, and_true] at h0
    subst h0
    exact ⟨[], ⟨none, 0, rfl, Nat.le_refl _, Nat.zero_le _, by simp, fun h => absurd h (by simp)⟩, by simp⟩
  · simp only [List.cons.injEq, and_true] at hcs
    subst hcs
    simp only [if_true] at hmm
    subst hmm
    have hrow : ∀ i, ∃ r : List Value, i < len → w.cells? base (a.add (i * Try.prog.cellsOf e)) (Try.prog.cellsOf e) = some r ∧ ∃ d, DataW.trod enc Try.prog w base (fun _ => true) true n e r = some d := by
      intro i
      by_cases hlt : i < len
      · obtain ⟨cs', h1, h2⟩ := hi i (by omega)
        exact ⟨cs', fun _ => ⟨h1, _, h2⟩⟩
      · exact ⟨[], fun h => absurd h hlt⟩
    obtain ⟨R, hR⟩ := Classical.axiomOfChoice hrow
    have hlenR : ∀ i, i < len → (R i).length = Try.prog.cellsOf e := fun i hlt => (World.cells?_some (hR i hlt).1).2.1
    have hrows : ∀ r ∈ (List.range len).map R, r.length = Try.prog.cellsOf e := by
      intro r hr
      obtain ⟨i, hi', rfl⟩ := List.mem_map.1 hr
      exact hlenR i (by simpa using hi')
    have hll : ((List.range len).map R).length = len := by simp
    refine ⟨(List.range len).map R, ⟨some a, m, by rw [hll], by rw [hll]; exact hl, hm, flatten_length _ _ hrows, fun hn => ?_⟩, fun r hr => ?_⟩
    · rw [hll] at hn
      have c0 := (World.cells?_some (hR 0 hn).1).2.2 0 hsz
      rw [Nat.zero_mul, List.getElem?_eq_getElem (by rw [hlenR 0 hn]; exact hsz)] at c0
      have hs : a.spot = none := by
        rcases add_cell c0 with h | h
        · simpa [Addr.add] using h
        · exact absurd rfl h
      refine ⟨a.block, a.off, by cases a; simp_all, rfl, ?_, fun i x hix => ?_⟩
      · have := World.block_lt_of_cell? _ _ c0
        simpa [Addr.add] using this
      · have hil : i < len * Try.prog.cellsOf e := by
          have := (List.getElem?_eq_some_iff.1 hix).1
          rw [flatten_length _ _ hrows, hll] at this
          exact this
        have hk : i / Try.prog.cellsOf e < len := Nat.div_lt_of_lt_mul (by rw [Nat.mul_comm]; exact hil)
        have hj : i % Try.prog.cellsOf e < Try.prog.cellsOf e := Nat.mod_lt _ hsz
        have e1 : i / Try.prog.cellsOf e * Try.prog.cellsOf e + i % Try.prog.cellsOf e = i := by rw [Nat.mul_comm]; exact Nat.div_add_mod _ _
        have g := flatten_get _ _ hrows (i / Try.prog.cellsOf e) (i % Try.prog.cellsOf e) (R (i / Try.prog.cellsOf e)) (by simp [hk]) hj
        rw [e1, hix] at g
        have c := (World.cells?_some (hR _ hk).1).2.2 _ hj
        rw [← g, add_spot a _ (.inl hs), add_spot _ _ (.inl rfl)] at c
        simp only at c
        rw [show a.off + i = a.off + i / Try.prog.cellsOf e * Try.prog.cellsOf e + i % Try.prog.cellsOf e by rw [Nat.add_assoc, e1]]
        exact c
    · obtain ⟨i, hi', rfl⟩ := List.mem_map.1 hr
      obtain ⟨d, hd⟩ := (hR i (by simpa using hi')).2
      exact ⟨hlenR i (by simpa using hi'), n, d, hd⟩

/-- A cell that reads as an integer. -/
theorem cell_int {H : Type} {enc : TypeId × Value → H} {w : World} {base m : Nat} {t : TypeId} {q : IntKind} {v : Value} {y : DataW H × List MemPlace} (ht : Try.prog.underlying t = some (.int q))
    (h : DataW.trod enc Try.prog w base (fun _ => true) true m t [v] = some y) : ∃ a, v = .int q a ∧ (Lit.int q a).wf = true := by
  obtain ⟨a, ha, _, hw⟩ := DataW.trod_int ht h
  exact ⟨a, by simpa using ha, hw⟩
/-- A list of rows, each of a make, is the rows of a list. -/
theorem rows_of {α : Type} {g : α → List Value} {p : α → Prop} : ∀ (rows : List (List Value)), (∀ r ∈ rows, ∃ x, r = g x ∧ p x) → ∃ l : List α, rows.flatten = l.flatMap g ∧ rows.length = l.length ∧ ∀ x ∈ l, p x
  | [], _ => ⟨[], rfl, rfl, by simp⟩
  | r :: rows, h => by
    obtain ⟨x, hx, hp⟩ := h r (by simp)
    obtain ⟨l, h1, h2, h3⟩ := rows_of rows (fun r' hr' => h r' (by simp [hr']))
    refine ⟨x :: l, by simp [hx, h1], by simp [h2], fun y hy => ?_⟩
    rcases List.mem_cons.1 hy with rfl | hy
    · exact hp
    · exact h3 y hy
theorem u8_of_wf {x : Int} (h : (Lit.int .u8 x).wf = true) : 0 ≤ x ∧ x < 256 := by
  simp [Lit.wf, IntKind.min, IntKind.max, IntKind.signed, IntKind.bits] at h; omega
theorem u16_of_wf {x : Int} (h : (Lit.int .u16 x).wf = true) : 0 ≤ x ∧ x < 65536 := by
  simp [Lit.wf, IntKind.min, IntKind.max, IntKind.signed, IntKind.bits] at h; omega
theorem u32_of_wf {x : Int} (h : (Lit.int .u32 x).wf = true) : 0 ≤ x ∧ x < 4294967296 := by
  simp [Lit.wf, IntKind.min, IntKind.max, IntKind.signed, IntKind.bits] at h; omega
theorem i64_of_wf {x : Int} (h : (Lit.int .i64 x).wf = true) : -9223372036854775808 ≤ x ∧ x ≤ 9223372036854775807 := by
  simp [Lit.wf, IntKind.min, IntKind.max, IntKind.signed, IntKind.bits] at h; omega
end Go.Proofs.Ytogfbeibpfdleaa
