/- escapementlaw16.Copied: ops with their own bytes. No condition but lists of moderate length. · Ops that came in. No condition. · From a walk to the row that lists errors.errorType; the row's condition as a fact on its cell. No condition. -/
import Derived.Test.YtlgjaoijgkdmiaaDoorRunK
import Derived.Deep.RegionLaw
import Derived.Test.YtlgjaoijgkdmiaaDoorOpenW
import Derived.Test.YtlgjaoijgkdmiaaDoorRowKit
import Derived.Test.YtlgjaoijgkdmiaaDoorErrs
import Derived.Test.YtlgjaoijgkdmiaaDoorRows
import Derived.ChangeSame
import Derived.ChangeVars
import Derived.JoinedOf
import Derived.LaidLaws
import Derived.LaidHandle
import Derived.Stop.Joined
set_option linter.unusedSimpArgs false
set_option linter.unusedVariables false
namespace Go.Proofs.YtlgjaoijgkdmiaaDoor
open Go.RowKit Go.Maps

theorem OpsIs.put {w : World} {C : Nat → Nat} {v : Value} (h2 : v.oneCell' = true) : ∀ {l : List OpT} {cs : List Value} {i : Nat}, OpsIs w C cs l → i < l.length → IsBytes w C v (l.getD i default).d → OpsIs w C (cs.set (i * 6 + 5) v) l
  | o :: r, cs, 0, ⟨dv, cs', h1, _, h3, h4⟩, _, h => ⟨v, cs', by rw [h1]; rfl, h, h2, h4⟩
  | o :: r, cs, i + 1, ⟨dv, cs', h1, q, h3, h4⟩, hi, h => ⟨dv, cs'.set (i * 6 + 5) v, by
      rw [h1, List.set_append_right _ _ (by show 6 ≤ _; omega)]
      rw [show (o.cells dv).length = 6 from rfl, show (i + 1) * 6 + 5 - 6 = i * 6 + 5 by omega], q, h3, OpsIs.put h2 h4 (by simpa using hi) (by simpa using h)⟩
theorem OpsIs.recolour {w : World} {C D : Nat → Nat} (hD : ∀ b, b < w.heap.size → C b = 0 → D b = 0) : ∀ {l : List OpT} {cs : List Value}, OpsIs w C cs l → OpsIs w D cs l
  | [], _, h => h
  | _ :: _, _, ⟨dv, cs', h1, q, h3, h4⟩ => ⟨dv, cs', h1, Rd.recolour q hD, h3, OpsIs.recolour hD h4⟩
theorem info_op : (Tryd.prog.info? 60).map (fun i => (i.zero.map (·.cells.size), i.size, i.bytes)) = some (some 6, 6, 64) := by kernel_rfl
theorem info_u8c : (Tryd.prog.info? 5).map (fun i => (i.zero.map (·.cells.size), i.size, i.bytes)) = some (some 1, 1, 1) := by kernel_rfl

/-- The loop's relation. -/
def OCopR (C C1 : Nat → Nat) (w : World) (b1 o1 p1 : Nat) (ops : List OpT) (wr : World) : Prop :=
  ∃ cs, Fr (fun _ => False) C C1 w wr ∧ Sl wr C1 1 (.slice (some ⟨b1, o1, none⟩) ops.length p1) 60 6 ops.length cs ∧ OpsIs wr C1 cs ops

set_option maxRecDepth 100000 in
set_option maxHeartbeats 8000000 in
theorem opsCopied (C : Nat → Nat) (opv : Value) (ocs : List Value) (ops : List OpT) (w : World) (hf : Fin C w) (ho : Rd w C opv 6 ops.length ocs) (hO : OpsIs w C ocs ops) (hn : ops.length ≤ 10000) (hd : ∀ i, i < ops.length → (ops.getD i default).d.length ≤ 140737488355328) :
    Calls Tryd.prog 13 #[opv] w fun e w' => ∃ v' ocs', e = .returned v' ∧ Below w.heap.size w w' ∧ Rd w' C v' 6 ops.length ocs' ∧ OpsIs w' C ocs' ops := by
  obtain ⟨b1, o1, p1, W2, hr2, -, hb2, hge2, hraw2⟩ := copy_of (P := Tryd.prog) w hf Tryd.underlying22 info_op ho.src (by unfold maxLen; omega) (by omega)
  obtain ⟨oa, oc, rfl, hoc, hom, -⟩ := id ho
  obtain ⟨C1, hC1, hC2⟩ : ∃ C1 : Nat → Nat, C1 b1 = 1 ∧ ∀ b, b ≠ b1 → C1 b = C b := ⟨fun y => if y = b1 then 1 else C y, if_pos rfl, fun b h => if_neg h⟩
  have G2 : Fr (fun _ => False) C C1 w W2 := (Fr.of_below hb2 (fun _ => False)).recolour (fun b hb _ => hC2 b (by omega)) (fun b hb => by rw [hC2 b (by have := hraw2.lt; omega)]; exact hf b (by have := hb2.size; omega))
  have HI : OCopR C C1 w b1 o1 p1 ops W2 := ⟨ocs, G2, .inr ⟨b1, hC1, hraw2⟩, hO.fr G2 (fun h => h)⟩
  have HH := hid_ HI
  have HR2 := hid_ hr2
  have HD := hid_ hd
  unfold maxLen at hom
  clear HI hr2 G2 hraw2 hb2 ho hO hd
  go_enter Tryd.func13, Tryd.ntmps13
  go_upto_block 1 with (refine wpList_append_run HR2.out (by rfl) (by rfl) (by rfl) (by rfl) ?_)
  go_loopw [4, 10] (fun _ iv wr => ∃ i : Nat, i ≤ ops.length ∧ iv = .int .i64 i ∧ OCopR C C1 w b1 o1 p1 ops wr) (fun _ iv _ => ops.length - (intOf iv).toNat)
  case atStart => exact ⟨0, Nat.zero_le _, rfl, HH.out⟩
  case round =>
    obtain ⟨i, hi, rfl, cs1, F1, S1, M1⟩ := hrel
    clear HH HR2
    have hi0 : (0 : Int) ≤ (i : Int) := Int.natCast_nonneg _
    by_cases hlt : i < ops.length
    · have hi1 : (i : Int) < (ops.length : Int) := by omega
      obtain ⟨v0, hb0, ho0, hcells⟩ := M1.get hlt
      have hdl := HD.out i hlt
      obtain ⟨xa, xc, rfl, hxc, hxm, -⟩ := id hb0
      unfold maxLen at hxm
      obtain ⟨bb, off, e', -, -, hcell⟩ := S1.at (by omega)
      obtain ⟨rfl, rfl⟩ : b1 = bb ∧ o1 = off := by injection e' with e'; injection e' with e1 e2; exact ⟨e1, e2⟩
      have e1 := hcell _ _ (hcells 5 _ rfl)
      rw [← Nat.add_assoc] at e1
      obtain ⟨d, hdd⟩ : ∃ d, (ops.getD i default).d = d := ⟨_, rfl⟩
      rw [hdd] at hb0 hdl e1
      obtain ⟨zb, zo, zp, W8, hr8, x8, hb8, hge8, -⟩ := copy_of (P := Tryd.prog) wr (F1.Fin hf) Tryd.underlying54 info_u8c hb0.src (by unfold maxLen; omega) (by omega)
      have HR8 := hid_ hr8
      have S8 := S1.fr (Fr.of_below (C := C1) hb8 (fun _ => False)) (fun h => h)
      have z8 := S8.frozen (o1 + i * 6 + 5)
      have e8 := grown_cell hb8 e1
      have G8 := Fr.of_below (C := C1) hb8 (fun _ => False)
      have F9 := (F1.trans G8).setCell (a := ⟨b1, o1 + i * 6 + 5, none⟩) (.inl (by show w.heap.size ≤ b1; omega)) (.slice (some ⟨zb, zo, none⟩) d.length zp)
      have S9 := S8.set (i * 6 + 5) (by omega) (.slice (some ⟨zb, zo, none⟩) d.length zp)
      rw [← Nat.add_assoc] at S9
      have M9 := ((M1.fr G8 (fun h => h)).put (v := .slice (some ⟨zb, zo, none⟩) d.length zp) (i := i) rfl hlt (by rw [hdd]; exact x8)).fr ((Fr.refl (· = 1) C1 W8).setCell (a := ⟨b1, o1 + i * 6 + 5, none⟩) (.inr hC1) (.slice (some ⟨zb, zo, none⟩) d.length zp)) (by omega)
      have H9 : OCopR C C1 w b1 o1 p1 ops (W8.setCell ⟨b1, o1 + i * 6 + 5, none⟩ (.slice (some ⟨zb, zo, none⟩) d.length zp)) := ⟨_, F9, S9, M9⟩
      have HH9 := hid_ H9
      have e2 := cell_alloc_keep (.cells #[] 5) e1
      clear hr8 hcells hcell H9 F9 S9 M9 S8 G8 F1 S1 M1 hb8 x8 hb0 hdd hge8 e1
      go_wp2_with (refine wpList_append_run HR8.out (by rfl) (by rfl) (by rfl) (by rfl) ?_)
      go_roundw
      case rel => exact ⟨i + 1, by omega, by go_num, HH9.out⟩
      case measure => simp [intOf]; omega
    · obtain rfl : i = ops.length := by omega
      have HF1 := hid_ F1
      have HS1 := hid_ S1
      have HM1 := hid_ M1
      clear F1 S1 M1
      go_wp2
      go_ret
      have hrec : ∀ b, b < wr.heap.size → C1 b = 0 → C b = 0 := fun b _ h => by
        by_cases e : b = b1
        · rw [e, hC1] at h; cases h
        · rw [← hC2 b e]; exact h
      refine ⟨_, cs1, rfl, HF1.out.below (fun _ _ h => h), ?_, HM1.out.recolour hrec⟩
      rcases HS1.out with ⟨h, _⟩ | ⟨b, hb, h⟩
      · cases h
      · obtain ⟨_, off, cap, cur, e, _⟩ := id h
        injection e with e _ _
        injection e with e
        injection e with e _
        subst e
        exact h.rd (hf _ hge2)
end Go.Proofs.YtlgjaoijgkdmiaaDoor
namespace Go.Proofs.YtlgjaoijgkdmiaaDoor
open Go.ChangeShapes Go.WideShapes Go.ChangeAt Go.RowKit Go.Deep

set_option maxRecDepth 100000 in
theorem oprow_of {H : Type} {enc : TypeId × Value → H} {w : World} {m : Nat} {r : List Value} {d : DataW H × List MemPlace} (hd : DataW.trod enc Tryd.prog w 0 (fun _ => true) true m 60 r = some d) (hL : Light 60 d.1) :
    ∃ p : Value × OpT, r = p.2.cells p.1 ∧ (IsBytes w (fun _ => 0) p.1 p.2.d ∧ p.2.d.length ≤ 140737488355328) := by
  obtain ⟨xs, n, _, hx, hlen, hxs, hf⟩ := DataW.trod_struct Tryd.underlying60 hd
  have hC : Tryd.prog.cellsOf 60 = 6 := by kernel_rfl
  rw [hC] at hlen
  match r, hlen, xs, hxs with
  | [c0, c1, c2, c3, c4, c5], _, [y0, y1, y2, y3, y4, y5], _ =>
    have q0 : Tryd.prog.cellsOf 58 = 1 := by kernel_rfl
    have q1 : Tryd.prog.cellsOf 3 = 1 := by kernel_rfl
    have q2 : Tryd.prog.cellsOf 54 = 1 := by kernel_rfl
    have g0 := hf 0 _ rfl
    have g1 := hf 1 _ rfl
    have g2 := hf 2 _ rfl
    have g3 := hf 3 _ rfl
    have g4 := hf 4 _ rfl
    have g5 := hf 5 _ rfl
    simp only [q0, q1, q2, List.drop_zero, List.drop_succ_cons, List.take_succ_cons, List.take_zero, List.take_nil, List.getElem?_cons_zero, List.getElem?_cons_succ] at g0 g1 g2 g3 g4 g5
    obtain ⟨a0, rfl, w0⟩ := cell_int (q := .u8) Tryd.underlying58 g0
    obtain ⟨a1, rfl, w1⟩ := cell_int (q := .i64) Tryd.underlying3 g1
    obtain ⟨a2, rfl, w2⟩ := cell_int (q := .i64) Tryd.underlying3 g2
    obtain ⟨a3, rfl, w3⟩ := cell_int (q := .i64) Tryd.underlying3 g3
    obtain ⟨a4, rfl, w4⟩ := cell_int (q := .i64) Tryd.underlying3 g4
    subst hx
    have hl5 : Light 54 y5.1 := hL.field Tryd.underlying60 (i := 5) rfl rfl
    obtain ⟨dd, hb, hn⟩ := bytes_of g5 hl5
    exact ⟨(c5, ⟨a0, a1, a2, a3, a4, dd⟩), rfl, hb, by unfold reachBytes at hn; simp only; omega⟩
theorem ops_of {w : World} : ∀ (l : List (Value × OpT)), (∀ p ∈ l, IsBytes w (fun _ => 0) p.1 p.2.d ∧ p.2.d.length ≤ 140737488355328) → OpsIs w (fun _ => 0) (l.flatMap fun p : Value × OpT => p.2.cells p.1) (l.map fun p : Value × OpT => p.2)
  | [], _ => rfl
  | p :: l, h => by
    have h1 := (h p (by simp)).1
    obtain ⟨a, c, hv, h2⟩ := id h1
    exact ⟨p.1, _, rfl, h1, by rw [hv]; rfl, ops_of l (fun q hq => h q (by simp [hq]))⟩
theorem ops_len {w : World} (l : List (Value × OpT)) (h : ∀ p ∈ l, IsBytes w (fun _ => 0) p.1 p.2.d ∧ p.2.d.length ≤ 140737488355328) (i : Nat) (hi : i < (l.map fun p : Value × OpT => p.2).length) : ((l.map fun p : Value × OpT => p.2).getD i default).d.length ≤ 140737488355328 := by
  rw [List.getD_eq_getElem?_getD, List.getElem?_eq_getElem hi, Option.getD_some, List.getElem_map]
  exact (h _ (List.getElem_mem _)).2
end Go.Proofs.YtlgjaoijgkdmiaaDoor
namespace Go.Proofs.YtlgjaoijgkdmiaaDoor
open Go.ChangeShapes Go.WideShapes Go.ChangeAt Go.RowKit Go.Deep

/-- What the rows list. -/
def laidL : List (String × DataW Unit) := [("errors.errorType", Rows.laid_errors_errorType)]
theorem door_et : Tryd.prog.globalNamed "errors.errorType" = some 0 := by kernel_rfl
theorem door_rt : (Tryd.prog.cutTypes.find? (·.1 == "internal/reflectlite.rtype")).map (·.2) = some 162 := by kernel_rfl
theorem door_one : ((List.range Tryd.prog.types.size).filter fun t => Tryd.prog.rowNamed t [101, 114, 114, 111, 114]) = [45] := by kernel_rfl
theorem errT_of_laid {W : World} (h : laidMetH Tryd.prog laidL W) : ErrT W := by
  have h' : laidMet Tryd.prog [] W ∧ handlesMet Tryd.prog laidL W := h
  obtain ⟨name, u, ty, e1, e2, e3, e4, e5⟩ := h'.2 _ (List.mem_singleton.2 rfl)
  have en : name = [101, 114, 114, 111, 114] := (Option.some.inj e1).symm
  subst en
  obtain rfl := Option.some.inj (door_rt.symm.trans e2)
  have hm : ty ∈ (List.range Tryd.prog.types.size).filter fun t => Tryd.prog.rowNamed t [101, 114, 114, 111, 114] := List.mem_filter.2 ⟨List.mem_range.2 e3, e4⟩
  rw [door_one] at hm
  obtain rfl := List.mem_singleton.1 hm
  have hh : typeHandle Tryd.prog 45 = .pointer (some ⟨1, 45, none⟩) := by kernel_rfl
  rw [hh] at e5
  have h6 := World.var?_cell door_et e5 0
  unfold ErrT
  simpa using h6

/-- A world that meets the condition: the settled one, the variable's cell laid. -/
noncomputable def laidWorld (os : Os) : World :=
  let w0 := World.holding Tryd.prog os ⟨#[], #[], []⟩
  { w0 with heap := w0.heap.modify 0 fun
      | .cells _ t frozen => .cells #[.iface 162 (.agg #[.pointer (some ⟨1, 45, none⟩)])] t frozen
      | o => o }
theorem laidWorld_met (os : Os) (args : Array Value) : laidMetH Tryd.prog laidL ((laidWorld os).forCall (fun _ _ => 0) ⟨#[], args, []⟩).memory :=
  laidMetH_of_parts (laidMet_nil _ _) (by kernel_rfl)

set_option maxRecDepth 100000 in
theorem lifted_door (os : Os) (started : os.Started) (H : Type) (enc : TypeId × Value → H) (f : FuncId) (fn : Func) (s : ChangeSpec) (hfn : Tryd.prog.funcs[f]? = some fn) (hin : Tryd.prog.inits.idxOf? f = none)
    (hvars : s.vars = []) (hres : fn.resultTypes = #[4]) (hread : (fn.params.toList.all fun t => Tryd.prog.readableRec t && decide (t < Tryd.prog.types.size)) = true)
    (hs : ∀ ds : List (DataW H), ds.length = fn.params.size → s.fn H ds = { results := [.lit (.bool true)], args := ds })
    (wit : ∃ (w : World) (tape : Tape) (i : Input), w.os = os ∧ (w.forCall tape i).Shaped Tryd.checked.prog ∧ i.vars = [] ∧ Input.okWide Tryd.checked.prog (w.forCall tape i) .any w.heap.size f i ∧
      ((s.pre enc Tryd.checked.prog fn [] false (w.forCall tape i).memory i.args ∧ laidMetH Tryd.prog laidL (w.forCall tape i).memory) ∧ sizedMet enc Tryd.checked.prog fn (OpenSpec.ofChange s) false (w.forCall tape i).memory i.args) ∧ Assume.holds {} Tryd.checked.prog (lone (Frame.enter Tryd.checked.prog f i.args .normal) [] (w.forCall tape i)))
    (hw : ∀ (W : World) (args : Array Value) (ds : List (DataW H)) (ps : List MemPlace), ErrT W → (∀ (j : Nat) t v, fn.params[j]? = some t → args[j]? = some v → ∃ base, Value.okWide Tryd.prog W .any base t v) →
      DataW.TrodAll enc Tryd.prog W 0 (fun _ => true) true fn.params.toList args.toList ds ps → (DataW.weightsEach Tryd.prog fn.params.toList ds).all (· ≤ reachBytes) = true →
      Calls Tryd.prog f args W fun e W' => e = .returned (.bool true) ∧ Below W.heap.size W W') :
    ReturnsInHanded {} Tryd.checked os f .any (fun w args => (s.pre enc Tryd.prog fn [] false w args ∧ laidMetH Tryd.prog laidL w) ∧ sizedMet enc Tryd.prog fn (OpenSpec.ofChange s) false w args) (s.post enc Tryd.prog fn false true false false) := by
  refine returnsInHanded_of_change_and (C := Tryd.checked) (X := fun w _ => laidMetH Tryd.prog laidL w) (fun _ _ _ hh h => h.of_heap hh) own_ started hin hfn wit ?_
  intro W base args ds gs before hval hW hcnd hsz hL _
  obtain ⟨p, q, hA, hV, rfl, hfz, hnd⟩ := id hW
  have hlt := hW.lt
  rw [hvars] at hV
  obtain ⟨rfl, rfl⟩ := trodVars_none hV
  have hlen : ds.length = fn.params.size := by
    have : ∀ (ts : List TypeId) (vs : List Value) (ds : List (DataW H)) (ps : List MemPlace), DataW.TrodAll enc Tryd.prog W 0 (fun _ => true) true ts vs ds ps → ds.length = ts.length := by
      intro ts
      induction ts with
      | nil => intro vs ds ps h; obtain ⟨rfl, rfl, rfl⟩ := trodAll_nil h; rfl
      | cons t ts ih =>
        intro vs ds ps h
        obtain ⟨v, vs', d, ds', p, q, rfl, rfl, rfl, h1, h2⟩ := trodAll_cons h
        simp [ih _ _ _ h2]
    simpa using this _ _ _ _ hA
  have hsz' : (DataW.weightsEach Tryd.prog fn.params.toList ds).all (· ≤ reachBytes) = true := by
    have hv0 : s.plain.varTypes Tryd.checked.prog = [] := by simp [ChangeSpec.plain, DataSpec.varTypes, hvars]
    rw [hv0, List.append_nil, List.append_nil] at hsz
    exact hsz
  refine (hw W args ds p (errT_of_laid hL) (fun j t v h1 h2 => ⟨base, hval j t v h1 h2⟩) hA hsz').mono fun e W' ⟨he, bel⟩ => ?_
  subst he
  have hr : ∀ t ∈ fn.params.toList, Tryd.prog.readableRec t = true ∧ t < Tryd.prog.types.size := fun t ht => by
    have := List.all_eq_true.1 hread t ht
    simpa using this
  refine ⟨_, rfl, ds, [], _, [], p, [], hW, ?_, ?_, ?_, ?_, fun h => by cases h⟩
  · rw [List.append_nil, hs ds hlen, hres]
    exact trodAll_mk1 (shut_bool Tryd.underlying4 _)
  · rw [List.append_nil, hs ds hlen]
    exact Below.trodAll bel _ _ _ _ hr hA (fun x hx => hlt x (by simp [hx]))
  · rw [List.append_nil, hs ds hlen, hvars]
    rfl
  · exact bel.frame _
end Go.Proofs.YtlgjaoijgkdmiaaDoor
