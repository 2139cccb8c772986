/- health.Kind at a chain of the program's own errors. Printed by gen_mon.py. No condition. · fault.Trail, fault.Root at a chain of the program's own errors. No condition but that errors.errorType holds its handle. · apex.Partition.op: all kinds joined. No condition but that the tables work. · What apex.Partition.Run does, in plain words. No condition. · apex.Partition.Run: the relation at its loop's head. No condition. · apex.Partition.Run: what is known of memory in a round. No condition. -/
import Derived.Test.YtlgjaoijgkdmiaaDoorErrs3
import Derived.Test.YtlgjaoijgkdmiaaDoorSl
import Derived.Test.YtlgjaoijgkdmiaaDoorOpW
import Derived.Test.YtlgjaoijgkdmiaaDoorOp
import Derived.Test.YtlgjaoijgkdmiaaDoorOpC
import Derived.Test.YtlgjaoijgkdmiaaDoorMon2
set_option linter.unusedSimpArgs false
set_option linter.unusedVariables false
namespace Go.Proofs.YtlgjaoijgkdmiaaDoor
open Go.RowKit Go.Maps

/-- What kind of error is reported; none: it isn't. -/
def kindE (e : List (Int × Option Int)) : Option Int :=
  if e = [] then none else if hasE 151 e = true then some 0 else if hasE 150 e = true then some 1 else if hasE 17 e = true then some 3 else if hasE 13 e = true then some 3 else if hasE 12 e = true then some 3
  else if hasE 10 e = true then none else if hasE 11 e = true then none else if hasE 14 e = true then none else some 2
def kindV (o : Option Int) : Value := .tuple #[.int .u8 (o.getD 0), .bool o.isSome]

set_option maxRecDepth 100000 in
set_option maxHeartbeats 4000000 in
theorem health_kind (ev : Value) (e : List (Int × Option Int)) (w : World) (h : IsErr w (fun _ => 0) ev e) :
    Calls Tryd.prog 29 #[ev] w fun r w' => r = .returned (kindV (kindE e)) ∧ w = w' := by
  by_cases he : e = []
  · subst he
    simp only [IsErr] at h
    subst h
    go_enter Tryd.func29, Tryd.ntmps29
    go_wp2
    go_ret2
    exact ⟨rfl, rfl⟩
  · have HC := hid_ (fun c => fault_has (fun _ => 0) ev e c w h)
    obtain ⟨u, v, rfl⟩ : ∃ u v, ev = .iface u v := by
      match e, h, he with
      | (_, none) :: _, h, _ => exact ⟨_, _, h.2⟩
      | (_, some _) :: _, h, _ =>
        simp only [IsErr] at h
        obtain ⟨_, _, h1, _⟩ := h
        exact ⟨_, _, h1⟩
    have HE := hid_ he
    clear h he
    go_enter Tryd.func29, Tryd.ntmps29
    go_wp2_with fail
    refine (HC.out 151).mono ?_
    rintro x w0 ⟨rfl, rfl⟩
    obtain ⟨b0, h0⟩ : ∃ b, hasE 151 e = b := ⟨_, rfl⟩
    rw [h0]
    have H0 := hid_ h0
    clear h0
    cases b0 with
    | true =>
      go_wp2
      go_ret2
      exact ⟨by unfold kindE; rw [if_neg HE.out, if_pos H0.out]; rfl, rfl⟩
    | false =>
      go_wp2_with fail
      refine (HC.out 150).mono ?_
      rintro x w1 ⟨rfl, rfl⟩
      obtain ⟨b1, h1⟩ : ∃ b, hasE 150 e = b := ⟨_, rfl⟩
      rw [h1]
      have H1 := hid_ h1
      clear h1
      cases b1 with
      | true =>
        go_wp2
        go_ret2
        exact ⟨by unfold kindE; rw [if_neg HE.out, if_neg (by simp [H0.out]), if_pos H1.out]; rfl, rfl⟩
      | false =>
        go_wp2_with fail
        refine (HC.out 17).mono ?_
        rintro x w2 ⟨rfl, rfl⟩
        obtain ⟨b2, h2⟩ : ∃ b, hasE 17 e = b := ⟨_, rfl⟩
        rw [h2]
        have H2 := hid_ h2
        clear h2
        cases b2 with
        | true =>
          go_wp2
          go_ret2
          exact ⟨by unfold kindE; rw [if_neg HE.out, if_neg (by simp [H0.out]), if_neg (by simp [H1.out]), if_pos H2.out]; rfl, rfl⟩
        | false =>
          go_wp2_with fail
          refine (HC.out 13).mono ?_
          rintro x w3 ⟨rfl, rfl⟩
          obtain ⟨b3, h3⟩ : ∃ b, hasE 13 e = b := ⟨_, rfl⟩
          rw [h3]
          have H3 := hid_ h3
          clear h3
          cases b3 with
          | true =>
            go_wp2
            go_ret2
            exact ⟨by unfold kindE; rw [if_neg HE.out, if_neg (by simp [H0.out]), if_neg (by simp [H1.out]), if_neg (by simp [H2.out]), if_pos H3.out]; rfl, rfl⟩
          | false =>
            go_wp2_with fail
            refine (HC.out 12).mono ?_
            rintro x w4 ⟨rfl, rfl⟩
            obtain ⟨b4, h4⟩ : ∃ b, hasE 12 e = b := ⟨_, rfl⟩
            rw [h4]
            have H4 := hid_ h4
            clear h4
            cases b4 with
            | true =>
              go_wp2
              go_ret2
              exact ⟨by unfold kindE; rw [if_neg HE.out, if_neg (by simp [H0.out]), if_neg (by simp [H1.out]), if_neg (by simp [H2.out]), if_neg (by simp [H3.out]), if_pos H4.out]; rfl, rfl⟩
            | false =>
              go_wp2_with fail
              refine (HC.out 10).mono ?_
              rintro x w5 ⟨rfl, rfl⟩
              obtain ⟨b5, h5⟩ : ∃ b, hasE 10 e = b := ⟨_, rfl⟩
              rw [h5]
              have H5 := hid_ h5
              clear h5
              cases b5 with
              | true =>
                go_wp2
                go_ret2
                exact ⟨by unfold kindE; rw [if_neg HE.out, if_neg (by simp [H0.out]), if_neg (by simp [H1.out]), if_neg (by simp [H2.out]), if_neg (by simp [H3.out]), if_neg (by simp [H4.out]), if_pos H5.out]; rfl, rfl⟩
              | false =>
                go_wp2_with fail
                refine (HC.out 11).mono ?_
                rintro x w6 ⟨rfl, rfl⟩
                obtain ⟨b6, h6⟩ : ∃ b, hasE 11 e = b := ⟨_, rfl⟩
                rw [h6]
                have H6 := hid_ h6
                clear h6
                cases b6 with
                | true =>
                  go_wp2
                  go_ret2
                  exact ⟨by unfold kindE; rw [if_neg HE.out, if_neg (by simp [H0.out]), if_neg (by simp [H1.out]), if_neg (by simp [H2.out]), if_neg (by simp [H3.out]), if_neg (by simp [H4.out]), if_neg (by simp [H5.out]), if_pos H6.out]; rfl, rfl⟩
                | false =>
                  go_wp2_with fail
                  refine (HC.out 14).mono ?_
                  rintro x w7 ⟨rfl, rfl⟩
                  obtain ⟨b7, h7⟩ : ∃ b, hasE 14 e = b := ⟨_, rfl⟩
                  rw [h7]
                  have H7 := hid_ h7
                  clear h7
                  cases b7 with
                  | true =>
                    go_wp2
                    go_ret2
                    exact ⟨by unfold kindE; rw [if_neg HE.out, if_neg (by simp [H0.out]), if_neg (by simp [H1.out]), if_neg (by simp [H2.out]), if_neg (by simp [H3.out]), if_neg (by simp [H4.out]), if_neg (by simp [H5.out]), if_neg (by simp [H6.out]), if_pos H7.out]; rfl, rfl⟩
                  | false =>
                    go_wp2
                    go_ret2
                    exact ⟨by unfold kindE; rw [if_neg HE.out, if_neg (by simp [H0.out]), if_neg (by simp [H1.out]), if_neg (by simp [H2.out]), if_neg (by simp [H3.out]), if_neg (by simp [H4.out]), if_neg (by simp [H5.out]), if_neg (by simp [H6.out]), if_neg (by simp [H7.out])]; rfl, rfl⟩
end Go.Proofs.YtlgjaoijgkdmiaaDoor
namespace Go.Proofs.YtlgjaoijgkdmiaaDoor
open Go.RowKit Go.Maps Go.Extern.Stop Go.Stop Go.Extern

/-- A slice in new memory that may be written, or nil. -/
def NewSl (w w' : World) (v : Value) (e : TypeId) (sz n : Nat) (cs : List Value) : Prop :=
  (v = .slice none 0 0 ∧ n = 0 ∧ cs = []) ∨ ∃ b, w.heap.size ≤ b ∧ Raw w' v e sz n cs b
theorem NewSl.sl {w w' : World} {v : Value} {e : TypeId} {sz n : Nat} {cs : List Value} (h : NewSl w w' v e sz n cs) (hb : Below w.heap.size w w') {C : Nat → Nat} (hf : Fin C w) (k : Nat) :
    ∃ C', Sl w' C' k v e sz n cs ∧ Fr (fun _ => False) C C' w w' := by
  rcases h with h | ⟨b, h1, h2⟩
  · exact ⟨C, .inl h, Fr.of_below hb _⟩
  · refine ⟨fun y => if y = b then k else C y, .inr ⟨b, if_pos rfl, h2⟩, (Fr.of_below hb _).recolour (fun y hy _ => if_neg (by omega)) (fun y hy => by
      have := h2.lt
      have := hb.size
      rw [if_neg (by omega)]
      exact hf y (by omega))⟩
theorem IsErr.zero {w : World} {C : Nat → Nat} : ∀ {v : Value} {e : List (Int × Option Int)}, IsErr w C v e → IsErr w (fun _ => 0) v e
  | _, [], h => h
  | _, (_, none) :: _, h => h
  | _, (_, some _) :: _, ⟨b, cv, h1, h2, h3, h4⟩ => ⟨b, cv, h1, h2, rfl, IsErr.zero h4⟩

set_option maxRecDepth 100000 in
set_option maxHeartbeats 4000000 in
theorem fault_trail (C : Nat → Nat) (ev : Value) (e : List (Int × Option Int)) (w : World) (hg : ErrT w) (h : IsErr w C ev e) (hl : e.length ≤ 1000) :
    Calls Tryd.prog 40 #[ev] w fun r w' => ∃ v, r = .returned v ∧ NewSl w w' v 53 1 e.length (e.map fun x => .int .i64 x.1) ∧ Below w.heap.size w w' := by
  obtain ⟨i1, z1, hi1, hz1, hzs1, his1, hby1⟩ := info_row (P := Tryd.prog) (e := 53) (size := 1) (bytes := 8) (by kernel_rfl)
  have HE := hid_ h.zero
  have HG := hid_ hg
  clear h hg
  go_enter Tryd.func40, Tryd.ntmps40
  go_wp2
  go_loopg [0, 3] e.length (fun k xv0 ov0 wr => ∃ (xv ov : Value) (d r : List (Int × Option Int)) (C' : Nat → Nat), xv = xv0 ∧ ov = ov0 ∧ e = d ++ r ∧ k = r.length ∧ IsErr wr C' xv r ∧ Fr (· = 1) (fun _ => 0) C' w wr ∧ Sl wr C' 1 ov 53 1 d.length (d.map fun x => .int .i64 x.1))
  case atStart => exact ⟨_, _, [], e, fun _ => 0, rfl, rfl, rfl, rfl, HE.out, Fr.refl _ _ _, Sl.nil _ _ _ _ _⟩
  case round =>
    obtain ⟨xv, ov, d, r, C', rfl, rfl, hdr, rfl, hr, F, S⟩ := hrel
    clear HE
    have hB : Below w.heap.size w wr := F.below (fun _ _ h => by omega)
    match r, hr, hdr with
    | [], hr, hdr =>
      simp only [IsErr] at hr
      subst hr
      rw [List.append_nil] at hdr
      subst hdr
      go_wp2
      go_ret
      refine ⟨_, rfl, ?_, hB⟩
      rcases S with h | ⟨b, hb, h⟩
      · exact .inl h
      · refine .inr ⟨b, ?_, h⟩
        rcases Nat.lt_or_ge b w.heap.size with h1 | h1
        · have := (F.block b h1 (by simp)).2
          omega
        · exact h1
    | x :: rest, hr, hdr =>
      have hlen : d.length + (rest.length + 1) ≤ 1000 := by rw [hdr, List.length_append, List.length_cons] at hl; exact hl
      obtain ⟨u, v, rfl⟩ : ∃ u v, xv = .iface u v := by
        obtain ⟨y1, y2⟩ := x
        cases y2 with
        | none => exact ⟨_, _, hr.2⟩
        | some y2 =>
          have h0 := hr
          simp only [IsErr] at h0
          obtain ⟨_, _, h1, _⟩ := h0
          exact ⟨_, _, h1⟩
      have HC := hid_ (fault_code C' _ _ wr (HG.out.below hB) hr)
      have HR := hid_ hr
      have HS := hid_ S
      have HD := hid_ hdr
      have HF := hid_ F
      clear hr S hdr F hB
      go_wp2_with fail
      refine HC.out.mono ?_
      rintro y w1 ⟨rfl, b1⟩
      have f1 := Fr.of_below (C := C') b1 (fun _ => False)
      have S1 := HS.out.fr f1 (fun h => h)
      have hcx : codeE (x :: rest) = x.1 := rfl
      rw [hcx]
      obtain ⟨v2, w2, C2, hr2, S2, F2, -, -⟩ := Sl.append (P := Tryd.prog) (t := 123) 0 Tryd.underlying123 hi1 his1 hz1 hzs1 (S1.alloc (.cells #[.int .i64 x.1] 53)) (Src.new w1 53 1 1 1 [.int .i64 x.1] rfl) (by simp [Value.oneCell']) (by unfold maxLen; omega) (by rw [hby1]; omega)
      have f2 : Fr (· = 1) C' C2 wr w2 := ((f1.mono (K' := (· = 1)) (fun _ h => h.elim)).alloc (.cells #[.int .i64 x.1] 53)).trans F2
      have HR2 := hid_ (HR.out.fr f2 (by omega))
      have HF2 := hid_ (HF.out.trans f2)
      have hB2 : Below w.heap.size w w2 := HF2.out.below (fun _ _ h => by omega)
      have HS2 := hid_ S2
      have HRUN := hid_ hr2
      clear hr2 S2 F2 f2 S1 f1 b1 hcx HR HF HS
      go_wp2_with (refine wpList_append_run HRUN.out (by rfl) (by rfl) (by rfl) (by rfl) ?_)
      refine (err_unwrap C2 _ _ _ _ HR2.out).mono ?_
      rintro y w3 ⟨cv, rfl, rfl, h3⟩
      have HR3 := hid_ h3
      have HD2 := hid_ (show e = (d ++ [x]) ++ rest by rw [HD.out]; simp)
      clear h3
      go_wp2
      go_roundg rest.length
      case measure => simp
      case rel => exact ⟨_, _, d ++ [x], rest, C2, rfl, rfl, HD2.out, rfl, HR3.out, HF2.out, by have := HS2.out; rw [List.length_append, List.map_append]; exact this⟩
/-- The innermost number. -/
def rootE : List (Int × Option Int) → Int
  | [] => 0
  | [x] => x.1
  | _ :: y :: r => rootE (y :: r)
theorem rootE_get : ∀ (e : List (Int × Option Int)), e ≠ [] → (e.map fun x => Value.int .i64 x.1)[e.length - 1]? = some (.int .i64 (rootE e))
  | [], h => absurd rfl h
  | [x], _ => rfl
  | x :: y :: r, _ => by
    have := rootE_get (y :: r) (by simp)
    simp only [List.length_cons, List.map_cons, Nat.add_sub_cancel] at this ⊢
    rw [List.getElem?_cons_succ]
    exact this
theorem NewSl.form {w w' : World} {v : Value} {e : TypeId} {sz n : Nat} {cs : List Value} (h : NewSl w w' v e sz n cs) : ∃ a cap, v = .slice a n cap ∧ n ≤ cap ∧ cap ≤ maxLen := by
  rcases h with ⟨rfl, rfl, rfl⟩ | ⟨b, _, h0, off, cap, cur, rfl, h1, h2, _⟩
  · exact ⟨_, _, rfl, Nat.le_refl _, Nat.zero_le _⟩
  · exact ⟨_, _, rfl, h1, h2⟩
theorem NewSl.rd {w w' : World} {v : Value} {e : TypeId} {sz n : Nat} {cs : List Value} (h : NewSl w w' v e sz n cs) {C : Nat → Nat} (hf : Fin C w) : Rd w' C v sz n cs := by
  rcases h with ⟨rfl, rfl, rfl⟩ | ⟨b, hb, h⟩
  · exact rd_nil _ _ _
  · exact h.rd (hf b hb)
theorem NewSl.at {w w' : World} {a : Option Addr} {cap : Nat} {e : TypeId} {sz n : Nat} {cs : List Value} (h : NewSl w w' (.slice a n cap) e sz n cs) (hn : 0 < n) :
    ∃ b off, a = some ⟨b, off, none⟩ ∧ ∀ i x, cs[i]? = some x → w'.cell? ⟨b, off + i, none⟩ = some x := by
  rcases h with ⟨_, h, _⟩ | ⟨b, hb, h⟩
  · omega
  · obtain ⟨off, h1, h2⟩ := h.at
    exact ⟨b, off, h1, fun i x hx => by have := h2 i x hx; rwa [addr_add] at this⟩

set_option maxRecDepth 100000 in
set_option maxHeartbeats 1000000 in
theorem fault_root (C : Nat → Nat) (ev : Value) (e : List (Int × Option Int)) (w : World) (hg : ErrT w) (h : IsErr w C ev e) (hl : e.length ≤ 1000) :
    Calls Tryd.prog 28 #[ev] w fun r w' => r = .returned (.int .i64 (rootE e)) ∧ Below w.heap.size w w' := by
  have HC := hid_ (fault_trail C ev e w hg h hl)
  clear h hg
  go_enter Tryd.func28, Tryd.ntmps28
  go_wp2_with fail
  refine HC.out.mono ?_
  rintro r w1 ⟨v, rfl, hv, hb⟩
  obtain ⟨a, cap, rfl, hc, hm⟩ := hv.form
  unfold maxLen at hm
  by_cases he : e = []
  · subst he
    have hz : ((([] : List (Int × Option Int)).length : Int) == 0) = true := rfl
    clear hv
    go_wp2
    go_ret
    exact ⟨rfl, hb⟩
  · have hp : 0 < e.length := List.length_pos_iff.2 he
    have hz : ((e.length : Int) == 0) = false := by
      have : (e.length : Int) ≠ 0 := by omega
      simpa using this
    obtain ⟨b, off, rfl, hcell⟩ := hv.at hp
    have c0 := hcell _ _ (rootE_get e he)
    have hi : ((e.length : Int) - 1).toNat = e.length - 1 := by omega
    obtain ⟨n, hn⟩ : ∃ n, e.length = n + 1 := ⟨e.length - 1, by omega⟩
    rw [hn] at c0 hz hi hc ⊢
    simp only [Nat.add_sub_cancel] at c0 hi
    have hi2 : ((n + 1 : Nat) : Int) - 1 = (n : Int) := by omega
    clear hv hcell hn hi
    go_wp2
    go_ret
    exact ⟨rfl, hb⟩
end Go.Proofs.YtlgjaoijgkdmiaaDoor
namespace Go.Proofs.YtlgjaoijgkdmiaaDoor
open Go.RowKit Go.Maps

theorem apxOp (c : Cfg) (hg : Good c) (A : HA) (C : Nat → Nat) (lv : Nat → Value) (s : HSt) (dv : Value) (o : OpT) (w : World) (hf : Fin C w) (h : HW w C c A lv s) (hd : IsBytes w C dv o.d) (hq : ∀ j, ∀ x ∈ (s.st.getD j default).q, x.length ≤ 140737488355328) (hm : ∀ x ∈ s.mem, 0 ≤ x ∧ x < 65536) :
    Calls Tryd.prog 27 #[.pointer (some ⟨A.pb, 0, none⟩), A.v, o.v dv] w (OpP c A C w (opE c A.node A.part s o) (opV s o) (opD c A.node A.part s o) (opS c A.node A.part s o)) := by
  obtain ⟨ok, op, oa, ob, oc, d⟩ := o
  by_cases k1 : ok = 1
  · subst k1; exact op_write c hg A C lv s dv d w hf h op oa ob oc hd
  by_cases k2 : ok = 2
  · subst k2; exact op_read c hg A C lv s dv d w hf h op oa ob oc hq
  by_cases k3 : ok = 3
  · subst k3
    by_cases q : oa < 0
    · exact op_m3lo c hg A C lv s dv d w hf h op oa ob oc q
    by_cases q2 : (s.mem.length : Int) ≤ oa
    · exact op_m3hi c hg A C lv s dv d w hf h op oa ob oc q q2
    · exact op_store c hg A C lv s dv d w hf h op oa ob oc q q2 hm
  by_cases k4 : ok = 4
  · subst k4
    by_cases q : oa < 0
    · exact op_m4lo c hg A C lv s dv d w hf h op oa ob oc q
    by_cases q2 : (s.mem.length : Int) ≤ oa
    · exact op_m4hi c hg A C lv s dv d w hf h op oa ob oc q q2
    · exact op_load c hg A C lv s dv d w hf h op oa ob oc q q2 hm
  by_cases k5 : ok = 5
  · subst k5; exact op_spin c hg A C lv s dv d w hf h op oa ob oc
  by_cases k7 : ok = 7
  · subst k7; exact op_cmd7 c hg A C lv s dv d w hf h op oa ob oc
  by_cases k8 : ok = 8
  · subst k8; exact op_cmd8 c hg A C lv s dv d w hf h op oa ob oc
  by_cases k9 : ok = 9
  · subst k9; exact op_cmd9 c hg A C lv s dv d w hf h op oa ob oc
  by_cases k10 : ok = 10
  · subst k10
    by_cases q : oa < 0
    · exact op_asklo c hg A C lv s dv d w hf h op oa ob oc q
    by_cases q2 : 8 ≤ oa
    · exact op_askhi c hg A C lv s dv d w hf h op oa ob oc q q2
    cases hx : s.f oa with
    | none => exact op_ask0 c hg A C lv s dv d w hf h op oa ob oc q q2 hx
    | some v =>
      obtain ⟨mb, hb, hm2, -, -⟩ := h.tab
      have hr := hm2.rng hx
      exact op_ask1 c hg A C lv s dv d w hf h op oa ob oc q q2 v hx ⟨hr.2.2.1, hr.2.2.2⟩
  · exact op_else c hg A C lv s dv d w hf h op oa ob oc ok (by simpa using k1) (by simpa using k2) (by simpa using k3) (by simpa using k4) (by simpa using k5) (by simpa using k7) (by simpa using k8) (by simpa using k9) (by simpa using k10)
end Go.Proofs.YtlgjaoijgkdmiaaDoor
namespace Go.Proofs.YtlgjaoijgkdmiaaDoor
open Go.RowKit Go.Maps

structure Res where
  code : Int
  val : Int
  data : Option (List UInt8 × Bool)
structure RSt where
  h : HSt
  m : MSt
  left : Int
def errL : Option (Int × Int) → List (Int × Option Int)
  | none => []
  | some (c, a) => [(c, some a)]
def stepE (c : Cfg) (node : Int) (part : Nat) (s : RSt) (o : OpT) : Option (Int × Int) := if s.left < costO o then some (151, (part : Int)) else opE c node part s.h o
def stepS (c : Cfg) (node : Int) (part : Nat) (s : RSt) (o : OpT) : RSt := if s.left < costO o then ⟨s.h, s.m, 0⟩ else ⟨opS c node part s.h o, s.m, s.left - costO o⟩
def stepR (c : Cfg) (node : Int) (part : Nat) (s : RSt) (o : OpT) : Res :=
  match stepE c node part s o with
  | some (cd, _) => ⟨cd, 0, none⟩
  | none => ⟨(opV s.h o).1, (opV s.h o).2, opD c node part s.h o⟩
/-- The results, the action, and what is left. -/
def runR (c : Cfg) (node : Int) (part : Nat) (round : Int) : List OpT → RSt → List Res × Int × RSt
  | [], s => ([], 0, s)
  | o :: r, s =>
    match kindE (errL (stepE c node part s o)) with
    | none => let x := runR c node part round r (stepS c node part s o); (stepR c node part s o :: x.1, x.2.1, x.2.2)
    | some kd =>
      let s1 := stepS c node part s o
      let a := repA c.parts s1.m round part kd.toNat
      let s2 : RSt := ⟨s1.h, repM node c.parts s1.m round part kd.toNat, s1.left⟩
      if a ≠ 0 ∨ kd = 0 then ([stepR c node part s o], a, s2) else let x := runR c node part round r s2; (stepR c node part s o :: x.1, x.2.1, x.2.2)
/-- The results as they lie in memory. -/
def ResIs (w : World) (C : Nat → Nat) : List Value → List Res → Prop
  | cs, [] => cs = []
  | cs, r :: rs => ∃ dv fv cs', cs = .int .i64 r.code :: .int .i64 r.val :: dv :: fv :: cs' ∧ ReadV w C dv fv r.data ∧ ResIs w C cs' rs
theorem ReadV.fr {K : Nat → Prop} {C C' : Nat → Nat} {w w' : World} {v fv : Value} {D : Option (List UInt8 × Bool)} (h : ReadV w C v fv D) (f : Fr K C C' w w') (hk : ¬ K 0) : ReadV w' C' v fv D := by
  match D, h with
  | none, h => exact h
  | some (d, b), h => exact ⟨h.1.fr f hk, h.2⟩
theorem ResIs.fr {K : Nat → Prop} {C C' : Nat → Nat} {w w' : World} (f : Fr K C C' w w') (hk : ¬ K 0) : ∀ {cs : List Value} {rs : List Res}, ResIs w C cs rs → ResIs w' C' cs rs
  | _, [], h => h
  | _, _ :: _, ⟨dv, fv, cs', h1, h2, h3⟩ => ⟨dv, fv, cs', h1, h2.fr f hk, ResIs.fr f hk h3⟩
theorem ResIs.snoc {w : World} {C : Nat → Nat} {dv fv : Value} {r : Res} (hr : ReadV w C dv fv r.data) : ∀ {cs : List Value} {rs : List Res}, ResIs w C cs rs → ResIs w C (cs ++ [.int .i64 r.code, .int .i64 r.val, dv, fv]) (rs ++ [r])
  | _, [], h => by
    simp only [ResIs] at h
    subst h
    exact ⟨dv, fv, [], rfl, hr, rfl⟩
  | _, _ :: _, ⟨dv', fv', cs', h1, h2, h3⟩ => ⟨dv', fv', _, by rw [h1]; rfl, h2, ResIs.snoc hr h3⟩
end Go.Proofs.YtlgjaoijgkdmiaaDoor
namespace Go.Proofs.YtlgjaoijgkdmiaaDoor
open Go.RowKit Go.Maps

def KRun (x : Nat) : Prop := (100 ≤ x ∧ x < 200) ∨ x = 310 ∨ x = 311 ∨ x = 320 ∨ x = 330 ∨ x = 340
theorem KRun.op {x : Nat} (h : KOp x) : KRun x := by unfold KOp at h; unfold KRun; omega
/-- Ops as they lie in memory. -/
def OpsIs (w : World) (C : Nat → Nat) : List Value → List OpT → Prop
  | cs, [] => cs = []
  | cs, o :: r => ∃ dv cs', cs = o.cells dv ++ cs' ∧ IsBytes w C dv o.d ∧ dv.oneCell' = true ∧ OpsIs w C cs' r
theorem OpsIs.fr {K : Nat → Prop} {C C' : Nat → Nat} {w w' : World} (f : Fr K C C' w w') (hk : ¬ K 0) : ∀ {cs : List Value} {l : List OpT}, OpsIs w C cs l → OpsIs w' C' cs l
  | _, [], h => h
  | _, _ :: _, ⟨dv, cs', h1, h2, h3, h4⟩ => ⟨dv, cs', h1, h2.fr f hk, h3, OpsIs.fr f hk h4⟩
theorem OpsIs.get {w : World} {C : Nat → Nat} : ∀ {l : List OpT} {cs : List Value} {i : Nat}, OpsIs w C cs l → i < l.length → ∃ dv, IsBytes w C dv (l.getD i default).d ∧ dv.oneCell' = true ∧ ∀ j v, ((l.getD i default).cells dv)[j]? = some v → cs[i * 6 + j]? = some v
  | o :: r, cs, 0, ⟨dv, cs', h1, h2, h3, h4⟩, _ => ⟨dv, h2, h3, fun j v hj => by
      rw [h1, Nat.zero_mul, Nat.zero_add, List.getElem?_append_left (by have := (List.getElem?_eq_some_iff.mp hj).1; simpa using this)]
      simpa using hj⟩
  | o :: r, cs, i + 1, ⟨dv, cs', h1, h2, h3, h4⟩, hi => by
      obtain ⟨dv', q1, q2, q3⟩ := OpsIs.get (i := i) h4 (by simpa using hi)
      refine ⟨dv', by simpa using q1, q2, fun j v hj => ?_⟩
      rw [h1, List.getElem?_append_right (by show 6 ≤ _; omega)]
      have := q3 j v (by simpa using hj)
      rw [show (o.cells dv).length = 6 from rfl, show (i + 1) * 6 + j - 6 = i * 6 + j by omega]
      exact this
/-- Bounds that a run keeps. -/
structure RunOk (c : Cfg) (part : Nat) (s : RSt) (B : Int) : Prop where
  mem : ∀ x ∈ s.h.mem, 0 ≤ x ∧ x < 65536
  q : ∀ j, ∀ x ∈ (s.h.st.getD j default).q, x.length ≤ 140737488355328
  again : 0 ≤ s.m.again.getD part 0 ∧ s.m.again.getD part 0 ≤ B
  last : 0 ≤ s.m.last.getD part 0 ∧ s.m.last.getD part 0 < 4294967296
  left : 0 ≤ s.left ∧ s.left ≤ 64
theorem getD_set_cases {α : Type} (l : List α) (j i : Nat) (x d : α) : (l.set j x).getD i d = l.getD i d ∨ (l.set j x).getD i d = x := by
  rw [List.getD_eq_getElem?_getD, List.getElem?_set, List.getD_eq_getElem?_getD]
  by_cases h : j = i
  · subst h
    by_cases h2 : j < l.length
    · rw [if_pos rfl, if_pos h2]; right; rfl
    · rw [if_pos rfl, if_neg h2, List.getElem?_eq_none (Nat.not_lt.mp h2)]; left; rfl
  · rw [if_neg h]; left; rfl
theorem writeE_short {c : Cfg} (hg : Good c) {node part port : Int} {d : List UInt8} {st : List PSt} (h : writeE c node part port d st = none) : d.length ≤ 16 := by
  unfold writeE at h
  cases hF : findE c node part port true with
  | some x => rw [hF] at h; cases h
  | none =>
    rw [hF] at h
    obtain ⟨i, j, rfl, rfl, hj, -, -, -, -⟩ := findE_none hg hF
    simp only [Int.toNat_natCast] at h
    have := hg.ports j hj
    unfold portOk inb at this
    simp only [Bool.and_eq_true, decide_eq_true_eq] at this
    by_cases h1 : (c.port j).size < (d.length : Int)
    · rw [if_pos h1] at h; cases h
    · omega
theorem writeS_q {c : Cfg} (hg : Good c) {node part port : Int} {d : List UInt8} {st : List PSt} (h : ∀ j, ∀ x ∈ (st.getD j default).q, x.length ≤ 140737488355328) : ∀ j, ∀ x ∈ ((writeS c node part port d st).getD j default).q, x.length ≤ 140737488355328 := by
  intro j x hx
  unfold writeS at hx
  cases hE : writeE c node part port d st with
  | some e => rw [hE] at hx; exact h j x hx
  | none =>
    rw [hE] at hx
    have hd := writeE_short hg hE
    unfold putSt at hx
    simp only at hx
    rcases getD_set_cases st port.toNat j { st.getD port.toNat default with q := (if (c.port port.toNat).kind = 1 then [] else (st.getD port.toNat default).q) ++ [d] } default with e | e
    · rw [e] at hx; exact h j x hx
    · rw [e] at hx
      simp only [List.mem_append, List.mem_singleton] at hx
      rcases hx with hx | rfl
      · split at hx
        · cases hx
        · exact h _ x hx
      · omega
theorem readS_q {c : Cfg} {node part port : Int} {st : List PSt} (h : ∀ j, ∀ x ∈ (st.getD j default).q, x.length ≤ 140737488355328) : ∀ j, ∀ x ∈ ((readS c node part port st).getD j default).q, x.length ≤ 140737488355328 := by
  intro j x hx
  unfold readS at hx
  cases hE : readE c node part port st with
  | some e => rw [hE] at hx; exact h j x hx
  | none =>
    rw [hE] at hx
    simp only at hx
    split at hx
    · exact h j x hx
    · rcases getD_set_cases st port.toNat j { st.getD port.toNat default with q := (st.getD port.toNat default).q.tail } default with e | e
      · rw [e] at hx; exact h j x hx
      · rw [e] at hx; exact h _ x (List.mem_of_mem_tail hx)
theorem costO_pos (o : OpT) : 1 ≤ costO o := by
  unfold costO
  split
  · split <;> omega
  · omega
theorem opS_q {c : Cfg} (hg : Good c) {node : Int} {part : Nat} {s : HSt} {o : OpT} (h : ∀ j, ∀ x ∈ (s.st.getD j default).q, x.length ≤ 140737488355328) : ∀ j, ∀ x ∈ ((opS c node part s o).st.getD j default).q, x.length ≤ 140737488355328 := by
  unfold opS
  split
  · exact writeS_q hg h
  split
  · exact readS_q h
  split
  · split <;> exact h
  split <;> exact h
theorem opS_mem {c : Cfg} {node : Int} {part : Nat} {s : HSt} {o : OpT} (h : ∀ x ∈ s.mem, 0 ≤ x ∧ x < 65536) : ∀ x ∈ (opS c node part s o).mem, 0 ≤ x ∧ x < 65536 := by
  unfold opS
  split
  · exact h
  split
  · exact h
  split
  · split
    · exact h
    · intro x hx
      rcases List.mem_or_eq_of_mem_set hx with h1 | h1
      · exact h x h1
      · rw [h1]; exact w16_rng _
  split <;> exact h
theorem RunOk.step {c : Cfg} (hg : Good c) {node : Int} {part : Nat} {s : RSt} {B : Int} (h : RunOk c part s B) (o : OpT) : RunOk c part (stepS c node part s o) B := by
  unfold stepS
  have h1 := costO_pos o
  have h2 := h.left
  split
  · exact ⟨h.mem, h.q, h.again, h.last, by simp⟩
  · exact ⟨opS_mem h.mem, opS_q hg h.q, h.again, h.last, by simp; omega⟩
theorem RunOk.rep {c : Cfg} {node : Int} {part : Nat} {s : RSt} {B : Int} (h : RunOk c part s B) {round : Int} (r0 : 0 ≤ round) (r1 : round < 1048576) (kd : Nat) : RunOk c part ⟨s.h, repM node c.parts s.m round part kd, s.left⟩ (B + 1) := by
  refine ⟨h.mem, h.q, ?_, ?_, h.left⟩
  · show 0 ≤ (repM node c.parts s.m round part kd).again.getD part 0 ∧ _ ≤ B + 1
    have ha := h.again
    unfold repM agn
    simp only
    split
    · rcases getD_set_cases s.m.again part part (if s.m.last.getD part 0 ≠ 0 ∧ round ≤ s.m.last.getD part 0 then s.m.again.getD part 0 + 1 else 1) 0 with e | e <;> rw [e]
      · omega
      · split <;> omega
    · omega
  · show 0 ≤ (repM node c.parts s.m round part kd).last.getD part 0 ∧ _ < 4294967296
    have ha := h.last
    unfold repM
    simp only
    split
    · rcases getD_set_cases s.m.last part part (round + 1) 0 with e | e <;> rw [e] <;> omega
    · exact ha
end Go.Proofs.YtlgjaoijgkdmiaaDoor
namespace Go.Proofs.YtlgjaoijgkdmiaaDoor
open Go.RowKit Go.Maps

/-- All that Run has to do with, in memory. -/
structure RunM (c : Cfg) (A : HA) (lb gb : Nat) (mpv : Value) (hb : Nat) (v : Value) (rs : List Res) (cs : List Value) (ov : Value) (lv : Nat → Value) (s : HSt) (m : MSt) (W : World) (C : Nat → Nat) : Prop where
  hw : HW W C c A lv s
  len : s.st.length ≤ 24
  mon : IsMon W C 310 A.mb lb gb A.node c.parts mpv ov m
  sl : Sl W C 340 v 56 4 rs.length cs
  res : ResIs W C cs rs
  host : Bk W hb 40 [.pointer (some ⟨A.b, 0, none⟩), .pointer (some ⟨A.tb, 0, none⟩), .pointer (some ⟨A.mb, 0, none⟩), .pointer (some ⟨A.cb, 0, none⟩)]
  hcol : C hb = 0
  err : ErrT W
  ecol : C 0 = 0
  fin : Fin C W
theorem ErrT.lt {W : World} (h : ErrT W) : 0 < W.heap.size := World.block_lt_of_cell? W _ h
theorem ErrT.fr {K : Nat → Prop} {C C' : Nat → Nat} {w w' : World} (h : ErrT w) (hc : C 0 = 0) (f : Fr K C C' w w') (hk : ¬ K 0) : ErrT w' ∧ C' 0 = 0 := by
  obtain ⟨f1, f2⟩ := f.block _ h.lt (by rw [hc]; exact hk)
  refine ⟨?_, f2.trans hc⟩
  unfold ErrT at h ⊢
  rw [← h]
  exact World.cell?_of_block f1
theorem Bk.frc {K : Nat → Prop} {C C' : Nat → Nat} {w w' : World} {b t k : Nat} {cs : List Value} (h : Bk w b t cs) (hc : C b = k) (f : Fr K C C' w w') (hk : ¬ K k) : Bk w' b t cs ∧ C' b = k :=
  ⟨h.fr f (by rw [hc]; exact hk), (f.block b h.lt (by rw [hc]; exact hk)).2.trans hc⟩
theorem RunM.fr {K : Nat → Prop} {C C' : Nat → Nat} {w w' : World} {c : Cfg} {A : HA} {lb gb hb : Nat} {mpv v ov : Value} {rs : List Res} {cs : List Value} {lv : Nat → Value} {s : HSt} {m : MSt}
    (h : RunM c A lb gb mpv hb v rs cs ov lv s m w C) (f : Fr K C C' w w') (hk : ∀ x, K x → x = 400) : RunM c A lb gb mpv hb v rs cs ov lv s m w' C' := by
  have k0 : ¬ K 0 := fun h => by have := hk _ h; omega
  obtain ⟨a1, a2⟩ := h.host.frc h.hcol f k0
  obtain ⟨b1, b2⟩ := h.err.fr h.ecol f k0
  exact ⟨h.hw.fr f h.len (fun x hx => by have := hk _ hx; omega), h.len, h.mon.fr f ⟨k0, fun h => by have := hk _ h; omega, fun h => by have := hk _ h; omega⟩,
    h.sl.fr f (fun h => by have := hk _ h; omega), h.res.fr f k0, a1, a2, b1, b2, f.Fin h.fin⟩
theorem RunM.op {C C' : Nat → Nat} {w w' : World} {c : Cfg} {A : HA} {lb gb hb : Nat} {mpv v ov : Value} {rs : List Res} {cs : List Value} {lv lv' : Nat → Value} {s s' : HSt} {m : MSt}
    (h : RunM c A lb gb mpv hb v rs cs ov lv s m w C) (f : Fr KOp C C' w w') (hw : HW w' C' c A lv' s') (hl : s'.st.length ≤ 24) : RunM c A lb gb mpv hb v rs cs ov lv' s' m w' C' := by
  have k0 : ¬ KOp 0 := by unfold KOp; omega
  obtain ⟨a1, a2⟩ := h.host.frc h.hcol f k0
  obtain ⟨b1, b2⟩ := h.err.fr h.ecol f k0
  exact ⟨hw, hl, h.mon.fr f ⟨k0, by unfold KOp; omega, by unfold KOp; omega⟩, h.sl.fr f (by unfold KOp; omega), h.res.fr f k0, a1, a2, b1, b2, f.Fin h.fin⟩
theorem RunM.app {C C' : Nat → Nat} {w w' : World} {c : Cfg} {A : HA} {lb gb hb : Nat} {mpv v v' ov dv fv : Value} {rs : List Res} {r : Res} {cs : List Value} {lv : Nat → Value} {s : HSt} {m : MSt}
    (h : RunM c A lb gb mpv hb v rs cs ov lv s m w C) (f : Fr (· = 340) C C' w w') (hs : Sl w' C' 340 v' 56 4 (rs.length + 1) (cs ++ [.int .i64 r.code, .int .i64 r.val, dv, fv])) (hr : ReadV w' C' dv fv r.data) :
    RunM c A lb gb mpv hb v' (rs ++ [r]) (cs ++ [.int .i64 r.code, .int .i64 r.val, dv, fv]) ov lv s m w' C' := by
  obtain ⟨a1, a2⟩ := h.host.frc h.hcol f (by omega)
  obtain ⟨b1, b2⟩ := h.err.fr h.ecol f (by omega)
  exact ⟨h.hw.fr f h.len (fun x hx => by omega), h.len, h.mon.fr f ⟨by omega, by omega, by omega⟩, by rw [List.length_append]; exact hs, (h.res.fr f (by omega)).snoc hr, a1, a2, b1, b2, f.Fin h.fin⟩
theorem RunM.rep {C C' : Nat → Nat} {w w' : World} {c : Cfg} {A : HA} {lb gb hb : Nat} {mpv v ov ov' : Value} {rs : List Res} {cs : List Value} {lv : Nat → Value} {s : HSt} {m m' : MSt}
    (h : RunM c A lb gb mpv hb v rs cs ov lv s m w C) (f : Fr (fun x => x = 310 ∨ x = 311) C C' w w') (hm : IsMon w' C' 310 A.mb lb gb A.node c.parts mpv ov' m') : RunM c A lb gb mpv hb v rs cs ov' lv s m' w' C' := by
  obtain ⟨a1, a2⟩ := h.host.frc h.hcol f (by omega)
  obtain ⟨b1, b2⟩ := h.err.fr h.ecol f (by omega)
  exact ⟨h.hw.fr f h.len (fun x hx => by omega), h.len, hm, h.sl.fr f (by omega), h.res.fr f (by omega), a1, a2, b1, b2, f.Fin h.fin⟩

theorem kindE_rng (e : List (Int × Option Int)) (k : Int) (h : kindE e = some k) : ∃ n : Nat, k = n ∧ n < 4 := by
  unfold kindE at h
  repeat' split at h
  all_goals first | (cases h; done) | (injection h with h; exact ⟨k.toNat, by omega, by omega⟩)
theorem ErrO.isErr {w w' : World} {ev : Value} {E : Option (Int × Int)} (h : ErrO w w' ev E) : IsErr w' (fun _ => 0) ev (errL E) := by
  match E, h with
  | none, h => exact h
  | some (c, a), ⟨b, h1, _, h3⟩ => exact ⟨b, .nilIface, h1, h3, rfl, rfl⟩
theorem ErrO.fr400 {w w' w'' : World} {ev : Value} {E : Option (Int × Int)} (h : ErrO w w' ev E) (rb : Nat) {cs : List Value} (hr : Bk w' rb 56 cs) (hh : ∀ b, b < w'.heap.size → b ≠ rb → w''.heap[b]? = w'.heap[b]?) : ErrO w w'' ev E := by
  match E, h with
  | none, h => exact h
  | some (c, a), ⟨b, h1, h2, h3⟩ => exact ⟨b, h1, h2, h3.same (hh b h3.lt (h3.ne hr (by decide)))⟩
theorem ErrO.app {w w' w'' : World} {C : Nat → Nat} {k n : Nat} {cs : List Value} {v ev : Value} {E : Option (Int × Int)} (h : ErrO w w' ev E) (hs : Sl w' C k v 56 4 n cs) (hh : ∀ b, b < w'.heap.size → v.ownBlock ≠ some b → w''.heap[b]? = w'.heap[b]?) : ErrO w w'' ev E := by
  match E, h with
  | none, h => exact h
  | some (c, a), ⟨b, h1, h2, h3⟩ => exact ⟨b, h1, h2, h3.same (hh b h3.lt (hs.apart h3 (by decide)))⟩
theorem ErrO.grown {w w' w'' : World} {ev : Value} {E : Option (Int × Int)} (h : ErrO w w' ev E) (hb : Below w'.heap.size w' w'') : ErrO w w'' ev E := by
  match E, h with
  | none, h => exact h
  | some (c, a), ⟨b, h1, h2, h3⟩ => exact ⟨b, h1, h2, h3.same (hb.block _ h3.lt)⟩
theorem neq_nn (W : World) : (binOp .neq 45 .nilIface .nilIface).run Tryd.prog W = .ok (.bool false) W := by kernel_rfl
theorem neq_fn (v : Value) (W : World) : (binOp .neq 45 (.iface 106 v) .nilIface).run Tryd.prog W = .ok (.bool true) W := by kernel_rfl
theorem errO_neq {w w' : World} {ev : Value} {E : Option (Int × Int)} (h : ErrO w w' ev E) (W : World) : (binOp .neq 45 ev .nilIface).run Tryd.prog W = .ok (.bool E.isSome) W := by
  match E, h with
  | none, h => obtain rfl : ev = .nilIface := h; exact neq_nn W
  | some (c, a), ⟨b, h1, h2, h3⟩ => subst h1; exact neq_fn _ W
theorem grd_nn (n : Nat) (W : World) : (eqGuard .neq 45 (.tmp n) (.const .nilIface) .nilIface .nilIface).run Tryd.prog W = .ok () W := by kernel_rfl
theorem grd_fn (n : Nat) (v : Value) (W : World) : (eqGuard .neq 45 (.tmp n) (.const .nilIface) (.iface 106 v) .nilIface).run Tryd.prog W = .ok () W := by kernel_rfl
theorem errO_guard {w w' : World} {ev : Value} {E : Option (Int × Int)} (h : ErrO w w' ev E) (n : Nat) (W : World) : (eqGuard .neq 45 (.tmp n) (.const .nilIface) ev .nilIface).run Tryd.prog W = .ok () W := by
  match E, h with
  | none, h => obtain rfl : ev = .nilIface := h; exact grd_nn n W
  | some (c, a), ⟨b, h1, h2, h3⟩ => subst h1; exact grd_fn n _ W
theorem Bk.set4 {w : World} {b t : Nat} {v0 v1 v2 v3 : Value} (h : Bk w b t [v0, v1, v2, v3]) (u0 u1 u2 u3 : Value) : Bk ((((w.setCell ⟨b, 0, none⟩ u0).setCell ⟨b, 1, none⟩ u1).setCell ⟨b, 2, none⟩ u2).setCell ⟨b, 3, none⟩ u3) b t [u0, u1, u2, u3] := (((h.set 0 u0).set 1 u1).set 2 u2).set 3 u3
theorem heap_set4 (w : World) (b x : Nat) (hx : x ≠ b) (u0 u1 u2 u3 : Value) : ((((w.setCell ⟨b, 0, none⟩ u0).setCell ⟨b, 1, none⟩ u1).setCell ⟨b, 2, none⟩ u2).setCell ⟨b, 3, none⟩ u3).heap[x]? = w.heap[x]? := by
  rw [Below.heap_setCell _ _ _ _ hx, Below.heap_setCell _ _ _ _ hx, Below.heap_setCell _ _ _ _ hx, Below.heap_setCell _ _ _ _ hx]
theorem Fr.set4 {C : Nat → Nat} {w : World} {b : Nat} (h : C b = 400) (u0 u1 u2 u3 : Value) : Fr (· = 400) C C w ((((w.setCell ⟨b, 0, none⟩ u0).setCell ⟨b, 1, none⟩ u1).setCell ⟨b, 2, none⟩ u2).setCell ⟨b, 3, none⟩ u3) :=
  ((((Fr.refl _ C w).setCell (.inr h) _).setCell (.inr h) _).setCell (.inr h) _).setCell (.inr h) _
theorem Fr.run {K : Nat → Prop} {C C1 C' : Nat → Nat} {w w1 w' : World} (h : Fr KRun C C1 w w1) (f : Fr K C1 C' w1 w') (hk : ∀ x, K x → KRun x ∨ x = 400) (hD : ∀ x, x < w1.heap.size → C1 x ≠ 400) : Fr KRun C C' w w' :=
  h.trans ⟨f.os, f.tape, f.output, f.size, fun b hb hn => f.block b hb (fun hx => by rcases hk _ hx with h | h; exact hn h; exact hD b hb h), f.fin⟩

section
variable {c : Cfg} {node : Int} {part : Nat} {round : Int} {s : RSt} {o : OpT} {r : List OpT}
theorem runR_go1 (h : kindE (errL (stepE c node part s o)) = none) :
    runR c node part round (o :: r) s = (stepR c node part s o :: (runR c node part round r (stepS c node part s o)).1, (runR c node part round r (stepS c node part s o)).2) := by
  rw [runR, h]
theorem runR_stop {kd : Int} (h : kindE (errL (stepE c node part s o)) = some kd) (h2 : repA c.parts (stepS c node part s o).m round part kd.toNat ≠ 0 ∨ kd = 0) :
    runR c node part round (o :: r) s = ([stepR c node part s o], repA c.parts (stepS c node part s o).m round part kd.toNat, ⟨(stepS c node part s o).h, repM node c.parts (stepS c node part s o).m round part kd.toNat, (stepS c node part s o).left⟩) := by
  rw [runR, h]
  simp only
  rw [if_pos h2]
theorem runR_go2 {kd : Int} (h : kindE (errL (stepE c node part s o)) = some kd) (h2 : ¬ (repA c.parts (stepS c node part s o).m round part kd.toNat ≠ 0 ∨ kd = 0)) :
    runR c node part round (o :: r) s = (stepR c node part s o :: (runR c node part round r ⟨(stepS c node part s o).h, repM node c.parts (stepS c node part s o).m round part kd.toNat, (stepS c node part s o).left⟩).1,
      (runR c node part round r ⟨(stepS c node part s o).h, repM node c.parts (stepS c node part s o).m round part kd.toNat, (stepS c node part s o).left⟩).2) := by
  rw [runR, h]
  simp only
  rw [if_neg h2]
end
theorem RunOk.mono {c : Cfg} {part : Nat} {s : RSt} {B B' : Int} (h : RunOk c part s B) (hb : B ≤ B') : RunOk c part s B' := ⟨h.mem, h.q, ⟨h.again.1, Int.le_trans h.again.2 hb⟩, h.last, h.left⟩
theorem stepS_m (c : Cfg) (node : Int) (part : Nat) (s : RSt) (o : OpT) : (stepS c node part s o).m = s.m := by
  unfold stepS; split <;> rfl
theorem recsOk {c : Cfg} (hg : Good c) (h0 : ∀ p ∈ c.parts, 0 ≤ p.r0 ∧ 0 ≤ p.r1 ∧ 0 ≤ p.r2 ∧ 0 ≤ p.r3) : ∀ p ∈ c.parts, 0 ≤ p.r0 ∧ p.r0 ≤ 3 ∧ 0 ≤ p.r1 ∧ p.r1 ≤ 3 ∧ 0 ≤ p.r2 ∧ p.r2 ≤ 3 ∧ 0 ≤ p.r3 ∧ p.r3 ≤ 3 := by
  intro p hp
  obtain ⟨i, hi, rfl⟩ := List.getElem_of_mem hp
  have := hg.parts i hi
  unfold Cfg.part at this
  rw [List.getD_eq_getElem?_getD, List.getElem?_eq_getElem hi] at this
  unfold partOk at this
  simp only [Option.getD_some, Bool.and_eq_true, decide_eq_true_eq] at this
  have := h0 _ hp
  omega
end Go.Proofs.YtlgjaoijgkdmiaaDoor
