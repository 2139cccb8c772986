/- fault.Trail, fault.Root at a chain of the program's own errors. No condition but that errors.errorType holds its handle. -/
import Derived.Test.YtohmnkjiohjjoaaDoorErrs3
import Derived.Test.YtohmnkjiohjjoaaDoorSl
set_option linter.unusedSimpArgs false
set_option linter.unusedVariables false
namespace Go.Proofs.YtohmnkjiohjjoaaDoor
open Go.RowKit Go.Maps Go.Extern.Stop Go.Stop Go.Extern

/-- A slice in new memory that may be written, or nil. -/
def NewSl (w w' : World) (v : Value) (e : TypeId) (sz n : Nat) (cs : List Value) : Prop :=
  (v = .slice none 0 0 ∧ n = 0 ∧ cs = []) ∨ ∃ b, w.heap.size ≤ b ∧ Raw w' v e sz n cs b
theorem NewSl.sl {w w' : World} {v : Value} {e : TypeId} {sz n : Nat} {cs : List Value} (h : NewSl w w' v e sz n cs) (hb : Below w.heap.size w w') {C : Nat → Nat} (hf : Fin C w) (k : Nat) :
    ∃ C', Sl w' C' k v e sz n cs ∧ Fr (fun _ => False) C C' w w' := by
  rcases h with h | ⟨b, h1, h2⟩
  · exact ⟨C, .inl h, Fr.of_below hb _⟩
  · refine ⟨fun y => if y = b then k else C y, .inr ⟨b, if_pos rfl, h2⟩, (Fr.of_below hb _).recolour (fun y hy _ => if_neg (by omega)) (fun y hy => by
      have := h2.lt
      have := hb.size
      rw [if_neg (by omega)]
      exact hf y (by omega))⟩
theorem IsErr.zero {w : World} {C : Nat → Nat} : ∀ {v : Value} {e : List (Int × Option Int)}, IsErr w C v e → IsErr w (fun _ => 0) v e
  | _, [], h => h
  | _, (_, none) :: _, h => h
  | _, (_, some _) :: _, ⟨b, cv, h1, h2, h3, h4⟩ => ⟨b, cv, h1, h2, rfl, IsErr.zero h4⟩

set_option maxRecDepth 100000 in
set_option maxHeartbeats 4000000 in
theorem fault_trail (C : Nat → Nat) (ev : Value) (e : List (Int × Option Int)) (w : World) (hg : ErrT w) (h : IsErr w C ev e) (hl : e.length ≤ 1000) :
    Calls Tryd.prog 9 #[ev] w fun r w' => ∃ v, r = .returned v ∧ NewSl w w' v 33 1 e.length (e.map fun x => .int .i64 x.1) ∧ Below w.heap.size w w' := by
  obtain ⟨i1, z1, hi1, hz1, hzs1, his1, hby1⟩ := info_row (P := Tryd.prog) (e := 33) (size := 1) (bytes := 8) (by kernel_rfl)
  have HE := hid_ h.zero
  have HG := hid_ hg
  clear h hg
  go_enter Tryd.func9, Tryd.ntmps9
  go_wp2
  go_loopg [0, 3] e.length (fun k xv0 ov0 wr => ∃ (xv ov : Value) (d r : List (Int × Option Int)) (C' : Nat → Nat), xv = xv0 ∧ ov = ov0 ∧ e = d ++ r ∧ k = r.length ∧ IsErr wr C' xv r ∧ Fr (· = 1) (fun _ => 0) C' w wr ∧ Sl wr C' 1 ov 33 1 d.length (d.map fun x => .int .i64 x.1))
  case atStart => exact ⟨_, _, [], e, fun _ => 0, rfl, rfl, rfl, rfl, HE.out, Fr.refl _ _ _, Sl.nil _ _ _ _ _⟩
  case round =>
    obtain ⟨xv, ov, d, r, C', rfl, rfl, hdr, rfl, hr, F, S⟩ := hrel
    clear HE
    have hB : Below w.heap.size w wr := F.below (fun _ _ h => by omega)
    match r, hr, hdr with
    | [], hr, hdr =>
      simp only [IsErr] at hr
      subst hr
      rw [List.append_nil] at hdr
      subst hdr
      go_wp2
      go_ret
      refine ⟨_, rfl, ?_, hB⟩
      rcases S with h | ⟨b, hb, h⟩
      · exact .inl h
      · refine .inr ⟨b, ?_, h⟩
        rcases Nat.lt_or_ge b w.heap.size with h1 | h1
        · have := (F.block b h1 (by simp)).2
          omega
        · exact h1
    | x :: rest, hr, hdr =>
      have hlen : d.length + (rest.length + 1) ≤ 1000 := by rw [hdr, List.length_append, List.length_cons] at hl; exact hl
      obtain ⟨u, v, rfl⟩ : ∃ u v, xv = .iface u v := by
        obtain ⟨y1, y2⟩ := x
        cases y2 with
        | none => exact ⟨_, _, hr.2⟩
        | some y2 =>
          have h0 := hr
          simp only [IsErr] at h0
          obtain ⟨_, _, h1, _⟩ := h0
          exact ⟨_, _, h1⟩
      have HC := hid_ (fault_code C' _ _ wr (HG.out.below hB) hr)
      have HR := hid_ hr
      have HS := hid_ S
      have HD := hid_ hdr
      have HF := hid_ F
      clear hr S hdr F hB
      go_wp2_with fail
      refine HC.out.mono ?_
      rintro y w1 ⟨rfl, b1⟩
      have f1 := Fr.of_below (C := C') b1 (fun _ => False)
      have S1 := HS.out.fr f1 (fun h => h)
      have hcx : codeE (x :: rest) = x.1 := rfl
      rw [hcx]
      obtain ⟨v2, w2, C2, hr2, S2, F2, -, -⟩ := Sl.append (P := Tryd.prog) (t := 29) 0 Tryd.underlying29 hi1 his1 hz1 hzs1 (S1.alloc (.cells #[.int .i64 x.1] 33)) (Src.new w1 33 1 1 1 [.int .i64 x.1] rfl) (by simp [Value.oneCell']) (by unfold maxLen; omega) (by rw [hby1]; omega)
      have f2 : Fr (· = 1) C' C2 wr w2 := ((f1.mono (K' := (· = 1)) (fun _ h => h.elim)).alloc (.cells #[.int .i64 x.1] 33)).trans F2
      have HR2 := hid_ (HR.out.fr f2 (by omega))
      have HF2 := hid_ (HF.out.trans f2)
      have hB2 : Below w.heap.size w w2 := HF2.out.below (fun _ _ h => by omega)
      have HS2 := hid_ S2
      have HRUN := hid_ hr2
      clear hr2 S2 F2 f2 S1 f1 b1 hcx HR HF HS
      go_wp2_with (refine wpList_append_run HRUN.out (by rfl) (by rfl) (by rfl) (by rfl) ?_)
      refine (err_unwrap C2 _ _ _ _ HR2.out).mono ?_
      rintro y w3 ⟨cv, rfl, rfl, h3⟩
      have HR3 := hid_ h3
      have HD2 := hid_ (show e = (d ++ [x]) ++ rest by rw [HD.out]; simp)
      clear h3
      go_wp2
      go_roundg rest.length
      case measure => simp
      case rel => exact ⟨_, _, d ++ [x], rest, C2, rfl, rfl, HD2.out, rfl, HR3.out, HF2.out, by have := HS2.out; rw [List.length_append, List.map_append]; exact this⟩
/-- The innermost number. -/
def rootE : List (Int × Option Int) → Int
  | [] => 0
  | [x] => x.1
  | _ :: y :: r => rootE (y :: r)
theorem rootE_get : ∀ (e : List (Int × Option Int)), e ≠ [] → (e.map fun x => Value.int .i64 x.1)[e.length - 1]? = some (.int .i64 (rootE e))
  | [], h => absurd rfl h
  | [x], _ => rfl
  | x :: y :: r, _ => by
    have := rootE_get (y :: r) (by simp)
    simp only [List.length_cons, List.map_cons, Nat.add_sub_cancel] at this ⊢
    rw [List.getElem?_cons_succ]
    exact this
theorem NewSl.form {w w' : World} {v : Value} {e : TypeId} {sz n : Nat} {cs : List Value} (h : NewSl w w' v e sz n cs) : ∃ a cap, v = .slice a n cap ∧ n ≤ cap ∧ cap ≤ maxLen := by
  rcases h with ⟨rfl, rfl, rfl⟩ | ⟨b, _, h0, off, cap, cur, rfl, h1, h2, _⟩
  · exact ⟨_, _, rfl, Nat.le_refl _, Nat.zero_le _⟩
  · exact ⟨_, _, rfl, h1, h2⟩
theorem NewSl.rd {w w' : World} {v : Value} {e : TypeId} {sz n : Nat} {cs : List Value} (h : NewSl w w' v e sz n cs) {C : Nat → Nat} (hf : Fin C w) : Rd w' C v sz n cs := by
  rcases h with ⟨rfl, rfl, rfl⟩ | ⟨b, hb, h⟩
  · exact rd_nil _ _ _
  · exact h.rd (hf b hb)
theorem NewSl.at {w w' : World} {a : Option Addr} {cap : Nat} {e : TypeId} {sz n : Nat} {cs : List Value} (h : NewSl w w' (.slice a n cap) e sz n cs) (hn : 0 < n) :
    ∃ b off, a = some ⟨b, off, none⟩ ∧ ∀ i x, cs[i]? = some x → w'.cell? ⟨b, off + i, none⟩ = some x := by
  rcases h with ⟨_, h, _⟩ | ⟨b, hb, h⟩
  · omega
  · obtain ⟨off, h1, h2⟩ := h.at
    exact ⟨b, off, h1, fun i x hx => by have := h2 i x hx; rwa [addr_add] at this⟩

set_option maxRecDepth 100000 in
set_option maxHeartbeats 1000000 in
theorem fault_root (C : Nat → Nat) (ev : Value) (e : List (Int × Option Int)) (w : World) (hg : ErrT w) (h : IsErr w C ev e) (hl : e.length ≤ 1000) :
    Calls Tryd.prog 12 #[ev] w fun r w' => r = .returned (.int .i64 (rootE e)) ∧ Below w.heap.size w w' := by
  have HC := hid_ (fault_trail C ev e w hg h hl)
  clear h hg
  go_enter Tryd.func12, Tryd.ntmps12
  go_wp2_with fail
  refine HC.out.mono ?_
  rintro r w1 ⟨v, rfl, hv, hb⟩
  obtain ⟨a, cap, rfl, hc, hm⟩ := hv.form
  unfold maxLen at hm
  by_cases he : e = []
  · subst he
    have hz : ((([] : List (Int × Option Int)).length : Int) == 0) = true := rfl
    clear hv
    go_wp2
    go_ret
    exact ⟨rfl, hb⟩
  · have hp : 0 < e.length := List.length_pos_iff.2 he
    have hz : ((e.length : Int) == 0) = false := by
      have : (e.length : Int) ≠ 0 := by omega
      simpa using this
    obtain ⟨b, off, rfl, hcell⟩ := hv.at hp
    have c0 := hcell _ _ (rootE_get e he)
    have hi : ((e.length : Int) - 1).toNat = e.length - 1 := by omega
    obtain ⟨n, hn⟩ : ∃ n, e.length = n + 1 := ⟨e.length - 1, by omega⟩
    rw [hn] at c0 hz hi hc ⊢
    simp only [Nat.add_sub_cancel] at c0 hi
    have hi2 : ((n + 1 : Nat) : Int) - 1 = (n : Int) := by omega
    clear hv hcell hn hi
    go_wp2
    go_ret
    exact ⟨rfl, hb⟩
end Go.Proofs.YtohmnkjiohjjoaaDoor
