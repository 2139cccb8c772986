/- Errors as data, and the statements' Read: an error's text. No condition but that the error is of Errnos and Faults, at most twenty deep. -/
import Derived.Test.YtogfbeibpfdleaaNum
import Derived.Deep.CutBlock
set_option linter.unusedSimpArgs false
set_option linter.unusedVariables false
namespace Go.Proofs.Ytogfbeibpfdleaa
open Go.RowKit Go.Maps

/-- An error that reads as a list of links, the outermost first: a code and a place; an Errno has none. The Faults' blocks have colour 0. -/
def IsErr (w : World) (C : Nat → Nat) : Value → List (Int × Option Int) → Prop
  | v, [] => v = .nilIface
  | v, (c, none) :: rest => rest = [] ∧ v = .iface 81 (.int .i64 c)
  | v, (c, some a) :: rest => ∃ b cv, v = .iface 93 (.pointer (some ⟨b, 0, none⟩)) ∧ Bk w b 95 [.int .i64 c, .int .i64 a, cv] ∧ C b = 0 ∧ IsErr w C cv rest

theorem IsErr.fr {K : Nat → Prop} {C C' : Nat → Nat} {w w' : World} (f : Fr K C C' w w') (hk : ¬ K 0) : ∀ {v : Value} {e : List (Int × Option Int)}, IsErr w C v e → IsErr w' C' v e
  | _, [], h => h
  | _, (_, none) :: _, h => h
  | _, (_, some _) :: _, ⟨b, cv, h1, h2, h3, h4⟩ => ⟨b, cv, h1, h2.fr f (by rw [h3]; exact hk), (f.block b h2.lt (by rw [h3]; exact hk)).2.trans h3, IsErr.fr f hk h4⟩

def linkT : Int × Option Int → List UInt8
  | (c, none) => num c
  | (c, some a) => atT c a
def joinT : List (List UInt8) → List UInt8
  | [] => []
  | [x] => x
  | x :: y :: r => x ++ 62 :: joinT (y :: r)
theorem joinT_snoc : ∀ (l : List (List UInt8)) (x : List UInt8), l ≠ [] → joinT (l ++ [x]) = joinT l ++ 62 :: x
  | [], _, h => absurd rfl h
  | [y], x, _ => rfl
  | y :: z :: r, x, _ => by
    have := joinT_snoc (z :: r) x (by simp)
    simp only [List.cons_append] at this
    simp only [List.cons_append, joinT, this, List.append_assoc]
def errT (e : List (Int × Option Int)) : List UInt8 := joinT (e.map linkT)

/-- Codes and places as the document lets them be. -/
def OkErr (e : List (Int × Option Int)) : Prop :=
  e.length ≤ 20 ∧ ∀ x ∈ e, -9223372036854775808 ≤ x.1 ∧ x.1 ≤ 9223372036854775807 ∧ x.1 ≠ 0 ∧ ∀ a, x.2 = some a → -1 ≤ a ∧ a ≤ 9223372036854775807

theorem linkT_len {x : Int × Option Int} (h0 : -9223372036854775808 ≤ x.1) (h1 : x.1 ≤ 9223372036854775807) (h2 : ∀ a, x.2 = some a → -1 ≤ a ∧ a ≤ 9223372036854775807) : (linkT x).length ≤ 41 := by
  obtain ⟨c, a⟩ := x
  have := num_len c h0 h1
  cases a with
  | none => simp only [linkT]; omega
  | some a =>
    obtain ⟨g0, g1⟩ := h2 a rfl
    simp only [linkT, atT]
    split
    · have := num_len (-1) (by omega) (by omega)
      simp only [List.length_append, List.length_cons]
      omega
    · have := num_len a (by omega) g1
      simp only [List.length_append, List.length_cons]
      omega
theorem joinT_len : ∀ (l : List (List UInt8)), (∀ x ∈ l, x.length ≤ 41) → (joinT l).length ≤ 42 * l.length
  | [], _ => by simp [joinT]
  | [x], h => by have := h x (by simp); simp only [joinT, List.length_cons, List.length_nil]; omega
  | x :: y :: r, h => by
    have := joinT_len (y :: r) (fun z hz => h z (by simp [List.mem_cons] at hz ⊢; exact .inr hz))
    have := h x (by simp)
    simp only [joinT, List.length_append, List.length_cons] at *
    omega

theorem errT_cat (l r : List UInt8) : (⟨l.toArray⟩ ++ ⟨r.toArray⟩ : ByteArray) = ⟨(l ++ r).toArray⟩ := by
  rw [bytes_cat']
  simp

theorem ta_ee (v : Value) (w : World) : (Instr.typeAssert (.iface 81 v) 36 81 true).run Try.prog w = .ok (.tuple #[v, .bool true]) w := by kernel_rfl
theorem ta_fe (v : Value) (w : World) : (Instr.typeAssert (.iface 93 v) 36 81 true).run Try.prog w = .ok (.tuple #[.int .i64 0, .bool false]) w := by kernel_rfl
theorem ta_ff (v : Value) (w : World) : (Instr.typeAssert (.iface 93 v) 36 93 true).run Try.prog w = .ok (.tuple #[v, .bool true]) w := by kernel_rfl

set_option maxRecDepth 100000 in
set_option maxHeartbeats 1000000 in
theorem read_any (C : Nat → Nat) (ev : Value) (e : List (Int × Option Int)) (w : World) (h : IsErr w C ev e) (ho : OkErr e) :
    Calls Try.prog 17 #[ev] w fun x w' => x = .returned (.string ⟨(errT e).toArray⟩) ∧ Below w.heap.size w w' := by
  have ta1 := ta_ee
  have ta2 := ta_fe
  have ta3 := ta_ff
  go_enter Try.func17, Try.ntmps17
  go_wp2
  go_loopw [0, 3, 4] (fun xv sv nv wr => ∃ (d r : List (Int × Option Int)), e = d ++ r ∧ IsErr wr C xv r ∧ sv = .string ⟨(errT d).toArray⟩ ∧ nv = .int .i64 d.length ∧ Below w.heap.size w wr) (fun _ _ nv _ => 21 - (intOf nv).toNat)
  case atStart => exact ⟨[], e, rfl, h, rfl, rfl, Below.refl _ _⟩
  case round =>
    obtain ⟨d, r, hdr, hr, rfl, rfl, hb⟩ := hrel
    have hlen : d.length + r.length ≤ 20 := by have := ho.1; rw [hdr, List.length_append] at this; exact this
    have hd : (errT d).length ≤ 42 * 20 := by
      have := joinT_len (d.map linkT) (fun x hx => by
        obtain ⟨y, hy, rfl⟩ := List.mem_map.1 hx
        obtain ⟨a, b, _, c⟩ := ho.2 y (by rw [hdr]; simp [hy])
        exact linkT_len a b c)
      unfold errT
      rw [List.length_map] at this
      omega
    match r, hr with
    | [], hr =>
      simp only [IsErr] at hr
      subst hr
      have e1 : errT e = errT d := by rw [hdr, List.append_nil]
      have HE := hid_ e1
      clear e1 hdr
      go_wp2
      go_ret
      exact ⟨by rw [HE.out]; rfl, hb⟩
    | (c, none) :: rest, hr =>
      obtain ⟨rfl, rfl⟩ := hr
      obtain ⟨g0, g1, _, _⟩ := ho.2 (c, none) (by rw [hdr]; simp)
      have hn := num_len c g0 g1
      by_cases h0 : d = []
      · subst h0
        have e1 : (⟨(errT []).toArray⟩ ++ ⟨(num c).toArray⟩ : ByteArray) = ⟨(errT e).toArray⟩ := by rw [errT_cat, hdr]; rfl
        have HE := hid_ e1
        clear e1 hdr
        go_wp2_with fail
        refine (refE_any c g0 g1 _).mono ?_
        rintro x w' ⟨rfl, hb2⟩
        go_wp2
        go_ret
        exact ⟨by rw [← HE.out]; rfl, below_then hb hb2⟩
      · have hpos : 0 < d.length := List.length_pos_iff.2 h0
        have e1 : ((⟨(errT d).toArray⟩ ++ ⟨#[62]⟩) ++ ⟨(num c).toArray⟩ : ByteArray) = ⟨(errT e).toArray⟩ := by
          rw [errT_cat _ [62], errT_cat, hdr]
          unfold errT
          rw [List.map_append, List.map_cons, List.map_nil, joinT_snoc _ _ (by simpa using h0), List.append_assoc]
          rfl
        have HE := hid_ e1
        clear e1 hdr
        go_wp2_with fail
        refine (refE_any c g0 g1 _).mono ?_
        rintro x w' ⟨rfl, hb2⟩
        go_wp2
        go_ret
        exact ⟨by rw [← HE.out]; rfl, below_then hb hb2⟩
    | (c, some a) :: rest, hr =>
      obtain ⟨b, cv, rfl, hB, hC, hr⟩ := hr
      obtain ⟨g0, g1, g2, g3⟩ := ho.2 (c, some a) (by rw [hdr]; simp)
      obtain ⟨a0, a1⟩ := g3 a rfl
      have hn : (atT c a).length ≤ 41 := linkT_len (x := (c, some a)) g0 g1 g3
      have c0 := hB.cell_ 0 rfl
      have c1 := hB.cell_ 1 rfl
      have c2 := hB.cell_ 2 rfl
      have q0 : (c == 0) = false := by simpa using g2
      have hlen' : d.length < 20 := by simp only [List.length_cons] at hlen; omega
      by_cases h0 : d = []
      · subst h0
        have e1 : (⟨(errT []).toArray⟩ ++ ⟨(atT c a).toArray⟩ : ByteArray) = ⟨(errT ([] ++ [(c, some a)])).toArray⟩ := by rw [errT_cat]; rfl
        have HE := hid_ e1
        have HD := hid_ hdr
        clear e1 hdr
        have hcA : ∀ n : Aft wr, n.W.cell? ⟨b, 0, none⟩ = some (.int .i64 c) := fun n => n.cell c0
        have hcB : ∀ n : Aft wr, n.W.cell? ⟨b, 1, none⟩ = some (.int .i64 a) := fun n => n.cell c1
        have hcC : ∀ n : Aft wr, n.W.cell? ⟨b, 2, none⟩ = some cv := fun n => n.cell c2
        go_upto_region 17 with fail
        refine wp_region_aft (by kernel_rfl) (by kernel_rfl) ?_
        repeat (go_big_quiet_step (exact Aft.calls _ (refAt_any c a g0 g1 (by omega) a1 _)))
        refine wpQuiet_nil ?_
        rintro _ ⟨n, rfl⟩
        go_wp2
        go_roundw
        case rel => exact ⟨[] ++ [(c, some a)], rest, by rw [HD.out]; simp, IsErr.fr (Fr.of_below n.h (fun _ => False)) (fun h => h) hr, by rw [HE.out], by simp, below_then hb n.h⟩
        case measure => simp [intOf]
      · have hpos : 0 < d.length := List.length_pos_iff.2 h0
        have e1 : ((⟨(errT d).toArray⟩ ++ ⟨#[62]⟩) ++ ⟨(atT c a).toArray⟩ : ByteArray) = ⟨(errT (d ++ [(c, some a)])).toArray⟩ := by
          rw [errT_cat _ [62], errT_cat]
          unfold errT
          rw [List.map_append, List.map_cons, List.map_nil, joinT_snoc _ _ (by simpa using h0), List.append_assoc]
          rfl
        have HE := hid_ e1
        have HD := hid_ hdr
        clear e1 hdr
        have hcA : ∀ n : Aft wr, n.W.cell? ⟨b, 0, none⟩ = some (.int .i64 c) := fun n => n.cell c0
        have hcB : ∀ n : Aft wr, n.W.cell? ⟨b, 1, none⟩ = some (.int .i64 a) := fun n => n.cell c1
        have hcC : ∀ n : Aft wr, n.W.cell? ⟨b, 2, none⟩ = some cv := fun n => n.cell c2
        go_upto_region 17 with fail
        refine wp_region_aft (by kernel_rfl) (by kernel_rfl) ?_
        repeat (go_big_quiet_step (exact Aft.calls _ (refAt_any c a g0 g1 (by omega) a1 _)))
        refine wpQuiet_nil ?_
        rintro _ ⟨n, rfl⟩
        go_wp2
        go_roundw
        case rel => exact ⟨d ++ [(c, some a)], rest, by rw [HD.out]; simp, IsErr.fr (Fr.of_below n.h (fun _ => False)) (fun h => h) hr, by rw [HE.out], by simp, below_then hb n.h⟩
        case measure => simp [intOf]; omega

theorem errv_isErr (w : World) (C : Nat → Nat) (o : Option Int) : IsErr w C (match o with | none => .nilIface | some n => .iface 81 (.int .i64 n)) (match o with | none => [] | some n => [(n, none)]) := by
  cases o with
  | none => rfl
  | some n => exact ⟨rfl, rfl⟩
end Go.Proofs.Ytogfbeibpfdleaa
