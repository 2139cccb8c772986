/- fault.New, fault.Wrap, the document's Over, the statements' made. No condition. -/
import Derived.Test.YtohmnkjiohjjoaaDoorTrail
set_option linter.unusedSimpArgs false
set_option linter.unusedVariables false
namespace Go.Proofs.YtohmnkjiohjjoaaDoor
open Go.RowKit Go.Maps

def z0 : Nat → Nat := fun _ => 0
def clampP (a : Int) : Int := if a < -1 then -1 else a
theorem atT_clamp (c a : Int) : atT c (clampP a) = atT c a := by
  unfold atT clampP
  congr 2
  split <;> split <;> (try split) <;> (try omega) <;> rfl

set_option maxRecDepth 100000 in
theorem fault_new (c a : Int) (w : World) (h0 : (c == 0) = false) :
    Calls Tryd.prog 20 #[.int .i64 c, .int .i64 a] w fun e w' => ∃ ev, e = .returned ev ∧ (∃ u v, ev = .iface u v) ∧ IsErr w' z0 ev [(c, some (clampP a))] ∧ Below w.heap.size w w' := by
  unfold clampP
  by_cases h : a < -1
  · rw [if_pos h]
    go_enter Tryd.func20, Tryd.ntmps20
    go_wp2
    go_ret
    exact ⟨_, rfl, ⟨_, _, rfl⟩, ⟨w.heap.size, _, rfl, Bk.new _ _ _, rfl, rfl⟩, (Below.refl _ _).alloc (Nat.le_refl _) _⟩
  · rw [if_neg h]
    go_enter Tryd.func20, Tryd.ntmps20
    go_wp2
    go_ret
    exact ⟨_, rfl, ⟨_, _, rfl⟩, ⟨w.heap.size, _, rfl, Bk.new _ _ _, rfl, rfl⟩, (Below.refl _ _).alloc (Nat.le_refl _) _⟩
set_option maxRecDepth 100000 in
theorem fault_new0 (a : Int) (w : World) :
    Calls Tryd.prog 20 #[.int .i64 0, .int .i64 a] w fun e w' => e = .returned .nilIface ∧ w = w' := by
  go_enter Tryd.func20, Tryd.ntmps20
  go_wp2
  go_ret
  exact ⟨rfl, rfl⟩
set_option maxRecDepth 100000 in
theorem fault_wrap0 (a : Int) (u : TypeId) (v : Value) (w : World) :
    Calls Tryd.prog 19 #[.int .i64 0, .int .i64 a, .iface u v] w fun e w' => e = .returned (.iface u v) ∧ w = w' := by
  go_enter Tryd.func19, Tryd.ntmps19
  go_wp2
  go_ret
  exact ⟨rfl, rfl⟩
set_option maxRecDepth 100000 in
theorem fault_wrap (c a : Int) (u : TypeId) (v : Value) (e : List (Int × Option Int)) (w : World) (h0 : (c == 0) = false) (h : IsErr w z0 (.iface u v) e) :
    Calls Tryd.prog 19 #[.int .i64 c, .int .i64 a, .iface u v] w fun x w' => ∃ ev, x = .returned ev ∧ (∃ u v, ev = .iface u v) ∧ IsErr w' z0 ev ((c, some (clampP a)) :: e) ∧ Below w.heap.size w w' := by
  have HE := hid_ h
  clear h
  have HB := (Below.refl w.heap.size w).alloc (Nat.le_refl _) (.cells #[.int .i64 c, .int .i64 (clampP a), .iface u v] 39)
  unfold clampP at HB ⊢
  by_cases h : a < -1
  · rw [if_pos h] at HB ⊢
    go_enter Tryd.func19, Tryd.ntmps19
    go_wp2
    go_ret
    exact ⟨_, rfl, ⟨_, _, rfl⟩, ⟨w.heap.size, _, rfl, Bk.new _ _ _, rfl, HE.out.fr (Fr.of_below HB (fun _ => False)) (fun h => h)⟩, HB⟩
  · rw [if_neg h] at HB ⊢
    go_enter Tryd.func19, Tryd.ntmps19
    go_wp2
    go_ret
    exact ⟨_, rfl, ⟨_, _, rfl⟩, ⟨w.heap.size, _, rfl, Bk.new _ _ _, rfl, HE.out.fr (Fr.of_below HB (fun _ => False)) (fun h => h)⟩, HB⟩

theorem numN_ne (n : Nat) : numN n ≠ [] := by
  rw [numN]
  split <;> simp
theorem num_ne (n : Int) : num n ≠ [] := by
  unfold num
  split
  · simp
  · exact numN_ne _
theorem linkT_ne (x : Int × Option Int) : linkT x ≠ [] := by
  obtain ⟨c, a⟩ := x
  cases a with
  | none => exact num_ne c
  | some a => simp [linkT, atT]
theorem errT_ne {e : List (Int × Option Int)} (h : e ≠ []) : errT e ≠ [] := by
  match e, h with
  | [x], _ => exact linkT_ne x
  | x :: y :: r, _ => simp [errT, joinT, linkT_ne]
theorem errT_cons (x : Int × Option Int) {e : List (Int × Option Int)} (h : e ≠ []) : errT (x :: e) = linkT x ++ 62 :: errT e := by
  match e, h with
  | y :: r, _ => rfl

set_option maxRecDepth 100000 in
theorem refOver_any (n m : Int) (t : List UInt8) (h0 : -9223372036854775808 ≤ n) (h1 : n ≤ 9223372036854775807) (g0 : -9223372036854775808 ≤ m) (g1 : m ≤ 9223372036854775807) (ht : t ≠ []) (hl : t.length ≤ 100000) (w : World) :
    Calls Tryd.prog 23 #[.int .i64 n, .int .i64 m, .string ⟨t.toArray⟩] w fun e w' => e = .returned (.string ⟨(atT n m ++ 62 :: t).toArray⟩) ∧ Below w.heap.size w w' := by
  have l1 := num_len n h0 h1
  have l2 : (atT n m).length ≤ 41 := by
    unfold atT
    split
    · have := num_len (-1) (by omega) (by omega)
      simp only [List.length_append, List.length_cons]
      omega
    · have := num_len m (by omega) g1
      simp only [List.length_append, List.length_cons]
      omega
  have hcat : ((⟨(atT n m).toArray⟩ ++ ⟨#[62]⟩) ++ ⟨t.toArray⟩ : ByteArray) = ⟨(atT n m ++ 62 :: t).toArray⟩ := by
    rw [errT_cat _ [62], errT_cat, List.append_assoc]
    rfl
  have HC := hid_ hcat
  have he : t.isEmpty = false := by simpa using ht
  clear hcat ht
  go_enter Tryd.func23, Tryd.ntmps23
  go_wp2_with fail
  refine (refAt_any n m h0 h1 g0 g1 _).mono ?_
  rintro e w' ⟨rfl, hb⟩
  go_wp2
  go_ret
  exact ⟨by rw [← HC.out]; rfl, hb⟩

structure LinkT where
  code : Int
  at_ : Int
  bare : Bool
instance : Inhabited LinkT := ⟨⟨0, 0, false⟩⟩
def LinkT.cells (l : LinkT) : List Value := [.int .i64 l.code, .int .i64 l.at_, .bool l.bare]
structure LinkT.ok (l : LinkT) : Prop where
  a0 : -9223372036854775808 ≤ l.at_
  a1 : l.at_ ≤ 9223372036854775807

def codeM (m c : Int) : Int := wrap64 ((IntKind.u64.wrap c).tmod m)
theorem codeM_rng (m c : Int) (hm : 0 < m) (h9 : m ≤ 1000) : 0 ≤ codeM m c ∧ codeM m c < m := by
  unfold codeM
  have h0 : 0 ≤ IntKind.u64.wrap c := by simp [IntKind.wrap, IntKind.signed, IntKind.bits]; omega
  rw [Int.tmod_eq_emod_of_nonneg h0]
  have h1 := Int.emod_nonneg (IntKind.u64.wrap c) (show m ≠ 0 by omega)
  have h2 := Int.emod_lt_of_pos (IntKind.u64.wrap c) hm
  generalize IntKind.u64.wrap c % m = y at *
  unfold wrap64
  omega
def stepE (i : Nat) (e : List (Int × Option Int)) (l : LinkT) : List (Int × Option Int) :=
  if codeM 200 l.code = 0 then e else if i = 0 ∧ l.bare = true then [(codeM 200 l.code, none)] else (codeM 200 l.code, some (clampP l.at_)) :: e
def madeE (l : List LinkT) : Nat → List (Int × Option Int)
  | 0 => []
  | n + 1 => stepE n (madeE l n) (l.getD n default)
def GoodE (n : Nat) (e : List (Int × Option Int)) : Prop := e.length ≤ n ∧ ∀ x ∈ e, 1 ≤ x.1 ∧ x.1 < 200 ∧ ∀ a, x.2 = some a → -1 ≤ a ∧ a ≤ 9223372036854775807
theorem madeE_good (l : List LinkT) (hl : ∀ x ∈ l, x.ok) : ∀ n, n ≤ l.length → GoodE n (madeE l n)
  | 0, _ => ⟨by simp [madeE], by simp [madeE]⟩
  | n + 1, h => by
    obtain ⟨h1, h2⟩ := madeE_good l hl n (by omega)
    have hx : (l.getD n default).ok := by
      rw [List.getD_eq_getElem?_getD, List.getElem?_eq_getElem (by omega)]
      exact hl _ (List.getElem_mem _)
    obtain ⟨r0, r1⟩ := codeM_rng 200 (l.getD n default).code (by omega) (by omega)
    have a0 := hx.a0
    have a1 := hx.a1
    unfold madeE stepE
    generalize l.getD n default = y at *
    split
    · exact ⟨by omega, h2⟩
    · split
      · exact ⟨by simp, fun x hx => by
          simp only [List.mem_singleton] at hx
          subst hx
          exact ⟨by simp only; omega, by simp only; omega, fun a h => by cases h⟩⟩
      · exact ⟨by simp only [List.length_cons]; omega, fun x hx => by
          rcases List.mem_cons.1 hx with rfl | hx
          · exact ⟨by simp only; omega, by simp only; omega, fun a h => by
              simp only [Option.some.injEq] at h
              subst h
              unfold clampP
              split <;> omega⟩
          · exact h2 x hx⟩
theorem GoodE.ok {n : Nat} {e : List (Int × Option Int)} (h : GoodE n e) (hn : n ≤ 20) : OkErr e :=
  ⟨Nat.le_trans h.1 hn, fun x hx => by
    obtain ⟨h1, h2, h3⟩ := h.2 x hx
    exact ⟨by omega, by omega, by omega, h3⟩⟩
theorem GoodE.len {n : Nat} {e : List (Int × Option Int)} (h : GoodE n e) : (errT e).length ≤ 42 * n := by
  have := joinT_len (e.map linkT) (fun x hx => by
    obtain ⟨y, hy, rfl⟩ := List.mem_map.1 hx
    obtain ⟨a, b, c⟩ := h.2 y hy
    exact linkT_len (by omega) (by omega) c)
  rw [List.length_map] at this
  have h1 := h.1
  unfold errT
  omega
theorem isErr_iface {w : World} {C : Nat → Nat} {v : Value} {e : List (Int × Option Int)} (h : IsErr w C v e) (he : e ≠ []) : ∃ u x, v = .iface u x := by
  match e, h, he with
  | (_, none) :: _, h, _ => exact ⟨_, _, h.2⟩
  | (_, some _) :: _, h, _ =>
    simp only [IsErr] at h
    obtain ⟨_, _, h1, _⟩ := h
    exact ⟨_, _, h1⟩
end Go.Proofs.YtohmnkjiohjjoaaDoor
