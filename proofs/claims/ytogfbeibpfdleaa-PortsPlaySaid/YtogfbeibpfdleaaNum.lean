/- The references' decimal numbers and error texts: Number, E, At. No condition but the range of an int. -/
import Derived.Test.YtogfbeibpfdleaaBase
import Derived.Test.YtogfbeibpfdleaaProg
import Derived.Outline
import Derived.Laws.Concat
set_option linter.unusedSimpArgs false
set_option linter.unusedVariables false
namespace Go.Proofs.Ytogfbeibpfdleaa
open Go.RowKit Go.Maps

/-- A natural number's decimal digits. -/
def numN (n : Nat) : List UInt8 := if h : n < 10 then [UInt8.ofNat (48 + n)] else numN (n / 10) ++ [UInt8.ofNat (48 + n % 10)]
termination_by n
decreasing_by omega
def num (n : Int) : List UInt8 := if n < 0 then 45 :: numN (-n).toNat else numN n.toNat

theorem numN_len : ∀ (k n : Nat), n < 10 ^ (k + 1) → (numN n).length ≤ k + 1
  | 0, n, h => by rw [numN, dif_pos (by omega)]; simp
  | k + 1, n, h => by
    rw [numN]
    split
    · simp
    · have := numN_len k (n / 10) (by rw [Nat.pow_succ] at h; omega)
      simp only [List.length_append, List.length_cons, List.length_nil]
      omega
theorem num_len (n : Int) (h : -9223372036854775808 ≤ n) (h1 : n ≤ 9223372036854775807) : (num n).length ≤ 20 := by
  unfold num
  split
  · have := numN_len 18 (-n).toNat (by omega)
    simp only [List.length_cons]
    omega
  · have := numN_len 18 n.toNat (by omega)
    omega

theorem str_add {P : Program} (x y : List UInt8) (h : x.length + y.length ≤ 9223372036854775807) (w : World) : (Op.stringOp .add ⟨x.toArray⟩ ⟨y.toArray⟩).run P w = .ok (.string ⟨(x ++ y).toArray⟩) w := by
  have e : (⟨x.toArray⟩ ++ ⟨y.toArray⟩ : ByteArray) = ⟨(x ++ y).toArray⟩ := by
    apply ByteArray.ext
    rw [ByteArray.data_append]
    simp
  have hs : ∀ l : List UInt8, (ByteArray.mk l.toArray).size = l.length := fun l => by simp [ByteArray.size]
  rw [run_string_add_sum (P := P) w _ _ (by rw [hs, hs]; exact h), e]

theorem foldl_push (ns : List UInt8) : ∀ (s : ByteArray), (ns.map fun b => (b.toNat : Int)).foldl (fun r n => r.push (UInt8.ofNat n.toNat)) s = ⟨(s.data.toList ++ ns).toArray⟩ := by
  induction ns with
  | nil => intro s; simp
  | cons b ns ih =>
    intro s
    simp only [List.map_cons, List.foldl_cons, ih, Int.toNat_natCast, UInt8.ofNat_toNat]
    congr 1
    simp [ByteArray.push]

theorem bytes_cat' (x y : Array UInt8) : (⟨x⟩ ++ ⟨y⟩ : ByteArray) = ⟨x ++ y⟩ := by
  apply ByteArray.ext
  rw [ByteArray.data_append]
/-- A row of bytes read as a string. -/
theorem str_of {w : World} {b off cap : Nat} (l : List UInt8) (h : ∀ i (x : UInt8), l[i]? = some x → w.cell? ⟨b, off + i, none⟩ = some (.int .u8 x.toNat)) :
    (convert 40 9 (.slice (some ⟨b, off, none⟩) l.length cap)).run Try.prog w = .ok (.string ⟨l.toArray⟩) w := by
  rw [run_convert_bytes_string w _ _ _ _ _ _ Try.underlying40 Try.underlying5 Try.underlying9]
  have hc : (loadCells ⟨b, off, none⟩ l.length).run Try.prog w = .ok ((l.map fun b => (b.toNat : Int)).map (Value.int .u8)).toArray w := by
    have := run_loadCells_list (P := Try.prog) w ⟨b, off, none⟩ ((l.map fun b => (b.toNat : Int)).map (Value.int .u8)) (fun j v hv => by
      rw [addr_add]
      rw [List.getElem?_map, List.getElem?_map] at hv
      cases hl : l[j]? with
      | none => rw [hl] at hv; cases hv
      | some x => rw [hl] at hv; cases hv; exact h j x hl)
    simpa using this
  rw [run_bytesToString w _ _ _ _ hc, foldl_push]
  rfl

set_option maxRecDepth 100000 in
theorem number_pos (n : Nat) (hn : n ≤ 9223372036854775807) (w : World) :
    Calls Try.prog 43 #[.int .i64 n] w fun e w' => e = .returned (.string ⟨(numN n).toArray⟩) ∧ Below w.heap.size w w' := by
  have t0 : ((n : Int) == -9223372036854775808) = false := by simp
  have t1 : ¬ (n : Int) < 0 := by omega
  have hl : (numN n).length ≤ 20 := by have := numN_len 18 n (by omega); omega
  go_enter Try.func43, Try.ntmps43
  go_wp2
  go_loopw [0, 3] (fun nv sv wr => ∃ (m : Nat) (acc : List UInt8), m ≤ n ∧ nv = .int .i64 m ∧ sv = .string ⟨acc.toArray⟩ ∧ numN m ++ acc = numN n ∧ Below w.heap.size w wr) (fun nv _ _ => (intOf nv).toNat)
  case atStart => exact ⟨n, [], Nat.le_refl _, rfl, rfl, by simp, Below.refl _ _⟩
  case round =>
    obtain ⟨m, acc, hm, rfl, rfl, he, hb⟩ := hrel
    have hacc : acc.length ≤ 20 := by
      have := congrArg List.length he
      simp only [List.length_append] at this
      omega
    have hx : ∀ o, (convert 40 9 (.slice (some ⟨wr.heap.size, 0, none⟩) 1 1)).run Try.prog (wr.alloc (.cells #[.int .u8 ((48 + (m : Int) % 10))] o)) = .ok (.string ⟨[UInt8.ofNat (48 + m % 10)].toArray⟩) (wr.alloc (.cells #[.int .u8 ((48 + (m : Int) % 10))] o)) := fun o =>
      str_of [UInt8.ofNat (48 + m % 10)] (by
        intro i x hix
        match i, hix with
        | 0, hix =>
          simp only [List.getElem?_cons_zero, Option.some.injEq] at hix
          subst hix
          rw [World.cell?_alloc_new]
          simp only [Nat.zero_add, List.getElem?_toArray, List.getElem?_cons_zero]
          rw [UInt8.toNat_ofNat']
          congr 2
          omega
        | i + 1, hix => simp at hix)
    have hadd := str_add (P := Try.prog) [UInt8.ofNat (48 + m % 10)] acc (by simp; omega)
    have hcat : (⟨#[48 + UInt8.ofNat (m % 10)]⟩ ++ ⟨acc.toArray⟩ : ByteArray) = ⟨([UInt8.ofNat (48 + m % 10)] ++ acc).toArray⟩ := by
      rw [bytes_cat' #[48 + UInt8.ofNat (m % 10)] acc.toArray]
      simp
    by_cases h9 : m < 10
    · have hq : ((m : Int) / 10 == 0) = true := by simp; omega
      have hk : wrap64 (48 + (m : Int) % 10) = 48 + (m : Int) % 10 := by unfold wrap64; omega
      have hu : IntKind.u8.wrap (48 + (m : Int) % 10) = 48 + (m : Int) % 10 := by rw [IntKind.wrap_u8]; omega
      have hfin : [UInt8.ofNat (48 + m % 10)] ++ acc = numN n := by
        rw [← he, numN, dif_pos h9, Nat.mod_eq_of_lt h9]
      have HE := hid_ hfin
      have HC := hid_ hcat
      clear he hfin hcat
      go_wp2
      go_ret
      exact ⟨by rw [HC.out, HE.out]; rfl, hb.alloc (by have := hb.size; omega) _⟩
    · have hq : ((m : Int) / 10 == 0) = false := by simp; omega
      have hk : wrap64 (48 + (m : Int) % 10) = 48 + (m : Int) % 10 := by unfold wrap64; omega
      have hu : IntKind.u8.wrap (48 + (m : Int) % 10) = 48 + (m : Int) % 10 := by rw [IntKind.wrap_u8]; omega
      have hfin : numN (m / 10) ++ ([UInt8.ofNat (48 + m % 10)] ++ acc) = numN n := by
        rw [← he]
        conv => rhs; rw [numN, dif_neg h9, List.append_assoc]
      have HE := hid_ hfin
      have HC := hid_ hcat
      clear he hfin hcat
      go_wp2
      go_roundw
      case rel => exact ⟨m / 10, _, by omega, by go_num, by rw [HC.out], HE.out, hb.alloc (by have := hb.size; omega) _⟩
      case measure => simp [intOf]; omega

theorem num_of_nat (n : Nat) : num (n : Int) = numN n := by
  unfold num
  rw [if_neg (by omega), Int.toNat_natCast]

theorem num_min : num (-9223372036854775808) = [45, 57, 50, 50, 51, 51, 55, 50, 48, 51, 54, 56, 53, 52, 55, 55, 53, 56, 48, 56] := by
  simp [num, numN]

set_option maxRecDepth 100000 in
theorem number_any (n : Int) (h0 : -9223372036854775808 ≤ n) (h1 : n ≤ 9223372036854775807) (w : World) :
    Calls Try.prog 43 #[.int .i64 n] w fun e w' => e = .returned (.string ⟨(num n).toArray⟩) ∧ Below w.heap.size w w' := by
  by_cases hp : 0 ≤ n
  · obtain ⟨m, rfl⟩ := Int.eq_ofNat_of_zero_le hp
    rw [num_of_nat]
    exact number_pos m (by omega) w
  · by_cases hm : n = -9223372036854775808
    · subst hm
      go_enter Try.func43, Try.ntmps43
      go_wp2
      go_ret
      exact ⟨by rw [num_min]; rfl, Below.refl _ _⟩
    · have t0 : (n == -9223372036854775808) = false := by simpa using hm
      have hn : num n = 45 :: numN (-n).toNat := by unfold num; rw [if_pos (by omega)]
      have hlen : (numN (-n).toNat).length ≤ 20 := by have := numN_len 18 (-n).toNat (by omega); omega
      have hcat : (⟨#[45]⟩ ++ ⟨(numN (-n).toNat).toArray⟩ : ByteArray) = ⟨(num n).toArray⟩ := by
        rw [hn, bytes_cat' #[45] (numN (-n).toNat).toArray]
        simp
      have hneg : ((-n).toNat : Int) = -n := by omega
      have hc := fun w => number_pos (-n).toNat (by omega) w
      rw [hneg] at hc
      have HN := hid_ hn
      have HC := hid_ hcat
      have Hc := hid_ hc
      clear hneg hn hcat hc
      have hp' : n < 0 := by omega
      go_enter Try.func43, Try.ntmps43
      go_wp2_with fail
      refine (Hc.out _).mono ?_
      rintro e w' ⟨rfl, hb⟩
      go_wp2
      go_ret
      exact ⟨by rw [← HC.out]; rfl, hb⟩

set_option maxRecDepth 100000 in
theorem refE_any (n : Int) (h0 : -9223372036854775808 ≤ n) (h1 : n ≤ 9223372036854775807) (w : World) :
    Calls Try.prog 28 #[.int .i64 n] w fun e w' => e = .returned (.string ⟨(num n).toArray⟩) ∧ Below w.heap.size w w' := by
  go_enter Try.func28, Try.ntmps28
  go_wp2_with fail
  refine (number_any n h0 h1 _).mono ?_
  rintro e w' ⟨rfl, hb⟩
  go_wp2
  go_ret
  exact ⟨rfl, hb⟩

/-- A fault's text. -/
def atT (code at_ : Int) : List UInt8 := num code ++ 64 :: num (if at_ < 0 then -1 else at_)

set_option maxRecDepth 100000 in
theorem refAt_any (n m : Int) (h0 : -9223372036854775808 ≤ n) (h1 : n ≤ 9223372036854775807) (g0 : -9223372036854775808 ≤ m) (g1 : m ≤ 9223372036854775807) (w : World) :
    Calls Try.prog 19 #[.int .i64 n, .int .i64 m] w fun e w' => e = .returned (.string ⟨(atT n m).toArray⟩) ∧ Below w.heap.size w w' := by
  have l1 := num_len n h0 h1
  by_cases hm : m < 0
  · have l2 := num_len (-1) (by omega) (by omega)
    have hat : atT n m = num n ++ 64 :: num (-1) := by unfold atT; rw [if_pos hm]
    have hcat : ((⟨(num n).toArray⟩ ++ ⟨#[64]⟩) ++ ⟨(num (-1)).toArray⟩ : ByteArray) = ⟨(atT n m).toArray⟩ := by
      rw [hat, bytes_cat' (num n).toArray #[64], bytes_cat']
      simp
    have HC := hid_ hcat
    clear hat hcat
    go_enter Try.func19, Try.ntmps19
    go_wp2_with fail
    refine (number_any n h0 h1 _).mono ?_
    rintro e w1 ⟨rfl, hb1⟩
    go_wp2_with fail
    refine (number_any (-1) (by omega) (by omega) _).mono ?_
    rintro e w2 ⟨rfl, hb2⟩
    go_wp2
    go_ret
    exact ⟨by rw [← HC.out]; rfl, below_then hb1 hb2⟩
  · have l2 := num_len m g0 g1
    have hat : atT n m = num n ++ 64 :: num m := by unfold atT; rw [if_neg hm]
    have hcat : ((⟨(num n).toArray⟩ ++ ⟨#[64]⟩) ++ ⟨(num m).toArray⟩ : ByteArray) = ⟨(atT n m).toArray⟩ := by
      rw [hat, bytes_cat' (num n).toArray #[64], bytes_cat']
      simp
    have HC := hid_ hcat
    clear hat hcat
    go_enter Try.func19, Try.ntmps19
    go_wp2_with fail
    refine (number_any n h0 h1 _).mono ?_
    rintro e w1 ⟨rfl, hb1⟩
    go_wp2_with fail
    refine (number_any m g0 g1 _).mono ?_
    rintro e w2 ⟨rfl, hb2⟩
    go_wp2
    go_ret
    exact ⟨by rw [← HC.out]; rfl, below_then hb1 hb2⟩
end Go.Proofs.Ytogfbeibpfdleaa
