/- The document's Trail and Has: the numbers of an error's text. No condition but that the text's numbers are moderate. -/
import Derived.Test.YtohmnkjiohjjoaaDoorMade
set_option linter.unusedSimpArgs false
set_option linter.unusedVariables false
namespace Go.Proofs.YtohmnkjiohjjoaaDoor
open Go.RowKit Go.Maps

/-- The numbers ahead of the places; none: a number is too large. -/
def scanO : List UInt8 → Int → Bool → Bool → Option (List Int)
  | [], n, dg, _ => some (if dg then [n] else [])
  | c :: r, n, dg, pl =>
    if c = 62 then (scanO r 0 false false).map fun l => (if dg then [n] else []) ++ l
    else if c = 64 then scanO r n dg true
    else if pl = false ∧ 48 ≤ c.toNat ∧ c.toNat ≤ 57 then (if n ≤ 100000 then scanO r (10 * n + (c.toNat - 48 : Nat)) true false else none)
    else scanO r n dg pl

theorem scanO_digit (d : Nat) (hd : d < 10) (r : List UInt8) (n : Int) (dg : Bool) (hn : n ≤ 100000) : scanO (UInt8.ofNat (48 + d) :: r) n dg false = scanO r (10 * n + d) true false := by
  have ht : (UInt8.ofNat (48 + d)).toNat = 48 + d := by rw [UInt8.toNat_ofNat', Nat.mod_eq_of_lt (by omega)]
  have h1 : ¬ UInt8.ofNat (48 + d) = 62 := fun h => by
    have := congrArg UInt8.toNat h
    rw [ht] at this
    have h62 : (62 : UInt8).toNat = 62 := rfl
    omega
  have h2 : ¬ UInt8.ofNat (48 + d) = 64 := fun h => by
    have := congrArg UInt8.toNat h
    rw [ht] at this
    have h64 : (64 : UInt8).toNat = 64 := rfl
    omega
  rw [scanO, if_neg h1, if_neg h2, if_pos ⟨rfl, by omega, by omega⟩, if_pos hn, ht]
  congr 2
  omega
theorem scanO_num : ∀ (k n : Nat), n < 10 ^ (k + 1) → n ≤ 100000 → ∀ (r : List UInt8) (dg : Bool), scanO (numN n ++ r) 0 dg false = scanO r n true false
  | 0, n, h, _, r, dg => by
    rw [numN, dif_pos (by omega)]
    have := scanO_digit n (by omega) r 0 dg (by omega)
    simpa using this
  | k + 1, n, h, h9, r, dg => by
    rw [numN]
    split
    · rename_i hlt
      have := scanO_digit n hlt r 0 dg (by omega)
      simpa using this
    · rw [List.append_assoc, scanO_num k (n / 10) (by rw [Nat.pow_succ] at h; omega) (by omega)]
      show scanO (UInt8.ofNat (48 + n % 10) :: r) _ _ _ = _
      rw [scanO_digit (n % 10) (by omega) r _ _ (by omega)]
      congr 1
      omega
theorem scanO_skip : ∀ (l : List UInt8), (∀ x ∈ l, x ≠ 62) → ∀ (r : List UInt8) (n : Int) (dg : Bool), scanO (l ++ r) n dg true = scanO r n dg true
  | [], _, r, n, dg => rfl
  | c :: l, h, r, n, dg => by
    rw [List.cons_append, scanO, if_neg (h c (by simp))]
    split
    · exact scanO_skip l (fun x hx => h x (by simp [hx])) r n dg
    · rw [if_neg (by simp)]
      exact scanO_skip l (fun x hx => h x (by simp [hx])) r n dg
theorem numN_chars : ∀ (k n : Nat), n < 10 ^ (k + 1) → ∀ x ∈ numN n, x ≠ 62
  | 0, n, h, x, hx => by
    rw [numN, dif_pos (by omega)] at hx
    simp only [List.mem_singleton] at hx
    subst hx
    intro h1
    have := congrArg UInt8.toNat h1
    rw [UInt8.toNat_ofNat', Nat.mod_eq_of_lt (by omega)] at this
    have h62 : (62 : UInt8).toNat = 62 := rfl
    omega
  | k + 1, n, h, x, hx => by
    rw [numN] at hx
    split at hx
    · simp only [List.mem_singleton] at hx
      subst hx
      intro h1
      have := congrArg UInt8.toNat h1
      rw [UInt8.toNat_ofNat', Nat.mod_eq_of_lt (by omega)] at this
      have h62 : (62 : UInt8).toNat = 62 := rfl
      omega
    · rcases List.mem_append.1 hx with hx | hx
      · exact numN_chars k (n / 10) (by rw [Nat.pow_succ] at h; omega) x hx
      · simp only [List.mem_singleton] at hx
        subst hx
        intro h1
        have := congrArg UInt8.toNat h1
        rw [UInt8.toNat_ofNat', Nat.mod_eq_of_lt (by omega)] at this
        have h62 : (62 : UInt8).toNat = 62 := rfl
        omega
theorem num_chars (n : Int) (h0 : -9223372036854775808 ≤ n) (h1 : n ≤ 9223372036854775807) : ∀ x ∈ num n, x ≠ 62 := by
  intro x hx
  unfold num at hx
  split at hx
  · rcases List.mem_cons.1 hx with rfl | hx
    · decide
    · exact numN_chars 18 _ (by omega) x hx
  · exact numN_chars 18 _ (by omega) x hx
theorem scanO_link (x : Int × Option Int) (h0 : 1 ≤ x.1) (h1 : x.1 < 200) (h2 : ∀ a, x.2 = some a → -1 ≤ a ∧ a ≤ 9223372036854775807) (r : List UInt8) (dg : Bool) :
    ∃ pl, scanO (linkT x ++ r) 0 dg false = scanO r x.1 true pl := by
  obtain ⟨c, a⟩ := x
  simp only at h0 h1 h2
  obtain ⟨m, rfl⟩ := Int.eq_ofNat_of_zero_le (show 0 ≤ c by omega)
  have hn : num (m : Int) = numN m := num_of_nat m
  cases a with
  | none =>
    refine ⟨false, ?_⟩
    simp only [linkT, hn]
    exact scanO_num 5 m (by omega) (by omega) r dg
  | some a =>
    obtain ⟨a0, a1⟩ := h2 a rfl
    refine ⟨true, ?_⟩
    simp only [linkT, atT, hn, List.append_assoc]
    rw [scanO_num 5 m (by omega) (by omega)]
    rw [List.cons_append, scanO, if_neg (by decide), if_pos rfl]
    refine scanO_skip _ ?_ r _ _
    split
    · exact num_chars (-1) (by omega) (by omega)
    · exact num_chars a (by omega) a1
theorem scanO_errT : ∀ {n : Nat} {e : List (Int × Option Int)}, GoodE n e → ∀ dg, (dg = false ∨ e ≠ []) → scanO (errT e) 0 dg false = some (e.map (·.1))
  | _, [], _, dg, h => by
    rcases h with rfl | h
    · rfl
    · exact absurd rfl h
  | n, [x], h, dg, _ => by
    obtain ⟨h1, h2, h3⟩ := h.2 x (by simp)
    obtain ⟨pl, hp⟩ := scanO_link x h1 h2 h3 [] dg
    rw [List.append_nil] at hp
    show scanO (linkT x) 0 dg false = _
    rw [hp]
    rfl
  | n, x :: y :: r, h, dg, _ => by
    obtain ⟨h1, h2, h3⟩ := h.2 x (by simp)
    have hl := h.1
    simp only [List.length_cons] at hl
    have ih := scanO_errT (n := n - 1) (e := y :: r) ⟨by simp only [List.length_cons]; omega, fun z hz => h.2 z (by simp [List.mem_cons] at hz ⊢; exact .inr hz)⟩ false (.inl rfl)
    rw [errT_cons x (by simp)]
    obtain ⟨pl, hp⟩ := scanO_link x h1 h2 h3 (62 :: errT (y :: r)) dg
    rw [hp, scanO, if_pos rfl, ih]
    rfl

set_option maxRecDepth 100000 in
set_option maxHeartbeats 8000000 in
theorem refTrail_any (s : ByteArray) (ns : List Int) (w : World) (hs : scanO s.data.toList 0 false false = some ns) (hl : s.size ≤ 100000) :
    Calls Tryd.prog 10 #[.string s] w fun r w' => ∃ v, r = .returned v ∧ NewSl w w' v 3 1 ns.length (ns.map (Value.int .i64)) ∧ Below w.heap.size w w' := by
  obtain ⟨i1, z1, hi1, hz1, hzs1, his1, hby1⟩ := info_row (P := Tryd.prog) (e := 3) (size := 1) (bytes := 8) (by kernel_rfl)
  have HS0 := hid_ hs
  clear hs
  go_enter Tryd.func10, Tryd.ntmps10
  go_wp2
  go_loopw [3, 4, 5, 6, 7] (fun ov0 nv dv pv iv wr => ∃ (ov : Value) (n : Int) (dg pl : Bool) (i : Nat) (d r : List Int) (C' : Nat → Nat), ov = ov0 ∧ nv = .int .i64 n ∧ dv = .bool dg ∧ pv = .bool pl ∧ iv = .int .i64 i ∧ i ≤ s.size + 1 ∧ ((i ≤ s.size ∧ scanO (s.data.toList.drop i) n dg pl = some r) ∨ (i = s.size + 1 ∧ r = [])) ∧ d ++ r = ns ∧ d.length ≤ i ∧ 0 ≤ n ∧ n ≤ 1000009 ∧ Fr (· = 1) (fun _ => 0) C' w wr ∧ Sl wr C' 1 ov 3 1 d.length (d.map (Value.int .i64))) (fun _ _ _ _ iv _ => s.size + 1 - (intOf iv).toNat)
  case atStart => exact ⟨_, 0, false, false, 0, [], ns, fun _ => 0, rfl, rfl, rfl, rfl, rfl, by omega, .inl ⟨by omega, HS0.out⟩, rfl, by simp, by omega, by omega, Fr.refl _ _ _, Sl.nil _ _ _ _ _⟩
  case round =>
    obtain ⟨ov, n, dg, pl, i, d, r, C', rfl, rfl, rfl, rfl, rfl, hi, hsc, hdr, hdl, n0, n1, F, S⟩ := hrel
    by_cases hlt : i < s.size
    · obtain ⟨c, hc⟩ : ∃ c, s[i] = c := ⟨_, rfl⟩
      have hdrop : s.data.toList.drop i = c :: s.data.toList.drop (i + 1) := by
        rw [List.drop_eq_getElem_cons (by simpa using hlt), ← hc]
        rfl
      have hs1 : scanO (c :: s.data.toList.drop (i + 1)) n dg pl = some r := by
        rcases hsc with ⟨_, h⟩ | ⟨h, _⟩
        · rw [← hdrop]; exact h
        · omega
      have HC := hid_ hc
      clear hsc hdrop HS0
      rw [scanO] at hs1
      by_cases h62 : c = 62
      · rw [if_pos h62] at hs1
        obtain ⟨r', hr', hrr⟩ := Option.map_eq_some_iff.1 hs1
        have hcb : ((s[i].toNat : Int) == 62) = true := by rw [hc, h62]; rfl
        clear hs1 hc h62
        cases dg with
        | true =>
          have HR := hid_ (show ∃ r2 : List Int, ((i + 1 ≤ s.size ∧ scanO (s.data.toList.drop (i + 1)) 0 false false = some r2) ∨ (i + 1 = s.size + 1 ∧ r2 = [])) ∧ (d ++ [n]) ++ r2 = ns from ⟨r', .inl ⟨by omega, hr'⟩, by rw [← hdr, ← hrr]; simp⟩)
          clear hr' hrr hdr
          obtain ⟨v2, w2, C2, hr2, S2, F2, -, -⟩ := Sl.append (P := Tryd.prog) (t := 31) 0 Tryd.underlying31 hi1 his1 hz1 hzs1 (S.alloc (.cells #[.int .i64 n] 3)) (Src.new wr 3 1 1 1 [.int .i64 n] rfl) (by simp [Value.oneCell']) (by unfold maxLen; omega) (by rw [hby1]; omega)
          have HF2 := hid_ (F.trans (((Fr.refl (· = 1) C' wr).alloc (.cells #[.int .i64 n] 3)).trans F2))
          have HS2 := hid_ S2
          have HRUN := hid_ hr2
          clear hr2 S2 F2 S F
          go_wp2_with (refine wpList_append_run HRUN.out (by rfl) (by rfl) (by rfl) (by rfl) ?_)
          go_roundw
          case rel => exact ⟨_, 0, false, false, i + 1, d ++ [n], HR.out.choose, C2, rfl, rfl, rfl, rfl, by go_num, by omega, HR.out.choose_spec.1, HR.out.choose_spec.2, by rw [List.length_append, List.length_singleton]; omega, by omega, by omega, HF2.out, by have := HS2.out; rw [List.length_append, List.map_append]; exact this⟩
          case measure => simp [intOf]; omega
        | false =>
          have HR := hid_ (show scanO (s.data.toList.drop (i + 1)) 0 false false = some r' ∧ d ++ r' = ns from ⟨hr', by rw [← hdr, ← hrr]; simp⟩)
          have HS := hid_ S
          have HF := hid_ F
          clear hr' hrr hdr S F
          go_wp2
          go_roundw
          case rel => exact ⟨_, 0, false, false, i + 1, d, r', C', rfl, rfl, rfl, rfl, by go_num, by omega, .inl ⟨by omega, HR.out.1⟩, HR.out.2, by omega, by omega, by omega, HF.out, HS.out⟩
          case measure => simp [intOf]; omega
      · rw [if_neg h62] at hs1
        have hcb : ((s[i].toNat : Int) == 62) = false := by
          rw [hc]
          have : ¬ (c.toNat : Int) = 62 := fun h => h62 (by
            apply UInt8.toNat_inj.1
            have h62 : (62 : UInt8).toNat = 62 := rfl
            omega)
          simpa using this
        by_cases h64 : c = 64
        · rw [if_pos h64] at hs1
          have hcb2 : ((s[i].toNat : Int) == 64) = true := by rw [hc, h64]; rfl
          have HR := hid_ hs1
          have HD := hid_ hdr
          have HS := hid_ S
          have HF := hid_ F
          clear hs1 hdr S F hc h64 h62
          go_wp2
          go_roundw
          case rel => exact ⟨_, n, dg, true, i + 1, d, r, C', rfl, rfl, rfl, rfl, by go_num, by omega, .inl ⟨by omega, HR.out⟩, HD.out, by omega, by omega, by omega, HF.out, HS.out⟩
          case measure => simp [intOf]; omega
        · rw [if_neg h64] at hs1
          have hcb2 : ((s[i].toNat : Int) == 64) = false := by
            rw [hc]
            have : ¬ (c.toNat : Int) = 64 := fun h => h64 (by
              apply UInt8.toNat_inj.1
              have h64 : (64 : UInt8).toNat = 64 := rfl
              omega)
            simpa using this
          by_cases hdig : pl = false ∧ 48 ≤ c.toNat ∧ c.toNat ≤ 57
          · obtain ⟨rfl, g0, g1⟩ := hdig
            rw [if_pos ⟨rfl, g0, g1⟩] at hs1
            by_cases hn9 : n ≤ 100000
            · rw [if_pos hn9] at hs1
              have q0 : (48 : Int) ≤ (s[i].toNat : Int) := by rw [hc]; omega
              have q1 : (s[i].toNat : Int) ≤ 57 := by rw [hc]; omega
              have HV := hid_ (show 10 * n + ((s[i].toNat : Int) - 48) = 10 * n + ((c.toNat - 48 : Nat) : Int) from by rw [hc]; omega)
              have HR := hid_ hs1
              have HD := hid_ hdr
              have HS := hid_ S
              have HF := hid_ F
              clear hs1 hdr S F hc h64 h62
              go_wp2
              go_roundw
              case rel => exact ⟨_, 10 * n + ((c.toNat - 48 : Nat) : Int), true, false, i + 1, d, r, C', rfl, by rw [← HV.out], rfl, rfl, by go_num, by omega, .inl ⟨by omega, HR.out⟩, HD.out, by omega, by omega, by omega, HF.out, HS.out⟩
              case measure => simp [intOf]; omega
            · rw [if_neg hn9] at hs1
              cases hs1
          · rw [if_neg hdig] at hs1
            have HR := hid_ hs1
            have HD := hid_ hdr
            have HS := hid_ S
            have HF := hid_ F
            clear hs1 hdr S F h64 h62
            cases pl with
            | true =>
              clear hdig hc
              go_wp2
              go_roundw
              case rel => exact ⟨_, n, dg, true, i + 1, d, r, C', rfl, rfl, rfl, rfl, by go_num, by omega, .inl ⟨by omega, HR.out⟩, HD.out, by omega, by omega, by omega, HF.out, HS.out⟩
              case measure => simp [intOf]; omega
            | false =>
              have hor : (s[i].toNat : Int) < 48 ∨ (48 ≤ (s[i].toNat : Int) ∧ 57 < (s[i].toNat : Int)) := by rw [hc]; simp only [true_and] at hdig; omega
              clear hdig hc
              rcases hor with hq | hq
              all_goals
                go_wp2
                go_roundw
                case rel => exact ⟨_, n, dg, false, i + 1, d, r, C', rfl, rfl, rfl, rfl, by go_num, by omega, .inl ⟨by omega, HR.out⟩, HD.out, by omega, by omega, by omega, HF.out, HS.out⟩
                case measure => simp [intOf]; omega
    · by_cases heq : i = s.size
      · have hs1 : r = if dg then [n] else [] := by
          rcases hsc with ⟨_, h⟩ | ⟨h, _⟩
          · rw [List.drop_eq_nil_of_le (by rw [heq, Array.length_toList]; exact Nat.le_refl _), scanO] at h
            exact (Option.some.inj h).symm
          · omega
        clear hsc HS0
        have q0 : (i : Int) ≤ (s.size : Int) := by omega
        have q1 : ¬ (i : Int) < (s.size : Int) := by omega
        have HI := hid_ heq
        clear heq
        cases dg with
        | true =>
          have HR := hid_ (show (d ++ [n]) ++ [] = ns from by rw [← hdr, hs1]; simp)
          clear hs1 hdr
          obtain ⟨v2, w2, C2, hr2, S2, F2, -, -⟩ := Sl.append (P := Tryd.prog) (t := 31) 0 Tryd.underlying31 hi1 his1 hz1 hzs1 (S.alloc (.cells #[.int .i64 n] 3)) (Src.new wr 3 1 1 1 [.int .i64 n] rfl) (by simp [Value.oneCell']) (by unfold maxLen; omega) (by rw [hby1]; omega)
          have HF2 := hid_ (F.trans (((Fr.refl (· = 1) C' wr).alloc (.cells #[.int .i64 n] 3)).trans F2))
          have HS2 := hid_ S2
          have HRUN := hid_ hr2
          clear hr2 S2 F2 S F
          go_wp2_with (refine wpList_append_run HRUN.out (by rfl) (by rfl) (by rfl) (by rfl) ?_)
          go_roundw
          case rel => exact ⟨_, 0, false, false, i + 1, d ++ [n], [], C2, rfl, rfl, rfl, rfl, by go_num, by omega, .inr ⟨by rw [HI.out], rfl⟩, HR.out, by rw [List.length_append, List.length_singleton]; omega, by omega, by omega, HF2.out, by have := HS2.out; rw [List.length_append, List.map_append]; exact this⟩
          case measure => simp [intOf]; omega
        | false =>
          have HR := hid_ (show d ++ [] = ns from by rw [← hdr, hs1]; simp)
          have HS := hid_ S
          have HF := hid_ F
          clear hs1 hdr S F
          go_wp2
          go_roundw
          case rel => exact ⟨_, 0, false, false, i + 1, d, [], C', rfl, rfl, rfl, rfl, by go_num, by omega, .inr ⟨by rw [HI.out], rfl⟩, HR.out, by omega, by omega, by omega, HF.out, HS.out⟩
          case measure => simp [intOf]; omega
      · have hs1 : r = [] := by
          rcases hsc with ⟨h, _⟩ | ⟨_, h⟩
          · omega
          · exact h
        have q0 : ¬ (i : Int) ≤ (s.size : Int) := by omega
        have hB : Below w.heap.size w wr := F.below (fun _ _ h => by omega)
        have hdn : d = ns := by rw [← hdr, hs1, List.append_nil]
        have HN := hid_ (show NewSl w wr ov 3 1 ns.length (ns.map (Value.int .i64)) from by
          rw [← hdn]
          rcases S with h | ⟨b, hb, h⟩
          · exact .inl h
          · refine .inr ⟨b, ?_, h⟩
            rcases Nat.lt_or_ge b w.heap.size with h1 | h1
            · have := (F.block b h1 (by simp)).2
              omega
            · exact h1)
        clear hsc hs1 hdr hdn S F HS0 heq
        go_wp2
        go_ret
        exact ⟨_, rfl, HN.out, hB⟩
end Go.Proofs.YtohmnkjiohjjoaaDoor
