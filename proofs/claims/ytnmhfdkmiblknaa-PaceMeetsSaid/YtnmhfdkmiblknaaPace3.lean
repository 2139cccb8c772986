/- Package pace: Turn, Next. No condition but that the tables work and moderate times. -/
import Derived.Test.YtnmhfdkmiblknaaPace
import Derived.Deep.QuietTactic
import Derived.BigQuiet
set_option linter.unusedSimpArgs false
set_option linter.unusedVariables false
namespace Go.Proofs.Ytnmhfdkmiblknaa
open Go.RowKit Go.Maps

/-- What was heard: of the first n nodes, without oneself. -/
def heardL (me : Int) (devs : List Int) (has : List Bool) (n : Nat) : List Int := ((List.range n).filter fun i => has.getD i false && decide ((i : Int) ≠ me)).map fun i => devs.getD i 0
theorem heardL_succ (me : Int) (devs : List Int) (has : List Bool) (n : Nat) : heardL me devs has (n + 1) = heardL me devs has n ++ (if has.getD n false = true ∧ (n : Int) ≠ me then [devs.getD n 0] else []) := by
  unfold heardL
  rw [List.range_succ, List.filter_append, List.map_append]
  by_cases h : has.getD n false = true ∧ (n : Int) ≠ me
  · have h1 := h.1
    have h2 := h.2
    rw [if_pos h, List.filter_cons_of_pos (by rw [h1]; simpa using h2)]; rfl
  · rw [if_neg h, List.filter_cons_of_neg (by simp only [Bool.and_eq_true, decide_eq_true_eq]; exact h)]; rfl
theorem heardL_len (me : Int) (devs : List Int) (has : List Bool) (n : Nat) : (heardL me devs has n).length ≤ n := by
  unfold heardL
  rw [List.length_map]
  exact Nat.le_trans (List.length_filter_le _ _) (by simp)
theorem heardL_mem {me : Int} {devs : List Int} {has : List Bool} {n : Nat} {x : Int} (h : x ∈ heardL me devs has n) : ∃ i, i < n ∧ x = devs.getD i 0 := by
  unfold heardL at h
  rw [List.mem_map] at h
  obtain ⟨i, hi, rfl⟩ := h
  exact ⟨i, List.mem_range.1 (List.mem_filter.1 hi).1, rfl⟩
/-- The numbers of which Turn takes the middle. -/
def turnL (cold : Bool) (me : Int) (devs : List Int) (has : List Bool) : List Int := if cold then heardL me devs has has.length else devs
def errN : Option Int → Value
  | none => .nilIface
  | some n => .iface 63 (.int .i64 n)
def midE (l : List Int) (f : Nat) : Option Int := if CutNo l (f : Int) then some 2 else none
def midV (l : List Int) (f : Nat) : Int := if CutNo l (f : Int) then 0 else midz l f
theorem mid_any (C : Nat → Nat) (xs : List Int) (hx : ∀ x ∈ xs, Z64 x) (f : Nat) (v : Value) (w : World) (hf : Fin C w) (h : IsInts w C v xs) (hl : xs.length ≤ 1000) :
    Calls Try.prog 41 #[v, .int .i64 (f : Int)] w fun e w' => e = .returned (.tuple #[.int .i64 (midV xs f), errN (midE xs f)]) ∧ Below w.heap.size w w' := by
  by_cases hc : CutNo xs (f : Int)
  · refine (mid_no C xs f v w h hl hc).mono ?_
    rintro e w' ⟨rfl, rfl⟩
    unfold midV midE
    rw [if_pos hc, if_pos hc]
    exact ⟨rfl, Below.refl _ _⟩
  · refine (mid_yes C xs hx f v w hf h hl (by unfold CutNo at hc; omega)).mono ?_
    rintro e w' ⟨rfl, V⟩
    unfold midV midE
    rw [if_neg hc, if_neg hc]
    exact ⟨rfl, V⟩

set_option maxRecDepth 100000 in
set_option maxHeartbeats 4000000 in
theorem paceTurn (C : Nat → Nat) (k pb kb db hb : Nat) (hk : k ≠ 1) (c : Cfg) (pv qv rv : Value) (me : Int) (cold : Bool) (since rate : Int) (devs : List Int) (has : List Bool) (f : Nat) (hcf : c.faulty = (f : Int)) (hn7 : has.length ≤ 7) (hz : ∀ x ∈ devs, Z64 x) (w : World)
    (h : IsPace w C k pb kb db hb c pv qv rv me cold since rate devs has) :
    Calls Try.prog 20 #[.pointer (some ⟨pb, 0, none⟩)] w fun e w' => e = .returned (.tuple #[.int .i64 (midV (turnL cold me devs has) f), errN (midE (turnL cold me devs has) f)]) ∧ Below w.heap.size w w' := by
  obtain ⟨c0, c1, -, -, -, -, -, -, -, -, -, c11, c12, -, c14, c15⟩ := h.cfg
  have hld := h.ld
  have hlh := h.lh
  rw [hcf] at c1
  have HH := hid_ h
  cases cold with
  | false =>
    have HM := hid_ (mid_any (fun _ => 0) devs hz f _ w.drew (fun _ _ => rfl) ((h.below (Below.refl _ w).drew).ints (by omega)) (by omega))
    obtain ⟨v, hv⟩ : ∃ v, midV devs f = v := ⟨_, rfl⟩
    obtain ⟨o, ho⟩ : ∃ o, midE devs f = o := ⟨_, rfl⟩
    rw [show turnL false me devs has = devs from rfl]
    rw [hv, ho] at HM ⊢
    clear h hld hlh hcf hz hv ho
    go_enter Try.func20, Try.ntmps20
    go_wp2_with fail
    go_region_with (first
      | ((refine HM.out.mono ?_); rintro e w2 ⟨rfl, V2⟩))
    all_goals
      have HV := hid_ (below_then (Below.refl _ w).drew V2)
      go_wp2_with fail
      go_ret2
      exact ⟨rfl, HV.out⟩
  | true =>
    obtain ⟨i9, z9, hi9, hz9, hzs9, his9, hby9⟩ := info_row (P := Try.prog) (e := 3) (size := 1) (bytes := 8) (by kernel_rfl)
    rw [show turnL true me devs has = heardL me devs has has.length from rfl]
    have HLD := hid_ hld
    have HLH := hid_ hlh
    have HZ := hid_ hz
    have hn7' : (has.length : Int) ≤ 7 := by omega
    have C0 := hid_ c0
    have C1 := hid_ c1
    have C11 := hid_ c11
    have C14 := hid_ c14
    clear h hld hlh hcf hz
    go_enter Try.func20, Try.ntmps20
    go_wp2_with fail
    clear c0 c1 c11 c12 c14 c15
    go_loopw [4, 5, 6, 32] (fun ov _ _ iv wr => ∃ (i : Nat) (v : Value) (C' : Nat → Nat), i ≤ has.length ∧ iv = .int .i64 i ∧ v = ov ∧ Fr (· = 1) (fun _ => 0) C' w wr ∧ Sl wr C' 1 v 3 1 (heardL me devs has i).length ((heardL me devs has i).map (Value.int .i64))) (fun _ _ _ iv _ => has.length - (intOf iv).toNat)
    case atStart => exact ⟨0, _, fun _ => 0, Nat.zero_le _, rfl, rfl, Fr.refl _ _ _, Sl.nil _ _ _ _ _⟩
    case round =>
      obtain ⟨i, v, C', hi, rfl, rfl, F, S⟩ := hrel
      have V : Below w.heap.size w wr := F.below (fun _ _ h => by omega)
      have P := HH.out.below V
      have j0 : (0 : Int) ≤ (i : Int) := Int.natCast_nonneg _
      obtain ⟨va, vc, rfl, -⟩ := id S.form
      by_cases hlt : i < has.length
      · have j1 : (i : Int) < (has.length : Int) := by omega
        have j2 : (i : Int) < (devs.length : Int) := by have := HLD.out; have := HLH.out; omega
        have x0 := P.hasAt hlt
        have y0 := P.devAt (i := i) (by omega)
        have c11 := P.cfg.2.2.2.2.2.2.2.2.2.2.2.1
        have c14 := P.cfg.2.2.2.2.2.2.2.2.2.2.2.2.2.2.1
        have hsucc := heardL_succ me devs has i
        have hln := heardL_len me devs has i
        obtain ⟨n, hn⟩ : ∃ n, (heardL me devs has i).length = n := ⟨_, rfl⟩
        obtain ⟨hv, hhv⟩ : ∃ b, has.getD i false = b := ⟨_, rfl⟩
        obtain ⟨dv, hdv⟩ : ∃ b, devs.getD i 0 = b := ⟨_, rfl⟩
        rw [hhv] at x0 hsucc
        rw [hdv] at y0 hsucc
        rw [hn] at S hln ⊢
        by_cases hin : hv = true ∧ (i : Int) ≠ me
        · obtain ⟨rfl, hne⟩ := hin
          rw [if_pos ⟨rfl, hne⟩] at hsucc
          have nb : ((i : Int) != me) = true := by simpa using hne
          obtain ⟨v2, w3, C2, hr2, S2, F2, -, -⟩ := Sl.append (P := Try.prog) (t := 27) 0 Try.underlying27 hi9 his9 hz9 hzs9 (S.alloc (.cells #[.int .i64 dv] 3)) (Src.new wr 3 1 1 1 [.int .i64 dv] rfl) (by simp [Value.oneCell']) (by unfold maxLen; omega) (by rw [hby9]; omega)
          have f2 := (((Fr.refl (fun _ => False) C' wr).alloc (.cells #[.int .i64 dv] 3)).mono (K' := (· = 1)) (fun _ h => h.elim)).trans F2
          have HF2 := hid_ (F.trans f2)
          have HS2 := hid_ (show Sl w3 C2 1 v2 3 1 (heardL me devs has (i + 1)).length ((heardL me devs has (i + 1)).map (Value.int .i64)) by
            rw [hsucc, List.length_append, hn, List.map_append]; exact S2)
          have HRUN := hid_ hr2
          clear hr2 S2 F2 F S f2 hsucc hne P V hn hhv hdv
          go_wp2_with (refine wpList_append_run HRUN.out (by rfl) (by rfl) (by rfl) (by rfl) ?_)
          go_roundw
          case rel => exact ⟨i + 1, v2, C2, by omega, by go_num, rfl, HF2.out, HS2.out⟩
          case measure => simp [intOf]; omega
        · rw [if_neg hin, List.append_nil] at hsucc
          have HF2 := hid_ F
          have HS2 := hid_ (show Sl wr C' 1 (.slice va n vc) 3 1 (heardL me devs has (i + 1)).length ((heardL me devs has (i + 1)).map (Value.int .i64)) by rw [hsucc, hn]; exact S)
          rcases (by cases hv with | false => exact .inl rfl | true => exact .inr ⟨rfl, by simpa using hin⟩ : hv = false ∨ (hv = true ∧ (i : Int) = me)) with rfl | ⟨rfl, hs⟩
          · clear F S hsucc P V hn hhv hdv hin
            go_wp2
            go_roundw
            case rel => exact ⟨i + 1, _, C', by omega, by go_num, rfl, HF2.out, HS2.out⟩
            case measure => simp [intOf]; omega
          · have nb : ((i : Int) != me) = false := by simpa using hs
            clear F S hsucc P V hn hhv hdv hin hs
            go_wp2
            go_roundw
            case rel => exact ⟨i + 1, _, C', by omega, by go_num, rfl, HF2.out, HS2.out⟩
            case measure => simp [intOf]; omega
      · obtain rfl : i = has.length := by omega
        have hln := heardL_len me devs has has.length
        have c1 := grown_cell V C1.out
        have hzL : ∀ x ∈ heardL me devs has has.length, Z64 x := fun x hx => by
          obtain ⟨j, hj, rfl⟩ := heardL_mem hx
          have : j < devs.length := by have := HLD.out; have := HLH.out; omega
          rw [List.getD_eq_getElem?_getD, List.getElem?_eq_getElem this]
          exact HZ.out _ (List.getElem_mem this)
        have HM := hid_ (mid_any (fun _ => 0) (heardL me devs has has.length) hzL f (.slice va (heardL me devs has has.length).length vc) wr (fun _ _ => rfl) (by
          rcases S with ⟨h1, h2, h3⟩ | ⟨b, hb, hR⟩
          · unfold IsInts; rw [h1, h3, h2]; exact rd_nil _ _ _
          · exact hR.rd (C := fun _ => 0) rfl) (by omega))
        obtain ⟨L, hL⟩ : ∃ L, heardL me devs has has.length = L := ⟨_, rfl⟩
        rw [hL] at HM hln ⊢
        obtain ⟨v, hv⟩ : ∃ v, midV L f = v := ⟨_, rfl⟩
        obtain ⟨o, ho⟩ : ∃ o, midE L f = o := ⟨_, rfl⟩
        rw [hv, ho] at HM
        have HVO := hid_ (And.intro hv ho)
        have HLL := hid_ hL
        have HVV := hid_ V
        clear S F V P hL hv ho hzL
        go_wp2_with fail
        refine HM.out.mono ?_
        rintro e w2 ⟨rfl, V2⟩
        have HX := hid_ (below_then HVV.out V2)
        clear V2
        go_wp2
        go_ret2
        refine ⟨?_, HX.out⟩
        rw [HLL.out, HVO.out.1, HVO.out.2]
        rfl
end Go.Proofs.Ytnmhfdkmiblknaa
