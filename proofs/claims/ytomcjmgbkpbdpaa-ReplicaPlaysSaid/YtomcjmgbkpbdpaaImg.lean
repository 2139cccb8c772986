/- replica.Table's Image, escapementref13.Table's Image, SameCommands: the keys with their values, rising. No condition. -/
import Derived.Test.YtomcjmgbkpbdpaaKeys8
import Derived.Test.YtomcjmgbkpbdpaaRefTab
import Derived.Laws.StructEq
import Derived.BigQuiet
import Derived.Deep.QuietTactic
set_option linter.unusedSimpArgs false
set_option linter.unusedVariables false
namespace Go.Proofs.Ytomcjmgbkpbdpaa
open Go.RowKit Go.Maps

/-- A command that sets. -/
def setC (f : Int → Option Int) (x : Int) : List Value := [.int .u8 1, .int .u8 x, .int .u16 ((f x).getD 0), .int .u16 0]
/-- Commands that lie in memory: they set what f says at the keys l. -/
def CmdsAt (w : World) (n₀ : Nat) (v : Value) (f : Int → Option Int) (l : List Int) : Prop :=
  ∃ a c, v = .slice a l.length c ∧ l.length ≤ c ∧ c ≤ maxLen ∧ (0 < l.length → ∃ b off, a = some ⟨b, off, none⟩ ∧ n₀ ≤ b ∧ ∀ i j u, i < l.length → (setC f (l.getD i 0))[j]? = some u → w.cell? ⟨b, off + i * 4 + j, none⟩ = some u)
theorem CmdsAt.grown {w w' : World} {n₀ : Nat} {v : Value} {f : Int → Option Int} {l : List Int} (h : CmdsAt w n₀ v f l) (hb : Below w.heap.size w w') : CmdsAt w' n₀ v f l := by
  obtain ⟨a, c, rfl, h1, h2, h4⟩ := h
  exact ⟨a, c, rfl, h1, h2, fun hn => by
    obtain ⟨b, off, ha, h0, hc⟩ := h4 hn
    exact ⟨b, off, ha, h0, fun i j u hi hu => grown_cell hb (hc i j u hi hu)⟩⟩
theorem CmdsAt.fr {K : Nat → Prop} {C C' : Nat → Nat} {w w' : World} {n₀ : Nat} {v : Value} {f : Int → Option Int} {l : List Int} (h : CmdsAt w n₀ v f l) (g : Fr K C C' w w') (hk : ¬ K 0) (hC : ∀ b, n₀ ≤ b → C b = 0) : CmdsAt w' n₀ v f l := by
  obtain ⟨a, c, rfl, h1, h2, h4⟩ := h
  exact ⟨a, c, rfl, h1, h2, fun hn => by
    obtain ⟨b, off, ha, h0, hc⟩ := h4 hn
    refine ⟨b, off, ha, h0, fun i j u hi hu => ?_⟩
    have := hc i j u hi hu
    rw [← this]
    exact World.cell?_of_block (g.block b (World.block_lt_of_cell? w _ this) (by rw [hC b h0]; exact hk)).1⟩
theorem cmdsAt_of_sl {w : World} {C : Nat → Nat} {n₀ k : Nat} {v : Value} {f : Int → Option Int} {l : List Int} (h : Sl w C k v 29 4 l.length (l.flatMap (setC f))) (hC : ∀ b, b < n₀ → C b ≠ k) : CmdsAt w n₀ v f l := by
  obtain ⟨a, c, rfl, h1, h2, h3⟩ := h.form
  refine ⟨a, c, rfl, h1, h2, fun hn => ?_⟩
  obtain ⟨b, off, ha, hCb, -, hc⟩ := h.at hn
  refine ⟨b, off, ha, Nat.le_of_not_lt (fun hlt => hC b hlt hCb), fun i j u hi hu => ?_⟩
  have hj : j < 4 := (List.getElem?_eq_some_iff.1 hu).1
  rw [Nat.add_assoc]
  exact hc _ _ (by
    rw [flatMap_get 4 (setC f) (fun _ => rfl) l i j (l.getD i 0) (by rw [List.getD_eq_getElem?_getD, List.getElem?_eq_getElem hi]; rfl) hj]
    exact hu)

theorem MapIs.look1 {w : World} {b : Nat} {f : Int → Option Int} (h : MapIs w b f) {x : Int} (h0 : 0 ≤ x) (h1 : x < 256) :
    (Instr.lookup 57 (.map (some b)) (.int .u8 x) false).run Try.prog w = .ok (.int .u16 ((f x).getD 0)) w := by
  obtain ⟨D, n, hown, hD⟩ := h
  obtain ⟨c, hrun, hat, _⟩ := hown.lookup_int lawK8 Try.underlying57 Try.underlying27 (zero16 w) (key8 h0 h1)
  rw [hrun]
  cases hx : f x with
  | none =>
    rw [atKey_of_not_has (hD.none_ x hx)] at hat
    simp only [DataW.lit.injEq, Lit.int.injEq] at hat
    obtain ⟨_, rfl⟩ := hat
    rfl
  | some v =>
    rw [(hD.some_ x v hx).2] at hat
    simp only [DataW.lit.injEq, Lit.int.injEq] at hat
    obtain ⟨_, rfl⟩ := hat
    rfl
theorem keysF_len (f : Int → Option Int) : (keysF f).length ≤ 8 := by
  unfold keysF
  exact Nat.le_trans (List.length_filter_le _ _) (by simp)
theorem keysF_rng (f : Int → Option Int) {i : Nat} (h : i < (keysF f).length) : 0 ≤ (keysF f).getD i 0 ∧ (keysF f).getD i 0 < 8 := by
  have hm : (keysF f).getD i 0 ∈ keysF f := by rw [List.getD_eq_getElem?_getD, List.getElem?_eq_getElem h]; exact List.getElem_mem h
  obtain ⟨x, hx⟩ : ∃ x, (keysF f).getD i 0 = x := ⟨_, rfl⟩
  rw [hx] at hm ⊢
  unfold keysF at hm
  rw [List.mem_filter, List.mem_map] at hm
  obtain ⟨⟨k, hk, rfl⟩, -⟩ := hm
  rw [List.mem_range] at hk
  omega

set_option maxRecDepth 100000 in
set_option maxHeartbeats 4000000 in
theorem repImage (C : Nat → Nat) (k tb : Nat) (f : Int → Option Int) (d : Int) (w : World) (hf : Fin C w) (h : IsTab w C k tb f d) :
    Calls Try.prog 18 #[.pointer (some ⟨tb, 0, none⟩)] w fun e w' => ∃ v, e = .returned v ∧ CmdsAt w' w.heap.size v f (keysF f) ∧ Below w.heap.size w w' := by
  obtain ⟨i9, z9, hi9, hz9, hzs9, his9, hby9⟩ := info_row (P := Try.prog) (e := 29) (size := 4) (bytes := 6) (by kernel_rfl)
  obtain ⟨mb, hb, hm, h1, h2⟩ := h
  have c0 := hb.cell_ 0 rfl
  have HB := hid_ hb
  have HM := hid_ hm
  clear hb hm
  go_enter Try.func18, Try.ntmps18
  go_wp2_with fail
  refine (mapsKeys8 _ _).mono ?_
  rintro e w1 ⟨rfl, rfl⟩
  have V1 : Below w.heap.size w (w.alloc (.cells #[.map (some mb)] 57)) := (Below.refl _ w).alloc (Nat.le_refl _) _
  have HS := hid_ (sorted8 w.heap.size mb f (w.alloc (.cells #[.map (some mb)] 57)) (by simp) ((Bk.new w 57 [.map (some mb)]).cell_ 0 rfl) (HM.out.alloc _))
  go_wp2_with fail
  refine HS.out.mono ?_
  rintro e w2 ⟨kv, rfl, hrow, V2⟩
  have V2' : Below w.heap.size w w2 := below_then V1 V2
  have hl8 := keysF_len f
  obtain ⟨ka, kc, rfl, hkl, hkm, hkc⟩ : ∃ a c, kv = .slice a (keysF f).length c ∧ (keysF f).length ≤ c ∧ c ≤ maxLen ∧ (0 < (keysF f).length → ∃ g, a = some ⟨g, 0, none⟩ ∧ ∀ j, j < (keysF f).length → w2.cell? ⟨g, j, none⟩ = some (.int .u8 ((keysF f).getD j 0))) := by
    rcases hrow.2 with ⟨rfl, hz⟩ | ⟨g, c, cur, rfl, hbase, hg, r1, r2, r3, r4⟩
    · exact ⟨none, 0, by rw [hz], by omega, by unfold maxLen; omega, fun hn => by omega⟩
    · refine ⟨some ⟨g, 0, none⟩, c, rfl, r1, r2, fun _ => ⟨g, rfl, fun j hj => ?_⟩⟩
      have e1 : (cur.toList.take ((keysF f).length * 1))[j]? = ((keysF f).map (Value.int .u8))[j]? := by rw [r4]
      rw [List.getElem?_take, if_pos (by omega), List.getElem?_map, List.getElem?_eq_getElem hj] at e1
      simp only [World.cell?, hg]
      rw [← Array.getElem?_toList, e1, List.getD_eq_getElem?_getD, List.getElem?_eq_getElem hj]
      rfl
  have hrg := fun i hi => keysF_rng f (i := i) hi
  obtain ⟨l, hl⟩ : ∃ l, keysF f = l := ⟨_, rfl⟩
  rw [hl] at hl8 hkl hkc hrg ⊢
  unfold maxLen at hkm
  have HKC := hid_ hkc
  have HLK := hid_ hl
  have HV2 := hid_ V2'
  have HRG := hid_ hrg
  clear hrow V1 V2 V2' hkc HS hl hrg
  go_wp2_with fail
  go_loopw [3, 5, 15] (fun ov _ iv wr => ∃ (i : Nat) (v : Value) (C' : Nat → Nat), i ≤ l.length ∧ iv = .int .i64 i ∧ v = ov ∧ Fr (· = 1) (fun _ => 0) C' w2 wr ∧ Sl wr C' 1 v 29 4 i ((l.take i).flatMap (setC f))) (fun _ _ iv _ => l.length - (intOf iv).toNat)
  case atStart => exact ⟨0, _, fun _ => 0, Nat.zero_le _, rfl, rfl, Fr.refl _ _ _, Sl.nil _ _ _ _ _⟩
  case round =>
    obtain ⟨i, v, C', hi, rfl, rfl, F, S⟩ := hrel
    have V : Below w2.heap.size w2 wr := F.below (fun _ _ h => by omega)
    have j0 : (0 : Int) ≤ (i : Int) := Int.natCast_nonneg _
    obtain ⟨va, vc, rfl, -⟩ := id S.form
    by_cases hlt : i < l.length
    · have j1 : (i : Int) < (l.length : Int) := by omega
      obtain ⟨g, rfl, hcell⟩ := HKC.out (by omega)
      have x0 := grown_cell V (hcell i hlt)
      obtain ⟨r0, r1⟩ := HRG.out i hlt
      have htk : (l.take (i + 1)).flatMap (setC f) = (l.take i).flatMap (setC f) ++ setC f (l.getD i 0) := by
        rw [List.take_succ_eq_append_getElem hlt, List.flatMap_append, List.getD_eq_getElem?_getD, List.getElem?_eq_getElem hlt]
        simp
      obtain ⟨x, hx⟩ : ∃ x, l.getD i 0 = x := ⟨_, rfl⟩
      rw [hx] at x0 r0 r1 htk
      have hB : Below w.heap.size w wr := below_then HV2.out V
      have cw := grown_cell hB c0
      have hlk := (HM.out.same (hB.block _ HM.out.lt)).look1 r0 (show x < 256 by omega)
      obtain ⟨y, hy⟩ : ∃ y, (f x).getD 0 = y := ⟨_, rfl⟩
      rw [hy] at hlk
      have hset : setC f x = [.int .u8 1, .int .u8 x, .int .u16 y, .int .u16 0] := by unfold setC; rw [hy]
      rw [hset] at htk
      obtain ⟨v2, w3, C2, hr2, S2, F2, -, -⟩ := Sl.append (P := Try.prog) (t := 22) 0 Try.underlying22 hi9 his9 hz9 hzs9 (S.alloc (.cells #[.int .u8 1, .int .u8 x, .int .u16 y, .int .u16 0] 29)) (Src.new wr 29 4 1 1 [.int .u8 1, .int .u8 x, .int .u16 y, .int .u16 0] rfl) (by simp [Value.oneCell']) (by unfold maxLen; omega) (by rw [hby9]; omega)
      have f2 := (((Fr.refl (fun _ => False) C' wr).alloc (.cells #[.int .u8 1, .int .u8 x, .int .u16 y, .int .u16 0] 29)).mono (K' := (· = 1)) (fun _ h => h.elim)).trans F2
      have HF2 := hid_ (F.trans f2)
      have HS2 := hid_ (show Sl w3 C2 1 v2 29 4 (i + 1) ((l.take (i + 1)).flatMap (setC f)) by rw [htk]; exact S2)
      have HRUN := hid_ hr2
      clear hr2 S2 F2 F S f2 htk hset hy hx hcell V hB
      go_wp2_with (refine wpList_append_run HRUN.out (by rfl) (by rfl) (by rfl) (by rfl) ?_)
      go_roundw
      case rel => exact ⟨i + 1, v2, C2, by omega, by go_num, rfl, HF2.out, HS2.out⟩
      case measure => simp [intOf]; omega
    · obtain rfl : i = l.length := by omega
      rw [List.take_length] at S
      have HC := hid_ (cmdsAt_of_sl (n₀ := w.heap.size) S (fun b hb => by
        have hs := HV2.out.size
        have := (F.block b (by omega) (by simp)).2
        omega))
      have HE := hid_ (below_then HV2.out V)
      clear S F V
      go_wp2
      go_ret
      exact ⟨_, rfl, by rw [HLK.out]; exact HC.out, HE.out⟩

theorem keysF_take (f : Int → Option Int) (k : Nat) (hk : k < 8) : ((List.range (k + 1)).map fun k : Nat => (k : Int)).filter (fun x => (f x).isSome) = ((List.range k).map fun k : Nat => (k : Int)).filter (fun x => (f x).isSome) ++ (if (f (k : Int)).isSome then [(k : Int)] else []) := by
  rw [List.range_succ, List.map_append, List.filter_append]
  simp [List.filter_cons]
set_option maxRecDepth 100000 in
set_option maxHeartbeats 4000000 in
theorem refTImage (C : Nat → Nat) (tb : Nat) (f : Int → Option Int) (d : Int) (w : World) (hT : Bk w tb 47 (rcells f d)) :
    Calls Try.prog 19 #[.pointer (some ⟨tb, 0, none⟩)] w fun e w' => ∃ v, e = .returned v ∧ CmdsAt w' w.heap.size v f (keysF f) ∧ Below w.heap.size w w' := by
  obtain ⟨i9, z9, hi9, hz9, hzs9, his9, hby9⟩ := info_row (P := Try.prog) (e := 29) (size := 4) (bytes := 6) (by kernel_rfl)
  have HT := hid_ hT
  clear hT
  go_enter Try.func19, Try.ntmps19
  go_wp2
  go_loopw [3, 4] (fun ov iv wr => ∃ (i : Nat) (v : Value) (C' : Nat → Nat) (L : List Int), i ≤ 8 ∧ iv = .int .i64 i ∧ v = ov ∧ L = ((List.range i).map fun k : Nat => (k : Int)).filter (fun x => (f x).isSome) ∧ L.length ≤ i ∧ Fr (· = 1) (fun _ => 0) C' w wr ∧ Sl wr C' 1 v 29 4 L.length (L.flatMap (setC f))) (fun _ iv _ => 8 - (intOf iv).toNat)
  case atStart => exact ⟨0, _, fun _ => 0, [], by omega, rfl, rfl, rfl, Nat.le_refl _, Fr.refl _ _ _, Sl.nil _ _ _ _ _⟩
  case round =>
    obtain ⟨i, v, C', L, hi, rfl, rfl, hL, hLl, F, S⟩ := hrel
    have V : Below w.heap.size w wr := F.below (fun _ _ h => by omega)
    have j0 : (0 : Int) ≤ (i : Int) := Int.natCast_nonneg _
    obtain ⟨va, vc, rfl, -⟩ := id S.form
    by_cases hlt : i < 8
    · have j1 : (i : Int) < 8 := by omega
      have hk := keysF_take f i hlt
      rw [← hL] at hk
      have T := HT.out.same (V.block _ HT.out.lt)
      have t0 := T.cell_ i (rcells_val f d hlt)
      have t8 := T.cell_ (8 + i) (rcells_has f d hlt)
      obtain ⟨y, hy⟩ : ∃ y, (f (i : Int)).getD 0 = y := ⟨_, rfl⟩
      have hset : setC f (i : Int) = [.int .u8 1, .int .u8 (i : Int), .int .u16 y, .int .u16 0] := by unfold setC; rw [hy]
      obtain ⟨b, hb⟩ : ∃ b, (f (i : Int)).isSome = b := ⟨_, rfl⟩
      rw [hy] at t0
      rw [hb] at t8 hk
      have hw8 : IntKind.u8.wrap (i : Int) = (i : Int) := by simp [IntKind.wrap, IntKind.signed, IntKind.bits]; omega
      obtain ⟨n, hn⟩ : ∃ n, L.length = n := ⟨_, rfl⟩
      cases b with
      | true =>
        rw [if_pos rfl] at hk
        rw [hn] at S hLl ⊢
        obtain ⟨v2, w3, C2, hr2, S2, F2, -, -⟩ := Sl.append (P := Try.prog) (t := 22) 0 Try.underlying22 hi9 his9 hz9 hzs9 (S.alloc (.cells #[.int .u8 1, .int .u8 (i : Int), .int .u16 y, .int .u16 0] 29)) (Src.new wr 29 4 1 1 [.int .u8 1, .int .u8 (i : Int), .int .u16 y, .int .u16 0] rfl) (by simp [Value.oneCell']) (by unfold maxLen; omega) (by rw [hby9]; omega)
        have f2 := (((Fr.refl (fun _ => False) C' wr).alloc (.cells #[.int .u8 1, .int .u8 (i : Int), .int .u16 y, .int .u16 0] 29)).mono (K' := (· = 1)) (fun _ h => h.elim)).trans F2
        have HF2 := hid_ (F.trans f2)
        have HS2 := hid_ (show Sl w3 C2 1 v2 29 4 (L ++ [(i : Int)]).length ((L ++ [(i : Int)]).flatMap (setC f)) by
          rw [List.length_append, hn, List.flatMap_append, List.flatMap_singleton, hset]; exact S2)
        have HRUN := hid_ hr2
        have HK := hid_ hk
        have HLL := hid_ (show (L ++ [(i : Int)]).length ≤ i + 1 by rw [List.length_append, hn]; simp; omega)
        clear hr2 S2 F2 F S f2 hset hy V hk hL hn hb T
        go_wp2_with (refine wpList_append_run HRUN.out (by rfl) (by rfl) (by rfl) (by rfl) ?_)
        go_roundw
        case rel => exact ⟨i + 1, v2, C2, _, by omega, by go_num, rfl, HK.out.symm, HLL.out, HF2.out, HS2.out⟩
        case measure => simp [intOf]; omega
      | false =>
        rw [if_neg (by simp), List.append_nil] at hk
        rw [hn] at S hLl ⊢
        have HK := hid_ hk
        have HF2 := hid_ F
        have HS2 := hid_ (show Sl wr C' 1 (.slice va n vc) 29 4 L.length (L.flatMap (setC f)) by rw [hn]; exact S)
        have HLL := hid_ (show L.length ≤ i + 1 by omega)
        clear F S hset hy V hk hL hn hb T
        go_wp2
        go_roundw
        case rel => exact ⟨i + 1, _, C', L, by omega, by go_num, rfl, HK.out.symm, HLL.out, HF2.out, HS2.out⟩
        case measure => simp [intOf]; omega
    · obtain rfl : i = 8 := by omega
      have hL8 : L = keysF f := hL
      have HC := hid_ (show CmdsAt wr w.heap.size (.slice va L.length vc) f (keysF f) from by
        rw [← hL8]
        exact cmdsAt_of_sl S (fun b hb => by
          have := (F.block b hb (by simp)).2
          omega))
      have HE := hid_ V
      clear S F V hL hL8
      go_wp2
      go_ret
      exact ⟨_, rfl, HC.out, HE.out⟩

theorem neqC (x y : Int) (w : World) : (binOp .neq 29 (.agg #[.int .u8 1, .int .u8 x, .int .u16 y, .int .u16 0]) (.agg #[.int .u8 1, .int .u8 x, .int .u16 y, .int .u16 0])).run Try.prog w = .ok (.bool false) w := by
  have u1 := Try.underlying5
  have u2 := Try.underlying27
  have a1 := Try.isAgg5
  have a2 := Try.isAgg27
  have z1 := Try.sizeOf5
  have z2 := Try.sizeOf27
  have hS : Try.prog.underlying 29 = some (.struct (Try.prog.fieldsOf 29)) := by kernel_rfl
  have hp : Try.prog.stoodInHeld 29 = false := by kernel_rfl
  have u3 := Try.underlying26
  have a3 := Try.isAgg26
  have z3 := Try.sizeOf26
  rw [run_neq_struct, show (10000 : Nat) = 9999 + 1 from rfl, run_equalIn_agg w 9999 29 _ _ hS hp]
  simp only [Program.fieldsOf, Try.underlying29]
  go_simp
theorem guardC (n m : Nat) (x y : Int) (w : World) : (eqGuard .neq 29 (.tmp n) (.tmp m) (.agg #[.int .u8 1, .int .u8 x, .int .u16 y, .int .u16 0]) (.agg #[.int .u8 1, .int .u8 x, .int .u16 y, .int .u16 0])).run Try.prog w = .ok () w :=
  run_eqGuard_agg _ _ _ _ _ _ _ (by kernel_rfl)

set_option maxRecDepth 100000 in
set_option maxHeartbeats 2000000 in
/-- SameCommands of two lists that say the same. -/
theorem sameCmds (av bv : Value) (f : Int → Option Int) (l : List Int) (w : World) {n₁ n₂ : Nat} (ha : CmdsAt w n₁ av f l) (hb : CmdsAt w n₂ bv f l) :
    Calls Try.prog 17 #[av, bv] w fun e w' => e = .returned (.bool true) ∧ Below w.heap.size w w' := by
  obtain ⟨aa, ac, rfl, ha1, ha2, ha3⟩ := ha
  obtain ⟨ba, bc, rfl, hb1, hb2, hb3⟩ := hb
  unfold maxLen at ha2 hb2
  have HA := hid_ ha3
  have HB := hid_ hb3
  clear ha3 hb3
  go_enter Try.func17, Try.ntmps17
  go_wp2
  go_loopw [5] (fun iv wr => ∃ i : Nat, i ≤ l.length ∧ iv = .int .i64 i ∧ Below w.heap.size w wr) (fun iv _ => l.length - (intOf iv).toNat)
  case atStart => exact ⟨0, Nat.zero_le _, rfl, Below.refl _ _⟩
  case round =>
    obtain ⟨i, hi, rfl, hW⟩ := hrel
    have j0 : (0 : Int) ≤ (i : Int) := Int.natCast_nonneg _
    have HW := hid_ hW
    by_cases hlt : i < l.length
    · have j1 : (i : Int) < (l.length : Int) := by omega
      obtain ⟨b1, o1, rfl, -, hc1⟩ := HA.out (by omega)
      obtain ⟨b2, o2, rfl, -, hc2⟩ := HB.out (by omega)
      obtain ⟨x, hx⟩ : ∃ x, l.getD i 0 = x := ⟨_, rfl⟩
      obtain ⟨y, hy⟩ : ∃ y, (f x).getD 0 = y := ⟨_, rfl⟩
      have hs : setC f (l.getD i 0) = [.int .u8 1, .int .u8 x, .int .u16 y, .int .u16 0] := by unfold setC; rw [hx, hy]
      have x0 : wr.cell? ⟨b1, o1 + i * 4, none⟩ = some (.int .u8 1) := grown_cell hW (hc1 i 0 _ hlt (by rw [hs]; rfl))
      have x1 := grown_cell hW (hc1 i 1 _ hlt (by rw [hs]; rfl))
      have x2 := grown_cell hW (hc1 i 2 _ hlt (by rw [hs]; rfl))
      have x3 := grown_cell hW (hc1 i 3 _ hlt (by rw [hs]; rfl))
      have y0 : wr.cell? ⟨b2, o2 + i * 4, none⟩ = some (.int .u8 1) := grown_cell hW (hc2 i 0 _ hlt (by rw [hs]; rfl))
      have y1 := grown_cell hW (hc2 i 1 _ hlt (by rw [hs]; rfl))
      have y2 := grown_cell hW (hc2 i 2 _ hlt (by rw [hs]; rfl))
      have y3 := grown_cell hW (hc2 i 3 _ hlt (by rw [hs]; rfl))
      have q1 := neqC x y
      have q2 := fun n m => guardC n m x y
      clear hW hc1 hc2 hs hx hy
      go_wp2_with fail
      go_region
      all_goals
        go_wp2
        go_roundw
        case rel => exact ⟨i + 1, by omega, by go_num, HW.out.drew⟩
        case measure => simp [intOf]; omega
    · clear hW
      go_wp2
      go_ret
      exact ⟨rfl, HW.out⟩
end Go.Proofs.Ytomcjmgbkpbdpaa
