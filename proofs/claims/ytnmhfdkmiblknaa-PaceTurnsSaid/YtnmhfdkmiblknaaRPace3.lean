/- escapementref11.Pace: Turn, Next, Paced. No condition but that the tables work and moderate times. -/
import Derived.Test.YtnmhfdkmiblknaaRPace
import Derived.Test.YtnmhfdkmiblknaaRefE
import Derived.Test.YtnmhfdkmiblknaaPace4
import Derived.Test.YtnmhfdkmiblknaaPaceN
import Derived.Test.YtnmhfdkmiblknaaGuardC
set_option linter.unusedSimpArgs false
set_option linter.unusedVariables false
namespace Go.Proofs.Ytnmhfdkmiblknaa
open Go.RowKit Go.Maps

/-- The list that the document's Turn builds, of the first n nodes. -/
def refL (cold : Bool) (me : Int) (devs : List Int) (has : List Bool) (n : Nat) : List Int := if cold then heardL me devs has n else devs.take n
theorem refL_succ (cold : Bool) (me : Int) (devs : List Int) (has : List Bool) (n : Nat) (hn : n < devs.length) : refL cold me devs has (n + 1) = refL cold me devs has n ++ (if cold = false ∨ (has.getD n false = true ∧ (n : Int) ≠ me) then [devs.getD n 0] else []) := by
  unfold refL
  cases cold with
  | true =>
    simp only [if_true]
    rw [heardL_succ]
    by_cases h : has.getD n false = true ∧ (n : Int) ≠ me
    · rw [if_pos h, if_pos (.inr h)]
    · rw [if_neg h, if_neg (by rintro (h1 | h1); exact Bool.noConfusion h1; exact h h1)]
  | false =>
    simp only [Bool.false_eq_true, if_false]
    rw [if_pos (by simp), List.take_succ_eq_append_getElem hn, List.getD_eq_getElem?_getD, List.getElem?_eq_getElem hn]
    rfl
theorem refL_len (cold : Bool) (me : Int) (devs : List Int) (has : List Bool) (n : Nat) : (refL cold me devs has n).length ≤ n := by
  unfold refL
  split
  · exact heardL_len me devs has n
  · rw [List.length_take]; omega
theorem refL_all (cold : Bool) (me : Int) (devs : List Int) (has : List Bool) (h : devs.length = has.length) : refL cold me devs has has.length = turnL cold me devs has := by
  unfold refL turnL
  split
  · rfl
  · rw [← h, List.take_length]
theorem refL_Z (cold : Bool) (me : Int) (devs : List Int) (has : List Bool) (h : devs.length = has.length) (hz : ∀ x ∈ devs, Z64 x) : ∀ x ∈ turnL cold me devs has, Z64 x := by
  intro x hx
  unfold turnL at hx
  split at hx
  · obtain ⟨j, hj, rfl⟩ := heardL_mem hx
    rw [List.getD_eq_getElem?_getD, List.getElem?_eq_getElem (by omega)]
    exact hz _ (List.getElem_mem _)
  · exact hz x hx
def numN2 : Option Int → ByteArray
  | none => ⟨#[]⟩
  | some n => ⟨(num n).toArray⟩
theorem refMid_any (xs : List Int) (hx : ∀ x ∈ xs, Z64 x) (f : Nat) (v : Value) (w : World) (h : IsInts w (fun _ => 0) v xs) (hl : xs.length ≤ 400) :
    Calls Try.prog 43 #[v, .int .i64 (f : Int)] w fun e w' => e = .returned (.tuple #[.int .i64 (midV xs f), .string (numN2 (midE xs f))]) ∧ Below w.heap.size w w' := by
  by_cases hc : CutNo xs (f : Int)
  · refine (refMid_no xs f v w h hl hc).mono ?_
    rintro e w' ⟨rfl, V⟩
    unfold midV midE
    rw [if_pos hc, if_pos hc]
    exact ⟨by show _ = Ending.returned (.tuple #[.int .i64 0, .string ⟨(num 2).toArray⟩]); rw [num_two], V⟩
  · refine (refMid_yes xs hx f v w h hl (by unfold CutNo at hc; omega)).mono ?_
    rintro e w' ⟨rfl, V⟩
    unfold midV midE
    rw [if_neg hc, if_neg hc]
    exact ⟨rfl, V⟩

set_option maxRecDepth 100000 in
set_option maxHeartbeats 4000000 in
theorem rpTurn (C : Nat → Nat) (k pb db hb : Nat) (c : Cfg) (pv qv rv : Value) (me : Int) (cold : Bool) (since rate : Int) (devs : List Int) (has : List Bool) (f : Nat) (hcf : c.faulty = (f : Int)) (hn7 : has.length ≤ 7) (hz : ∀ x ∈ devs, Z64 x) (w : World)
    (h : IsRP w C k pb db hb c pv qv rv me cold since rate devs has) :
    Calls Try.prog 26 #[.pointer (some ⟨pb, 0, none⟩)] w fun e w' => e = .returned (.tuple #[.int .i64 (midV (turnL cold me devs has) f), .string (numN2 (midE (turnL cold me devs has) f))]) ∧ Below w.heap.size w w' := by
  obtain ⟨i9, z9, hi9, hz9, hzs9, his9, hby9⟩ := info_row (P := Try.prog) (e := 3) (size := 1) (bytes := 8) (by kernel_rfl)
  have hld := h.ld
  have hlh := h.lh
  have hlen : devs.length = has.length := by omega
  have hna : c.nodes = (has.length : Int) := hlh.symm
  have HH := hid_ h
  have HLN := hid_ hlen
  have HNA := hid_ hna
  have HCF := hid_ hcf
  have HZ := hid_ hz
  have hn7' : (has.length : Int) ≤ 7 := by omega
  clear h hld hlh hcf hz hlen hna
  go_enter Try.func26, Try.ntmps26
  go_wp2_with fail
  go_loopw [4, 5] (fun ov iv wr => ∃ (i : Nat) (v : Value) (C' : Nat → Nat), i ≤ has.length ∧ iv = .int .i64 i ∧ v = ov ∧ Fr (· = 1) (fun _ => 0) C' w wr ∧ Sl wr C' 1 v 3 1 (refL cold me devs has i).length ((refL cold me devs has i).map (Value.int .i64))) (fun _ iv _ => has.length - (intOf iv).toNat)
  case atStart => exact ⟨0, _, fun _ => 0, Nat.zero_le _, rfl, rfl, Fr.refl _ _ _, by unfold refL; cases cold <;> exact Sl.nil _ _ _ _ _⟩
  case round =>
    obtain ⟨i, v, C', hi, rfl, rfl, F, S⟩ := hrel
    have V : Below w.heap.size w wr := F.below (fun _ _ h => by omega)
    have P := HH.out.below V
    have j0 : (0 : Int) ≤ (i : Int) := Int.natCast_nonneg _
    obtain ⟨va, vc, rfl, -⟩ := id S.form
    obtain ⟨c0, c1, -, -, -, -, -, -, -, -, -, c11, -, -, c14, c15, c16⟩ := P.cfg
    rw [HNA.out] at c0
    rw [HCF.out] at c1
    by_cases hlt : i < has.length
    · have j1 : (i : Int) < (has.length : Int) := by omega
      have j2 : (i : Int) < (devs.length : Int) := by have := HLN.out; omega
      have x0 := P.hasAt hlt
      have y0 := P.devAt (i := i) (by omega)
      have hsucc := refL_succ cold me devs has i (by omega)
      have hln := refL_len cold me devs has i
      obtain ⟨n, hn⟩ : ∃ n, (refL cold me devs has i).length = n := ⟨_, rfl⟩
      obtain ⟨hv, hhv⟩ : ∃ b, has.getD i false = b := ⟨_, rfl⟩
      obtain ⟨dv, hdv⟩ : ∃ b, devs.getD i 0 = b := ⟨_, rfl⟩
      rw [hhv] at x0 hsucc
      rw [hdv] at y0 hsucc
      rw [hn] at S hln ⊢
      by_cases hin : cold = false ∨ (hv = true ∧ (i : Int) ≠ me)
      · rw [if_pos hin] at hsucc
        obtain ⟨v2, w3, C2, hr2, S2, F2, -, -⟩ := Sl.append (P := Try.prog) (t := 27) 0 Try.underlying27 hi9 his9 hz9 hzs9 (S.alloc (.cells #[.int .i64 dv] 3)) (Src.new wr 3 1 1 1 [.int .i64 dv] rfl) (by simp [Value.oneCell']) (by unfold maxLen; omega) (by rw [hby9]; omega)
        have f2 := (((Fr.refl (fun _ => False) C' wr).alloc (.cells #[.int .i64 dv] 3)).mono (K' := (· = 1)) (fun _ h => h.elim)).trans F2
        have HF2 := hid_ (F.trans f2)
        have HS2 := hid_ (show Sl w3 C2 1 v2 3 1 (refL cold me devs has (i + 1)).length ((refL cold me devs has (i + 1)).map (Value.int .i64)) by
          rw [hsucc, List.length_append, hn, List.map_append]; exact S2)
        have HRUN := hid_ hr2
        clear hr2 S2 F2 F S f2 hsucc P V hn hhv hdv
        cases cold with
        | false =>
          clear hin
          go_wp2_with (refine wpList_append_run HRUN.out (by rfl) (by rfl) (by rfl) (by rfl) ?_)
          go_roundw
          case rel => exact ⟨i + 1, v2, C2, by omega, by go_num, rfl, HF2.out, HS2.out⟩
          case measure => simp [intOf]; omega
        | true =>
          obtain ⟨rfl, hne⟩ : hv = true ∧ (i : Int) ≠ me := by rcases hin with h | h; exact Bool.noConfusion h; exact h
          have nb : ((i : Int) != me) = true := by simpa using hne
          clear hin hne
          go_wp2_with (refine wpList_append_run HRUN.out (by rfl) (by rfl) (by rfl) (by rfl) ?_)
          go_roundw
          case rel => exact ⟨i + 1, v2, C2, by omega, by go_num, rfl, HF2.out, HS2.out⟩
          case measure => simp [intOf]; omega
      · rw [if_neg hin, List.append_nil] at hsucc
        have HF2 := hid_ F
        have HS2 := hid_ (show Sl wr C' 1 (.slice va n vc) 3 1 (refL cold me devs has (i + 1)).length ((refL cold me devs has (i + 1)).map (Value.int .i64)) by rw [hsucc, hn]; exact S)
        have hc : cold = true := by cases cold with | true => rfl | false => exact absurd (.inl rfl) hin
        subst hc
        rcases (by cases hv with | false => exact .inl rfl | true => exact .inr ⟨rfl, by simpa using hin⟩ : hv = false ∨ (hv = true ∧ (i : Int) = me)) with rfl | ⟨rfl, hs⟩
        · clear F S hsucc P V hn hhv hdv hin
          go_wp2
          go_roundw
          case rel => exact ⟨i + 1, _, C', by omega, by go_num, rfl, HF2.out, HS2.out⟩
          case measure => simp [intOf]; omega
        · have nb : ((i : Int) != me) = false := by simpa using hs
          clear F S hsucc P V hn hhv hdv hin hs
          go_wp2
          go_roundw
          case rel => exact ⟨i + 1, _, C', by omega, by go_num, rfl, HF2.out, HS2.out⟩
          case measure => simp [intOf]; omega
    · obtain rfl : i = has.length := by omega
      have hln := refL_len cold me devs has has.length
      have hall := refL_all cold me devs has HLN.out
      have hzL := refL_Z cold me devs has HLN.out HZ.out
      have HM := hid_ (refMid_any (refL cold me devs has has.length) (by rw [hall]; exact hzL) f (.slice va (refL cold me devs has has.length).length vc) wr (by
        rcases S with ⟨h1, h2, h3⟩ | ⟨b, hb, hR⟩
        · unfold IsInts; rw [h1, h3, h2]; exact rd_nil _ _ _
        · exact hR.rd (C := fun _ => 0) rfl) (by omega))
      have HALL := hid_ hall
      obtain ⟨L, hL⟩ : ∃ L, refL cold me devs has has.length = L := ⟨_, rfl⟩
      rw [hL] at HM hln ⊢
      obtain ⟨v, hv⟩ : ∃ v, midV L f = v := ⟨_, rfl⟩
      obtain ⟨o, ho⟩ : ∃ o, numN2 (midE L f) = o := ⟨_, rfl⟩
      rw [hv, ho] at HM
      have HVO := hid_ (And.intro hv ho)
      have HLL := hid_ hL
      have HVV := hid_ V
      clear S F V P hL hv ho hzL hall
      go_wp2_with fail
      refine HM.out.mono ?_
      rintro e w2 ⟨rfl, V2⟩
      have HX := hid_ (below_then HVV.out V2)
      clear V2
      go_wp2
      go_ret2
      refine ⟨?_, HX.out⟩
      rw [← HALL.out, HLL.out, HVO.out.1, HVO.out.2]
      rfl
set_option maxRecDepth 100000 in
set_option maxHeartbeats 4000000 in
theorem rpNext (C : Nat → Nat) (k pb db hb : Nat) (c : Cfg) (pv qv rv : Value) (me : Int) (cold : Bool) (since rate : Int) (devs : List Int) (has : List Bool) (f : Nat) (hg : Ranges c) (hr : -200 ≤ rate ∧ rate ≤ 200) (hs : 0 ≤ since ∧ since ≤ 1125899906842624) (hcf : c.faulty = (f : Int)) (hz : ∀ x ∈ devs, Z64 x)
    (ht : -900000000000 ≤ midV (turnL cold me devs has) f ∧ midV (turnL cold me devs has) f ≤ 900000000000) (w : World)
    (h : IsRP w C k pb db hb c pv qv rv me cold since rate devs has) :
    Calls Try.prog 27 #[.pointer (some ⟨pb, 0, none⟩)] w fun e w' => e = .returned (.tuple #[.int .i64 (nextV c since rate (turnL cold me devs has) f), Value.string (numN2 (midE (turnL cold me devs has) f))]) ∧ Below w.heap.size w w' := by
  have n1 := hg.n1
  have hlh := h.lh
  have HT := hid_ (rpTurn C k pb db hb c pv qv rv me cold since rate devs has f hcf (by omega) hz w h)
  have HH := hid_ h
  obtain ⟨L, hL⟩ : ∃ L, turnL cold me devs has = L := ⟨_, rfl⟩
  rw [hL] at HT ht ⊢
  obtain ⟨b0, b1⟩ := hg.round
  obtain ⟨t, hT⟩ : ∃ t, midV L f = t := ⟨_, rfl⟩
  rw [hT] at HT ht
  unfold nextV
  rw [hT]
  obtain ⟨t0, t1⟩ := ht
  obtain ⟨r0, hr0⟩ : ∃ r, c.round = r := ⟨_, rfl⟩
  rw [hr0] at b0 b1 ⊢
  obtain ⟨x0, hx0⟩ : ∃ r, rclk since rate (r0 + t) = r := ⟨_, rfl⟩
  rw [hx0]
  obtain ⟨NV, hNV⟩ : ∃ v, (if midE L f = none then x0 else 0) = v := ⟨_, rfl⟩
  obtain ⟨EV, hEV⟩ : ∃ v, Value.string (numN2 (midE L f)) = v := ⟨_, rfl⟩
  rw [hNV, hEV]
  have HNV := hid_ hNV
  have HEV := hid_ hEV
  clear hNV hEV
  have HR0 := hid_ hr0
  have HX0 := hid_ hx0
  clear h hL hlh hz hcf hT n1 hr0 hx0
  go_enter Try.func27, Try.ntmps27
  go_wp2_with fail
  refine HT.out.mono ?_
  rintro e w1 ⟨rfl, V1⟩
  have P1 := HH.out.below V1
  have HV1 := hid_ V1
  have HSTEP : (∀ n : Aft w1, Calls Try.prog 10 #[.agg #[.int .i64 c.nodes, .int .i64 c.faulty, .int .i64 c.slot, .int .i64 c.gap, .int .i64 c.rho, .int .i64 c.dmin, .int .i64 c.dmax, .int .i64 c.margin, pv, qv, rv]] n.W fun e w' => e = .returned (.int .i64 c.round) ∧ Below n.W.heap.size n.W w') ∧
      (∀ n : Aft w1, Calls Try.prog 44 #[.int .i64 since, .int .i64 rate, .int .i64 (c.round + t)] n.W fun e w' => e = .returned (.int .i64 (rclk since rate (c.round + t))) ∧ Below n.W.heap.size n.W w') := by
    refine ⟨fun n => ref6Round c pv qv rv hg n.W, fun n => (rReal since rate (c.round + t) hr hs (by rw [HR0.out]; omega) n.W).mono ?_⟩
    rintro e w' ⟨rfl, rfl⟩
    exact ⟨rfl, Below.refl _ _⟩
  obtain ⟨H1, H2⟩ := HSTEP
  have HRD := hid_ H1
  have HRL := hid_ H2
  have dc := fun n : Aft w1 => (P1.below n.h).cfg
  rw [HR0.out] at HRD HRL
  rw [HX0.out] at HRL
  have q1 : wrap64 (r0 + t) = r0 + t := by unfold wrap64; omega
  have q2 : IntKind.i64.wrap (r0 + t) = r0 + t := IntWalk.i64_in _ (by omega)
  clear H1 H2 V1 HT hr hs
  cases ho : midE L f with
  | some n =>
    rw [ho] at HNV HEV
    clear ho
    rw [show numN2 (some n) = ⟨(num n).toArray⟩ from rfl]
    have hne := ne_empty (num_ne n)
    go_wp2
    go_ret2
    exact ⟨by rw [← HNV.out, ← HEV.out]; rfl, HV1.out⟩
  | none =>
    rw [ho] at HNV HEV
    clear ho
    rw [show numN2 none = ⟨#[]⟩ from rfl]
    go_wp2_with fail
    refine wp_region_aft (by kernel_rfl) (by kernel_rfl) ?_
    repeat (go_big_quiet_step (first | exact Aft.calls _ (HRD.out _) | exact Aft.calls _ (HRL.out _)))
    refine wpQuiet_nil ?_
    rintro _ ⟨m, rfl⟩
    have HE := hid_ (below_then HV1.out m.h)
    clear dc P1
    go_wp2
    go_ret2
    exact ⟨by rw [← HNV.out, ← HEV.out]; rfl, HE.out⟩


def PacedP (C : Nat → Nat) (k : Nat) (c : Cfg) (pv qv rv : Value) (me : Int) (cold : Bool) (since rate : Int) (n : Nat) (w : World) (e : Ending) (w' : World) : Prop :=
  ∃ pb db hb C', e = .returned (.pointer (some ⟨pb, 0, none⟩)) ∧ Fr (fun _ => False) C C' w w' ∧ IsRP w' C' k pb db hb c pv qv rv me cold since rate (List.replicate n 0) (List.replicate n false)
theorem rp_made {C : Nat → Nat} {k : Nat} {c : Cfg} {pv qv rv : Value} {me : Int} {cold : Bool} {since rate : Int} {n : Nat} {w w' : World} {pb db hb : Nat} (hf : Fin C w) (V : Below w.heap.size w w') (hn : c.nodes = (n : Int))
    (g : w.heap.size ≤ pb ∧ w.heap.size ≤ db ∧ w.heap.size ≤ hb)
    (b1 : Bk w' pb 85 (c.cells pv qv rv ++ [.int .i64 me, .int .i64 since, .int .i64 rate, .bool cold, .slice (some ⟨db, 0, none⟩) n n, .slice (some ⟨hb, 0, none⟩) n n]))
    (b3 : Bk w' db 3 ((List.replicate n (0 : Int)).map (Value.int .i64))) (b4 : Bk w' hb 4 ((List.replicate n false).map Value.bool)) :
    PacedP C k c pv qv rv me cold since rate n w (.returned (.pointer (some ⟨pb, 0, none⟩))) w' := by
  have hsz := V.size
  refine ⟨pb, db, hb, fun x => if w.heap.size ≤ x ∧ x < w'.heap.size then k else C x, rfl, (Fr.of_below V _).recolour (fun x hx _ => if_neg (by omega)) (fun x hx => ?_), ?_⟩
  · rw [if_neg (by omega)]
    exact hf x (by omega)
  · have l1 := b1.lt
    have l3 := b3.lt
    have l4 := b4.lt
    exact ⟨by rw [List.length_replicate, List.length_replicate]; exact b1, b3, b4, ⟨if_pos ⟨g.1, l1⟩, if_pos ⟨g.2.1, l3⟩, if_pos ⟨g.2.2, l4⟩⟩, by rw [List.length_replicate]; exact hn.symm, by rw [List.length_replicate]; exact hn.symm⟩

set_option maxRecDepth 100000 in
set_option maxHeartbeats 4000000 in
theorem rpPaced (C : Nat → Nat) (k : Nat) (c : Cfg) (pv qv rv : Value) (me : Int) (cold : Bool) (since rate : Int) (n : Nat) (hn : c.nodes = (n : Int)) (hnn : n ≤ 7) (w : World) (hf : Fin C w) :
    Calls Try.prog 23 #[c.v pv qv rv, .int .i64 me, .int .i64 since, .int .i64 rate, .bool cold] w (PacedP C k c pv qv rv me cold since rate n w) := by
  have b0 : Below w.heap.size w (w.alloc (.cells (c.cells pv qv rv).toArray 26)) := (Below.refl _ _).alloc (Nat.le_refl _) _
  have k0 := Bk.new w 26 (c.cells pv qv rv)
  have mk1 := mk_devs n hnn
  have mk2 := mk_marks n hnn
  have HF := hid_ hf
  have HB0 := hid_ b0
  have HK0 := hid_ k0
  have HN := hid_ hn
  clear hf b0 k0 hn hnn
  unfold Cfg.v
  go_enter Try.func23, Try.ntmps23
  go_upto_region 1 with fail
  refine gen_world (fun W => Below w.heap.size w W ∧ Bk W w.heap.size 26 (c.cells pv qv rv)) ⟨HB0.out, HK0.out⟩ ?_
  rintro W ⟨V, K⟩
  have dn : c.nodes = (n : Int) := HN.out
  have dcW := K.cfg0
  have dcA := fun o => (K.alloc o).cfg0
  have dcB := fun o o' => ((K.alloc o).alloc o').cfg0
  rw [dn] at dcW dcA dcB
  have HV := hid_ V
  have s1 := V.size
  clear V K dn HB0 HK0
  obtain ⟨a1, a2, a3, V3⟩ := three_new W 3 4 85 ((List.replicate n (0 : Int)).map (Value.int .i64)) ((List.replicate n false).map Value.bool) (c.cells pv qv rv ++ [.int .i64 me, .int .i64 since, .int .i64 rate, .bool cold, .slice (some ⟨W.heap.size, 0, none⟩) n n, .slice (some ⟨W.heap.size + 1, 0, none⟩) n n])
  obtain ⟨e1, e2, e3, U3⟩ := three_new W 4 3 85 ((List.replicate n false).map Value.bool) ((List.replicate n (0 : Int)).map (Value.int .i64)) (c.cells pv qv rv ++ [.int .i64 me, .int .i64 since, .int .i64 rate, .bool cold, .slice (some ⟨W.heap.size + 1, 0, none⟩) n n, .slice (some ⟨W.heap.size, 0, none⟩) n n])
  have HA := hid_ (And.intro a1 (And.intro a2 (And.intro a3 V3)))
  have HE := hid_ (And.intro e1 (And.intro e2 (And.intro e3 U3)))
  clear a1 a2 a3 V3 e1 e2 e3 U3
  unfold Cfg.cells at HA HE
  rw [HN.out] at HA HE
  simp only [List.map_replicate, List.toArray_replicate] at HA HE
  go_region
  all_goals
    go_wp2_with fail
    go_ret
    first
      | exact rp_made (pb := W.heap.size + 1 + 1) (db := W.heap.size) (hb := W.heap.size + 1) HF.out (below_then HV.out HA.out.2.2.2) HN.out ⟨by omega, by omega, by omega⟩ (by unfold Cfg.cells; rw [HN.out]; exact HA.out.2.2.1) (by rw [List.map_replicate]; exact HA.out.1) (by rw [List.map_replicate]; exact HA.out.2.1)
      | exact rp_made (pb := W.heap.size + 1 + 1) (db := W.heap.size + 1) (hb := W.heap.size) HF.out (below_then HV.out HE.out.2.2.2) HN.out ⟨by omega, by omega, by omega⟩ (by unfold Cfg.cells; rw [HN.out]; exact HE.out.2.2.1) (by rw [List.map_replicate]; exact HE.out.2.1) (by rw [List.map_replicate]; exact HE.out.1)
end Go.Proofs.Ytnmhfdkmiblknaa
