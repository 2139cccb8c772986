/- Chapter 13's PortsQueue: the walk. No condition. -/
import Derived.Test.YtogfbeibpfdleaaPQPlain
import Derived.Test.YtogfbeibpfdleaaPWrong
set_option linter.unusedSimpArgs false
set_option linter.unusedVariables false
namespace Go.Proofs.Ytogfbeibpfdleaa
open Go.RowKit Go.Maps

theorem newQueue (D : Int) (hD : 1 ≤ D ∧ D ≤ 4) (C : Nat → Nat) (k : Nat) (hk : k ≠ 0) (node : Int) (hn : node = 0 ∨ node = 1) (pv qv rv : Value) (w : World) (hl : Lists w C (queueC D) pv qv rv) (hf : Fin C w) :
    Calls Try.prog 12 #[(queueC D).v pv qv rv, .int .i64 node] w fun e w' => ∃ b ab C', e = .returned (.tuple #[.pointer (some ⟨b, 0, none⟩), .nilIface]) ∧ ab ≠ b ∧ w.heap.size ≤ b ∧ w.heap.size ≤ ab ∧ Fr (fun _ => False) C C' w w' ∧ IsPorts w' C' k b ab (queueC D) pv qv rv node noLv (st0 4) := by
  refine (portsNew (queueC D) (queue_ok D hD) C k hk pv qv rv node w hl hf).mono ?_
  intro e w' h
  unfold NewP at h
  rw [queue_snd D hD] at h
  have hN : (queueC D).nodes = 2 := rfl
  rw [if_neg (by rw [hN]; omega)] at h
  exact h
theorem queue_cells (D : Int) : ((((wiredC.ports.flatMap Port.cells).set 4 (.int .i64 4)).set 10 (.int .i64 D)).set 3 (.int .i64 16)).set 9 (.int .i64 16) = (queueC D).ports.flatMap Port.cells := rfl
def strV (x : List UInt8) : Value := .string ⟨x.toArray⟩
abbrev qcs (pb qb rb : Nat) : List Value := [.int .i64 2, .int .i64 0, .int .i64 1000, .int .i64 500, .int .i64 0, .int .i64 0, .int .i64 0, .int .i64 98, .slice (some ⟨pb, 0, none⟩) 2 2, .slice (some ⟨qb, 0, none⟩) 4 4, .slice (some ⟨rb, 0, none⟩) 2 2]
def pvs (b : Nat) : Value := .slice (some ⟨b, 0, none⟩) 2 2
def qvs (b : Nat) : Value := .slice (some ⟨b, 0, none⟩) 4 4

/-- The loop's relation: two objects, and the list of what was taken. -/
structure QueueS (w : World) (C : Nat → Nat) (cb : Nat) (cs : List Value) (b0 ab0 b1 ab1 D : Nat) (pv qv rv : Value) (lv : Nat → Value) (sv : Value) (q : List (List UInt8)) (W : World) : Prop where
  ctx : Ctx w C W cb cs
  p : IsPorts W C 100 b0 ab0 (queueC D) pv qv rv 0 lv (stQ q)
  r : IsPorts W C 300 b1 ab1 (queueC D) pv qv rv 1 noLv (stB [])
  s : Sl W C 700 sv 9 1 q.length (q.map strV)
  l4 : q.length ≤ 4
  l16 : ∀ x ∈ q, x.length ≤ 16
theorem QueueS.fr {w : World} {C C' : Nat → Nat} {cb : Nat} {cs : List Value} {b0 ab0 b1 ab1 D : Nat} {pv qv rv : Value} {lv : Nat → Value} {sv : Value} {q : List (List UInt8)} {W W' : World} (h : QueueS w C cb cs b0 ab0 b1 ab1 D pv qv rv lv sv q W) (f : Fr (fun _ => False) C C' W W') :
    QueueS w C' cb cs b0 ab0 b1 ab1 D pv qv rv lv sv q W' :=
  ⟨h.ctx.fr f (fun h => h), h.p.fr f (fun x h => h.elim) (show 4 ≤ 24 by omega), h.r.fr f (fun x h => h.elim) (show 4 ≤ 24 by omega), h.s.fr f (fun h => h), h.l4, h.l16⟩
theorem info_str1 : (Try.prog.info? 9).map (fun i => (i.zero.map (·.cells.size), i.size, i.bytes)) = some (some 1, 1, 16) := by kernel_rfl
theorem QueueS.push {w : World} {C : Nat → Nat} {cb : Nat} {cs : List Value} {b0 ab0 b1 ab1 D : Nat} {pv qv rv : Value} {lv : Nat → Value} {sv : Value} {q : List (List UInt8)} {W : World} {x : List UInt8}
    (k : Ctx w C W cb cs) (p : IsPorts W C 100 b0 ab0 (queueC D) pv qv rv 0 lv (stQ (q ++ [x]))) (r : IsPorts W C 300 b1 ab1 (queueC D) pv qv rv 1 noLv (stB [])) (s : Sl W C 700 sv 9 1 q.length (q.map strV)) (hq : q.length < 4) (h16 : ∀ x ∈ q, x.length ≤ 16) (hx : x.length ≤ 16) :
    ∃ v' W' C', (Builtin.append_ #[39, 39] 0 #[sv, .slice (some ⟨W.heap.size, 0, none⟩) 1 1]).run Try.prog (W.alloc (.cells #[strV x] 9)) = .ok v' W' ∧ QueueS w C' cb cs b0 ab0 b1 ab1 D pv qv rv lv v' (q ++ [x]) W' := by
  obtain ⟨i1, z1, hi1, hz1, hzs1, his1, hby1⟩ := info_row (P := Try.prog) (e := 9) (size := 1) (bytes := 16) info_str1
  have f0 := Fr.of_below (C := C) ((Below.refl _ W).alloc (Nat.le_refl _) (.cells #[strV x] 9)) (fun _ => False)
  obtain ⟨v', W', C', hr, h1, h2, h3, _⟩ := Sl.append (P := Try.prog) (t := 39) 0 Try.underlying39 hi1 his1 hz1 hzs1 (s.alloc (.cells #[strV x] 9)) (Src.new W 9 1 1 1 [strV x] rfl) (by simp [Value.oneCell', strV]) (by unfold maxLen; omega) (by rw [hby1]; omega)
  refine ⟨v', W', C', hr, ⟨(k.fr f0 (fun h => h)).fr h2 (by omega), (p.fr f0 (fun x h => h.elim) (show 4 ≤ 24 by omega)).fr h2 (fun x h => by omega) (show 4 ≤ 24 by omega), (r.fr f0 (fun x h => h.elim) (show 4 ≤ 24 by omega)).fr h2 (fun x h => by omega) (show 4 ≤ 24 by omega), ?_, by rw [List.length_append]; simp; omega, fun y hy => ?_⟩⟩
  · rw [List.length_append, List.map_append]
    exact h1
  · rcases List.mem_append.1 hy with h | h
    · exact h16 y h
    · obtain rfl : y = x := by simpa using h
      exact hx

/-- The reading loop's relation. -/
def QueueT (w : World) (cb : Nat) (cs : List Value) (b1 ab1 D : Nat) (pv qv rv : Value) (sv : Value) (q r : List (List UInt8)) (W : World) : Prop :=
  ∃ C lv, Ctx w C W cb cs ∧ IsPorts W C 300 b1 ab1 (queueC D) pv qv rv 1 lv (stB r) ∧ Sl W C 700 sv 9 1 q.length (q.map strV)
theorem drop_cons {q : List (List UInt8)} {M k : Nat} (hM : M ≤ q.length) (hk : k < M) : (q.take M).drop k = q.getD k [] :: (q.take M).drop (k + 1) := by
  have h : k < (q.take M).length := by rw [List.length_take]; omega
  rw [List.drop_eq_getElem_cons h, List.getElem_take, List.getD_eq_getElem?_getD, List.getElem?_eq_getElem (by omega)]
  rfl
theorem atT_101 : atT 10 1 = [49, 48, 64, 49] := by decide +kernel

set_option maxRecDepth 100000 in
set_option maxHeartbeats 16000000 in
theorem queue_walk (l : List (Value × List UInt8)) (lv : Value) (depth : Int) (hdp : I64 depth) (w : World) (hl : Rd w (fun _ => 0) lv 1 l.length (l.flatMap fun p => [p.1])) (hlk : ∀ p ∈ l, IsBytes w (fun _ => 0) p.1 p.2 ∧ p.2.length ≤ 140737488355328) :
    Calls Try.prog 3 #[lv, .int .i64 depth] w fun e w' => e = .returned (.bool true) ∧ Below w.heap.size w w' := by
  obtain ⟨la, lc, rfl, hlc, hlm, -⟩ := id hl
  unfold maxLen at hlm
  go_enter Try.func3, Try.ntmps3
  go_wp2_with fail
  refine (awake13 _).mono ?_
  rintro e w1 ⟨rfl, V1⟩
  by_cases h50 : (50 : Int) < (l.length : Int)
  · go_wp2
    go_ret
    exact ⟨rfl, V1⟩
  have l50 : l.length ≤ 50 := by omega
  go_wp2_with fail
  refine (law13WiredB _).mono ?_
  rintro e w2 ⟨pb, qb, rb, rfl, V2, hle, hp, hq, hr⟩
  have HP := hid_ hp
  have HQ := hid_ hq
  have HR := hid_ hr
  clear hp hr
  rw [show wiredC.v (.slice (some ⟨pb, 0, none⟩) 2 2) (.slice (some ⟨qb, 0, none⟩) 4 4) (.slice (some ⟨rb, 0, none⟩) 2 2) = .agg #[.int .i64 2, .int .i64 0, .int .i64 1000, .int .i64 500, .int .i64 0, .int .i64 0, .int .i64 0, .int .i64 98, .slice (some ⟨pb, 0, none⟩) 2 2, .slice (some ⟨qb, 0, none⟩) 4 4, .slice (some ⟨rb, 0, none⟩) 2 2] from rfl]
  go_upto_region 6 with (fail)
  refine gen_world (fun W => Below w2.heap.size w2 W ∧ Bk W w2.heap.size 28 (qcs pb qb rb)) ⟨(Below.refl _ _).alloc (Nat.le_refl _) _, bk_new' _ _ _ _ rfl⟩ ?_
  rintro W3 ⟨V3, B3⟩
  have q3 := hq.same (V3.block _ hq.lt)
  have b9 := B3.cell_ 9 rfl
  have y3 := q3.cell_ 3 rfl
  have y4 := q3.cell_ 4 rfl
  have y9 := q3.cell_ 9 rfl
  have y10 := q3.cell_ 10 rfl
  have zf := fun i => q3.frozen i
  have HQ3 := hid_ q3
  obtain ⟨D, hD, hDm⟩ : ∃ D : Nat, 1 + wrap64 ((IntKind.u64.wrap depth).tmod 4) = (D : Int) ∧ 1 ≤ D ∧ D ≤ 4 := by
    have := rem_small depth 4 (by omega) (by omega)
    exact ⟨(1 + wrap64 ((IntKind.u64.wrap depth).tmod 4)).toNat, by omega, by omega, by omega⟩
  have hbd := rem_small depth 4 (by omega) (by omega)
  obtain ⟨hb1, hb2⟩ := hbd
  have hneq : ¬ qb = w2.heap.size := fun h => by have := hq.lt; omega
  have hneq2 : ¬ w2.heap.size = qb := fun h => hneq h.symm
  have hD2 : IntKind.i64.wrap (1 + IntKind.i64.wrap ((IntKind.u64.wrap depth).tmod 4)) = (D : Int) := by
    have e1 : IntKind.i64.wrap ((IntKind.u64.wrap depth).tmod 4) = wrap64 ((IntKind.u64.wrap depth).tmod 4) := IntWalk.i64_left _
    rw [e1, hD]
    exact IntWalk.i64_in _ (by omega)
  clear hD hb1 hb2 hq q3
  go_region_held3 (fun w' => w'.cell? ⟨w2.heap.size, 9, none⟩ = some (.slice (some ⟨qb, 0, none⟩) 4 4)) (go_keep) (fail)
  go_upto_region 7 with (fail)
  try generalize IntKind.i64.wrap ((IntKind.u64.wrap depth).tmod 4) = dd
  try generalize wrap64 ((IntKind.u64.wrap depth).tmod 4) = dd
  have hq4 := (HQ3.out.set 4 (.int .i64 4)).set 10 (.int .i64 (D : Int))
  refine gen_world (fun W => Below w1.heap.size w1 W ∧ Bk W w2.heap.size 28 (qcs pb qb rb) ∧ Bk W qb 33 (((wiredC.ports.flatMap Port.cells).set 4 (.int .i64 4)).set 10 (.int .i64 (D : Int))) ∧ Bk W pb 77 (wiredC.parts.flatMap Part.cells) ∧ Bk W rb 79 (wiredC.routes.flatMap Route.cells))
    ⟨(((below_then V2 V3).setCell hle.2.1 _).setCell hle.2.1 _).drew, (((B3.far hneq2 _).far hneq2 _)).drew, hq4.drew, (((HP.out.same (V3.block _ HP.out.lt)).far hle.2.2.2.1 _).far hle.2.2.2.1 _).drew, (((HR.out.same (V3.block _ HR.out.lt)).far hle.2.2.2.2 _).far hle.2.2.2.2 _).drew⟩ ?_
  clear hq4 V2 V3 B3 HP HR HQ HQ3 b9 y3 y4 y9 y10 zf hD2
  rintro W4 ⟨V4, B4, Q4, P4, R4⟩
  have b9 := B4.cell_ 9 rfl
  have y3 := Q4.cell_ 3 rfl
  have y9 := Q4.cell_ 9 rfl
  have zf := fun i => Q4.frozen i
  have HQ4 := hid_ Q4
  have HP4 := hid_ P4
  have HR4 := hid_ R4
  clear Q4 P4 R4
  go_region_held3 (fun w' => w'.cell? ⟨w2.heap.size, 9, none⟩ = some (.slice (some ⟨qb, 0, none⟩) 4 4)) (go_keep) (fail)
  go_upto_region 8 with (fail)
  have hq5 := (HQ4.out.set 3 (.int .i64 16)).set 9 (.int .i64 16)
  rw [queue_cells] at hq5
  refine gen_world (fun W => Below w1.heap.size w1 W ∧ Bk W w2.heap.size 28 (qcs pb qb rb) ∧ Lists W (fun _ => 0) (queueC D) (.slice (some ⟨pb, 0, none⟩) 2 2) (.slice (some ⟨qb, 0, none⟩) 4 4) (.slice (some ⟨rb, 0, none⟩) 2 2))
    ⟨((V4.setCell hle.2.1 _).setCell hle.2.1 _).drew, (((B4.far hneq2 _).far hneq2 _)).drew, ⟨?_, ?_, ?_⟩⟩ ?_
  · exact (((HP4.out.far hle.2.2.2.1 _).far hle.2.2.2.1 _).drew).rd rfl rfl (by unfold maxLen; omega)
  · exact hq5.drew.rd rfl rfl (by unfold maxLen; omega)
  · exact (((HR4.out.far hle.2.2.2.2 _).far hle.2.2.2.2 _).drew).rd rfl rfl (by unfold maxLen; omega)
  clear hq5 V4 B4 HQ4 HP4 HR4 b9 y3 y9 zf hneq hneq2 hle
  rintro W5 ⟨V5, B5, L5⟩
  have hD1 : 1 ≤ (D : Int) ∧ (D : Int) ≤ 4 := by omega
  have HD1 := hid_ hD1
  clear hD1
  have d5 := fun i v (h : (qcs pb qb rb)[i]? = some v) => B5.cell_ i h
  have d5_0 := d5 0 _ rfl
  have d5_1 := d5 1 _ rfl
  have d5_2 := d5 2 _ rfl
  have d5_3 := d5 3 _ rfl
  have d5_4 := d5 4 _ rfl
  have d5_5 := d5 5 _ rfl
  have d5_6 := d5 6 _ rfl
  have d5_7 := d5 7 _ rfl
  have d5_8 := d5 8 _ rfl
  have d5_9 := d5 9 _ rfl
  have d5_10 := d5 10 _ rfl
  clear d5
  go_wp2_with fail
  refine (newQueue D HD1.out (fun _ => 0) 100 (by omega) 0 (.inl rfl) (.slice (some ⟨pb, 0, none⟩) 2 2) (.slice (some ⟨qb, 0, none⟩) 4 4) (.slice (some ⟨rb, 0, none⟩) 2 2) _ L5 (fun _ _ => rfl)).mono ?_
  rintro e w6 ⟨b0, ab0, C6, rfl, n0, hb0, hab0, f6, p6⟩
  have c6 : C6 w2.heap.size = 0 := (f6.block _ B5.lt (fun h => h)).2
  have F6 : Fin C6 w6 := f6.Fin (fun _ _ => rfl)
  have B6 := B5.same (f6.block _ B5.lt (fun h => h)).1
  have L6 := L5.fr f6 (fun h => h)
  clear d5_0 d5_1 d5_2 d5_3 d5_4 d5_5 d5_6 d5_7 d5_8 d5_9 d5_10 hb0 hab0
  have d6 := fun i v (h : (qcs pb qb rb)[i]? = some v) => B6.cell_ i h
  have d6_0 := d6 0 _ rfl
  have d6_1 := d6 1 _ rfl
  have d6_2 := d6 2 _ rfl
  have d6_3 := d6 3 _ rfl
  have d6_4 := d6 4 _ rfl
  have d6_5 := d6 5 _ rfl
  have d6_6 := d6 6 _ rfl
  have d6_7 := d6 7 _ rfl
  have d6_8 := d6 8 _ rfl
  have d6_9 := d6 9 _ rfl
  have d6_10 := d6 10 _ rfl
  clear d6
  go_wp2_with fail
  refine (newQueue D HD1.out C6 300 (by omega) 1 (.inr rfl) (.slice (some ⟨pb, 0, none⟩) 2 2) (.slice (some ⟨qb, 0, none⟩) 4 4) (.slice (some ⟨rb, 0, none⟩) 2 2) _ L6 F6).mono ?_
  rintro e w7 ⟨b1, ab1, C7, rfl, n1, hb1, hab1, f7, q7⟩
  have p7 := p6.fr f7 (fun x h => h.elim) (by simp [st0])
  have c7 : C7 w2.heap.size = 0 := (f7.block _ B6.lt (fun h => h)).2.trans c6
  have T7 := ((Fr.of_below (C := fun _ => 0) V1 (fun _ => False)).trans (Fr.of_below (C := fun _ => 0) V5 (fun _ => False))).trans (f6.trans f7)
  have K7 : Ctx w C7 w7 w2.heap.size (qcs pb qb rb) := ⟨T7.mono (fun _ h => h.elim), f7.Fin F6, B6.same (f7.block _ B6.lt (fun h => h)).1, c7⟩
  clear d6_0 d6_1 d6_2 d6_3 d6_4 d6_5 d6_6 d6_7 d6_8 d6_9 d6_10 hb1 hab1 B5 B6 L5 L6 F6 f6 f7 p6 V1 V5 T7 c6 c7
  have S7 : QueueS w C7 w2.heap.size (qcs pb qb rb) b0 ab0 b1 ab1 D (.slice (some ⟨pb, 0, none⟩) 2 2) (.slice (some ⟨qb, 0, none⟩) 4 4) (.slice (some ⟨rb, 0, none⟩) 2 2) noLv (.slice none 0 0) [] w7 := ⟨K7, p7, q7, Sl.nil _ _ _ _ _, by simp, by simp⟩
  have HS7 := hid_ S7
  have HL := hid_ hl
  have HG := hid_ (queue_good (D : Int) HD1.out)
  clear S7 K7 p7 q7 hl
  go_upto_block 1 with (fail)
  go_loopw [10, 64] (fun sv i wr => ∃ (k : Nat) (C : Nat → Nat) (lv : Nat → Value) (q : List (List UInt8)), k ≤ l.length ∧ i = .int .i64 k ∧ QueueS w C w2.heap.size (qcs pb qb rb) b0 ab0 b1 ab1 D (.slice (some ⟨pb, 0, none⟩) 2 2) (.slice (some ⟨qb, 0, none⟩) 4 4) (.slice (some ⟨rb, 0, none⟩) 2 2) lv sv q wr) (fun _ i _ => l.length - (intOf i).toNat)
  case atStart => exact ⟨0, C7, noLv, [], Nat.zero_le _, rfl, HS7.out⟩
  case round =>
    obtain ⟨k, C, lv, q, hk, rfl, hS⟩ := hrel
    clear HS7
    obtain ⟨sa, sc, rfl, hsc, hsm, -⟩ := hS.s.form
    unfold maxLen at hsm
    have q4 := hS.l4
    have HS := hid_ hS
    clear hS
    by_cases hlt : k < l.length
    · obtain ⟨lb, lo, rfl, hlc⟩ := HL.out.at (i := k) hlt
      have c0 := hlc k (l.getD k default).1 (by
        have := flatMap_get 1 (fun p : Value × List UInt8 => [p.1]) (fun _ => rfl) l k 0 (l.getD k default) (by rw [List.getD_eq_getElem?_getD, List.getElem?_eq_getElem hlt]; rfl) (by omega)
        rw [Nat.mul_one, Nat.add_zero] at this
        exact this)
      have c1 := (HS.out.ctx.tot.below (fun b _ h => h rfl)).cell (World.block_lt_of_cell? _ _ c0) |>.trans c0
      obtain ⟨hX, hXl⟩ := hlk (l.getD k default) (by rw [List.getD_eq_getElem?_getD, List.getElem?_eq_getElem hlt]; exact List.getElem_mem hlt)
      have X1 := hX.fr HS.out.ctx.tot (fun h => h rfl)
      clear hlc c0 hX
      generalize (l.getD k default).1 = xv at *
      generalize (l.getD k default).2 = x at *
      obtain ⟨xa, xc, rfl, hxc, hxm, -⟩ := id X1
      unfold maxLen at hxm
      obtain ⟨zb, zo, zp, W8, hr8, x8, hb8, hge8, hraw8⟩ := copy_of (P := Try.prog) wr HS.out.ctx.fin Try.underlying40 info_u8' X1.src (by unfold maxLen; omega) (by omega)
      have HR8 := hid_ hr8
      have g8 := Fr.of_below (C := C) hb8 (fun _ => False)
      have HS8 := hid_ (HS.out.fr g8)
      have HX8 := hid_ (X1.fr g8 (fun h => h))
      clear hr8 hraw8 hge8 hb8 g8 X1 HS
      have x0 : (0 : Int) ≤ (x.length : Int) := Int.natCast_nonneg _
      by_cases hbig : (16 : Int) < (x.length : Int)
      · have e1 : decide ((x.length : Int) ≤ 16) = false := by simp; omega
        have e2 : decide (x.length ≤ 16) = false := by simp; omega
        by_cases hfull : (q.length : Int) < 4
        all_goals
          go_wp2_with (refine wpList_append_run HR8.out (by rfl) (by rfl) (by rfl) (by rfl) ?_)
          refine (write_size (queueC D) HG.out C 100 b0 ab0 (by omega) n0 _ _ _ 0 0 lv _ _ x W8 HS8.out.ctx.fin HS8.out.p (show 0 < 4 by decide) rfl (show 0 < 2 by decide) rfl x8 (show (16 : Int) < (x.length : Int) from hbig)).mono ?_
          rintro e w9 ⟨ev, rfl, V9, E9⟩
          obtain ⟨eb, rfl, -, -⟩ := E9
          have HS9 := hid_ (HS8.out.fr (Fr.of_below (C := C) V9 (fun _ => False)))
          clear HS8 HX8 V9 x8 HR8
          unfold faultV
          go_wp2_with fail
          go_roundw
          case rel => exact ⟨k + 1, C, lv, q, by omega, by go_num, HS9.out⟩
          case measure => simp [intOf]; omega
      · by_cases hfull : (q.length : Int) < 4
        · go_wp2_with (refine wpList_append_run HR8.out (by rfl) (by rfl) (by rfl) (by rfl) ?_)
          refine (write_queue (queueC D) HG.out C 100 b0 ab0 (by omega) n0 _ _ _ 0 0 lv _ _ x W8 HS8.out.ctx.fin HS8.out.p (show 0 < 4 by decide) rfl (show 0 < 2 by decide) rfl x8 (show (x.length : Int) ≤ 16 by omega) (show ¬ ((2 : Int) = 1) by decide) (show (q.length : Int) < 4 from hfull)).mono ?_
          rintro e w9 ⟨rfl, C9, lv9, f9, p9⟩
          rw [putQ] at p9
          have r9 := HS8.out.r.fr f9 (fun x h => by omega) (show 4 ≤ 24 by omega)
          have k9 := HS8.out.ctx.fr f9 (by omega)
          have s9 := HS8.out.s.fr f9 (by omega)
          have y9 := HX8.out.fr f9 (by omega)
          have sx := bytes_str y9
          obtain ⟨v10, W10, C10, hr10, hS10⟩ := QueueS.push (x := x) k9 p9 r9 s9 (by omega) HS8.out.l16 (by omega)
          have HR10 := hid_ hr10
          have HS10 := hid_ hS10
          clear HS8 HX8 x8 HR8 f9 p9 r9 k9 s9 y9 hr10 hS10
          go_wp2_with (refine wpList_append_run HR10.out (by rfl) (by rfl) (by rfl) (by rfl) ?_)
          go_roundw
          case rel => exact ⟨k + 1, C10, lv9, q ++ [x], by omega, by go_num, HS10.out⟩
          case measure => simp [intOf]; omega
        · go_wp2_with (refine wpList_append_run HR8.out (by rfl) (by rfl) (by rfl) (by rfl) ?_)
          refine (write_full (queueC D) HG.out C 100 b0 ab0 (by omega) n0 _ _ _ 0 0 lv _ _ x W8 HS8.out.ctx.fin HS8.out.p (show 0 < 4 by decide) rfl (show 0 < 2 by decide) rfl x8 (show (x.length : Int) ≤ 16 by omega) (show ¬ ((2 : Int) = 1) by decide) (show (4 : Int) ≤ (q.length : Int) by omega)).mono ?_
          rintro e w9 ⟨ev, rfl, V9, E9⟩
          obtain ⟨eb, rfl, -, -⟩ := E9
          have HS9 := hid_ (HS8.out.fr (Fr.of_below (C := C) V9 (fun _ => False)))
          clear HS8 HX8 V9 x8 HR8
          unfold faultV
          go_wp2_with fail
          go_roundw
          case rel => exact ⟨k + 1, C, lv, q, by omega, by go_num, HS9.out⟩
          case measure => simp [intOf]; omega
    · obtain rfl : k = l.length := by omega
      clear hlt hk
      go_upto_region 22 with (fail)
      have d9 := HS.out.ctx.blk.cell_ 9 rfl
      have d10 : wr.cell? ⟨qb, 10, none⟩ = some (.int .i64 (D : Int)) := by
        obtain ⟨fb, fo, e', hfc⟩ := (show Rd wr C (.slice (some ⟨qb, 0, none⟩) 4 4) 6 4 _ from HS.out.p.lists.ports).at (i := 0) (by omega)
        obtain ⟨rfl, rfl⟩ : qb = fb ∧ 0 = fo := by injection e' with e'; injection e' with e1 e2; exact ⟨e1, e2⟩
        have := hfc 10 (.int .i64 (D : Int)) rfl
        rwa [Nat.zero_add] at this
      by_cases hm : (D : Int) < (q.length : Int)
      · have hM1 : D ≤ q.length := by omega
        have hMD : min q.length D = D := by omega
        have HMD := hid_ hMD
        clear hMD
        have g1 : (0 : Int) ≤ (D : Int) := by omega
        have g2 : ((D : Nat) : Int) ≤ (sc : Int) := by omega
        have g3 : D ≤ sc := by omega
        go_wp2_with fail
        refine (portsSeal (queueC D) HG.out C 100 500 b0 ab0 (by omega) ⟨by omega, by omega⟩ n0 _ _ _ 0 lv _ _ HS.out.ctx.fin HS.out.p (by intro i hi; have hi' : i < 4 := hi; rcases (by omega : i = 0 ∨ i = 1 ∨ i = 2 ∨ i = 3) with rfl | rfl | rfl | rfl; exact q4; all_goals simp [stQ])).mono ?_
        rintro e w12 ⟨mv, mcs, C12, lv12, rfl, f12, p12, s12, m12⟩
        rw [show sealSt (queueC D) 0 (stQ q) (stQ q).length = stQ [] from sealQ2 D q] at p12
        rw [show sealMs (queueC D) 0 (stQ q) (stQ q).length = q.map (fun d => ⟨0, d⟩) from sealQ D q] at s12 m12
        have r12 := HS.out.r.fr f12 (fun x h => by unfold PK at h; omega) (show 4 ≤ 24 by omega)
        have k12 := HS.out.ctx.fr f12 (by unfold PK; omega)
        have z12 := HS.out.s.fr f12 (by unfold PK; omega)
        have L16 := hid_ HS.out.l16
        obtain ⟨ma, mc, rfl, hmc, hmm, -⟩ := s12.form
        rw [List.length_map] at s12 hmc
        clear HS f12
        go_wp2_with fail
        refine (portsDeliver (queueC D) HG.out C12 300 500 b1 ab1 (by omega) (by omega) n1 _ _ _ 1 0 noLv (stB []) (.slice ma q.length mc) mcs (q.map (fun d => ⟨0, d⟩)) w12 k12.fin r12 (by rw [List.length_map]; exact s12.rdk) m12 (by simp; omega)).mono ?_
        rintro e w14 ⟨C14, lv14, rfl, f14, r14⟩
        rw [List.length_map, delivQ D q L16.out q.length (Nat.le_refl _), HMD.out] at r14 ⊢
        have k14 := k12.fr f14 (by omega)
        have p14 := p12.fr f14 (fun x h => by omega) (show 4 ≤ 24 by omega)
        have z14 := z12.fr f14 (by omega)
        clear k12 p12 z12 r12 s12 m12 f14
        go_wp2_with fail
        refine (portsSeal (queueC D) HG.out C14 100 600 b0 ab0 (by omega) ⟨by omega, by omega⟩ n0 _ _ _ 0 _ _ _ k14.fin p14 (by intro i hi; have hi' : i < 4 := hi; rcases (by omega : i = 0 ∨ i = 1 ∨ i = 2 ∨ i = 3) with rfl | rfl | rfl | rfl <;> simp [stQ])).mono ?_
        rintro e w16 ⟨mv2, mcs2, C16, lv16, rfl, f16, -, s16, m16⟩
        rw [show sealMs (queueC D) 0 (stQ []) (stQ []).length = [] from sealQ D []] at s16 m16
        have r16 := r14.fr f16 (fun x h => by unfold PK at h; omega) (show 4 ≤ 24 by omega)
        have k16 := k14.fr f16 (by unfold PK; omega)
        have z16 := z14.fr f16 (by unfold PK; omega)
        obtain ⟨ma2, mc2, rfl, hmc2, hmm2, -⟩ := s16.form
        clear k14 p14 z14 r14 f16
        go_wp2_with fail
        refine (portsDeliver (queueC D) HG.out C16 300 600 b1 ab1 (by omega) (by omega) n1 _ _ _ 1 0 _ _ _ mcs2 [] _ k16.fin r16 s16.rdk m16 (by simp)).mono ?_
        rintro e w18 ⟨C18, lv18, rfl, f18, r18⟩
        have k18 := k16.fr f18 (by omega)
        have z18 := z16.fr f18 (by omega)
        have T18 : QueueT w w2.heap.size (qcs pb qb rb) b1 ab1 D (.slice (some ⟨pb, 0, none⟩) 2 2) (.slice (some ⟨qb, 0, none⟩) 4 4) (.slice (some ⟨rb, 0, none⟩) 2 2) (.slice sa q.length sc) q ((q.take D).drop 0) w18 := ⟨C18, lv18, k18, r18, z18⟩
        have HT18 := hid_ T18
        clear k16 z16 r16 s16 m16 f18 k18 r18 z18 T18
        rw [show (delivR (queueC D) 1 0 (stB (q.take D)) [] ([] : List Msg).length).2 = 0 from rfl]
        go_upto_block 3 with (fail)
        go_loopw [117] (fun i wr => ∃ k : Nat, k ≤ D ∧ i = .int .i64 k ∧ QueueT w w2.heap.size (qcs pb qb rb) b1 ab1 D (.slice (some ⟨pb, 0, none⟩) 2 2) (.slice (some ⟨qb, 0, none⟩) 4 4) (.slice (some ⟨rb, 0, none⟩) 2 2) (.slice sa q.length sc) q ((q.take D).drop k) wr) (fun i _ => D - (intOf i).toNat)
        case atStart => exact ⟨0, Nat.zero_le _, rfl, HT18.out⟩
        case round =>
          obtain ⟨k, hk, rfl, hT⟩ := hrel
          clear HT18
          obtain ⟨C, lv, kx, r, z⟩ := hT
          by_cases hlt : k < D
          · obtain ⟨sb, so, rfl, -, -, hsc⟩ := z.at (by omega)
            obtain ⟨xk, hxk⟩ : ∃ x, q.getD k [] = x := ⟨_, rfl⟩
            have c0 := hsc k (strV xk) (by rw [← hxk, List.getElem?_map, List.getD_eq_getElem?_getD, List.getElem?_eq_getElem (by omega)]; rfl)
            have hdc : (q.take D).drop k = xk :: (q.take D).drop (k + 1) := by rw [← hxk]; exact drop_cons hM1 hlt
            clear hxk
            have hx16 : ∀ x ∈ ((stB ((q.take D).drop k)).getD 1 default).q, x.length ≤ 140737488355328 := fun x hx => by
              have := L16.out x (List.mem_of_mem_take (List.mem_of_mem_drop hx))
              omega
            have HDC := hid_ hdc
            have HX16 := hid_ hx16
            clear hsc hdc hx16
            unfold strV at c0
            go_wp2_with fail
            refine (read_queue (queueC D) HG.out C 300 b1 ab1 (by omega) n1 _ _ _ 1 1 lv _ _ kx.fin r (show 1 < 4 by decide) rfl (show 1 < 2 by decide) rfl HX16.out (show (q.take D).drop k ≠ [] by rw [HDC.out]; simp) (show ¬ ((2 : Int) = 1) by decide)).mono ?_
            rintro e w20 ⟨v, d, q', hq', rfl, hb20, lv20, f20, r20⟩
            obtain ⟨rfl, rfl⟩ : xk = d ∧ (q.take D).drop (k + 1) = q' := List.cons.inj (HDC.out.symm.trans hq')
            have k20 := kx.fr f20 (by omega)
            have z20 := z.fr f20 (by omega)
            have sx := bytes_str hb20
            obtain ⟨va, vc, rfl, -⟩ := id hb20
            have T20 : QueueT w w2.heap.size (qcs pb qb rb) b1 ab1 D _ _ _ _ q ((q.take D).drop (k + 1)) w20 := ⟨C, lv20, k20, r20, z20⟩
            have HT20 := hid_ T20
            clear kx r z f20 k20 z20 r20 T20 hb20 hq' HDC HX16
            go_wp2_with fail
            go_roundw
            case rel => exact ⟨k + 1, by omega, by go_num, HT20.out⟩
            case measure => simp [intOf]; omega
          · obtain rfl : D = k := by omega
            rw [List.drop_eq_nil_of_le (by rw [List.length_take]; omega)] at r
            go_wp2_with fail
            refine (read_empty (queueC D) HG.out C 300 b1 ab1 (by omega) n1 _ _ _ 1 1 lv _ _ kx.fin r (show 1 < 4 by decide) rfl (show 1 < 2 by decide) rfl rfl).mono ?_
            rintro e w20 ⟨ev, rfl, V20, E20⟩
            obtain ⟨eb, rfl, -, B20⟩ := E20
            have T20 := kx.tot.trans (Fr.of_below (C := C) V20 (· ≠ 0))
            clear kx r z V20
            go_wp2_with fail
            refine (read_wide 10 1 (by omega) (by omega) eb _ B20).mono ?_
            rintro e w21 ⟨rfl, V21⟩
            rw [atT_101]
            have T21 := T20.trans (Fr.of_below (C := C) V21 (· ≠ 0))
            clear T20 V21 B20
            go_wp2_with fail
            go_ret
            exact ⟨rfl, T21.below (fun b _ h => h rfl)⟩
      · have hM1 : q.length ≤ q.length := by omega
        have hMD : min q.length D = q.length := by omega
        have HMD := hid_ hMD
        clear hMD
        have g1 : (0 : Int) ≤ (q.length : Int) := by omega
        have g2 : ((q.length : Nat) : Int) ≤ (sc : Int) := by omega
        have g3 : q.length ≤ sc := by omega
        go_wp2_with fail
        refine (portsSeal (queueC D) HG.out C 100 500 b0 ab0 (by omega) ⟨by omega, by omega⟩ n0 _ _ _ 0 lv _ _ HS.out.ctx.fin HS.out.p (by intro i hi; have hi' : i < 4 := hi; rcases (by omega : i = 0 ∨ i = 1 ∨ i = 2 ∨ i = 3) with rfl | rfl | rfl | rfl; exact q4; all_goals simp [stQ])).mono ?_
        rintro e w12 ⟨mv, mcs, C12, lv12, rfl, f12, p12, s12, m12⟩
        rw [show sealSt (queueC D) 0 (stQ q) (stQ q).length = stQ [] from sealQ2 D q] at p12
        rw [show sealMs (queueC D) 0 (stQ q) (stQ q).length = q.map (fun d => ⟨0, d⟩) from sealQ D q] at s12 m12
        have r12 := HS.out.r.fr f12 (fun x h => by unfold PK at h; omega) (show 4 ≤ 24 by omega)
        have k12 := HS.out.ctx.fr f12 (by unfold PK; omega)
        have z12 := HS.out.s.fr f12 (by unfold PK; omega)
        have L16 := hid_ HS.out.l16
        obtain ⟨ma, mc, rfl, hmc, hmm, -⟩ := s12.form
        rw [List.length_map] at s12 hmc
        clear HS f12
        go_wp2_with fail
        refine (portsDeliver (queueC D) HG.out C12 300 500 b1 ab1 (by omega) (by omega) n1 _ _ _ 1 0 noLv (stB []) (.slice ma q.length mc) mcs (q.map (fun d => ⟨0, d⟩)) w12 k12.fin r12 (by rw [List.length_map]; exact s12.rdk) m12 (by simp; omega)).mono ?_
        rintro e w14 ⟨C14, lv14, rfl, f14, r14⟩
        rw [List.length_map, delivQ D q L16.out q.length (Nat.le_refl _), HMD.out] at r14 ⊢
        have k14 := k12.fr f14 (by omega)
        have p14 := p12.fr f14 (fun x h => by omega) (show 4 ≤ 24 by omega)
        have z14 := z12.fr f14 (by omega)
        clear k12 p12 z12 r12 s12 m12 f14
        go_wp2_with fail
        refine (portsSeal (queueC D) HG.out C14 100 600 b0 ab0 (by omega) ⟨by omega, by omega⟩ n0 _ _ _ 0 _ _ _ k14.fin p14 (by intro i hi; have hi' : i < 4 := hi; rcases (by omega : i = 0 ∨ i = 1 ∨ i = 2 ∨ i = 3) with rfl | rfl | rfl | rfl <;> simp [stQ])).mono ?_
        rintro e w16 ⟨mv2, mcs2, C16, lv16, rfl, f16, -, s16, m16⟩
        rw [show sealMs (queueC D) 0 (stQ []) (stQ []).length = [] from sealQ D []] at s16 m16
        have r16 := r14.fr f16 (fun x h => by unfold PK at h; omega) (show 4 ≤ 24 by omega)
        have k16 := k14.fr f16 (by unfold PK; omega)
        have z16 := z14.fr f16 (by unfold PK; omega)
        obtain ⟨ma2, mc2, rfl, hmc2, hmm2, -⟩ := s16.form
        clear k14 p14 z14 r14 f16
        go_wp2_with fail
        refine (portsDeliver (queueC D) HG.out C16 300 600 b1 ab1 (by omega) (by omega) n1 _ _ _ 1 0 _ _ _ mcs2 [] _ k16.fin r16 s16.rdk m16 (by simp)).mono ?_
        rintro e w18 ⟨C18, lv18, rfl, f18, r18⟩
        have k18 := k16.fr f18 (by omega)
        have z18 := z16.fr f18 (by omega)
        have T18 : QueueT w w2.heap.size (qcs pb qb rb) b1 ab1 D (.slice (some ⟨pb, 0, none⟩) 2 2) (.slice (some ⟨qb, 0, none⟩) 4 4) (.slice (some ⟨rb, 0, none⟩) 2 2) (.slice sa q.length sc) q ((q.take q.length).drop 0) w18 := ⟨C18, lv18, k18, r18, z18⟩
        have HT18 := hid_ T18
        clear k16 z16 r16 s16 m16 f18 k18 r18 z18 T18
        rw [show (delivR (queueC D) 1 0 (stB (q.take q.length)) [] ([] : List Msg).length).2 = 0 from rfl]
        go_upto_block 3 with (fail)
        go_loopw [117] (fun i wr => ∃ k : Nat, k ≤ q.length ∧ i = .int .i64 k ∧ QueueT w w2.heap.size (qcs pb qb rb) b1 ab1 D (.slice (some ⟨pb, 0, none⟩) 2 2) (.slice (some ⟨qb, 0, none⟩) 4 4) (.slice (some ⟨rb, 0, none⟩) 2 2) (.slice sa q.length sc) q ((q.take q.length).drop k) wr) (fun i _ => q.length - (intOf i).toNat)
        case atStart => exact ⟨0, Nat.zero_le _, rfl, HT18.out⟩
        case round =>
          obtain ⟨k, hk, rfl, hT⟩ := hrel
          clear HT18
          obtain ⟨C, lv, kx, r, z⟩ := hT
          by_cases hlt : k < q.length
          · obtain ⟨sb, so, rfl, -, -, hsc⟩ := z.at (by omega)
            obtain ⟨xk, hxk⟩ : ∃ x, q.getD k [] = x := ⟨_, rfl⟩
            have c0 := hsc k (strV xk) (by rw [← hxk, List.getElem?_map, List.getD_eq_getElem?_getD, List.getElem?_eq_getElem (by omega)]; rfl)
            have hdc : (q.take q.length).drop k = xk :: (q.take q.length).drop (k + 1) := by rw [← hxk]; exact drop_cons hM1 hlt
            clear hxk
            have hx16 : ∀ x ∈ ((stB ((q.take q.length).drop k)).getD 1 default).q, x.length ≤ 140737488355328 := fun x hx => by
              have := L16.out x (List.mem_of_mem_take (List.mem_of_mem_drop hx))
              omega
            have HDC := hid_ hdc
            have HX16 := hid_ hx16
            clear hsc hdc hx16
            unfold strV at c0
            go_wp2_with fail
            refine (read_queue (queueC D) HG.out C 300 b1 ab1 (by omega) n1 _ _ _ 1 1 lv _ _ kx.fin r (show 1 < 4 by decide) rfl (show 1 < 2 by decide) rfl HX16.out (show (q.take q.length).drop k ≠ [] by rw [HDC.out]; simp) (show ¬ ((2 : Int) = 1) by decide)).mono ?_
            rintro e w20 ⟨v, d, q', hq', rfl, hb20, lv20, f20, r20⟩
            obtain ⟨rfl, rfl⟩ : xk = d ∧ (q.take q.length).drop (k + 1) = q' := List.cons.inj (HDC.out.symm.trans hq')
            have k20 := kx.fr f20 (by omega)
            have z20 := z.fr f20 (by omega)
            have sx := bytes_str hb20
            obtain ⟨va, vc, rfl, -⟩ := id hb20
            have T20 : QueueT w w2.heap.size (qcs pb qb rb) b1 ab1 D _ _ _ _ q ((q.take q.length).drop (k + 1)) w20 := ⟨C, lv20, k20, r20, z20⟩
            have HT20 := hid_ T20
            clear kx r z f20 k20 z20 r20 T20 hb20 hq' HDC HX16
            go_wp2_with fail
            go_roundw
            case rel => exact ⟨k + 1, by omega, by go_num, HT20.out⟩
            case measure => simp [intOf]; omega
          · obtain rfl : k = q.length := by omega
            rw [List.drop_eq_nil_of_le (by rw [List.length_take]; omega)] at r
            go_wp2_with fail
            refine (read_empty (queueC D) HG.out C 300 b1 ab1 (by omega) n1 _ _ _ 1 1 lv _ _ kx.fin r (show 1 < 4 by decide) rfl (show 1 < 2 by decide) rfl rfl).mono ?_
            rintro e w20 ⟨ev, rfl, V20, E20⟩
            obtain ⟨eb, rfl, -, B20⟩ := E20
            have T20 := kx.tot.trans (Fr.of_below (C := C) V20 (· ≠ 0))
            clear kx r z V20
            go_wp2_with fail
            refine (read_wide 10 1 (by omega) (by omega) eb _ B20).mono ?_
            rintro e w21 ⟨rfl, V21⟩
            rw [atT_101]
            have T21 := T20.trans (Fr.of_below (C := C) V21 (· ≠ 0))
            clear T20 V21 B20
            go_wp2_with fail
            go_ret
            exact ⟨rfl, T21.below (fun b _ h => h rfl)⟩
end Go.Proofs.Ytogfbeibpfdleaa
