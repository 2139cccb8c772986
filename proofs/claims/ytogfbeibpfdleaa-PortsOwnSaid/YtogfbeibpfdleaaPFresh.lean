/- Chapter 13's PortsFresh: the walk. Under way. -/
import Derived.Test.YtogfbeibpfdleaaPCfgs
import Derived.Test.YtogfbeibpfdleaaAwake13
import Derived.Test.YtogfbeibpfdleaaPAge
import Derived.Test.YtogfbeibpfdleaaPWriteS
import Derived.Test.YtogfbeibpfdleaaGApp
set_option linter.unusedSimpArgs false
set_option linter.unusedVariables false
namespace Go.Proofs.Ytogfbeibpfdleaa
open Go.RowKit Go.Maps

theorem fresh_cells (f : Int) : (wiredC.ports.flatMap Port.cells).set 23 (.int .i64 f) = (freshC f).ports.flatMap Port.cells := rfl

theorem rem_small (x m : Int) (hm : 0 < m) (h9 : m ≤ 1000) : 0 ≤ wrap64 ((IntKind.u64.wrap x).tmod m) ∧ wrap64 ((IntKind.u64.wrap x).tmod m) < m := by
  have h0 : 0 ≤ IntKind.u64.wrap x := by simp [IntKind.wrap, IntKind.signed, IntKind.bits]; omega
  rw [Int.tmod_eq_emod_of_nonneg h0]
  have h1 := Int.emod_nonneg (IntKind.u64.wrap x) (show m ≠ 0 by omega)
  have h2 := Int.emod_lt_of_pos (IntKind.u64.wrap x) hm
  unfold wrap64
  omega

theorem newFresh (f : Int) (hF : 0 ≤ f ∧ f ≤ 8) (C : Nat → Nat) (k : Nat) (hk : k ≠ 0) (node : Int) (hn : node = 0 ∨ node = 1) (pv qv rv : Value) (w : World) (hl : Lists w C (freshC f) pv qv rv) (hf : Fin C w) :
    Calls Try.prog 12 #[(freshC f).v pv qv rv, .int .i64 node] w fun e w' => ∃ b ab C', e = .returned (.tuple #[.pointer (some ⟨b, 0, none⟩), .nilIface]) ∧ ab ≠ b ∧ w.heap.size ≤ b ∧ w.heap.size ≤ ab ∧ Fr (fun _ => False) C C' w w' ∧ IsPorts w' C' k b ab (freshC f) pv qv rv node noLv (st0 4) := by
  refine (portsNew (freshC f) (fresh_ok f hF) C k hk pv qv rv node w hl hf).mono ?_
  intro e w' h
  unfold NewP at h
  rw [fresh_snd f hF] at h
  have hN : (freshC f).nodes = 2 := rfl
  rw [if_neg (by rw [hN]; omega)] at h
  exact h

theorem writeF (f : Int) (hF : 0 ≤ f ∧ f ≤ 8) (C : Nat → Nat) (k b ab : Nat) (hk : k ≠ 0) (hab : ab ≠ b) (pv qv rv : Value) (lv : Nat → Value) (st : List PSt) (dv : Value) (d : List UInt8) (w : World) (hf : Fin C w) (h : IsPorts w C k b ab (freshC f) pv qv rv 0 lv st)
    (hd : IsBytes w C dv d) (hs : d.length ≤ 4) :
    Calls Try.prog 13 #[.pointer (some ⟨b, 0, none⟩), .int .i64 0, .int .i64 2, dv] w fun e w' => e = .returned .nilIface ∧ ∃ C' lv', Fr (fun x => k ≤ x ∧ x < k + 100) C C' w w' ∧ IsPorts w' C' k b ab (freshC f) pv qv rv 0 lv' (putSt (freshC f) st 2 d) :=
  write_samp (freshC f) (fresh_good f hF) C k b ab hk hab pv qv rv 0 2 lv st dv d w hf h (show 2 < 4 by decide) rfl (show 0 < 2 by decide) rfl hd (show (d.length : Int) ≤ 4 by omega) rfl
theorem readF (f : Int) (hF : 0 ≤ f ∧ f ≤ 8) (C : Nat → Nat) (k b ab : Nat) (hk : k ≠ 0) (hab : ab ≠ b) (pv qv rv : Value) (lv : Nat → Value) (y : List UInt8) (a : Int) (hy : y.length ≤ 4) (w : World) (hf : Fin C w) (h : IsPorts w C k b ab (freshC f) pv qv rv 1 lv [⟨[], a⟩, ⟨[], a⟩, ⟨[], a⟩, ⟨[y], a⟩]) :
    Calls Try.prog 16 #[.pointer (some ⟨b, 0, none⟩), .int .i64 1, .int .i64 3] w fun e w' => ∃ v, e = .returned (.tuple #[v, .bool (decide (a ≤ f)), .nilIface]) ∧ IsBytes w' C v y ∧ Below w.heap.size w w' := by
  refine (read_samp (freshC f) (fresh_good f hF) C k b ab hk hab pv qv rv 1 3 lv _ w hf h (show 3 < 4 by decide) rfl (show 1 < 2 by decide) rfl (fun x hx => ?_) (by simp) rfl).mono ?_
  · have : x = y := by simpa using hx
    subst this
    omega
  · rintro e w' ⟨v, d, q, h1, rfl, h3, h4⟩
    have : y = d := by simpa using (List.cons.inj (show [y] = d :: q from h1)).1
    subst this
    exact ⟨v, rfl, h3, h4⟩
/-- What a walk over two objects carries besides: the tables' own block, and that nothing old has turned. -/
structure Ctx (w : World) (C : Nat → Nat) (W : World) (cb : Nat) (cs : List Value) : Prop where
  tot : Fr (· ≠ 0) (fun _ => 0) C w W
  fin : Fin C W
  blk : Bk W cb 28 cs
  col : C cb = 0
theorem Ctx.fr {w W W' : World} {C C' : Nat → Nat} {cb : Nat} {cs : List Value} {K : Nat → Prop} (h : Ctx w C W cb cs) (f : Fr K C C' W W') (hk : ¬ K 0) : Ctx w C' W' cb cs := by
  obtain ⟨b1, b2⟩ := f.block cb h.blk.lt (by rw [h.col]; exact hk)
  exact ⟨h.tot.trans (f.mono (fun x hx e => hk (e ▸ hx))), f.Fin h.fin, h.blk.same b1, b2.trans h.col⟩
def stA (y : List UInt8) (a : Int) : List PSt := [⟨[], a⟩, ⟨[], a⟩, ⟨[], a⟩, ⟨[y], a⟩]
theorem age_stA (y : List UInt8) (a : Int) : ageSt (stA y a) (stA y a).length = stA y (ageUp a) := by rfl
theorem put_two (f : Int) (x y : List UInt8) : putSt (freshC f) (putSt (freshC f) (st0 4) 2 x) 2 y = [⟨[], 0⟩, ⟨[], 0⟩, ⟨[y], 0⟩, ⟨[], 0⟩] := by rfl
theorem seal_two (f : Int) (y : List UInt8) : sealMs (freshC f) 0 [⟨[], 0⟩, ⟨[], 0⟩, ⟨[y], 0⟩, ⟨[], 0⟩] 4 = [⟨2, y⟩] := by rfl
theorem deliv_two (f : Int) (y : List UInt8) (hy : y.length ≤ 4) : delivR (freshC f) 1 0 (st0 4) [⟨2, y⟩] 1 = (stA y 0, 1) := by
  have h : msgB (freshC f) 0 ⟨2, y⟩ = true := by
    unfold msgB
    simp [freshC, wiredC, Cfg.port, Cfg.part]
    omega
  unfold delivR
  rw [show ([⟨2, y⟩] : List Msg).getD 0 default = ⟨2, y⟩ from rfl, if_pos h]
  rfl
theorem ages_le (y : List UInt8) (a : Int) (h : 0 ≤ a ∧ a ≤ 100) : ∀ i, i < (stA y a).length → 0 ≤ ((stA y a).getD i default).age ∧ ((stA y a).getD i default).age ≤ 100 := by
  intro i hi
  have hi' : i < 4 := hi
  rcases (by omega : i = 0 ∨ i = 1 ∨ i = 2 ∨ i = 3) with rfl | rfl | rfl | rfl <;> exact h

def FreshR (w : World) (cb : Nat) (cs : List Value) (b ab : Nat) (f : Int) (pv qv rv : Value) (y : List UInt8) (yv : Value) (a : Int) (W : World) : Prop :=
  ∃ C lv, Ctx w C W cb cs ∧ IsPorts W C 300 b ab (freshC f) pv qv rv 1 lv (stA y a) ∧ IsBytes W C yv y
theorem ageUp_min (k : Nat) : ageUp (min (k : Int) 9) = min ((k + 1 : Nat) : Int) 9 := by unfold ageUp; split <;> omega

set_option maxRecDepth 100000 in
set_option maxHeartbeats 4000000 in
theorem fresh_walk (x y : List UInt8) (xv yv : Value) (rounds fresh : Int) (hrn : I64 rounds) (hfr : I64 fresh) (w : World) (hx : IsBytes w (fun _ => 0) xv x) (hy : IsBytes w (fun _ => 0) yv y) :
    Calls Try.prog 7 #[xv, yv, .int .i64 rounds, .int .i64 fresh] w fun e w' => e = .returned (.bool true) ∧ Below w.heap.size w w' := by
  obtain ⟨xa, xc, rfl, hxc, hxm, -⟩ := id hx
  obtain ⟨ya, yc, rfl, hyc, hym, -⟩ := id hy
  unfold maxLen at hxm hym
  have hx0 : (0 : Int) ≤ (x.length : Int) := Int.natCast_nonneg _
  have hy0 : (0 : Int) ≤ (y.length : Int) := Int.natCast_nonneg _
  go_enter Try.func7, Try.ntmps7
  go_wp2_with fail
  refine (awake13 _).mono ?_
  rintro e w1 ⟨rfl, V1⟩
  by_cases hx4 : (4 : Int) < (x.length : Int)
  · go_wp2
    go_ret
    exact ⟨rfl, V1⟩
  by_cases hy4 : (4 : Int) < (y.length : Int)
  · go_wp2
    go_ret
    exact ⟨rfl, V1⟩
  go_wp2_with fail
  refine (law13WiredB _).mono ?_
  rintro e w2 ⟨pb, qb, rb, rfl, V2, hle, hp, hq, hr⟩
  have hP0 := hq.cell_ 23 rfl
  have HP := hid_ hp
  have HQ := hid_ hq
  have HR := hid_ hr
  clear hp hr
  rw [show wiredC.v (.slice (some ⟨pb, 0, none⟩) 2 2) (.slice (some ⟨qb, 0, none⟩) 4 4) (.slice (some ⟨rb, 0, none⟩) 2 2) = .agg #[.int .i64 2, .int .i64 0, .int .i64 1000, .int .i64 500, .int .i64 0, .int .i64 0, .int .i64 0, .int .i64 98, .slice (some ⟨pb, 0, none⟩) 2 2, .slice (some ⟨qb, 0, none⟩) 4 4, .slice (some ⟨rb, 0, none⟩) 2 2] from rfl]
  go_upto_region 6 with (fail)
  refine gen_world (fun W => Below w2.heap.size w2 W ∧ Bk W w2.heap.size 28 [.int .i64 2, .int .i64 0, .int .i64 1000, .int .i64 500, .int .i64 0, .int .i64 0, .int .i64 0, .int .i64 98, .slice (some ⟨pb, 0, none⟩) 2 2, .slice (some ⟨qb, 0, none⟩) 4 4, .slice (some ⟨rb, 0, none⟩) 2 2]) ⟨(Below.refl _ _).alloc (Nat.le_refl _) _, bk_new' _ _ _ _ rfl⟩ ?_
  rintro W3 ⟨V3, B3⟩
  have q3 := hq.same (V3.block _ hq.lt)
  have b9 := B3.cell_ 9 rfl
  have p5 := q3.cell_ 23 rfl
  have zf := fun i => q3.frozen i
  have HQ3 := hid_ q3
  clear hP0 hq q3
  go_upto_region 8 with (fail)
  have hF := rem_small fresh 9 (by omega) (by omega)
  have hR := rem_small rounds 12 (by omega) (by omega)
  generalize wrap64 ((IntKind.u64.wrap fresh).tmod 9) = f at *
  generalize wrap64 ((IntKind.u64.wrap rounds).tmod 12) = r at *
  obtain ⟨l1, l2, l3, l4, l5⟩ := hle
  have hqW := HQ3.out.set 23 (.int .i64 f)
  rw [fresh_cells f] at hqW
  have hne : qb ≠ w2.heap.size := fun h => by have := HQ.out.lt; omega
  refine gen_world (fun W => Below w1.heap.size w1 W ∧ Bk W w2.heap.size 28 [.int .i64 2, .int .i64 0, .int .i64 1000, .int .i64 500, .int .i64 0, .int .i64 0, .int .i64 0, .int .i64 98, .slice (some ⟨pb, 0, none⟩) 2 2, .slice (some ⟨qb, 0, none⟩) 4 4, .slice (some ⟨rb, 0, none⟩) 2 2] ∧ Lists W (fun _ => 0) (freshC f) (.slice (some ⟨pb, 0, none⟩) 2 2) (.slice (some ⟨qb, 0, none⟩) 4 4) (.slice (some ⟨rb, 0, none⟩) 2 2)) ⟨?_, ?_, ?_⟩ ?_
  · exact ((V2.trans (V3.mono V2.size))).setCell l2 _
  · exact B3.far (fun h => hne h.symm) _
  · exact ⟨((HP.out.same (V3.block _ HP.out.lt)).far l4 _).rd rfl rfl (by unfold maxLen; omega), hqW.rd rfl rfl (by unfold maxLen; omega), ((HR.out.same (V3.block _ HR.out.lt)).far l5 _).rd rfl rfl (by unfold maxLen; omega)⟩
  rintro W4 ⟨V4, B4, L4⟩
  have HF := hid_ hF
  have HRR := hid_ hR
  clear hF hR hqW hne l1 l2 l3 l4 l5 HQ3 B3 V3 V2 b9 p5 zf HP HQ HR
  have d4_0 := B4.cell_ 0 rfl
  have d4_1 := B4.cell_ 1 rfl
  have d4_2 := B4.cell_ 2 rfl
  have d4_3 := B4.cell_ 3 rfl
  have d4_4 := B4.cell_ 4 rfl
  have d4_5 := B4.cell_ 5 rfl
  have d4_6 := B4.cell_ 6 rfl
  have d4_7 := B4.cell_ 7 rfl
  have d4_8 := B4.cell_ 8 rfl
  have d4_9 := B4.cell_ 9 rfl
  have d4_10 := B4.cell_ 10 rfl
  go_wp2_with fail
  refine (newFresh f (by have := HF.out; omega) (fun _ => 0) 100 (by omega) 0 (.inl rfl) (.slice (some ⟨pb, 0, none⟩) 2 2) (.slice (some ⟨qb, 0, none⟩) 4 4) (.slice (some ⟨rb, 0, none⟩) 2 2) _ L4 (fun _ _ => rfl)).mono ?_
  rintro e w5 ⟨b0, ab0, C5, rfl, n0, hb0, hab0, f5, p5⟩
  have c5 : C5 w2.heap.size = 0 := (f5.block _ B4.lt (fun h => h)).2
  have F5 : Fin C5 w5 := f5.Fin (fun _ _ => rfl)
  have B5 := B4.same (f5.block _ B4.lt (fun h => h)).1
  have L5 := L4.fr f5 (fun h => h)
  clear d4_0 d4_1 d4_2 d4_3 d4_4 d4_5 d4_6 d4_7 d4_8 d4_9 d4_10 hb0 hab0
  have d5_0 := B5.cell_ 0 rfl
  have d5_1 := B5.cell_ 1 rfl
  have d5_2 := B5.cell_ 2 rfl
  have d5_3 := B5.cell_ 3 rfl
  have d5_4 := B5.cell_ 4 rfl
  have d5_5 := B5.cell_ 5 rfl
  have d5_6 := B5.cell_ 6 rfl
  have d5_7 := B5.cell_ 7 rfl
  have d5_8 := B5.cell_ 8 rfl
  have d5_9 := B5.cell_ 9 rfl
  have d5_10 := B5.cell_ 10 rfl
  go_wp2_with fail
  refine (newFresh f (by have := HF.out; omega) C5 300 (by omega) 1 (.inr rfl) (.slice (some ⟨pb, 0, none⟩) 2 2) (.slice (some ⟨qb, 0, none⟩) 4 4) (.slice (some ⟨rb, 0, none⟩) 2 2) _ L5 F5).mono ?_
  rintro e w6 ⟨b1, ab1, C6, rfl, n1, hb1, hab1, f6, q6⟩
  have p6 := p5.fr f6 (fun x h => h.elim) (by simp [st0])
  have F6 := f6.Fin F5
  have B6 := B5.same (f6.block _ B5.lt (fun h => h)).1
  have T6 := ((Fr.of_below (C := fun _ => 0) V1 (fun _ => False)).trans (Fr.of_below (C := fun _ => 0) V4 (fun _ => False))).trans (f5.trans f6)
  have c6 : C6 w2.heap.size = 0 := (f6.block _ B5.lt (fun h => h)).2.trans c5
  have L6 := L5.fr f6 (fun h => h)
  clear d5_0 d5_1 d5_2 d5_3 d5_4 d5_5 d5_6 d5_7 d5_8 d5_9 d5_10 hb1 hab1 B4 B5 L4 L5 F5 f5 f6 p5 V1 V4
  have lx : x.length ≤ 4 := by omega
  have ly : y.length ≤ 4 := by omega
  have X6 := hx.fr T6 (fun h => h)
  have Y6 := hy.fr T6 (fun h => h)
  have K6 : Ctx w C6 w6 w2.heap.size [.int .i64 2, .int .i64 0, .int .i64 1000, .int .i64 500, .int .i64 0, .int .i64 0, .int .i64 0, .int .i64 98, .slice (some ⟨pb, 0, none⟩) 2 2, .slice (some ⟨qb, 0, none⟩) 4 4, .slice (some ⟨rb, 0, none⟩) 2 2] := ⟨T6.mono (fun _ h => h.elim), F6, B6, c6⟩
  obtain ⟨xb, xo, xp, W7, hr7, x7, hb7, hge7, hraw7⟩ := copy_of (P := Try.prog) w6 F6 Try.underlying40 info_u8' X6.src (by unfold maxLen; omega) (by omega)
  have HR7 := hid_ hr7
  have g7 := Fr.of_below (C := C6) hb7 (fun _ => False)
  have p7 := p6.fr g7 (fun x h => h.elim) (by simp [st0])
  have q7 := q6.fr g7 (fun x h => h.elim) (by simp [st0])
  have Y7 := Y6.fr g7 (fun h => h)
  have K7 := K6.fr g7 (fun h => h)
  clear hr7 hraw7 hge7 p6 q6 F6 B6 L6 X6 Y6 T6 K6 c5 c6 g7 hb7
  go_wp2_with (refine wpList_append_g HR7.out (by rfl) (by rfl) (by rfl) (by rfl) ?_)
  clear HR7
  refine (writeF f (by have := HF.out; omega) C6 100 b0 ab0 (by omega) n0 _ _ _ noLv (st0 4) _ x W7 K7.fin p7 x7 lx).mono ?_
  rintro e w8 ⟨rfl, C8, lv8, f8, p8⟩
  have q8 := q7.fr f8 (fun x h => by omega) (by simp [st0])
  have K8 := K7.fr f8 (by omega)
  have Y8 := Y7.fr f8 (by omega)
  clear p7 q7 K7 Y7 f8 x7
  obtain ⟨zb, zo, zp, W9, hr9, y9, hb9, hge9, hraw9⟩ := copy_of (P := Try.prog) w8 K8.fin Try.underlying40 info_u8' Y8.src (by unfold maxLen; omega) (by omega)
  have HR9 := hid_ hr9
  have g9 := Fr.of_below (C := C8) hb9 (fun _ => False)
  have p9 := p8.fr g9 (fun x h => h.elim) (by simp [st0, putSt])
  have q9 := q8.fr g9 (fun x h => h.elim) (by simp [st0])
  have Y9 := Y8.fr g9 (fun h => h)
  have K9 := K8.fr g9 (fun h => h)
  clear hr9 hraw9 hge9 p8 q8 K8 Y8 g9 hb9
  go_wp2_with (refine wpList_append_g HR9.out (by rfl) (by rfl) (by rfl) (by rfl) ?_)
  clear HR9
  refine (writeF f (by have := HF.out; omega) C8 100 b0 ab0 (by omega) n0 _ _ _ lv8 _ _ y W9 K9.fin p9 y9 ly).mono ?_
  rintro e w10 ⟨rfl, C10, lv10, f10, p10⟩
  have q10 := q9.fr f10 (fun x h => by omega) (by simp [st0])
  have K10 := K9.fr f10 (by omega)
  have Y10 := Y9.fr f10 (by omega)
  clear p9 q9 K9 Y9 f10 y9
  rw [put_two f x y] at p10
  go_wp2_with fail
  refine (portsSeal (freshC f) (fresh_good f (by have := HF.out; omega)) C10 100 500 b0 ab0 (by omega) ⟨by omega, by omega⟩ n0 _ _ _ 0 lv10 _ _ K10.fin p10 (by intro i hi; have hi' : i < 4 := hi; rcases (by omega : i = 0 ∨ i = 1 ∨ i = 2 ∨ i = 3) with rfl | rfl | rfl | rfl <;> simp)).mono ?_
  rintro e w12 ⟨mv, cs, C12, lv12, rfl, f12, -, s12, m12⟩
  have q12 := q10.fr f12 (fun x h => by unfold PK at h; omega) (by simp [st0])
  have K12 := K10.fr f12 (by unfold PK; omega)
  have Y12 := Y10.fr f12 (by unfold PK; omega)
  rw [show sealMs (freshC f) 0 ([⟨[], 0⟩, ⟨[], 0⟩, ⟨[y], 0⟩, ⟨[], 0⟩] : List PSt) ([⟨[], 0⟩, ⟨[], 0⟩, ⟨[y], 0⟩, ⟨[], 0⟩] : List PSt).length = [⟨2, y⟩] from seal_two f y] at s12 m12
  obtain ⟨ma, mc, rfl, hmc, hmm, -⟩ := s12.form
  clear p10 q10 K10 Y10 f12
  go_wp2_with fail
  refine (portsDeliver (freshC f) (fresh_good f (by have := HF.out; omega)) C12 300 500 b1 ab1 (by omega) (by omega) n1 _ _ _ 1 0 noLv (st0 4) _ cs [⟨2, y⟩] _ K12.fin q12 s12.rdk m12 (by simp)).mono ?_
  rintro e w14 ⟨C14, lv14, rfl, f14, q14⟩
  rw [show delivR (freshC f) 1 0 (st0 4) [⟨2, y⟩] ([⟨2, y⟩] : List Msg).length = (stA y 0, 1) from deliv_two f y ly] at q14 ⊢
  have K14 := K12.fr f14 (by omega)
  have Y14 := Y12.fr f14 (by omega)
  clear q12 K12 Y12 f14 s12 m12
  have R0 : FreshR w w2.heap.size _ b1 ab1 f _ _ _ y (.slice ya y.length yc) (min ((0 : Nat) : Int) 9) w14 := ⟨C14, lv14, K14, q14, Y14⟩
  have HR0 := hid_ R0
  clear R0 K14 q14 Y14
  obtain ⟨r, rfl⟩ : ∃ n : Nat, r = (n : Int) := ⟨r.toNat, by have := HRR.out; omega⟩
  have hr11 : r < 12 := by have := HRR.out; omega
  go_upto_block 1 with (fail)
  go_loopw [14] (fun i wr => ∃ k : Nat, k ≤ r ∧ i = .int .i64 k ∧ FreshR w w2.heap.size [.int .i64 2, .int .i64 0, .int .i64 1000, .int .i64 500, .int .i64 0, .int .i64 0, .int .i64 0, .int .i64 98, .slice (some ⟨pb, 0, none⟩) 2 2, .slice (some ⟨qb, 0, none⟩) 4 4, .slice (some ⟨rb, 0, none⟩) 2 2] b1 ab1 f (.slice (some ⟨pb, 0, none⟩) 2 2) (.slice (some ⟨qb, 0, none⟩) 4 4) (.slice (some ⟨rb, 0, none⟩) 2 2) y (.slice ya y.length yc) (min (k : Int) 9) wr) (fun i _ => r - (intOf i).toNat)
  case atStart => exact ⟨0, Nat.zero_le _, rfl, HR0.out⟩
  case round =>
    obtain ⟨k, hk, rfl, hK⟩ := hrel
    clear HR0
    by_cases hlt : k < r
    · obtain ⟨C, lv, K, q, Y⟩ := hK
      go_wp2_with fail
      refine (portsAge (freshC f) (fresh_good f (by have := HF.out; omega)) C 300 b1 ab1 (by omega) n1 _ _ _ 1 lv _ _ K.fin q (ages_le y _ (by omega))).mono ?_
      rintro e W' ⟨rfl, f', q'⟩
      rw [age_stA, ageUp_min] at q'
      have K' := K.fr f' (by omega)
      have Y' := Y.fr f' (by omega)
      have R' : FreshR w w2.heap.size _ b1 ab1 f _ _ _ y (.slice ya y.length yc) (min ((k + 1 : Nat) : Int) 9) W' := ⟨C, lv, K', q', Y'⟩
      have HR := hid_ R'
      clear R' K q Y K' q' Y' f'
      go_wp2_with fail
      go_roundw
      case rel => exact ⟨k + 1, by omega, by go_num, HR.out⟩
      case measure => simp [intOf]; omega
    · obtain rfl : k = r := by omega
      have HR := hid_ hK
      clear hK hlt hk
      have hF8 := HF.out
      have hdec : decide (min (k : Int) 9 ≤ f) = decide ((k : Int) ≤ f) := by
        rw [decide_eq_decide]; omega
      have HDEC := hid_ hdec
      clear hdec
      go_upto_block 3 with (fail)
      go_loopw [15] (fun i wr => ∃ m : Nat, m ≤ 2 ∧ i = .int .i64 m ∧ FreshR w w2.heap.size [.int .i64 2, .int .i64 0, .int .i64 1000, .int .i64 500, .int .i64 0, .int .i64 0, .int .i64 0, .int .i64 98, .slice (some ⟨pb, 0, none⟩) 2 2, .slice (some ⟨qb, 0, none⟩) 4 4, .slice (some ⟨rb, 0, none⟩) 2 2] b1 ab1 f (.slice (some ⟨pb, 0, none⟩) 2 2) (.slice (some ⟨qb, 0, none⟩) 4 4) (.slice (some ⟨rb, 0, none⟩) 2 2) y (.slice ya y.length yc) (min (k : Int) 9) wr) (fun i _ => 2 - (intOf i).toNat)
      case atStart => exact ⟨0, Nat.zero_le _, rfl, HR.out⟩
      case round =>
        obtain ⟨m, hm, rfl, hK⟩ := hrel
        clear HR
        by_cases hlt : m < 2
        · obtain ⟨C, lv, K, q, Y⟩ := hK
          go_wp2_with fail
          refine (readF f (by omega) C 300 b1 ab1 (by omega) n1 _ _ _ lv y _ ly _ K.fin q).mono ?_
          rintro e W' ⟨zv, rfl, hz, hb⟩
          rw [HDEC.out]
          have g := Fr.of_below (C := C) hb (fun _ => False)
          have K' := K.fr g (fun h => h)
          have Y' := Y.fr g (fun h => h)
          have q' := q.fr g (fun x h => h.elim) (by simp [stA])
          have R' : FreshR w w2.heap.size _ b1 ab1 f _ _ _ y (.slice ya y.length yc) (min (k : Int) 9) W' := ⟨C, lv, K', q', Y'⟩
          have HR := hid_ R'
          have s1 := bytes_str hz
          have s2 := bytes_str Y'
          have d9 := K'.blk.cell_ 9 rfl
          obtain ⟨fb, fo, e', hfc⟩ := (show Rd W' C (.slice (some ⟨qb, 0, none⟩) 4 4) 6 4 _ from q'.lists.ports).at (i := 0) (by omega)
          obtain ⟨rfl, rfl⟩ : qb = fb ∧ 0 = fo := by injection e' with e'; injection e' with e1 e2; exact ⟨e1, e2⟩
          have d5 : W'.cell? ⟨qb, 23, none⟩ = some (.int .i64 f) := by
            have := hfc 23 (.int .i64 f) rfl
            rwa [Nat.zero_add] at this
          clear R' K q Y K' q' Y' g hz hb hfc e'
          by_cases hkf : (k : Int) ≤ f
          · go_wp2_with fail
            go_roundw
            case rel => exact ⟨m + 1, by omega, by go_num, HR.out⟩
            case measure => simp [intOf]; omega
          · go_wp2_with fail
            go_roundw
            case rel => exact ⟨m + 1, by omega, by go_num, HR.out⟩
            case measure => simp [intOf]; omega
        · obtain ⟨C, lv, K, _, _⟩ := hK
          have hfin := K.tot.below (fun b _ h => h rfl)
          clear K
          go_wp2
          go_ret
          exact ⟨rfl, hfin⟩
end Go.Proofs.Ytogfbeibpfdleaa
