/- PaceTurns: for every table, beginning and comings the law returns true, and leaves memory as it was. No condition. -/
import Derived.Test.YtnmhfdkmiblknaaLieP
import Derived.Test.YtnmhfdkmiblknaaRPace3
import Derived.Test.YtnmhfdkmiblknaaPaceX
import Derived.BigQuiet
import Derived.Deep.RegionHeld3
import Derived.Deep.QuietTactic
set_option linter.unusedSimpArgs false
set_option linter.unusedVariables false
namespace Go.Proofs.Ytnmhfdkmiblknaa
open Go.RowKit Go.Maps

def heardC (l : List (Int × Int)) : List Value := l.flatMap fun x => [.int .i64 x.1, .int .i64 x.2]
/-- The two boxes of the law. -/
structure TC (w : World) (c : Cfg) (pv qv rv : Value) (me since rate : Int) (cold : Bool) (W : World) : Prop where
  V : Below w.heap.size w W
  K : Bk W w.heap.size 26 (c.cells pv qv rv)
  U : Bk W (w.heap.size + 1) 45 [.int .i64 me, .int .i64 since, .int .i64 rate, .bool cold]
section
variable {w W W2 : World} {c : Cfg} {pv qv rv : Value} {me since rate : Int} {cold : Bool}
theorem TC.below (h : TC w c pv qv rv me since rate cold W) (b : Below W.heap.size W W2) : TC w c pv qv rv me since rate cold W2 :=
  ⟨below_then h.V b, h.K.same (b.block _ h.K.lt), h.U.same (b.block _ h.U.lt)⟩
theorem TC.who (h : TC w c pv qv rv me since rate cold W) : W.cell? ⟨w.heap.size + 1, 0, none⟩ = some (.int .i64 me) ∧ W.cell? ⟨w.heap.size + 1, 1, none⟩ = some (.int .i64 since) ∧ W.cell? ⟨w.heap.size + 1, 2, none⟩ = some (.int .i64 rate) ∧ W.cell? ⟨w.heap.size + 1, 3, none⟩ = some (.bool cold) :=
  ⟨h.U.cell_ 0 rfl, h.U.cell_ 1 rfl, h.U.cell_ 2 rfl, h.U.cell_ 3 rfl⟩
theorem TC.cells (h : TC w c pv qv rv me since rate cold W) : W.cell? ⟨w.heap.size, 0, none⟩ = some (.int .i64 c.nodes) ∧ W.cell? ⟨w.heap.size, 1, none⟩ = some (.int .i64 c.faulty) ∧ W.cell? ⟨w.heap.size, 2, none⟩ = some (.int .i64 c.slot) ∧ W.cell? ⟨w.heap.size, 3, none⟩ = some (.int .i64 c.gap) ∧ W.cell? ⟨w.heap.size, 4, none⟩ = some (.int .i64 c.rho) ∧ W.cell? ⟨w.heap.size, 5, none⟩ = some (.int .i64 c.dmin) ∧ W.cell? ⟨w.heap.size, 6, none⟩ = some (.int .i64 c.dmax) ∧ W.cell? ⟨w.heap.size, 7, none⟩ = some (.int .i64 c.margin) ∧ W.cell? ⟨w.heap.size, 8, none⟩ = some pv ∧ W.cell? ⟨w.heap.size, 9, none⟩ = some qv ∧ W.cell? ⟨w.heap.size, 10, none⟩ = some rv ∧ W.cell? ⟨w.heap.size + 1, 0, none⟩ = some (.int .i64 me) ∧ W.cell? ⟨w.heap.size + 1, 1, none⟩ = some (.int .i64 since) ∧ W.cell? ⟨w.heap.size + 1, 2, none⟩ = some (.int .i64 rate) ∧ W.cell? ⟨w.heap.size + 1, 3, none⟩ = some (.bool cold) :=
  ⟨h.K.cell_ 0 rfl, h.K.cell_ 1 rfl, h.K.cell_ 2 rfl, h.K.cell_ 3 rfl, h.K.cell_ 4 rfl, h.K.cell_ 5 rfl, h.K.cell_ 6 rfl, h.K.cell_ 7 rfl, h.K.cell_ 8 rfl, h.K.cell_ 9 rfl, h.K.cell_ 10 rfl, h.U.cell_ 0 rfl, h.U.cell_ 1 rfl, h.U.cell_ 2 rfl, h.U.cell_ 3 rfl⟩
end

set_option maxRecDepth 100000 in
set_option maxHeartbeats 16000000 in
theorem turns_a (c : Cfg) (hok : c.ok) (pv qv rv : Value) (me since rate : Int) (cold : Bool) (l : List (Int × Int)) (la : Option Addr) (lc : Nat) (w : World) (hl : Lists w (fun _ => 0) c pv qv rv) (hh : Rd w (fun _ => 0) (.slice la l.length lc) 2 l.length (heardC l)) (hL : longB c = true) :
    Calls Try.prog 4 #[c.v pv qv rv, .agg #[.int .i64 me, .int .i64 since, .int .i64 rate, .bool cold], .slice la l.length lc] w fun e w' => e = .returned (.bool true) ∧ Below w.heap.size w w' := by
  have HL := hid_ hl
  have HH := hid_ hh
  have HOK := hid_ hok
  have HT0 := hid_ (show TC w c pv qv rv me since rate cold ((w.alloc (.cells (c.cells pv qv rv).toArray 26)).alloc (.cells #[.int .i64 me, .int .i64 since, .int .i64 rate, .bool cold] 45)) from
    ⟨((Below.refl _ w).alloc (Nat.le_refl _) _).alloc (by simp) _, (Bk.new _ _ _).alloc _, by have := Bk.new (w.alloc (.cells (c.cells pv qv rv).toArray 26)) 45 [.int .i64 me, .int .i64 since, .int .i64 rate, .bool cold]; rw [World.size_alloc] at this; exact this⟩)
  clear hl hh hok
  unfold Cfg.v
  go_enter Try.func4, Try.ntmps4
  go_upto_region 1 with fail
  refine gen_world (fun W => TC w c pv qv rv me since rate cold W) HT0.out ?_
  rintro W0 T0
  have HTC0 := hid_ T0
  clear T0 HT0
  go_wp2_with fail
  refine (awake11 W0).mono ?_
  rintro e w1 ⟨rfl, V1⟩
  have HTC1 := hid_ (HTC0.out.below V1)
  clear V1 HTC0
  have HLG := hid_ (law6Long c (fun _ => 0) pv qv rv w1 (HL.out.fr (Fr.of_below HTC1.out.V (fun _ => False)) (fun h => h)))
  unfold Cfg.v at HLG
  obtain ⟨c0, c1, c2, c3, c4, c5, c6, c7, c8, c9, c10, u0, u1, u2, u3⟩ := HTC1.out.cells
  rw [hL] at HLG
  go_wp2_with fail
  refine HLG.out.mono ?_
  rintro e w2 ⟨rfl, V2⟩
  have HTC2 := hid_ (HTC1.out.below V2)
  clear V2
  go_wp2
  go_ret
  exact ⟨rfl, HTC2.out.V⟩

set_option maxRecDepth 100000 in
set_option maxHeartbeats 16000000 in
theorem turns_b (c : Cfg) (hok : c.ok) (pv qv rv : Value) (me since rate : Int) (cold : Bool) (l : List (Int × Int)) (la : Option Addr) (lc : Nat) (w : World) (hl : Lists w (fun _ => 0) c pv qv rv) (hh : Rd w (fun _ => 0) (.slice la l.length lc) 2 l.length (heardC l)) (hL : longB c = false) (hno : (sndE c).isSome) :
    Calls Try.prog 4 #[c.v pv qv rv, .agg #[.int .i64 me, .int .i64 since, .int .i64 rate, .bool cold], .slice la l.length lc] w fun e w' => e = .returned (.bool true) ∧ Below w.heap.size w w' := by
  have HL := hid_ hl
  have HH := hid_ hh
  have HOK := hid_ hok
  have HT0 := hid_ (show TC w c pv qv rv me since rate cold ((w.alloc (.cells (c.cells pv qv rv).toArray 26)).alloc (.cells #[.int .i64 me, .int .i64 since, .int .i64 rate, .bool cold] 45)) from
    ⟨((Below.refl _ w).alloc (Nat.le_refl _) _).alloc (by simp) _, (Bk.new _ _ _).alloc _, by have := Bk.new (w.alloc (.cells (c.cells pv qv rv).toArray 26)) 45 [.int .i64 me, .int .i64 since, .int .i64 rate, .bool cold]; rw [World.size_alloc] at this; exact this⟩)
  clear hl hh hok
  unfold Cfg.v
  go_enter Try.func4, Try.ntmps4
  go_upto_region 1 with fail
  refine gen_world (fun W => TC w c pv qv rv me since rate cold W) HT0.out ?_
  rintro W0 T0
  have HTC0 := hid_ T0
  clear T0 HT0
  go_wp2_with fail
  refine (awake11 W0).mono ?_
  rintro e w1 ⟨rfl, V1⟩
  have HTC1 := hid_ (HTC0.out.below V1)
  clear V1 HTC0
  have HLG := hid_ (law6Long c (fun _ => 0) pv qv rv w1 (HL.out.fr (Fr.of_below HTC1.out.V (fun _ => False)) (fun h => h)))
  unfold Cfg.v at HLG
  obtain ⟨c0, c1, c2, c3, c4, c5, c6, c7, c8, c9, c10, u0, u1, u2, u3⟩ := HTC1.out.cells
  have HNW := hid_ (fun pv' qv' rv' W (hl : Lists W (fun _ => 0) c pv' qv' rv') => paceNew_no c HOK.out pv' qv' rv' me cold since rate hL (fun _ => 0) W hl (fun _ _ => rfl) (.inl hno))
  rw [show paceT c me since rate = refT (sndE c) by unfold paceT; rw [if_pos hno]] at HNW
  unfold Cfg.v at HNW
  have HNE := hid_ (show refT (sndE c) ≠ [] by obtain ⟨x, hx⟩ := Option.isSome_iff_exists.1 hno; rw [hx]; exact refT_ne x)
  obtain ⟨t, ht⟩ : ∃ t, refT (sndE c) = t := ⟨_, rfl⟩
  rw [ht] at HNW HNE
  have HTT := hid_ ht
  clear hno ht
  rw [hL] at HLG
  have HLL := hid_ hL
  go_wp2_with fail
  refine HLG.out.mono ?_
  rintro e w2 ⟨rfl, V2⟩
  have HTC2 := hid_ (HTC1.out.below V2)
  clear c0 c1 c2 c3 c4 c5 c6 c7 c8 c9 c10 u0 u1 u2 u3 V2 HTC1 HLG
  have HLS2 := hid_ (HL.out.fr (Fr.of_below HTC2.out.V (fun _ => False)) (fun h => h))
  go_upto_region 5 with fail
  have HCP := hid_ (refCopied c (fun _ => 0) pv qv rv w2.drew (HLS2.out.fr (Fr.of_below ((Below.refl _ w2).drew) (fun _ => False)) (fun h => h)) (fun _ _ => rfl) HLL.out)
  unfold Cfg.v at HCP
  have HTD := hid_ (HTC2.out.below ((Below.refl _ w2).drew))
  go_region_held3 (fun w' => w'.cell? ⟨w.heap.size, 0, none⟩ = some (.int .i64 c.nodes) ∧ w'.cell? ⟨w.heap.size, 1, none⟩ = some (.int .i64 c.faulty) ∧ w'.cell? ⟨w.heap.size, 2, none⟩ = some (.int .i64 c.slot) ∧ w'.cell? ⟨w.heap.size, 3, none⟩ = some (.int .i64 c.gap) ∧ w'.cell? ⟨w.heap.size, 4, none⟩ = some (.int .i64 c.rho) ∧ w'.cell? ⟨w.heap.size, 5, none⟩ = some (.int .i64 c.dmin) ∧ w'.cell? ⟨w.heap.size, 6, none⟩ = some (.int .i64 c.dmax) ∧ w'.cell? ⟨w.heap.size, 7, none⟩ = some (.int .i64 c.margin) ∧ w'.cell? ⟨w.heap.size, 8, none⟩ = some pv ∧ w'.cell? ⟨w.heap.size, 9, none⟩ = some qv ∧ w'.cell? ⟨w.heap.size, 10, none⟩ = some rv ∧ w'.cell? ⟨w.heap.size + 1, 0, none⟩ = some (.int .i64 me) ∧ w'.cell? ⟨w.heap.size + 1, 1, none⟩ = some (.int .i64 since) ∧ w'.cell? ⟨w.heap.size + 1, 2, none⟩ = some (.int .i64 rate) ∧ w'.cell? ⟨w.heap.size + 1, 3, none⟩ = some (.bool cold)) (first | exact TC.cells HTF.out | exact TC.cells HTE.out | exact TC.cells HTD.out) (first | ((with_reducible refine HCP.out.mono ?_); rintro e w3 ⟨pv', qv', rv', rfl, V3, HL3⟩; have HTE := hid_ (HTD.out.below V3); have HLS3 := hid_ HL3; clear HL3 V3) | ((with_reducible refine (HNW.out pv' qv' rv' _ HLS3.out).mono ?_); rintro e w4 ⟨ev, rfl, V4, R4⟩; have HTF := hid_ (HTE.out.below V4); have HRD := hid_ R4; clear V4 R4))
  all_goals
    obtain ⟨c0, c1, c2, c3, c4, c5, c6, c7, c8, c9, c10, u0, u1, u2, u3⟩ := HTF.out.cells
    have HCK := hid_ (refCheck6 c HOK.out (fun _ => 0) pv qv rv w4 (HL.out.fr (Fr.of_below HTF.out.V (fun _ => False)) (fun h => h)) (fun _ _ => rfl))
    unfold Cfg.v at HCK
    rw [HTT.out] at HCK
    clear HCP HNW HTD HTE HTC2 HLS3 HLS2
    go_wp2_with fail
    refine HCK.out.mono ?_
    rintro e w5 ⟨rfl, V5⟩
    have HTG := hid_ (HTF.out.below V5)
    clear c0 c1 c2 c3 c4 c5 c6 c7 c8 c9 c10 u0 u1 u2 u3 HCK
    obtain ⟨c0, c1, c2, c3, c4, c5, c6, c7, c8, c9, c10, u0, u1, u2, u3⟩ := HTG.out.cells
    have hne := ne_empty HNE.out
    have HR5 := hid_ (HRD.out w5 V5)
    clear V5
    go_wp2_with fail
    refine HR5.out.mono ?_
    rintro e w6 ⟨rfl, V6⟩
    have HTI := hid_ (HTG.out.below V6)
    clear V6 c0 c1 c2 c3 c4 c5 c6 c7 c8 c9 c10 u0 u1 u2 u3 HR5
    go_wp2_with fail
    refine (paceTurn_nil w6).mono ?_
    rintro e w7 ⟨rfl, rfl⟩
    have HR1 := hid_ (says_num w7 1 (by omega) w7 (Below.refl _ _))
    go_wp2_with fail
    refine HR1.out.mono ?_
    rintro e w8 ⟨rfl, V8⟩
    have HTJ := hid_ (HTI.out.below V8)
    have HE1 := hid_ (refE_any 1 (by omega) (by omega) w8)
    clear V8 HR1
    go_wp2_with fail
    refine HE1.out.mono ?_
    rintro e w9 ⟨rfl, V9⟩
    have HTK := hid_ (HTJ.out.below V9)
    clear V9 HE1
    go_wp2_with fail
    refine (paceHear_nil 0 0 w9).mono ?_
    rintro e w10 ⟨rfl, rfl⟩
    go_wp2_with fail
    refine (paceReal_nil 0 w10).mono ?_
    rintro e w11 ⟨rfl, rfl⟩
    go_wp2_with fail
    refine (paceLocal_nil 0 w11).mono ?_
    rintro e w12 ⟨rfl, rfl⟩
    go_wp2
    go_ret
    exact ⟨by simp, HTK.out.V⟩

set_option maxRecDepth 100000 in
set_option maxHeartbeats 16000000 in
theorem turns_c (c : Cfg) (hok : c.ok) (pv qv rv : Value) (me since rate : Int) (cold : Bool) (l : List (Int × Int)) (la : Option Addr) (lc : Nat) (w : World) (hl : Lists w (fun _ => 0) c pv qv rv) (hh : Rd w (fun _ => 0) (.slice la l.length lc) 2 l.length (heardC l)) (hL : longB c = false) (hs : sndE c = none) (hb : paceBad c me since rate) :
    Calls Try.prog 4 #[c.v pv qv rv, .agg #[.int .i64 me, .int .i64 since, .int .i64 rate, .bool cold], .slice la l.length lc] w fun e w' => e = .returned (.bool true) ∧ Below w.heap.size w w' := by
  have HL := hid_ hl
  have HH := hid_ hh
  have HOK := hid_ hok
  have HT0 := hid_ (show TC w c pv qv rv me since rate cold ((w.alloc (.cells (c.cells pv qv rv).toArray 26)).alloc (.cells #[.int .i64 me, .int .i64 since, .int .i64 rate, .bool cold] 45)) from
    ⟨((Below.refl _ w).alloc (Nat.le_refl _) _).alloc (by simp) _, (Bk.new _ _ _).alloc _, by have := Bk.new (w.alloc (.cells (c.cells pv qv rv).toArray 26)) 45 [.int .i64 me, .int .i64 since, .int .i64 rate, .bool cold]; rw [World.size_alloc] at this; exact this⟩)
  clear hl hh hok
  unfold Cfg.v
  go_enter Try.func4, Try.ntmps4
  go_upto_region 1 with fail
  refine gen_world (fun W => TC w c pv qv rv me since rate cold W) HT0.out ?_
  rintro W0 T0
  have HTC0 := hid_ T0
  clear T0 HT0
  go_wp2_with fail
  refine (awake11 W0).mono ?_
  rintro e w1 ⟨rfl, V1⟩
  have HTC1 := hid_ (HTC0.out.below V1)
  clear V1 HTC0
  have HLG := hid_ (law6Long c (fun _ => 0) pv qv rv w1 (HL.out.fr (Fr.of_below HTC1.out.V (fun _ => False)) (fun h => h)))
  unfold Cfg.v at HLG
  obtain ⟨c0, c1, c2, c3, c4, c5, c6, c7, c8, c9, c10, u0, u1, u2, u3⟩ := HTC1.out.cells
  have HNW := hid_ (fun pv' qv' rv' W (hl : Lists W (fun _ => 0) c pv' qv' rv') => paceNew_no c HOK.out pv' qv' rv' me cold since rate hL (fun _ => 0) W hl (fun _ _ => rfl) (.inr hb))
  rw [show paceT c me since rate = num 2 by unfold paceT; rw [hs, if_neg (by simp), if_pos hb]] at HNW
  unfold Cfg.v at HNW
  have HNE := hid_ (num_ne 2)
  have HSN := hid_ hs
  have HBAD := hid_ hb
  clear hs hb
  rw [hL] at HLG
  have HLL := hid_ hL
  go_wp2_with fail
  refine HLG.out.mono ?_
  rintro e w2 ⟨rfl, V2⟩
  have HTC2 := hid_ (HTC1.out.below V2)
  clear c0 c1 c2 c3 c4 c5 c6 c7 c8 c9 c10 u0 u1 u2 u3 V2 HTC1 HLG
  have HLS2 := hid_ (HL.out.fr (Fr.of_below HTC2.out.V (fun _ => False)) (fun h => h))
  go_upto_region 5 with fail
  have HCP := hid_ (refCopied c (fun _ => 0) pv qv rv w2.drew (HLS2.out.fr (Fr.of_below ((Below.refl _ w2).drew) (fun _ => False)) (fun h => h)) (fun _ _ => rfl) HLL.out)
  unfold Cfg.v at HCP
  have HTD := hid_ (HTC2.out.below ((Below.refl _ w2).drew))
  go_region_held3 (fun w' => w'.cell? ⟨w.heap.size, 0, none⟩ = some (.int .i64 c.nodes) ∧ w'.cell? ⟨w.heap.size, 1, none⟩ = some (.int .i64 c.faulty) ∧ w'.cell? ⟨w.heap.size, 2, none⟩ = some (.int .i64 c.slot) ∧ w'.cell? ⟨w.heap.size, 3, none⟩ = some (.int .i64 c.gap) ∧ w'.cell? ⟨w.heap.size, 4, none⟩ = some (.int .i64 c.rho) ∧ w'.cell? ⟨w.heap.size, 5, none⟩ = some (.int .i64 c.dmin) ∧ w'.cell? ⟨w.heap.size, 6, none⟩ = some (.int .i64 c.dmax) ∧ w'.cell? ⟨w.heap.size, 7, none⟩ = some (.int .i64 c.margin) ∧ w'.cell? ⟨w.heap.size, 8, none⟩ = some pv ∧ w'.cell? ⟨w.heap.size, 9, none⟩ = some qv ∧ w'.cell? ⟨w.heap.size, 10, none⟩ = some rv ∧ w'.cell? ⟨w.heap.size + 1, 0, none⟩ = some (.int .i64 me) ∧ w'.cell? ⟨w.heap.size + 1, 1, none⟩ = some (.int .i64 since) ∧ w'.cell? ⟨w.heap.size + 1, 2, none⟩ = some (.int .i64 rate) ∧ w'.cell? ⟨w.heap.size + 1, 3, none⟩ = some (.bool cold)) (first | exact TC.cells HTF.out | exact TC.cells HTE.out | exact TC.cells HTD.out) (first | ((with_reducible refine HCP.out.mono ?_); rintro e w3 ⟨pv', qv', rv', rfl, V3, HL3⟩; have HTE := hid_ (HTD.out.below V3); have HLS3 := hid_ HL3; clear HL3 V3) | ((with_reducible refine (HNW.out pv' qv' rv' _ HLS3.out).mono ?_); rintro e w4 ⟨ev, rfl, V4, R4⟩; have HTF := hid_ (HTE.out.below V4); have HRD := hid_ R4; clear V4 R4))
  all_goals
    obtain ⟨c0, c1, c2, c3, c4, c5, c6, c7, c8, c9, c10, u0, u1, u2, u3⟩ := HTF.out.cells
    have HCK := hid_ (refCheck6 c HOK.out (fun _ => 0) pv qv rv w4 (HL.out.fr (Fr.of_below HTF.out.V (fun _ => False)) (fun h => h)) (fun _ _ => rfl))
    unfold Cfg.v at HCK
    rw [HSN.out, show refT none = [] from rfl] at HCK
    clear HCP HNW HTD HTE HTC2 HLS3 HLS2
    go_wp2_with fail
    refine HCK.out.mono ?_
    rintro e w5 ⟨rfl, V5⟩
    have HTG := hid_ (HTF.out.below V5)
    clear c0 c1 c2 c3 c4 c5 c6 c7 c8 c9 c10 u0 u1 u2 u3 HCK
    obtain ⟨c0, c1, c2, c3, c4, c5, c6, c7, c8, c9, c10, u0, u1, u2, u3⟩ := HTG.out.cells
    have hne := ne_empty HNE.out
    have HBW := hid_ V5
    have hbb := HBAD.out
    unfold paceBad clkBad at hbb
    have HEV := hid_ (refE_any 2 (by omega) (by omega) w5)
    clear V5
    rcases (by omega : me < -1 ∨ (¬ me < -1 ∧ c.nodes ≤ me) ∨ (¬ me < -1 ∧ ¬ c.nodes ≤ me ∧ since < 0) ∨ (¬ me < -1 ∧ ¬ c.nodes ≤ me ∧ ¬ since < 0 ∧ 1125899906842624 < since) ∨ (¬ me < -1 ∧ ¬ c.nodes ≤ me ∧ ¬ since < 0 ∧ ¬ 1125899906842624 < since ∧ rate < -200) ∨ (¬ me < -1 ∧ ¬ c.nodes ≤ me ∧ ¬ since < 0 ∧ ¬ 1125899906842624 < since ∧ ¬ rate < -200 ∧ 200 < rate)) with h1 | ⟨h1, h2⟩ | ⟨h1, h2, h3⟩ | ⟨h1, h2, h3, h4⟩ | ⟨h1, h2, h3, h4, h5⟩ | ⟨h1, h2, h3, h4, h5, h6⟩
    all_goals
      clear hbb
      go_wp2_with fail
      refine HEV.out.mono ?_
      rintro e w51 ⟨rfl, V51⟩
      have HR5 := hid_ (HRD.out w51 (below_then HBW.out V51))
      have HTH := hid_ (HTG.out.below V51)
      clear V51 c0 c1 c2 c3 c4 c5 c6 c7 c8 c9 c10 u0 u1 u2 u3 HEV
      go_wp2_with fail
      refine HR5.out.mono ?_
      rintro e w6 ⟨rfl, V6⟩
      have HTI := hid_ (HTH.out.below V6)
      clear V6 HR5
      go_wp2_with fail
      refine (paceTurn_nil w6).mono ?_
      rintro e w7 ⟨rfl, rfl⟩
      have HR1 := hid_ (says_num w7 1 (by omega) w7 (Below.refl _ _))
      go_wp2_with fail
      refine HR1.out.mono ?_
      rintro e w8 ⟨rfl, V8⟩
      have HTJ := hid_ (HTI.out.below V8)
      have HE1 := hid_ (refE_any 1 (by omega) (by omega) w8)
      clear V8 HR1
      go_wp2_with fail
      refine HE1.out.mono ?_
      rintro e w9 ⟨rfl, V9⟩
      have HTK := hid_ (HTJ.out.below V9)
      clear V9 HE1
      go_wp2_with fail
      refine (paceHear_nil 0 0 w9).mono ?_
      rintro e w10 ⟨rfl, rfl⟩
      go_wp2_with fail
      refine (paceReal_nil 0 w10).mono ?_
      rintro e w11 ⟨rfl, rfl⟩
      go_wp2_with fail
      refine (paceLocal_nil 0 w11).mono ?_
      rintro e w12 ⟨rfl, rfl⟩
      go_wp2
      go_ret
      exact ⟨by simp, HTK.out.V⟩

end Go.Proofs.Ytnmhfdkmiblknaa
