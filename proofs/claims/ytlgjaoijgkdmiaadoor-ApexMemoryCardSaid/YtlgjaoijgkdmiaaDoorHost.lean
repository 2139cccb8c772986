/- A node's host, new. No condition but that the tables work. -/
import Derived.Test.YtlgjaoijgkdmiaaDoorRun2
import Derived.Test.YtlgjaoijgkdmiaaDoorNewK
import Derived.Deep.DrawnRows
set_option linter.unusedSimpArgs false
set_option linter.unusedVariables false
namespace Go.Proofs.YtlgjaoijgkdmiaaDoor
open Go.RowKit Go.Maps
attribute [local go_sem ↓] Go.wp_at_zero Go.wp_at_succ

/-- A new host in memory. -/
structure IsHost (W : World) (C : Nat → Nat) (c : Cfg) (node : Int) (b ab tb mb lb gb cb : Nat) (pv qv rv mpv : Value) : Prop where
  ports : IsPorts W C 100 b ab c pv qv rv node noLv (st0 c.ports.length)
  nab : ab ≠ b
  tab : IsTab W C 300 tb (fun _ => none) 0
  mon : IsMon W C 310 mb lb gb node c.parts mpv (.slice none 0 0) (mon0 c.parts.length)
  cmd : Bk W cb 65 [.int .u8 0, .int .u8 0, .int .u16 0, .int .u16 0]
  ccol : C cb = 320
def HostP (c : Cfg) (node : Int) (C : Nat → Nat) (w : World) (e : Ending) (w' : World) : Prop :=
  ∃ b ab tb mb lb gb cb pv qv rv mpv C', e = .returned (.tuple #[hostV b tb mb cb, .bool true]) ∧ Fr (fun _ => False) C C' w w' ∧ IsHost w' C' c node b ab tb mb lb gb cb pv qv rv mpv
theorem IsHost.fr {K : Nat → Prop} {C C' : Nat → Nat} {w w' : World} {c : Cfg} {node : Int} {b ab tb mb lb gb cb : Nat} {pv qv rv mpv : Value} (h : IsHost w C c node b ab tb mb lb gb cb pv qv rv mpv) (f : Fr K C C' w w') (hn : c.ports.length ≤ 24)
    (hk : ∀ x, K x → x ≠ 0 ∧ (x < 100 ∨ 200 ≤ x) ∧ x ≠ 300 ∧ x ≠ 320 ∧ x ≠ 310 ∧ x ≠ 311) : IsHost w' C' c node b ab tb mb lb gb cb pv qv rv mpv := by
  obtain ⟨a1, a2⟩ := h.cmd.frc h.ccol f (fun hx => (hk _ hx).2.2.2.1 rfl)
  exact ⟨h.ports.fr f (fun x hx => ⟨(hk x hx).1, (hk x hx).2.1⟩) (by unfold st0; simpa using hn), h.nab, h.tab.fr f (fun hx => (hk _ hx).2.2.1 rfl), h.mon.fr f ⟨fun hx => (hk _ hx).1 rfl, fun hx => (hk _ hx).2.2.2.2.1 rfl, fun hx => (hk _ hx).2.2.2.2.2 rfl⟩, a1, a2⟩
/-- The command's block is coloured at last, and the answer is stored. -/
theorem host_end {c : Cfg} {node : Int} {C C1 C4 : Nat → Nat} {w w1 W : World} {b ab tb mb lb gb cb hb : Nat} {pv qv rv : Value} {mpb moff mcap : Nat} (hn : c.ports.length ≤ 24) (F0 : Fr (fun _ => False) C C1 w w1) (F : Fr (fun _ => False) C1 C4 w1 W) (hp : IsPorts w1 C1 100 b ab c pv qv rv node noLv (st0 c.ports.length)) (hab : ab ≠ b)
    (ht : IsTab W C4 300 tb (fun _ => none) 0) (hm : IsMon W C4 310 mb lb gb node c.parts (.slice (some ⟨mpb, moff, none⟩) c.parts.length mcap) (.slice none 0 0) (mon0 c.parts.length)) (hc : Bk W cb 65 [.int .u8 0, .int .u8 0, .int .u16 0, .int .u16 0]) (hge : w1.heap.size ≤ cb) (hcol : C4 cb = 0) (hf : Fin C4 W)
    (hpc : mpb ≠ cb) (hh : w.heap.size ≤ hb) (hh1 : hb < w1.heap.size) (hh4 : C1 hb = 400) (u0 u1 u2 u3 : Value) :
    HostP c node C w (.returned (.tuple #[hostV b tb mb cb, .bool true])) ((((W.setCell ⟨hb, 0, none⟩ u0).setCell ⟨hb, 1, none⟩ u1).setCell ⟨hb, 2, none⟩ u2).setCell ⟨hb, 3, none⟩ u3) := by
  obtain ⟨D, hD⟩ : ∃ D : Nat → Nat, D = fun x => if x = cb then 320 else C4 x := ⟨_, rfl⟩
  have hDc : D cb = 320 := by rw [hD]; exact if_pos rfl
  have hDo : ∀ x, x ≠ cb → D x = C4 x := fun x h => by rw [hD]; exact if_neg h
  have F1 : Fr (fun _ => False) C1 D w1 W := F.recolour (fun x hx _ => by rw [hDo x (by omega)]; exact (F.block x hx (fun h => h)).2) (fun x hx => by rw [hDo x (by have := hc.lt; omega)]; exact hf x hx)
  have hn0 : ∀ x, C4 x ≠ 0 → D x = C4 x := fun x h => hDo x (fun e => h (by rw [e]; exact hcol))
  have hD4 : D hb = 400 := (F1.block hb hh1 (fun h => h)).2.trans hh4
  have I : IsHost W D c node b ab tb mb lb gb cb pv qv rv (.slice (some ⟨mpb, moff, none⟩) c.parts.length mcap) := by
    refine ⟨hp.fr F1 (fun x h => h.elim) (by unfold st0; simpa using hn), hab, ?_, ?_, hc, hDc⟩
    · obtain ⟨mb', h1, h2, h3, h4⟩ := ht
      exact ⟨mb', h1, h2, (hn0 _ (by omega)).trans h3, (hn0 _ (by omega)).trans h4⟩
    · refine ⟨hm.head, (hn0 _ (by rw [hm.hcol]; decide)).trans hm.hcol, ?_, hm.last, (hn0 _ (by rw [hm.lcol]; decide)).trans hm.lcol, hm.llen, hm.again, (hn0 _ (by rw [hm.gcol]; decide)).trans hm.gcol, hm.glen, ?_⟩
      · obtain ⟨a, cap, hv, h1, h2, h3, h4⟩ := hm.parts
        refine ⟨a, cap, hv, h1, h2, h3, fun hx => ?_⟩
        obtain ⟨pb, off, rfl, hc0, hlt, hcs⟩ := h4 hx
        injection hv with e1 _ _
        injection e1 with e1
        injection e1 with e1 _
        subst e1
        exact ⟨mpb, off, rfl, (hDo _ hpc).trans hc0, hlt, hcs⟩
      · rcases hm.out with h | ⟨ob, h1, h2⟩
        · exact .inl h
        · obtain ⟨_, off, cap, cur, h3, _⟩ := h2
          injection h3 with e1 _ _
          cases e1
  have f4 := Fr.set4 (w := W) hD4 u0 u1 u2 u3
  exact ⟨b, ab, tb, mb, lb, gb, cb, pv, qv, rv, _, D, rfl, ((((F0.trans F1).setCell (.inl hh) _).setCell (.inl hh) _).setCell (.inl hh) _).setCell (.inl hh) _, I.fr f4 hn (fun x hx => by omega)⟩

theorem box_then {C C' : Nat → Nat} {W W' : World} (f : Fr (fun _ => False) C C' (W.alloc (.cells #[.int .u8 0, .int .u8 0, .int .u16 0, .int .u16 0] 65)) W') (hf : Fin C W) :
    Bk W' W.heap.size 65 [.int .u8 0, .int .u8 0, .int .u16 0, .int .u16 0] ∧ C' W.heap.size = 0 :=
  (Bk.new W 65 [.int .u8 0, .int .u8 0, .int .u16 0, .int .u16 0]).frc (hf _ (Nat.le_refl _)) f (fun h => h)
theorem box_thenD {C C' : Nat → Nat} {W W' : World} (f : Fr (fun _ => False) C C' (W.alloc (.cells #[.int .u8 0, .int .u8 0, .int .u16 0, .int .u16 0] 65)).drew W') (hf : Fin C W) :
    Bk W' W.heap.size 65 [.int .u8 0, .int .u8 0, .int .u16 0, .int .u16 0] ∧ C' W.heap.size = 0 :=
  (Bk.new W 65 [.int .u8 0, .int .u8 0, .int .u16 0, .int .u16 0]).drew.frc (hf _ (Nat.le_refl _)) f (fun h => h)
theorem field_parts (a b1 c d e f g h : Int) (pa : Option Addr) (pn pc : Nat) (qv rv : Value) (w : World) : (Instr.field 28 (.agg #[.int .i64 a, .int .i64 b1, .int .i64 c, .int .i64 d, .int .i64 e, .int .i64 f, .int .i64 g, .int .i64 h, .slice pa pn pc, qv, rv]) 8).run Tryd.prog w = .ok (.slice pa pn pc) w := by kernel_rfl
theorem fr_box {K : Nat → Prop} {C C' : Nat → Nat} {w w' : World} (h : Fr K C C' w w') (o : Obj) : Fr K C C' w (w'.alloc o) := h.alloc o

set_option maxRecDepth 100000 in
set_option maxHeartbeats 8000000 in
theorem host_new (c : Cfg) (hg : Good c) (hok : c.ok) (hs : sndE c = none) (hL : longB c = false) (C : Nat → Nat) (pv qv rv : Value) (node : Int) (hn : 0 ≤ node ∧ node < c.nodes) (w : World) (hl : Lists w C c pv qv rv) (hf : Fin C w) :
    Calls Tryd.prog 10 #[c.v pv qv rv, .int .i64 node] w (HostP c node C w) := by
  have HL := hid_ hl
  have HF := hid_ hf
  have HOK := hid_ hok
  have HLG := hid_ hL
  have b0 : Below w.heap.size w ((w.alloc (.cells (c.cells pv qv rv).toArray 28)).alloc (.cells #[.pointer none, .pointer none, .pointer none, .pointer none] 40)) := ((Below.refl _ _).alloc (Nat.le_refl _) _).alloc (by simp) _
  have k0 : Bk ((w.alloc (.cells (c.cells pv qv rv).toArray 28)).alloc (.cells #[.pointer none, .pointer none, .pointer none, .pointer none] 40)) w.heap.size 28 (c.cells pv qv rv) := (Bk.new _ _ _).alloc _
  have k1 : Bk ((w.alloc (.cells (c.cells pv qv rv).toArray 28)).alloc (.cells #[.pointer none, .pointer none, .pointer none, .pointer none] 40)) (w.heap.size + 1) 40 [.pointer none, .pointer none, .pointer none, .pointer none] := bkM (by simp)
  have HCOP : ∀ (C : Nat → Nat) (W : World), Lists W C c pv qv rv → Fin C W → Calls Tryd.prog 20 #[.agg #[.int .i64 c.nodes, .int .i64 c.faulty, .int .i64 c.slot, .int .i64 c.gap, .int .i64 c.rho, .int .i64 c.dmin, .int .i64 c.dmax, .int .i64 c.margin, pv, qv, rv]] W fun e w' => ∃ pv' qv' rv', e = .returned (.agg #[.int .i64 c.nodes, .int .i64 c.faulty, .int .i64 c.slot, .int .i64 c.gap, .int .i64 c.rho, .int .i64 c.dmin, .int .i64 c.dmax, .int .i64 c.margin, pv', qv', rv']) ∧ Below W.heap.size W w' ∧ Lists w' C c pv' qv' rv' := fun C W h f => refCopied c C pv qv rv W h f HLG.out
  have HCO := hid_ HCOP
  have HNEW := hid_ (fun (C : Nat → Nat) (pv qv rv : Value) (W : World) (h : Lists W C c pv qv rv) (f : Fin C W) => portsNew c HOK.out C 100 (by decide) pv qv rv node W h f)
  have HK0 := hid_ k0
  have HK1 := hid_ k1
  have HB0 := hid_ b0
  have HS := hid_ hs
  have HN := hid_ hn
  clear hl hf hok hL k0 k1 b0 HCOP hs hn
  unfold Cfg.v
  go_enter Tryd.func10, Tryd.ntmps10
  go_upto_region 1 with fail
  refine gen_world (fun W => Below w.heap.size w W ∧ Bk W w.heap.size 28 (c.cells pv qv rv) ∧ Bk W (w.heap.size + 1) 40 [.pointer none, .pointer none, .pointer none, .pointer none]) ⟨HB0.out, HK0.out, HK1.out⟩ ?_
  rintro W ⟨v0, k0, k1⟩
  obtain ⟨C0, f0, hC04⟩ : ∃ C0, Fr (fun _ => False) C C0 w W ∧ C0 (w.heap.size + 1) = 400 := ⟨fun x => if x = w.heap.size + 1 then 400 else C x, (Fr.of_below v0 _).recolour (fun x hx _ => if_neg (by omega)) (fun x hx => by rw [if_neg (by have := k1.lt; omega)]; exact HF.out x (by have := v0.size; omega)), if_pos rfl⟩
  have h0 := k0.cell_ 0 rfl
  have h1 := k0.cell_ 1 rfl
  have h2 := k0.cell_ 2 rfl
  have h3 := k0.cell_ 3 rfl
  have h4 := k0.cell_ 4 rfl
  have h5 := k0.cell_ 5 rfl
  have h6 := k0.cell_ 6 rfl
  have h7 := k0.cell_ 7 rfl
  have h8 := k0.cell_ 8 rfl
  have h9 := k0.cell_ 9 rfl
  have h10 := k0.cell_ 10 rfl
  have HV0 := hid_ f0
  have HW0 := hid_ k0
  have HW1 := hid_ k1
  clear v0 f0 k0 k1 HB0 HK0 HK1
  go_wp2_with fail
  refine (HCO.out C0 W (HL.out.fr HV0.out (fun h => h)) (HV0.out.Fin HF.out)).mono ?_
  rintro e w1 ⟨pv1, qv1, rv1, rfl, V1, L1⟩
  have f1 := HV0.out.trans (Fr.of_below V1 _)
  have hNEW := HNEW.out C0 pv1 qv1 rv1 w1 L1 (f1.Fin HF.out)
  unfold NewP at hNEW
  rw [HS.out] at hNEW
  simp only at hNEW
  simp only [if_neg (show ¬ (node < 0 ∨ c.nodes ≤ node) by have := HN.out; omega)] at hNEW
  unfold Cfg.v at hNEW
  have HNW := hid_ hNEW
  have kc := hid_ (HW0.out.same (V1.block _ HW0.out.lt))
  have kh := hid_ (HW1.out.same (V1.block _ HW1.out.lt))
  have HC14 := hid_ hC04
  clear hC04
  have HF1 := hid_ f1
  clear hNEW HNEW h0 h1 h2 h3 h4 h5 h6 h7 h8 h9 h10 HW0 HW1 V1 L1 f1
  go_wp2_with fail
  refine HNW.out.mono ?_
  rintro e w2 ⟨b, ab, C2, rfl, hab, hb, hab2, F2, P2⟩
  have f2 := HF1.out.trans F2
  have hh4 := (F2.block _ kh.out.lt (fun h => h)).2.trans HC14.out
  have k2 := kc.out.fr F2 (fun h => h)
  have j2 := kh.out.fr F2 (fun h => h)
  have h0 := k2.cell_ 0 rfl
  have h1 := k2.cell_ 1 rfl
  have h2 := k2.cell_ 2 rfl
  have h3 := k2.cell_ 3 rfl
  have h4 := k2.cell_ 4 rfl
  have h5 := k2.cell_ 5 rfl
  have h6 := k2.cell_ 6 rfl
  have h7 := k2.cell_ 7 rfl
  have h8 := k2.cell_ 8 rfl
  have h9 := k2.cell_ 9 rfl
  have h10 := k2.cell_ 10 rfl
  have ha0 := fun o => cell_alloc_keep o h0
  have ha1 := fun o => cell_alloc_keep o h1
  have ha2 := fun o => cell_alloc_keep o h2
  have ha3 := fun o => cell_alloc_keep o h3
  have ha4 := fun o => cell_alloc_keep o h4
  have ha5 := fun o => cell_alloc_keep o h5
  have ha6 := fun o => cell_alloc_keep o h6
  have ha7 := fun o => cell_alloc_keep o h7
  have ha8 := fun o => cell_alloc_keep o h8
  have ha9 := fun o => cell_alloc_keep o h9
  have ha10 := fun o => cell_alloc_keep o h10
  have HF2 := hid_ f2
  have HK2 := hid_ k2
  have HJ2 := hid_ j2
  have HP2 := hid_ P2
  have HL2 := hid_ (HL.out.fr f2 (fun h => h))
  have HFN2 := hid_ (f2.Fin HF.out)
  clear F2 f2 k2 j2 P2 HNW HF1 kc kh HV0
  go_upto_region 2 with fail
  have hC24 : C2 (w.heap.size + 1) = 400 := hh4
  have hlt2 : w.heap.size + 1 < w2.heap.size := HJ2.out.lt
  have hfp := field_parts
  have HC24 := hid_ hC24
  have HNP := hid_ hg.np
  have HNQ := hid_ hg.nq
  clear hC24 hh4
  go_region_with (first
    | ((refine (repNew C2 300 _).mono ?_); rintro e w3 ⟨tb, C3, rfl, F3, T3⟩
       have f3 : Fr (fun _ => False) C2 C3 w2 w3 := (by first | exact (Fr.refl _ C2 w2).drew.trans F3 | exact ((Fr.refl _ C2 w2).drew.alloc _).trans F3)
       have k3 := HK2.out.fr f3 (fun h => h)
       have q0 := k3.cell_ 0 rfl
       have q1 := k3.cell_ 1 rfl
       have q2 := k3.cell_ 2 rfl
       have q3 := k3.cell_ 3 rfl
       have q4 := k3.cell_ 4 rfl
       have q5 := k3.cell_ 5 rfl
       have q6 := k3.cell_ 6 rfl
       have q7 := k3.cell_ 7 rfl
       have q8 := k3.cell_ 8 rfl
       have q9 := k3.cell_ 9 rfl
       have q10 := k3.cell_ 10 rfl
       have qa0 := fun o => cell_alloc_keep o q0
       have qa1 := fun o => cell_alloc_keep o q1
       have qa2 := fun o => cell_alloc_keep o q2
       have qa3 := fun o => cell_alloc_keep o q3
       have qa4 := fun o => cell_alloc_keep o q4
       have qa5 := fun o => cell_alloc_keep o q5
       have qa6 := fun o => cell_alloc_keep o q6
       have qa7 := fun o => cell_alloc_keep o q7
       have qa8 := fun o => cell_alloc_keep o q8
       have qa9 := fun o => cell_alloc_keep o q9
       have qa10 := fun o => cell_alloc_keep o q10
       have X3 := hid_ F3
       clear F3 k3)
    | ((refine (HCO.out C3 _ (HL2.out.fr (K := fun _ => False) (by first | exact f3 | exact f3.alloc _) (fun h => h)) ((show Fr (fun _ => False) C2 C3 w2 _ from by first | exact f3 | exact f3.alloc _).Fin HFN2.out)).mono ?_); rintro e w4 ⟨pv4, qv4, rv4, rfl, V4, L4⟩
       have g4 : Fr (fun _ => False) C3 C3 w3 w4 := (by first | exact Fr.of_below V4 _ | exact ((Fr.refl _ C3 w3).alloc _).trans (Fr.of_below V4 _))
       obtain ⟨pa4, pc4, rfl, -⟩ := id L4.parts
       have X4 := hid_ (Fr.of_below (C := C3) V4 (fun _ => False))
       clear V4)
    | ((refine (monNew C3 310 (by decide) node c.parts _ _ ((show Fr (fun _ => False) C2 C3 w2 _ from by first | exact f3.trans g4 | exact (f3.trans g4).alloc _).Fin HFN2.out) (L4.parts.fr (K := fun _ => False) (C' := C3) (by first | exact Fr.refl _ _ _ | exact (Fr.refl _ _ _).alloc _) (fun h => h)) HNP.out).mono ?_); rintro e w5 ⟨mb, lb, gb, mpb, moff, mcap, C5, rfl, hmb, hpb, hpl, F5, M5⟩
       have g5 : Fr (fun _ => False) C3 C5 w4 w5 := (by first | exact F5 | exact ((Fr.refl _ C3 w4).alloc _).trans F5)
       have j5 := HJ2.out.fr (f3.trans (g4.trans g5)) (fun h => h)
       have z0 := j5.cell_ 0 rfl
       have z1 := j5.cell_ 1 rfl
       have z2 := j5.cell_ 2 rfl
       have z3 := j5.cell_ 3 rfl
       have a0 := j5.frozen 0
       have a1 := j5.frozen 1
       have a2 := j5.frozen 2
       have a3 := j5.frozen 3
       have y0 := fun o => cell_alloc_keep o z0
       have y1 := fun o => cell_alloc_keep o z1
       have y2 := fun o => cell_alloc_keep o z2
       have y3 := fun o => cell_alloc_keep o z3
       have b0 := fun o => (j5.alloc o).frozen 0
       have b1 := fun o => (j5.alloc o).frozen 1
       have b2 := fun o => (j5.alloc o).frozen 2
       have b3 := fun o => (j5.alloc o).frozen 3
       have X5 := hid_ F5
       clear F5 j5))
  all_goals
    have s3 := f3.size
    have s4 := g4.size
    have s5 := g5.size
    have gg := f3.trans (g4.trans g5)
    have fin5 := gg.Fin HFN2.out
    go_wp2_with fail
    first
      | ((with_reducible first | have hb := box_then X3.out | have hb := box_thenD X3.out)
         have sx := X3.out.size
         simp only [World.size_alloc, World.size_drew] at sx
         obtain ⟨q, qc⟩ := hb HFN2.out
         obtain ⟨q', qc'⟩ := q.frc qc (g4.trans g5) (fun h => h)
         have Q := host_end HNQ.out HF2.out gg HP2.out hab ((T3.fr g4 (fun h => h)).fr g5 (fun h => h)) M5 q' (by (try simp) <;> omega) qc' fin5 (by (try simp only [World.size_alloc, World.size_drew] at hpb) <;> (try simp only [World.size_drew]) <;> omega) (Nat.le_succ _) hlt2 HC24.out
         unfold hostV at Q
         refine bodyPost_ret ((results_cell2 rfl _ _ _).trans ?_) rfl (Q _ _ _ _)
         go_simp)
      | ((with_reducible first | have hb := box_then X4.out | have hb := box_thenD X4.out)
         have sx := X4.out.size
         simp only [World.size_alloc, World.size_drew] at sx
         obtain ⟨q, qc⟩ := hb (f3.Fin HFN2.out)
         obtain ⟨q', qc'⟩ := q.frc qc g5 (fun h => h)
         have Q := host_end HNQ.out HF2.out gg HP2.out hab ((T3.fr g4 (fun h => h)).fr g5 (fun h => h)) M5 q' (by (try simp) <;> omega) qc' fin5 (by (try simp only [World.size_alloc, World.size_drew] at hpb) <;> (try simp only [World.size_drew]) <;> omega) (Nat.le_succ _) hlt2 HC24.out
         unfold hostV at Q
         refine bodyPost_ret ((results_cell2 rfl _ _ _).trans ?_) rfl (Q _ _ _ _)
         go_simp)
      | ((with_reducible first | have hb := box_then X5.out | have hb := box_thenD X5.out)
         have sx := X5.out.size
         simp only [World.size_alloc, World.size_drew] at sx
         obtain ⟨q', qc'⟩ := hb ((f3.trans g4).Fin HFN2.out)
         have Q := host_end HNQ.out HF2.out gg HP2.out hab ((T3.fr g4 (fun h => h)).fr g5 (fun h => h)) M5 q' (by (try simp) <;> omega) qc' fin5 (by (try simp only [World.size_alloc, World.size_drew] at hpb) <;> (try simp only [World.size_drew]) <;> omega) (Nat.le_succ _) hlt2 HC24.out
         unfold hostV at Q
         refine bodyPost_ret ((results_cell2 rfl _ _ _).trans ?_) rfl (Q _ _ _ _)
         go_simp)
      | (obtain ⟨q', qc'⟩ := box_then (Fr.refl (fun _ => False) C5 (w5.alloc (.cells #[.int .u8 0, .int .u8 0, .int .u16 0, .int .u16 0] 65))) fin5
         have ga := (Fr.refl (fun _ => False) C5 w5).alloc (.cells #[.int .u8 0, .int .u8 0, .int .u16 0, .int .u16 0] 65)
         have Q := host_end HNQ.out HF2.out (gg.trans ga) HP2.out hab (((T3.fr g4 (fun h => h)).fr g5 (fun h => h)).fr ga (fun h => h)) (M5.fr ga ⟨fun h => h, fun h => h, fun h => h⟩) q' (by (try simp) <;> omega) qc' (ga.Fin fin5) (by omega) (Nat.le_succ _) hlt2 HC24.out
         unfold hostV at Q
         refine bodyPost_ret ((results_cell2 rfl _ _ _).trans ?_) rfl (Q _ _ _ _)
         go_simp)
end Go.Proofs.YtlgjaoijgkdmiaaDoor
