/- escapementref04.Copied of a frame of messages alone, and the chapter's copied: every message copied. No condition. · escapementref04.SameMessages of the same messages. No condition. -/
import Derived.Test.YtogfbeibpfdleaaPImage
import Derived.Test.YtogfbeibpfdleaaPDeliver
import Derived.Test.YtogfbeibpfdleaaNewK
set_option linter.unusedSimpArgs false
set_option linter.unusedVariables false
namespace Go.Proofs.Ytogfbeibpfdleaa
open Go.RowKit Go.Maps

theorem IsMsgs.put {w : World} {C : Nat → Nat} {v : Value} (h2 : v.oneCell' = true) : ∀ {cs : List Value} {ms : List Msg} {i : Nat}, IsMsgs w C cs ms → i < ms.length → IsBytes w C v (ms.getD i default).d → IsMsgs w C (cs.set (i * 2 + 1) v) ms
  | [], [], i, _, h, _ => absurd h (by simp)
  | a :: b :: cs, m :: ms, 0, ⟨h1, _, _, h5⟩, _, h4 => ⟨h1, h4, h2, h5⟩
  | a :: b :: cs, m :: ms, i + 1, ⟨h1, h3, h6, h5⟩, h, h4 => by
    rw [show (i + 1) * 2 + 1 = (i * 2 + 1) + 1 + 1 by omega, List.set_cons_succ, List.set_cons_succ]
    exact ⟨h1, h3, h6, IsMsgs.put h2 h5 (by simpa using h) h4⟩
  | [], _ :: _, _, h, _, _ => h.elim
  | [_], [], _, h, _, _ => h.elim
  | [_], _ :: _, _, h, _, _ => h.elim
  | _ :: _ :: _, [], _, h, _, _ => h.elim
theorem IsMsgs.len2 {w : World} {C : Nat → Nat} : ∀ {cs : List Value} {ms : List Msg}, IsMsgs w C cs ms → cs.length = ms.length * 2
  | [], [], _ => rfl
  | a :: b :: cs, m :: ms, ⟨_, _, _, h5⟩ => by
    have := IsMsgs.len2 h5
    simp only [List.length_cons]
    omega
  | [], _ :: _, h => h.elim
  | [_], [], h => h.elim
  | [_], _ :: _, h => h.elim
  | _ :: _ :: _, [], h => h.elim
theorem RdK.src {w : World} {C : Nat → Nat} {k : Nat} {v : Value} {sz n : Nat} {cs : List Value} (h : RdK w C k v sz n cs) : Src w v sz n cs := by
  obtain ⟨a, cap, rfl, h1, h2, h3, h4⟩ := h
  refine ⟨a, cap, rfl, h3, fun hn => ?_⟩
  obtain ⟨b, off, ha, _, hl, hc⟩ := h4 hn
  exact ⟨⟨b, off, none⟩, ha, fun j u hu => by rw [addr_add]; exact hc j u hu⟩

def frV (mv : Value) : Value := .agg #[.int .u8 0, .int .u32 0, .int .u8 0, mv, .int .u8 0, .int .u8 0, .int .u16 0, .int .u16 0, .slice none 0 0]
abbrev frc (mv rv : Value) : List Value := [.int .u8 0, .int .u32 0, .int .u8 0, mv, .int .u8 0, .int .u8 0, .int .u16 0, .int .u16 0, rv]
theorem info_msg2 : (Try.prog.info? 50).map (fun i => (i.zero.map (·.cells.size), i.size, i.bytes)) = some (some 2, 2, 32) := by kernel_rfl
theorem info_rec : (Try.prog.info? 135).map (fun i => (i.zero.map (·.cells.size), i.size, i.bytes)) = some (some (Try.prog.cellsOf 135), Try.prog.cellsOf 135, Try.prog.bytesOf 135) := by kernel_rfl

/-- The loop's relation. -/
def CopR (C C1 : Nat → Nat) (w : World) (kk fb b1 o1 p1 : Nat) (ms : List Msg) (wr : World) : Prop :=
  ∃ cs, Fr (fun _ => False) C C1 w wr ∧ Sl wr C1 kk (.slice (some ⟨b1, o1, none⟩) ms.length p1) 50 2 ms.length cs ∧ IsMsgs wr C1 cs ms ∧ Bk wr fb 105 (frc (.slice (some ⟨b1, o1, none⟩) ms.length p1) (.slice none 0 0)) ∧ Bk wr (fb + 1) 105 (frc (.slice none 0 0) (.slice none 0 0))

set_option maxRecDepth 100000 in
set_option maxHeartbeats 8000000 in
theorem refFrCopied (C : Nat → Nat) (k kk : Nat) (k0 : kk ≠ 0) (mv : Value) (cs : List Value) (ms : List Msg) (w : World) (hf : Fin C w) (hm : RdK w C k mv 2 ms.length cs) (hM : IsMsgs w C cs ms) (hml : ms.length ≤ 10000) (hmd : ∀ i, i < ms.length → (ms.getD i default).d.length ≤ 140737488355328) :
    Calls Try.prog 44 #[frV mv] w fun e w' => ∃ mv' ra rp cs' C', e = .returned (.agg (frc mv' (.slice ra 0 rp)).toArray) ∧ Fr (fun _ => False) C C' w w' ∧ Sl w' C' kk mv' 50 2 ms.length cs' ∧ IsMsgs w' C' cs' ms := by
  obtain ⟨ma, mc, rfl, hmc, hmm, -⟩ := id hm
  unfold maxLen at hmm
  have HM0 := hid_ hm
  have HM1 := hid_ hM
  clear hm hM
  unfold frV
  go_enter Try.func44, Try.ntmps44
  go_upto_region 1 with (fail)
  refine gen_world (fun W => Below w.heap.size w W ∧ Bk W w.heap.size 105 (frc (.slice ma ms.length mc) (.slice none 0 0)) ∧ Bk W (w.heap.size + 1) 105 (frc (.slice none 0 0) (.slice none 0 0))) ⟨((Below.refl _ w).alloc (Nat.le_refl _) _).alloc (by simp) _, (bk_new' w _ _ (frc (.slice ma ms.length mc) (.slice none 0 0)) rfl).alloc _, bk_new' _ _ _ _ (by simp)⟩ ?_
  rintro W1 ⟨V1, B1, R1⟩
  have G1 := Fr.of_below (C := C) V1 (fun _ => False)
  obtain ⟨b1, o1, p1, W2, hr2, -, hb2, hge2, hraw2⟩ := copy_of (P := Try.prog) W1 (G1.Fin hf) Try.underlying43 info_msg2 (HM0.out.src.same (fun a v h => grown_cell V1 h)) (by unfold maxLen; omega) (by omega)
  have hlt1 := B1.lt
  have hlt2 := R1.lt
  have hs1 := V1.size
  have G2 : Fr (fun _ => False) C (fun y => if y = b1 then kk else if y = w.heap.size ∨ y = w.heap.size + 1 then kk + 1 else C y) w W2 := (G1.trans (Fr.of_below hb2 (fun _ => False))).recolour (fun b hb _ => by rw [if_neg (by omega), if_neg (by omega)]) (fun b hb => by have := hraw2.lt; have := hb2.size; rw [if_neg (by omega), if_neg (by omega)]; exact hf b (by omega))
  have S2 : Sl W2 (fun y => if y = b1 then kk else if y = w.heap.size ∨ y = w.heap.size + 1 then kk + 1 else C y) kk (.slice (some ⟨b1, o1, none⟩) ms.length p1) 50 2 ms.length cs := .inr ⟨b1, by simp, hraw2⟩
  have M2 := HM1.out.fr G2 (fun h => h)
  have B2 := B1.same (hb2.block _ B1.lt)
  have R2 := R1.same (hb2.block _ R1.lt)
  have hn1 : ¬ b1 = w.heap.size := by omega
  have hn2 : ¬ b1 = w.heap.size + 1 := by omega
  have HR2 := hid_ hr2
  have c1 := B1.cell_ 3 rfl
  have c2 := B2.cell_ 3 rfl
  have z2 := fun i => B2.frozen i
  have HI : CopR C (fun y => if y = b1 then kk else if y = w.heap.size ∨ y = w.heap.size + 1 then kk + 1 else C y) w kk w.heap.size b1 o1 p1 ms (W2.setCell ⟨w.heap.size, 3, none⟩ (.slice (some ⟨b1, o1, none⟩) ms.length p1)) :=
    ⟨cs, G2.setCell (.inl (Nat.le_refl _)) _, S2.far (fun h => by simp [Value.ownBlock] at h; omega) _, HM1.out.fr (G2.setCell (.inl (Nat.le_refl _)) _) (fun h => h), B2.set 3 _, R2.far (by simp) _⟩
  have HH := hid_ HI
  clear HI hr2 G2 S2 M2 B2 R2 hraw2 hb2 G1
  go_upto_block 1 with (refine wpList_append_run HR2.out (by rfl) (by rfl) (by rfl) (by rfl) ?_)
  clear c1 c2 z2 HR2
  have hCb : (fun y => if y = b1 then kk else if y = w.heap.size ∨ y = w.heap.size + 1 then kk + 1 else C y) b1 = kk := if_pos rfl
  have hCf : (fun y => if y = b1 then kk else if y = w.heap.size ∨ y = w.heap.size + 1 then kk + 1 else C y) w.heap.size = kk + 1 := (if_neg (fun h => hn1 h.symm)).trans (if_pos (.inl rfl))
  have hCg : (fun y => if y = b1 then kk else if y = w.heap.size ∨ y = w.heap.size + 1 then kk + 1 else C y) (w.heap.size + 1) = kk + 1 := (if_neg (fun h => hn2 h.symm)).trans (if_pos (.inr rfl))
  generalize (fun y => if y = b1 then kk else if y = w.heap.size ∨ y = w.heap.size + 1 then kk + 1 else C y) = C1 at HH hCb hCf hCg
  go_loopw [3] (fun iv wr => ∃ i : Nat, i ≤ ms.length ∧ iv = .int .i64 i ∧ CopR C C1 w kk w.heap.size b1 o1 p1 ms wr) (fun iv _ => ms.length - (intOf iv).toNat)
  case atStart => exact ⟨0, Nat.zero_le _, rfl, HH.out⟩
  case round =>
    obtain ⟨i, hi, rfl, cs1, F1, S1, M1, B1, R1⟩ := hrel
    clear HH
    have f3 := B1.cell_ 3 rfl
    have hi0 : (0 : Int) ≤ (i : Int) := Int.natCast_nonneg _
    by_cases hlt : i < ms.length
    · have hi1 : (i : Int) < (ms.length : Int) := by omega
      obtain ⟨v0, hp0, hp1, hb0, ho0⟩ := M1.get hlt
      have hdl := hmd i hlt
      generalize hmi : ms.getD i default = m at *
      obtain ⟨xa, xc, rfl, hxc, hxm, -⟩ := id hb0
      unfold maxLen at hxm
      obtain ⟨bb, off, e', -, -, hcell⟩ := S1.at (by omega)
      obtain ⟨rfl, rfl⟩ : b1 = bb ∧ o1 = off := by injection e' with e'; injection e' with e1 e2; exact ⟨e1, e2⟩
      have e1 := hcell _ _ hp1
      rw [← Nat.add_assoc] at e1
      have zf := fun j => S1.frozen j
      obtain ⟨zb, zo, zp, W8, hr8, x8, hb8, hge8, -⟩ := copy_of (P := Try.prog) wr.drew (F1.Fin hf) Try.underlying40 info_u8' (show Src wr.drew _ _ _ _ from hb0.src) (by unfold maxLen; omega) (by omega)
      have HR8 := hid_ hr8
      have c8 := grown_cell hb8 f3
      have e8 := grown_cell hb8 e1
      have S8 := S1.drew.fr (Fr.of_below (C := C1) hb8 (fun _ => False)) (fun h => h)
      have z8 := fun j => S8.frozen j
      have G8 := Fr.of_below (C := C1) hb8 (fun _ => False)
      have F9 := (F1.drew.trans G8).setCell (a := ⟨b1, o1 + i * 2 + 1, none⟩) (.inl (by show w.heap.size ≤ b1; omega)) (.slice (some ⟨zb, zo, none⟩) m.d.length zp)
      have S9 := S8.set (i * 2 + 1) (by omega) (.slice (some ⟨zb, zo, none⟩) m.d.length zp)
      rw [← Nat.add_assoc] at S9
      have M8 : IsMsgs W8 C1 cs1 ms := M1.fr ((Fr.refl (fun _ => False) C1 wr).drew.trans G8) (fun h => h)
      have M9 := (M8.put (v := .slice (some ⟨zb, zo, none⟩) m.d.length zp) (i := i) rfl hlt (by rw [hmi]; exact x8)).fr ((Fr.refl (· = kk) C1 W8).setCell (a := ⟨b1, o1 + i * 2 + 1, none⟩) (.inr hCb) (.slice (some ⟨zb, zo, none⟩) m.d.length zp)) (fun h => k0 h.symm)
      have B9 := (B1.same (hb8.block _ B1.lt)).far (a := ⟨b1, o1 + i * 2 + 1, none⟩) (fun h => hn1 h.symm) (.slice (some ⟨zb, zo, none⟩) m.d.length zp)
      have R9 := (R1.same (hb8.block _ R1.lt)).far (a := ⟨b1, o1 + i * 2 + 1, none⟩) (fun h => hn2 h.symm) (.slice (some ⟨zb, zo, none⟩) m.d.length zp)
      have H9 : CopR C C1 w kk w.heap.size b1 o1 p1 ms (W8.setCell ⟨b1, o1 + i * 2 + 1, none⟩ (.slice (some ⟨zb, zo, none⟩) m.d.length zp)) := ⟨_, F9, S9, M9, B9, R9⟩
      have HH9 := hid_ H9
      clear hr8 hp0 hp1 hcell H9 F9 S9 M8 M9 B9 R9 S8 G8 F1 S1 M1 B1 R1 hb8 x8 hb0 hmi hge8
      have e2 := fun o => cell_alloc_keep o e1
      have e3 := fun o => cell_alloc_keep o f3
      go_upto_region 5 with (fail)
      go_region_law (((with_reducible refine step_append_run (s := .tmp 19) (x := .tmp 25) (t := 40) (u := 40) (ty := 0) HR8.out ?_ ?_ ?_ ?_ ?_); rfl; rfl; rfl; rfl))
      all_goals
        go_wp2_with fail
        go_roundw
        case rel => exact ⟨i + 1, by omega, by go_num, HH9.out⟩
        case measure => simp [intOf]; omega
    · obtain rfl : i = ms.length := by omega
      obtain ⟨rb, ro, rp, W9, hr9, -, hb9, hge9, -⟩ := copy_of (P := Try.prog) (n := 0) (cs := []) (v := .slice none 0 0) wr (F1.Fin hf) Try.underlying103 info_rec ⟨none, 0, rfl, by simp, fun h => absurd h (by omega)⟩ (by unfold maxLen; omega) (by rw [Nat.zero_mul]; omega)
      have HR9 := hid_ hr9
      have f8 := B1.cell_ 8 rfl
      have hltw := B1.lt
      have B9 := B1.same (hb9.block _ B1.lt)
      have R9 := R1.same (hb9.block _ R1.lt)
      have g8 := B9.cell_ 8 rfl
      have zf := fun j => B9.frozen j
      have G9 := Fr.of_below (C := C1) hb9 (fun _ => False)
      have F10 := (F1.trans G9).setCell (a := ⟨w.heap.size, 8, none⟩) (.inl (Nat.le_refl _)) (.slice (some ⟨rb, ro, none⟩) 0 rp)
      have S10 := (S1.fr G9 (fun h => h)).far (a := ⟨w.heap.size, 8, none⟩) (fun h => by simp [Value.ownBlock] at h; omega) (.slice (some ⟨rb, ro, none⟩) 0 rp)
      have M10 := (M1.fr G9 (fun h => h)).fr ((Fr.refl (· = kk + 1) C1 W9).setCell (a := ⟨w.heap.size, 8, none⟩) (.inr hCf) (.slice (some ⟨rb, ro, none⟩) 0 rp)) (fun h => by omega)
      have H10 : Fr (fun _ => False) C C1 w (W9.setCell ⟨w.heap.size, 8, none⟩ (.slice (some ⟨rb, ro, none⟩) 0 rp)) ∧ Sl (W9.setCell ⟨w.heap.size, 8, none⟩ (.slice (some ⟨rb, ro, none⟩) 0 rp)) C1 kk (.slice (some ⟨b1, o1, none⟩) ms.length p1) 50 2 ms.length cs1 ∧ IsMsgs (W9.setCell ⟨w.heap.size, 8, none⟩ (.slice (some ⟨rb, ro, none⟩) 0 rp)) C1 cs1 ms ∧ Bk (W9.setCell ⟨w.heap.size, 8, none⟩ (.slice (some ⟨rb, ro, none⟩) 0 rp)) w.heap.size 105 (frc (.slice (some ⟨b1, o1, none⟩) ms.length p1) (.slice (some ⟨rb, ro, none⟩) 0 rp)) ∧ Bk (W9.setCell ⟨w.heap.size, 8, none⟩ (.slice (some ⟨rb, ro, none⟩) 0 rp)) (w.heap.size + 1) 105 (frc (.slice none 0 0) (.slice none 0 0)) :=
        ⟨F10, S10, M10, B9.set 8 _, R9.far (by simp) _⟩
      have HH10 := hid_ H10
      clear hr9 H10 F10 S10 M10 B9 R9 M1 S1 B1 R1 G9 F1
      go_upto_region 7 with (refine wpList_append_run HR9.out (by rfl) (by rfl) (by rfl) (by rfl) ?_)
      refine gen_world (fun W => Fr (fun _ => False) C C1 w W ∧ Sl W C1 kk (.slice (some ⟨b1, o1, none⟩) ms.length p1) 50 2 ms.length cs1 ∧ IsMsgs W C1 cs1 ms ∧ Bk W w.heap.size 105 (frc (.slice (some ⟨b1, o1, none⟩) ms.length p1) (.slice (some ⟨rb, ro, none⟩) 0 rp)) ∧ Bk W (w.heap.size + 1) 105 (frc (.slice none 0 0) (.slice none 0 0))) HH10.out ?_
      clear HH10 hb9 HR9 f8 g8 zf f3
      rintro W10 ⟨F10, S10, M10, B10, R10⟩
      have d := fun i v (h : (frc (.slice (some ⟨b1, o1, none⟩) ms.length p1) (.slice (some ⟨rb, ro, none⟩) 0 rp))[i]? = some v) => B10.cell_ i h
      have d0 := d 0 _ rfl
      have d1 := d 1 _ rfl
      have d2 := d 2 _ rfl
      have d3 := d 3 _ rfl
      have d4 := d 4 _ rfl
      have d5 := d 5 _ rfl
      have d6 := d 6 _ rfl
      have d7 := d 7 _ rfl
      have d8 := d 8 _ rfl
      have r := fun i v (h : (frc (.slice none 0 0) (.slice none 0 0))[i]? = some v) => R10.cell_ i h
      have r0 := r 0 _ rfl
      have r1 := r 1 _ rfl
      have r2 := r 2 _ rfl
      have r3 := r 3 _ rfl
      have r4 := r 4 _ rfl
      have r5 := r 5 _ rfl
      have r6 := r 6 _ rfl
      have r7 := r 7 _ rfl
      have r8 := r 8 _ rfl
      have zf := fun j => R10.frozen j
      have HM10 := hid_ M10
      have HS10 := hid_ S10
      have HF10 := hid_ F10
      clear d r M10 S10 F10 B10 R10
      go_wp2_with fail
      refine bodyPost_ret (v := .agg (frc (.slice (some ⟨b1, o1, none⟩) ms.length p1) (.slice (some ⟨rb, ro, none⟩) 0 rp)).toArray) ((results_cell1 rfl _ _ _).trans ?_) rfl ⟨_, _, _, cs1, C1, rfl, ?_, ?_, ?_⟩
      · go_simp
      · iterate 9 (refine Fr.setCell ?_ (.inl (by show w.heap.size ≤ w.heap.size + 1; omega)) _)
        exact HF10.out
      · iterate 9 (refine Sl.far ?_ (fun h => by simp [Value.ownBlock] at h; omega) _)
        exact HS10.out
      · iterate 9 (refine IsMsgs.fr (K := (· = kk + 1)) ((Fr.refl _ C1 _).setCell (.inr hCg) _) (fun h => by omega) ?_)
        exact HM10.out

set_option maxRecDepth 100000 in
theorem field_msgs (a : Option Addr) (n c : Nat) (rv : Value) (w : World) : (Instr.field 105 (.agg #[.int .u8 0, .int .u32 0, .int .u8 0, .slice a n c, .int .u8 0, .int .u8 0, .int .u16 0, .int .u16 0, rv]) 2).run Try.prog w = .ok (.slice a n c) w := by kernel_rfl

set_option maxRecDepth 100000 in
set_option maxHeartbeats 2000000 in
theorem copiedMsgs (C : Nat → Nat) (k kk : Nat) (k0 : kk ≠ 0) (mv : Value) (cs : List Value) (ms : List Msg) (w : World) (hf : Fin C w) (hm : RdK w C k mv 2 ms.length cs) (hM : IsMsgs w C cs ms) (hml : ms.length ≤ 10000) (hmd : ∀ i, i < ms.length → (ms.getD i default).d.length ≤ 140737488355328) :
    Calls Try.prog 20 #[mv] w fun e w' => ∃ mv' cs' C', e = .returned mv' ∧ Fr (fun _ => False) C C' w w' ∧ Sl w' C' kk mv' 50 2 ms.length cs' ∧ IsMsgs w' C' cs' ms := by
  obtain ⟨ma, mc, rfl, -⟩ := id hm
  have HR := hid_ (refFrCopied C k kk k0 _ cs ms w hf hm hM hml hmd)
  clear hm hM
  go_enter Try.func20, Try.ntmps20
  go_wp2_with fail
  refine HR.out.mono ?_
  rintro e w1 ⟨mv', ra, rp, cs', C', rfl, F, S, M⟩
  have HF := hid_ F
  have HS := hid_ S
  have HM := hid_ M
  clear F S M HR
  rw [show (.agg (frc mv' (.slice ra 0 rp)).toArray : Value) = .agg #[.int .u8 0, .int .u32 0, .int .u8 0, mv', .int .u8 0, .int .u8 0, .int .u16 0, .int .u16 0, .slice ra 0 rp] from rfl]
  obtain ⟨na, nc, rfl, -⟩ := HS.out.form
  have hfd := field_msgs na ms.length nc (.slice ra 0 rp)
  go_wp2_with fail
  go_ret
  exact ⟨_, cs', C', rfl, HF.out, HS.out, HM.out⟩
end Go.Proofs.Ytogfbeibpfdleaa
namespace Go.Proofs.Ytogfbeibpfdleaa
open Go.RowKit Go.Maps

theorem RdK.below {w w' : World} {C : Nat → Nat} {k : Nat} {v : Value} {sz n : Nat} {cs : List Value} (h : RdK w C k v sz n cs) (V : Below w.heap.size w w') : RdK w' C k v sz n cs := by
  obtain ⟨a, c, h1, h2, h3, h4, h5⟩ := h
  refine ⟨a, c, h1, h2, h3, h4, fun hn => ?_⟩
  obtain ⟨b, off, ha, hC, hl, hc⟩ := h5 hn
  exact ⟨b, off, ha, hC, Nat.lt_of_lt_of_le hl V.size, fun i x hx => (World.cell?_of_block (a := ⟨b, off + i, none⟩) (V.block b hl)).trans (hc i x hx)⟩

set_option maxRecDepth 100000 in
set_option maxHeartbeats 8000000 in
theorem sameMsgs (C : Nat → Nat) (k1 k2 : Nat) (v1 v2 : Value) (cs1 cs2 : List Value) (ms : List Msg) (w : World) (h1 : RdK w C k1 v1 2 ms.length cs1) (h2 : RdK w C k2 v2 2 ms.length cs2) (m1 : IsMsgs w C cs1 ms) (m2 : IsMsgs w C cs2 ms) (hml : ms.length ≤ 10000) :
    Calls Try.prog 24 #[v1, v2] w fun e w' => e = .returned (.bool true) ∧ Below w.heap.size w w' := by
  obtain ⟨a1, c1, rfl, hc1, hm1, -⟩ := id h1
  obtain ⟨a2, c2, rfl, hc2, hm2, -⟩ := id h2
  have H1 := hid_ h1
  have H2 := hid_ h2
  have M1 := hid_ m1
  have M2 := hid_ m2
  clear h1 h2 m1 m2
  go_enter Try.func24, Try.ntmps24
  go_upto_block 1 with (fail)
  go_loopw [5] (fun iv wr => ∃ i : Nat, i ≤ ms.length ∧ iv = .int .i64 i ∧ Below w.heap.size w wr) (fun iv _ => ms.length - (intOf iv).toNat)
  case atStart => exact ⟨0, Nat.zero_le _, rfl, Below.refl _ _⟩
  case round =>
    obtain ⟨i, hi, rfl, V⟩ := hrel
    by_cases hlt : i < ms.length
    · have i0 : (0 : Int) ≤ (i : Int) := Int.natCast_nonneg _
      have i1 : (i : Int) < (ms.length : Int) := by omega
      have G := Fr.of_below (C := C) V (fun _ => False)
      obtain ⟨x1, p10, p11, b1, -⟩ := (M1.out.fr G (fun h => h)).get hlt
      obtain ⟨x2, p20, p21, b2, -⟩ := (M2.out.fr G (fun h => h)).get hlt
      generalize ms.getD i default = m at *
      obtain ⟨mp, md⟩ := m
      obtain ⟨_, _, e1, -, -, -, q1⟩ := H1.out.below V
      obtain ⟨_, _, e2, -, -, -, q2⟩ := H2.out.below V
      obtain ⟨bb1, o1, ha1, -, -, hc1⟩ := q1 (by omega)
      obtain ⟨bb2, o2, ha2, -, -, hc2⟩ := q2 (by omega)
      obtain rfl : a1 = some ⟨bb1, o1, none⟩ := by injection e1 with e1 _ _; exact e1.trans ha1
      obtain rfl : a2 = some ⟨bb2, o2, none⟩ := by injection e2 with e2 _ _; exact e2.trans ha2
      have f10 := hc1 _ _ p10
      have f11 := hc1 _ _ p11
      have f20 := hc2 _ _ p20
      have f21 := hc2 _ _ p21
      rw [← Nat.add_assoc] at f11 f21
      simp only at f10 f20 b1 b2
      have s1 := bytes_str b1
      have s2 := bytes_str b2
      have t1 : ∀ n, (convert 40 9 x1).run Try.prog (wr.drewN n) = .ok (.string ⟨md.toArray⟩) (wr.drewN n) := fun n => bytes_str (C := C) (show IsBytes (wr.drewN n) C x1 md from b1)
      have t2 : ∀ n, (convert 40 9 x2).run Try.prog (wr.drewN n) = .ok (.string ⟨md.toArray⟩) (wr.drewN n) := fun n => bytes_str (C := C) (show IsBytes (wr.drewN n) C x2 md from b2)
      obtain ⟨y1, z1, rfl, -⟩ := id b1
      obtain ⟨y2, z2, rfl, -⟩ := id b2
      clear hc1 hc2 p10 p11 p20 p21 b1 b2 q1 q2 G e1 e2 ha1 ha2
      go_upto_region 6 with (fail)
      go_quiet (fail)
      all_goals
        try go_wp2_with fail
        go_roundw
        case rel => exact ⟨i + 1, by omega, by go_num, below_drewN V _⟩
        case measure => simp [intOf]; omega
    · obtain rfl : i = ms.length := by omega
      go_wp2
      go_ret
      exact ⟨rfl, V⟩
end Go.Proofs.Ytogfbeibpfdleaa
