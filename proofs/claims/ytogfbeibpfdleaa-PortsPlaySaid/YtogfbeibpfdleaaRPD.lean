/- escapementref13.Ports: Deliver. No condition but that the tables work, and not too many messages. -/
import Derived.Test.YtogfbeibpfdleaaRFind
import Derived.Test.YtogfbeibpfdleaaPDeliver2
set_option linter.unusedSimpArgs false
set_option linter.unusedVariables false
namespace Go.Proofs.Ytogfbeibpfdleaa
open Go.RowKit Go.Maps
attribute [local go_sem ↓] Go.wp_at_zero Go.wp_at_succ

def RDelivP (c : Cfg) (C : Nat → Nat) (k b ab : Nat) (pv qv rv : Value) (node : Int) (w : World) (x : List PSt × Nat) (e : Ending) (w' : World) : Prop :=
  ∃ C' lv', e = .returned (.int .i64 (x.2 : Int)) ∧ Fr (fun x => k ≤ x ∧ x < k + 100) C C' w w' ∧ IsRPs w' C' k b ab c pv qv rv node lv' x.1
def RDelivR (c : Cfg) (C : Nat → Nat) (k b ab : Nat) (pv qv rv : Value) (node : Int) (w : World) (x : List PSt × Nat) (nv : Value) (wr : World) : Prop :=
  ∃ C' lv', nv = .int .i64 (x.2 : Int) ∧ Fr (fun x => k ≤ x ∧ x < k + 100) C C' w wr ∧ IsRPs wr C' k b ab c pv qv rv node lv' x.1

set_option maxRecDepth 100000 in
set_option maxHeartbeats 16000000 in
theorem rpDeliver (c : Cfg) (hg : Good c) (C : Nat → Nat) (k kc b ab : Nat) (hk : k ≠ 0) (hkc : kc < k ∨ k + 100 ≤ kc) (hab : ab ≠ b) (pv qv rv : Value) (node src : Int) (lv : Nat → Value) (st : List PSt) (mv : Value) (cs : List Value) (ms : List Msg) (w : World) (hf : Fin C w) (h : IsRPs w C k b ab c pv qv rv node lv st)
    (hm : RdK w C kc mv 2 ms.length cs) (hM : IsMsgs w C cs ms) (hml : ms.length ≤ 10000) :
    Calls Try.prog 33 #[.pointer (some ⟨b, 0, none⟩), .int .i64 src, mv] w (RDelivP c C k b ab pv qv rv node w (delivR c node src st ms ms.length)) := by
  have hn24 : st.length ≤ 24 := by rw [h.len]; exact hg.nq
  have hnr := hg.nr
  obtain ⟨ma, mc, rfl, hmc, hmm, hmlen, hmat⟩ := id hm
  unfold maxLen at hmm
  have HDL := hid_ (delivR_len c node src st ms)
  have HMAT := hid_ hmat
  clear hmat
  go_enter Try.func33, Try.ntmps33
  go_wp2
  go_loopw [7, 8] (fun nv iv wr => ∃ i : Nat, i ≤ ms.length ∧ iv = .int .i64 i ∧ RDelivR c C k b ab pv qv rv node w (delivR c node src st ms i) nv wr) (fun _ iv _ => ms.length - (intOf iv).toNat)
  case atStart => exact ⟨0, Nat.zero_le _, rfl, C, lv, rfl, Fr.refl _ _ _, h⟩
  case round =>
    obtain ⟨i, hi, rfl, C1, lv1, rfl, F1, h1⟩ := hrel
    obtain ⟨l1, l2⟩ := HDL.out i
    have hcnt : (delivR c node src st ms i).2 ≤ 240000 := by
      have := Nat.mul_le_mul hi hnr
      have := Nat.mul_le_mul (show i ≤ 10000 by omega) hnr
      omega
    obtain ⟨s, hs⟩ : ∃ s, s = delivR c node src st ms i := ⟨_, rfl⟩
    rw [← hs] at h1 l1 hcnt ⊢
    have HSS := hid_ hs
    have HL1 := hid_ l1
    clear hs l1 l2
    by_cases hlt : i < ms.length
    · obtain ⟨bb, off, rfl, hCb, hbl, hcell⟩ := HMAT.out (by omega)
      obtain ⟨v0, hp0, hp1, hb0, ho0⟩ := hM.get hlt
      generalize hmi : ms.getD i default = m at *
      have HMI := hid_ hmi
      have hne : ¬ (k ≤ C bb ∧ C bb < k + 100) := by rw [hCb]; omega
      have fb := F1.block bb hbl hne
      have e0 := (World.cell?_of_block (a := ⟨bb, off + i * 2, none⟩) fb.1).trans (hcell _ _ hp0)
      have e1 := (World.cell?_of_block (a := ⟨bb, off + (i * 2 + 1), none⟩) fb.1).trans (hcell _ _ hp1)
      rw [← Nat.add_assoc] at e1
      have hb1 : IsBytes wr C1 v0 m.d := Rd.fr hb0 F1 (by omega)
      obtain ⟨xa, xc, rfl, hxc, hxm, -⟩ := id hb1
      unfold maxLen at hxm
      have hi0 : (0 : Int) ≤ (i : Int) := Int.natCast_nonneg _
      have hi1 : (i : Int) < (ms.length : Int) := by omega
      have hfin1 : Fin C1 wr := F1.Fin hf
      clear hcell hp0 hp1 fb hmi
      go_upto_region 6 with (fail)
      refine gen_world (fun W => Fr (fun _ => False) C1 C1 wr W ∧ Bk W wr.heap.size 50 [.int .i64 m.port, .slice xa m.d.length xc]) ⟨(Fr.refl _ C1 wr).alloc _, Bk.new _ _ _⟩ ?_
      clear e0 e1
      rintro W ⟨G2, hX⟩
      have h2 := h1.fr G2 (fun x hx => hx.elim) (by rw [HL1.out]; exact hn24)
      have F2 := F1.trans (G2.mono (K' := fun x => k ≤ x ∧ x < k + 100) (fun _ h => h.elim))
      have hb2 : IsBytes W C1 (.slice xa m.d.length xc) m.d := Rd.fr hb1 G2 (fun h => h)
      have x0 := hX.cell_ 0 rfl
      obtain ⟨c8, c9, c10, c11, c12⟩ := h2.cells
      rw [h2.len] at c12
      have skip : msgB c src m = false → delivR c node src st ms (i + 1) = s := fun hB => by
        show (if msgB c src (ms.getD i default) = true then _ else _) = _
        rw [HMI.out, hB, HSS.out]
        simp
      have HSK := hid_ skip
      clear skip
      by_cases hneg : m.port < 0
      · have b0 : decide (m.port < 0) = true := decide_eq_true hneg
        have HB := hid_ (show msgB c src m = false by unfold msgB; simp; omega)
        clear hneg
        go_quiet (fail)
        go_wp2
        go_roundw
        case rel => exact ⟨i + 1, by omega, by go_num, by
          rw [HSK.out HB.out]
          exact ⟨C1, lv1, rfl, F2.drewN _, h2.fr ((Fr.refl (fun _ => False) C1 W).drewN _) (fun x hx => hx.elim) (by rw [HL1.out]; exact hn24)⟩⟩
        case measure => simp [intOf]; omega
      · obtain ⟨j, hj⟩ := Int.eq_ofNat_of_zero_le (show 0 ≤ m.port by omega)
        rw [hj] at x0 hX
        have HJ := hid_ hj
        have b0 : decide ((j : Int) < 0) = false := decide_eq_false (by omega)
        have hj0 : (0 : Int) ≤ (j : Int) := Int.natCast_nonneg _
        clear hneg hj
        by_cases hbig : c.ports.length ≤ j
        · have b1 : decide (c.ports.length ≤ j) = true := decide_eq_true hbig
          have HB := hid_ (show msgB c src m = false by unfold msgB; rw [HJ.out]; simp; omega)
          clear hbig
          go_quiet (fail)
          go_wp2
          go_roundw
          case rel => exact ⟨i + 1, by omega, by go_num, by
            rw [HSK.out HB.out]
            exact ⟨C1, lv1, rfl, F2.drewN _, h2.fr ((Fr.refl (fun _ => False) C1 W).drewN _) (fun x hx => hx.elim) (by rw [HL1.out]; exact hn24)⟩⟩
          case measure => simp [intOf]; omega
        · have hjp : j < c.ports.length := by omega
          have b1 : decide (c.ports.length ≤ j) = false := decide_eq_false hbig
          clear hbig
          go_quiet (fail)
          go_upto_region 7 with (fail)
          refine gen_world (fun W' => Fr (fun _ => False) C1 C1 wr W' ∧ Bk W' wr.heap.size 50 [.int .i64 (j : Int), .slice xa m.d.length xc]) ⟨G2.drewN _, hX⟩ ?_
          clear h2 F2 hb2 x0 c8 c9 c10 c11 c12 hX G2
          rintro W3 ⟨G3, hX⟩
          have h2 := h1.fr G3 (fun x hx => hx.elim) (by rw [HL1.out]; exact hn24)
          have F2 := F1.trans (G3.mono (K' := fun x => k ≤ x ∧ x < k + 100) (fun _ h => h.elim))
          have hb2 : IsBytes W3 C1 (.slice xa m.d.length xc) m.d := Rd.fr hb1 G3 (fun h => h)
          have x0 := hX.cell_ 0 rfl
          obtain ⟨c8, c9, c10, c11, c12⟩ := h2.cells
          have hq := h2.lists.ports
          obtain ⟨qa, qc, hqv, hqc, hqm, -⟩ := id hq
          rw [hqv] at hq c9
          obtain ⟨qb, qo, rfl, hCq, hcell⟩ := hq.row (fun _ => rfl) hjp
          rw [show c.ports.getD j default = c.port j from rfl] at hcell
          have e0 := hcell 0 _ rfl
          have e1 := hcell 1 _ rfl
          have e2 := hcell 2 _ rfl
          have e3 := hcell 3 _ rfl
          have e4 := hcell 4 _ rfl
          have e5 := hcell 5 _ rfl
          simp only [Nat.add_zero] at e0
          have hj1 : (j : Int) < (c.ports.length : Int) := by omega
          unfold maxLen at hqm
          have HQV := hid_ hqv
          clear hcell hq hqv
          go_region_held3 (fun w' => w'.cell? ⟨wr.heap.size, 0, none⟩ = some (.int .i64 (j : Int)) ∧ w'.cell? ⟨b, 9, none⟩ = some (.slice (some ⟨qb, qo, none⟩) c.ports.length qc) ∧ w'.cell? ⟨qb, qo + j * 6, none⟩ = some (.int .i64 (c.port j).part) ∧ w'.cell? ⟨qb, qo + j * 6 + 1, none⟩ = some (.int .u8 (c.port j).kind) ∧ w'.cell? ⟨qb, qo + j * 6 + 2, none⟩ = some (.bool (c.port j).out) ∧ w'.cell? ⟨qb, qo + j * 6 + 3, none⟩ = some (.int .i64 (c.port j).size) ∧ w'.cell? ⟨qb, qo + j * 6 + 4, none⟩ = some (.int .i64 (c.port j).depth) ∧ w'.cell? ⟨qb, qo + j * 6 + 5, none⟩ = some (.int .i64 (c.port j).fresh)) (go_keep) (fail)
          go_upto_region 8 with (fail)
          refine gen_world (fun W' => Fr (fun _ => False) C1 C1 W3 W' ∧ Bk W' W3.heap.size 33 [.int .i64 (c.port j).part, .int .u8 (c.port j).kind, .bool (c.port j).out, .int .i64 (c.port j).size, .int .i64 (c.port j).depth, .int .i64 (c.port j).fresh])
            ⟨((Fr.refl _ C1 W3).alloc _).drew, (Bk.new _ _ _).drew⟩ ?_
          clear c8 c9 c10 c11 c12 e0 e1 e2 e3 e4 e5 x0
          rintro W4 ⟨G4, hY⟩
          have h4 := h2.fr G4 (fun x hx => hx.elim) (by rw [HL1.out]; exact hn24)
          have F4 := F2.trans (G4.mono (K' := fun x => k ≤ x ∧ x < k + 100) (fun _ h => h.elim))
          have hb4 : IsBytes W4 C1 (.slice xa m.d.length xc) m.d := Rd.fr hb2 G4 (fun h => h)
          have hX4 := hX.fr G4 (fun h => h)
          obtain ⟨p0, p1⟩ := part_in hg hjp
          obtain ⟨ip, hip⟩ := Int.eq_ofNat_of_zero_le p0
          have hil : ip < c.parts.length := by omega
          have hip0 : (0 : Int) ≤ (ip : Int) := Int.natCast_nonneg _
          have hip1 : (ip : Int) < (c.parts.length : Int) := by omega
          rw [hip] at hY
          have HIP := hid_ hip
          have y0 := hY.cell_ 0 rfl
          have y2 := hY.cell_ 2 rfl
          have y3 := hY.cell_ 3 rfl
          have z0 := hX4.cell_ 0 rfl
          have z1 := hX4.cell_ 1 rfl
          obtain ⟨c8, c9, c10, c11, c12⟩ := h4.cells
          have hpq := h4.lists.parts
          obtain ⟨pa, pc, hpv, hpc, hpm, -⟩ := id hpq
          rw [hpv] at hpq c8
          obtain ⟨pb, po, rfl, hCp, hcellp⟩ := hpq.row (fun _ => rfl) hil
          rw [show c.parts.getD ip default = c.part ip from rfl] at hcellp
          have f0 := hcellp 0 _ rfl
          simp only [Nat.add_zero] at f0
          unfold maxLen at hpm
          have HPV := hid_ hpv
          have hmsg : msgB c src m = ((c.port j).out && ((c.part ip).node == src) && decide ((m.d.length : Int) ≤ (c.port j).size)) := by
            unfold msgB
            rw [HJ.out, Int.toNat_natCast, HIP.out, Int.toNat_natCast, show decide ((0 : Int) ≤ (j : Int)) = true from decide_eq_true hj0, show decide ((j : Int) < (c.ports.length : Int)) = true from decide_eq_true hj1]
            simp
          have HMSG := hid_ hmsg
          clear hcellp hpq hpv hip hmsg h2 hX hb2 F2 p0 p1
          cases ho : (c.port j).out with
          | false =>
            have HB := hid_ (show msgB c src m = false by rw [HMSG.out, ho]; rfl)
            rw [ho] at y2
            clear ho
            go_quiet (fail)
            go_wp2
            go_roundw
            case rel => exact ⟨i + 1, by omega, by go_num, by
              rw [HSK.out HB.out]
              exact ⟨C1, lv1, rfl, F4.drewN _, h4.fr ((Fr.refl (fun _ => False) C1 W4).drewN _) (fun x hx => hx.elim) (by rw [HL1.out]; exact hn24)⟩⟩
            case measure => simp [intOf]; omega
          | true =>
            rw [ho] at y2
            have HO := hid_ ho
            clear ho
            by_cases hno : (c.part ip).node = src
            · have b5 : ((c.part ip).node != src) = false := by simpa using hno
              have HNO := hid_ hno
              clear hno
              by_cases hsz : (m.d.length : Int) ≤ (c.port j).size
              · have HB := hid_ (show msgB c src m = true by rw [HMSG.out, HO.out, HNO.out]; simpa using hsz)
                have hs16 : (c.port j).size ≤ 16 := by
                  have := hg.ports j hjp
                  unfold portOk inb at this
                  simp only [Bool.and_eq_true, decide_eq_true_eq] at this
                  omega
                have hrq := h4.lists.routes
                obtain ⟨ra, rc, hrv, hrc, hrm, hrmax⟩ := id hrq
                rw [hrv] at hrq c10
                unfold maxLen at hrm
                have HRV := hid_ hrv
                have HRQ := hid_ hrq
                have hm16 : (m.d.length : Int) ≤ 16 := by omega
                have hfin4 : Fin C1 W4 := F4.Fin hf
                have hcw : C1 wr.heap.size = 0 := hfin1 _ (Nat.le_refl _)
                have HCW := hid_ hcw
                clear hrv hrq hrmax hcw
                go_quiet (fail)
                go_wp2
                refine gen_world (fun W' => Fr (fun _ => False) C1 C1 W4 W') ((Fr.refl _ C1 W4).drewN _) ?_
                rintro W5 G5
                clear c8 c9 c10 c11 c12 f0 y0 y2 y3 z0 z1
                obtain ⟨w0, rfl⟩ : ∃ w0 : World, w0 = wr := ⟨_, rfl⟩
                go_loopw [7, 11] (fun nv kv wr => ∃ (r : Nat) (C2 : Nat → Nat) (lv2 : Nat → Value), r ≤ c.routes.length ∧ kv = .int .i64 r ∧ nv = .int .i64 ((s.2 + (viaR c node s.1 j m.d r).2 : Nat) : Int) ∧ Fr (fun x => k ≤ x ∧ x < k + 100) C1 C2 W4 wr ∧ IsRPs wr C2 k b ab c pv qv rv node lv2 (viaR c node s.1 j m.d r).1) (fun _ kv _ => c.routes.length - (intOf kv).toNat)
                case atStart => exact ⟨0, C1, lv1, Nat.zero_le _, rfl, by simp [viaR], G5.mono (K' := fun x => k ≤ x ∧ x < k + 100) (fun _ h => h.elim), h4.fr G5 (fun x hx => hx.elim) (by rw [HL1.out]; exact hn24)⟩
                case round =>
                  obtain ⟨r, C2, lv2, hr, rfl, rfl, F5, h5⟩ := hrel
                  obtain ⟨v1, v2⟩ := viaR_len c node s.1 j m.d r
                  obtain ⟨t, ht⟩ : ∃ t, t = viaR c node s.1 j m.d r := ⟨_, rfl⟩
                  rw [← ht] at h5 v1 v2 ⊢
                  have HT := hid_ ht
                  have HV1 := hid_ v1
                  have HC2W := hid_ (show C2 w0.heap.size = 0 from (F5.block _ hX4.lt (by rw [HCW.out]; omega)).2.trans HCW.out)
                  clear ht v1
                  obtain ⟨c8, c9, c10, c11, c12⟩ := h5.cells
                  rw [HRV.out] at c10
                  rw [h5.len] at c12
                  by_cases hrlt : r < c.routes.length
                  · obtain ⟨rs, rd, hrs, hrd, hrsl, hrdl⟩ := route_in hg hrlt
                    obtain ⟨rb, ro, rfl, hCr, hcellr⟩ := HRQ.out.row (fun _ => rfl) hrlt
                    rw [show c.routes.getD r default = c.route r from rfl] at hcellr
                    have hn0 : ¬ (k ≤ C1 rb ∧ C1 rb < k + 100) := by rw [hCr]; omega
                    have g0 := hcellr 0 _ rfl
                    have g1 := hcellr 1 _ rfl
                    have fr0 := F5.block rb (World.block_lt_of_cell? _ _ g0) hn0
                    have g0 := (World.cell?_of_block (a := ⟨rb, ro + r * 2 + 0, none⟩) fr0.1).trans g0
                    have g1 := (World.cell?_of_block (a := ⟨rb, ro + r * 2 + 1, none⟩) fr0.1).trans g1
                    simp only [Nat.add_zero] at g0
                    rw [hrs] at g0
                    rw [hrd] at g1
                    have hX5 := hX4.fr F5 (by rw [HCW.out]; omega)
                    have hb5 : IsBytes wr C2 (.slice xa m.d.length xc) m.d := Rd.fr hb4 F5 (by omega)
                    have hr0 : (0 : Int) ≤ (r : Int) := Int.natCast_nonneg _
                    have hr1 : (r : Int) < (c.routes.length : Int) := by omega
                    have HRS := hid_ hrs
                    have HRD := hid_ hrd
                    have hfin5 : Fin C2 wr := (F4.trans F5).Fin hf
                    have step : viaR c node s.1 j m.d (r + 1) = if ((rs : Int) == (j : Int)) = true ∧ mineB c node rd = true then (putS c t.1 rd m.d, t.2 + (if putB c t.1 rd = true then 1 else 0)) else t := by
                      show (if ((c.route r).src == (j : Int)) = true ∧ mineB c node (c.route r).dst.toNat = true then _ else _) = _
                      rw [hrs, hrd, Int.toNat_natCast, ← HT.out]
                    have HST := hid_ step
                    have z0 := hX5.cell_ 0 rfl
                    have hrd0 : (0 : Int) ≤ (rd : Int) := Int.natCast_nonneg _
                    have hrd1 : (rd : Int) < (c.ports.length : Int) := by omega
                    clear hcellr fr0 hrs hrd step
                    go_upto_region 13 with (fail)
                    by_cases hsrc : rs = j
                    · subst hsrc
                      have b9 : ((rs : Int) != (rs : Int)) = false := by simp
                      have HMINE := hid_ (fun (W : World) (V : Below wr.heap.size wr W) => rpMine c hg C2 k b ab _ _ _ node rd lv2 _ W (h5.fr (Fr.of_below (C := C2) V (fun _ => False)) (fun x hx => hx.elim) (by rw [HV1.out, HL1.out]; exact hn24)) hrdl)
                      have g0A := fun m : Aft wr => m.cell g0
                      have c8A := fun m : Aft wr => m.cell c8
                      have c9A := fun m : Aft wr => m.cell c9
                      have c10A := fun m : Aft wr => m.cell c10
                      have c12A := fun m : Aft wr => m.cell c12
                      have z0A := fun m : Aft wr => m.cell z0
                      cases hmb : mineB c node rd with
                      | false =>
                        have HE := hid_ (show viaR c node s.1 rs m.d (r + 1) = t by rw [HST.out, hmb]; simp)
                        rw [hmb] at HMINE
                        clear hmb
                        refine wp_region_aft (by kernel_rfl) (by kernel_rfl) ?_
                        repeat (go_big_quiet_step (exact Aft.calls _ (HMINE.out _ (Aft.h _))))
                        refine wpQuiet_nil ?_
                        rintro _ ⟨mm, rfl⟩
                        have HF6 := hid_ (F5.trans (Fr.of_below (C := C2) mm.h _))
                        have H6 := hid_ (h5.fr (Fr.of_below (C := C2) mm.h (fun _ => False)) (fun x hx => hx.elim) (by rw [HV1.out, HL1.out]; exact hn24))
                        clear g0A c8A c9A c10A c12A z0A
                        go_wp2
                        go_roundw
                        case rel => exact ⟨r + 1, C2, lv2, by omega, by go_num, by rw [HE.out], HF6.out, by rw [HE.out]; exact H6.out⟩
                        case measure => simp [intOf]; omega
                      | true =>
                        have HM := hid_ hmb
                        rw [hmb] at HMINE
                        clear hmb
                        refine wp_region_aft (by kernel_rfl) (by kernel_rfl) ?_
                        repeat (go_big_quiet_step (exact Aft.calls _ (HMINE.out _ (Aft.h _))))
                        refine wpQuiet_nil ?_
                        rintro _ ⟨mm, rfl⟩
                        go_upto_region 14 with (fail)
                        refine gen_world (fun W => Below wr.heap.size wr W) mm.h ?_
                        clear g0A c8A c9A c10A c12A z0A mm HMINE c8 c9 c10 c11 c12 g0 g1 z0
                        rintro W7 V7
                        have G7 := Fr.of_below (C := C2) V7 (fun _ => False)
                        have h7 := h5.fr G7 (fun x hx => hx.elim) (by rw [HV1.out, HL1.out]; exact hn24)
                        have hX7 := hX5.fr G7 (fun h => h)
                        have hb7 : IsBytes W7 C2 (.slice xa m.d.length xc) m.d := Rd.fr hb5 G7 (fun h => h)
                        have F7 := F5.trans (G7.mono (K' := fun x => k ≤ x ∧ x < k + 100) (fun _ h => h.elim))
                        have hfin7 : Fin C2 W7 := G7.Fin hfin5
                        have hst7 : t.1.length = st.length := by rw [HV1.out, HL1.out]
                        have hrs7 : rd < t.1.length := by rw [hst7, h.len]; exact hrdl
                        have HS7 := hid_ hst7
                        clear h5 hX5 hb5 F5 V7 hst7
                        obtain ⟨c8, c9, c10, c11, c12⟩ := h7.cells
                        rw [h7.len] at c12
                        have hq := h7.lists.ports
                        obtain ⟨qa, qc, hqv, hqc, hqm, -⟩ := id hq
                        rw [hqv] at hq c9
                        obtain ⟨qb, qo, rfl, hCq, hcell⟩ := hq.row (fun _ => rfl) hrdl
                        rw [show c.ports.getD rd default = c.port rd from rfl] at hcell
                        have e1 := hcell 1 _ rfl
                        have e4 := hcell 4 _ rfl
                        unfold maxLen at hqm
                        have HQV7 := hid_ hqv
                        clear hcell hq hqv
                        by_cases hk1 : (c.port rd).kind = 1
                        · have HK1 := hid_ hk1
                          rw [hk1] at e1
                          have HPB := hid_ (show putB c t.1 rd = true by unfold putB; simp [hk1])
                          have HE := hid_ (show viaR c node s.1 rs m.d (r + 1) = (putS c t.1 rd m.d, t.2 + 1) by rw [HST.out, HM.out, HPB.out]; simp)
                          have fz0 := h7.all.frozen (rd * 2)
                          have fz1 := h7.all.frozen (rd * 2 + 1)
                          obtain ⟨s0, s1⟩ := h7.state hrs7
                          clear hk1
                          have HT7 := hid_ ((h7.turn (by rw [HS7.out]; exact hn24) hk hrs7 (Fr.refl (· = k + 1 + rd) C2 W7) (IsList.nil W7 C2 (k + 1 + rd)) hab).age (j := rd) hk (by rw [List.length_set]; exact hrs7) ⟨[], 0⟩ (by rw [List.getD_eq_getElem?_getD, List.getElem?_set_self hrs7]; rfl) hab)
                          go_upto_region 19 with (fail)
                          refine gen_world (fun W => Fr (· = k) C2 C2 W7 W ∧ IsRPs W C2 k b ab c _ _ _ node (fun i => if i = rd then .slice none 0 0 else lv2 i) (t.1.set rd ⟨[], 0⟩)) ⟨((Fr.refl _ _ _).setCell (.inr h7.acol) _).setCell (.inr h7.acol) _, by have := HT7.out; rw [List.set_set] at this; exact this⟩ ?_
                          clear c8 c9 c10 c11 c12 e1 e4 s0 s1 fz0 fz1 HT7
                          rintro W8 ⟨G8, h8⟩
                          have F8 := F7.trans (G8.mono (K' := fun x => k ≤ x ∧ x < k + 100) (fun x hx => by omega))
                          have hX8 := hX7.fr G8 (by rw [HC2W.out]; omega)
                          have hb8 : IsBytes W8 C2 (.slice xa m.d.length xc) m.d := Rd.fr hb7 G8 (by omega)
                          have hfin8 : Fin C2 W8 := G8.Fin hfin7
                          obtain ⟨st8, hst8⟩ : ∃ x, t.1.set rd ⟨[], 0⟩ = x := ⟨_, rfl⟩
                          obtain ⟨lv8, hlv8⟩ : ∃ x, (fun i => if i = rd then Value.slice none 0 0 else lv2 i) = x := ⟨_, rfl⟩
                          have hrs8 : rd < st8.length := by rw [← hst8, List.length_set]; exact hrs7
                          have hn8 : st8.length ≤ 24 := by rw [← hst8, List.length_set, HS7.out]; exact hn24
                          have HST8 := hid_ (show putS c t.1 rd m.d = st8.set rd { st8.getD rd default with q := (st8.getD rd default).q ++ [m.d] } by
                            unfold putS putIn
                            rw [if_pos HPB.out, if_pos HK1.out, ← hst8, List.set_set, List.getD_eq_getElem?_getD, List.getElem?_set_self hrs7]
                            rfl)
                          have HLV8' := hid_ (show lv8 rd = .slice none 0 0 by rw [← hlv8]; simp)
                          have hq8 : (st8.getD rd default).q.length ≤ 1000 := by rw [← hst8, List.getD_eq_getElem?_getD, List.getElem?_set_self hrs7]; simp
                          rw [hst8, hlv8] at h8
                          obtain ⟨vs, hS8, hA8⟩ := h8.each rd hrs8
                          obtain ⟨la, lc, hlv, hlc, hlm, -⟩ := hS8.form
                          have hvl4 : vs.length ≤ 1000 := by rw [hA8.len]; exact hq8
                          rw [hlv] at hS8
                          have HLV8 := hid_ hlv
                          unfold maxLen at hlm
                          clear hst8 hlv8 hlv G8 h7 hX7 hb7 F7
                          have t0 := (h8.state (j := rd) hrs8).1
                          rw [HLV8.out] at t0
                          obtain ⟨c8, c9, c10, c11, c12⟩ := h8.cells
                          have x0 := hX8.cell_ 0 rfl
                          have x1 := hX8.cell_ 1 rfl
                          have hBab := h8.all
                          have HPC := hid_ (show (pcells lv8 st8)[rd * 2]? = some (.slice la vs.length lc) by have := pcells_get lv8 st8 rd 0 hrs8 (by omega); rw [HLV8.out] at this; simpa using this)
                          obtain ⟨i1, z1, hi1, hz1, hzs1, his1, hby1⟩ := info_row (P := Try.prog) (e := 40) (size := 1) (bytes := 24) (by kernel_rfl)
                          obtain ⟨b1, o1, p1, W5, hr1, hb5', hw5, hge1, hraw1⟩ := copy_of (P := Try.prog) (C := C2) W8.drew hfin8 Try.underlying40 info_u8' hb8.src (by unfold maxLen; omega) (by omega)
                          have HR1 := hid_ hr1
                          have ta := fun o => cell_alloc_keep o t0
                          have tw := grown_cell (w := W8.drew) hw5 t0
                          have twa := fun o => cell_alloc_keep o tw
                          have xa0 := fun o => cell_alloc_keep o x1
                          obtain ⟨v6, W6, C6, hr6, hS6, F6, ho6, hfar6⟩ := Sl.append (P := Try.prog) (t := 22) 0 Try.underlying22 hi1 his1 hz1 hzs1 ((hS8.drew.fr (Fr.of_below hw5 (fun _ => False)) (fun h => h)).alloc (.cells #[.slice (some ⟨b1, o1, none⟩) m.d.length p1] 40)) (Src.new W5 40 1 1 1 [.slice (some ⟨b1, o1, none⟩) m.d.length p1] rfl) (by simp [Value.oneCell']) (by unfold maxLen; omega) (by rw [hby1]; omega)
                          obtain ⟨a6, c6, rfl, -⟩ := id hS6.form
                          have hab5 := ((hBab.drew.same (hw5.block ab hBab.lt)).alloc (.cells #[.slice (some ⟨b1, o1, none⟩) m.d.length p1] 40))
                          have hab6 := hab5.same (hfar6 ab hab5.lt (Sl.apart ((hS8.drew.fr (Fr.of_below hw5 (fun _ => False)) (fun h => h)).alloc (.cells #[.slice (some ⟨b1, o1, none⟩) m.d.length p1] 40)) hab5 (by decide))).1
                          have s6 := hab6.cell_ (rd * 2) HPC.out
                          have f6 := hab6.frozen (rd * 2)
                          have HCOL := hid_ h8.acol
                          have HR6 := hid_ hr6
                          clear hr1 hr6
                          go_region_law (first | ((with_reducible refine step_append_run (s := .tmp 150) (x := .tmp 152) (t := 40) (u := 40) (ty := 0) HR1.out ?_ ?_ ?_ ?_ ?_); rfl; rfl; rfl; rfl) | ((with_reducible refine step_append_run (s := .tmp 149) (x := .tmp 154) (t := 22) (u := 22) (ty := 0) HR6.out ?_ ?_ ?_ ?_ ?_); rfl; rfl; rfl; rfl))
                          all_goals
                            have f56 : Fr (· = k + 1 + rd) C2 C6 W8 W6 := (Fr.refl (· = k + 1 + rd) C2 W8).drew.trans <| ((Fr.of_below (w := W8.drew) hw5 (· = k + 1 + rd)).alloc (.cells #[.slice (some ⟨b1, o1, none⟩) m.d.length p1] 40)).trans F6
                            have hrd24 : rd < 24 := by omega
                            have HFF := hid_ ((F8.trans (f56.mono (K' := fun x => k ≤ x ∧ x < k + 100) (fun x hx => by omega))).setCell (a := ⟨ab, rd * 2, none⟩) (.inr (show k ≤ C1 ab ∧ C1 ab < k + 100 by rw [h4.acol]; omega)) (.slice a6 (vs.length + 1) c6))
                            have hl6 : IsList W6 C6 (k + 1 + rd) (.slice a6 (vs.length + 1) c6) ((st8.getD rd default).q ++ [m.d]) :=
                              ⟨vs ++ [.slice (some ⟨b1, o1, none⟩) m.d.length p1], by rw [List.length_append]; exact hS6, BytesAll.snoc (hb5'.fr (((Fr.refl (· = k + 1 + rd) C2 W5).alloc _).trans F6) (by omega)) rfl (hA8.fr f56 (by omega))⟩
                            have HFIN := hid_ (h8.turn hn8 hk hrs8 f56 hl6 hab)
                            clear c8 c9 c10 c11 c12 x0 x1 t0 ta tw twa xa0 s6 f6 h8 hX8 hb8 hS8 hA8 hab5 hab6 hS6 hBab hb5' hraw1 hl6 f56 F8
                            go_wp2
                            go_roundw
                            case rel => exact ⟨r + 1, C6, _, by omega, by go_num, by rw [HE.out]; simp only; go_num, HFF.out, by rw [HE.out, HST8.out]; exact HFIN.out⟩
                            case measure => simp [intOf]; omega
                        · have HK1 := hid_ hk1
                          have q1 : ((c.port rd).kind == 1) = false := by simpa using hk1
                          obtain ⟨vs, hS8, hA8⟩ := h7.each rd hrs7
                          obtain ⟨la, lc, hlv, hlc, hlm, -⟩ := hS8.form
                          have hvl := hid_ hA8.len
                          obtain ⟨s0, s1⟩ := h7.state hrs7
                          rw [hlv] at hS8 s0
                          have HLV7 := hid_ hlv
                          unfold maxLen at hlm
                          have hvl4' : vs.length ≤ lc := hlc
                          clear hlv hk1
                          by_cases hroom : (vs.length : Int) < (c.port rd).depth
                          · have HPB := hid_ (show putB c t.1 rd = true by unfold putB; rw [← hvl.out]; simp [hroom])
                            have HE := hid_ (show viaR c node s.1 rs m.d (r + 1) = (putS c t.1 rd m.d, t.2 + 1) by rw [HST.out, HM.out, HPB.out]; simp)
                            have q3 : decide ((c.port rd).depth ≤ (vs.length : Int)) = false := decide_eq_false (by omega)
                            have hvl4 : vs.length ≤ 1000 := by
                              have := hg.ports rd hrdl
                              unfold portOk inb at this
                              rw [if_neg HK1.out] at this
                              split at this
                              · simp only [Bool.and_eq_true, decide_eq_true_eq] at this
                                omega
                              · simp at this
                            go_upto_region 18 with (fail)
                            go_quiet (fail)
                            go_upto_region 19 with (fail)
                            refine gen_world (fun W => Fr (fun _ => False) C2 C2 W7 W) ((Fr.refl _ C2 W7).drewN _) ?_
                            clear c8 c9 c10 c11 c12 e1 e4 s0 s1 q1 q3 hroom
                            rintro W8 G8
                            have F8 := F7.trans (G8.mono (K' := fun x => k ≤ x ∧ x < k + 100) (fun x hx => hx.elim))
                            have h8 := h7.fr G8 (fun x hx => hx.elim) (by rw [HS7.out]; exact hn24)
                            have hX8 := hX7.fr G8 (fun h => h)
                            have hb8 : IsBytes W8 C2 (.slice xa m.d.length xc) m.d := Rd.fr hb7 G8 (fun h => h)
                            have hfin8 : Fin C2 W8 := G8.Fin hfin7
                            have hS8 := hS8.fr G8 (fun h => h)
                            have hA8 := hA8.fr G8 (fun h => h)
                            obtain ⟨st8, hst8⟩ : ∃ x, t.1 = x := ⟨_, rfl⟩
                            obtain ⟨lv8, hlv8⟩ : ∃ x, lv2 = x := ⟨_, rfl⟩
                            have hrs8 : rd < st8.length := by rw [← hst8]; exact hrs7
                            have hn8 : st8.length ≤ 24 := by rw [← hst8, HS7.out]; exact hn24
                            have HST8 := hid_ (show putS c t.1 rd m.d = st8.set rd { st8.getD rd default with q := (st8.getD rd default).q ++ [m.d] } by
                              unfold putS putIn
                              rw [if_pos HPB.out, if_neg HK1.out, ← hst8])
                            have HLV8 := hid_ (show lv8 rd = .slice la vs.length lc by rw [← hlv8]; exact HLV7.out)
                            rw [hst8, hlv8] at h8
                            rw [hst8] at hA8
                            clear hst8 hlv8 G8 h7 hX7 hb7 F7
                            have t0 := (h8.state (j := rd) hrs8).1
                            rw [HLV8.out] at t0
                            obtain ⟨c8, c9, c10, c11, c12⟩ := h8.cells
                            have x0 := hX8.cell_ 0 rfl
                            have x1 := hX8.cell_ 1 rfl
                            have hBab := h8.all
                            have HPC := hid_ (show (pcells lv8 st8)[rd * 2]? = some (.slice la vs.length lc) by have := pcells_get lv8 st8 rd 0 hrs8 (by omega); rw [HLV8.out] at this; simpa using this)
                            obtain ⟨i1, z1, hi1, hz1, hzs1, his1, hby1⟩ := info_row (P := Try.prog) (e := 40) (size := 1) (bytes := 24) (by kernel_rfl)
                            obtain ⟨b1, o1, p1, W5, hr1, hb5', hw5, hge1, hraw1⟩ := copy_of (P := Try.prog) (C := C2) W8.drew hfin8 Try.underlying40 info_u8' hb8.src (by unfold maxLen; omega) (by omega)
                            have HR1 := hid_ hr1
                            have ta := fun o => cell_alloc_keep o t0
                            have tw := grown_cell (w := W8.drew) hw5 t0
                            have twa := fun o => cell_alloc_keep o tw
                            have xa0 := fun o => cell_alloc_keep o x1
                            obtain ⟨v6, W6, C6, hr6, hS6, F6, ho6, hfar6⟩ := Sl.append (P := Try.prog) (t := 22) 0 Try.underlying22 hi1 his1 hz1 hzs1 ((hS8.drew.fr (Fr.of_below hw5 (fun _ => False)) (fun h => h)).alloc (.cells #[.slice (some ⟨b1, o1, none⟩) m.d.length p1] 40)) (Src.new W5 40 1 1 1 [.slice (some ⟨b1, o1, none⟩) m.d.length p1] rfl) (by simp [Value.oneCell']) (by unfold maxLen; omega) (by rw [hby1]; omega)
                            obtain ⟨a6, c6, rfl, -⟩ := id hS6.form
                            have hab5 := ((hBab.drew.same (hw5.block ab hBab.lt)).alloc (.cells #[.slice (some ⟨b1, o1, none⟩) m.d.length p1] 40))
                            have hab6 := hab5.same (hfar6 ab hab5.lt (Sl.apart ((hS8.drew.fr (Fr.of_below hw5 (fun _ => False)) (fun h => h)).alloc (.cells #[.slice (some ⟨b1, o1, none⟩) m.d.length p1] 40)) hab5 (by decide))).1
                            have s6 := hab6.cell_ (rd * 2) HPC.out
                            have f6 := hab6.frozen (rd * 2)
                            have HCOL := hid_ h8.acol
                            have HR6 := hid_ hr6
                            clear hr1 hr6
                            go_region_law (first | ((with_reducible refine step_append_run (s := .tmp 150) (x := .tmp 152) (t := 40) (u := 40) (ty := 0) HR1.out ?_ ?_ ?_ ?_ ?_); rfl; rfl; rfl; rfl) | ((with_reducible refine step_append_run (s := .tmp 149) (x := .tmp 154) (t := 22) (u := 22) (ty := 0) HR6.out ?_ ?_ ?_ ?_ ?_); rfl; rfl; rfl; rfl))
                            all_goals
                              have f56 : Fr (· = k + 1 + rd) C2 C6 W8 W6 := (Fr.refl (· = k + 1 + rd) C2 W8).drew.trans <| ((Fr.of_below (w := W8.drew) hw5 (· = k + 1 + rd)).alloc (.cells #[.slice (some ⟨b1, o1, none⟩) m.d.length p1] 40)).trans F6
                              have hrd24 : rd < 24 := by omega
                              have HFF := hid_ ((F8.trans (f56.mono (K' := fun x => k ≤ x ∧ x < k + 100) (fun x hx => by omega))).setCell (a := ⟨ab, rd * 2, none⟩) (.inr (show k ≤ C1 ab ∧ C1 ab < k + 100 by rw [h4.acol]; omega)) (.slice a6 (vs.length + 1) c6))
                              have hl6 : IsList W6 C6 (k + 1 + rd) (.slice a6 (vs.length + 1) c6) ((st8.getD rd default).q ++ [m.d]) :=
                                ⟨vs ++ [.slice (some ⟨b1, o1, none⟩) m.d.length p1], by rw [List.length_append]; exact hS6, BytesAll.snoc (hb5'.fr (((Fr.refl (· = k + 1 + rd) C2 W5).alloc _).trans F6) (by omega)) rfl (hA8.fr f56 (by omega))⟩
                              have HFIN := hid_ (h8.turn hn8 hk hrs8 f56 hl6 hab)
                              clear c8 c9 c10 c11 c12 x0 x1 t0 ta tw twa xa0 s6 f6 h8 hX8 hb8 hS8 hA8 hab5 hab6 hS6 hBab hb5' hraw1 hl6 f56 F8
                              go_wp2
                              go_roundw
                              case rel => exact ⟨r + 1, C6, _, by omega, by go_num, by rw [HE.out]; simp only; go_num, HFF.out, by rw [HE.out, HST8.out]; exact HFIN.out⟩
                              case measure => simp [intOf]; omega
                          · have HPB := hid_ (show putB c t.1 rd = false by unfold putB; rw [← hvl.out]; simp [HK1.out]; omega)
                            have HE := hid_ (show viaR c node s.1 rs m.d (r + 1) = (putS c t.1 rd m.d, t.2) by rw [HST.out, HM.out, HPB.out]; simp)
                            have q3 : decide ((c.port rd).depth ≤ (vs.length : Int)) = true := decide_eq_true (by omega)
                            have HP7 := hid_ (show putS c t.1 rd m.d = t.1 by unfold putS; rw [HPB.out]; simp)
                            clear hroom
                            go_upto_region 18 with (fail)
                            go_quiet (fail)
                            go_wp2
                            go_roundw
                            case rel => exact ⟨r + 1, C2, lv2, by omega, by go_num, by rw [HE.out], F7.drewN _, by rw [HE.out, HP7.out]; exact h7.fr ((Fr.refl (fun _ => False) C2 W7).drewN _) (fun x hx => hx.elim) (by rw [HS7.out]; exact hn24)⟩
                            case measure => simp [intOf]; omega
                    · have b9 : ((rs : Int) != (j : Int)) = true := by simp; omega
                      have b10 : ((rs : Int) == (j : Int)) = false := by simp; omega
                      have HE := hid_ (show viaR c node s.1 j m.d (r + 1) = t by rw [HST.out, b10]; simp)
                      clear hsrc b10
                      go_quiet (fail)
                      go_wp2
                      go_roundw
                      case rel => exact ⟨r + 1, C2, lv2, by omega, by go_num, by rw [HE.out], F5.drewN _, by rw [HE.out]; exact h5.fr ((Fr.refl (fun _ => False) C2 wr).drewN _) (fun x hx => hx.elim) (by rw [HV1.out, HL1.out]; exact hn24)⟩
                      case measure => simp [intOf]; omega
                  · obtain rfl : r = c.routes.length := by omega
                    go_wp2
                    go_roundw
                    case rel => exact ⟨i + 1, by omega, by go_num, by
                      have e1 : delivR c node src st ms (i + 1) = (t.1, s.2 + t.2) := by
                        show (if msgB c src (ms.getD i default) = true then _ else _) = _
                        rw [HMI.out, if_pos HB.out, HJ.out, Int.toNat_natCast, ← HSS.out, ← HT.out]
                      rw [e1]
                      exact ⟨C2, lv2, rfl, F4.trans F5, h5⟩⟩
                    case measure => simp [intOf]; omega
              · have hsz' : (c.port j).size < (m.d.length : Int) := by omega
                have HB := hid_ (show msgB c src m = false by rw [HMSG.out]; simp; intros; omega)
                clear hsz
                go_quiet (fail)
                go_wp2
                go_roundw
                case rel => exact ⟨i + 1, by omega, by go_num, by
                  rw [HSK.out HB.out]
                  exact ⟨C1, lv1, rfl, F4.drewN _, h4.fr ((Fr.refl (fun _ => False) C1 W4).drewN _) (fun x hx => hx.elim) (by rw [HL1.out]; exact hn24)⟩⟩
                case measure => simp [intOf]; omega
            · have b5 : ((c.part ip).node != src) = true := by simpa using hno
              have HB := hid_ (show msgB c src m = false by rw [HMSG.out]; simp [hno])
              clear hno
              go_quiet (fail)
              go_wp2
              go_roundw
              case rel => exact ⟨i + 1, by omega, by go_num, by
                rw [HSK.out HB.out]
                exact ⟨C1, lv1, rfl, F4.drewN _, h4.fr ((Fr.refl (fun _ => False) C1 W4).drewN _) (fun x hx => hx.elim) (by rw [HL1.out]; exact hn24)⟩⟩
              case measure => simp [intOf]; omega
    · obtain rfl : i = ms.length := by omega
      go_wp2
      go_ret
      exact ⟨C1, lv1, congrArg (fun x : List PSt × Nat => Ending.returned (.int .i64 (x.2 : Int))) HSS.out, F1, by rw [← HSS.out]; exact h1⟩
end Go.Proofs.Ytogfbeibpfdleaa
