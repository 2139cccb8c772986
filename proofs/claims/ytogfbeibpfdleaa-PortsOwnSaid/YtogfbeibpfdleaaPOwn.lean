/- Chapter 13's PortsOwn: the walk. No condition. -/
import Derived.Test.YtogfbeibpfdleaaPOwnK
import Derived.Test.YtogfbeibpfdleaaGApp
set_option linter.unusedSimpArgs false
set_option linter.unusedVariables false
namespace Go.Proofs.Ytogfbeibpfdleaa
open Go.RowKit Go.Maps

theorem bwOf {w : World} {D : Nat → Nat} {kd n cap : Nat} {a : Option Addr} {d : List UInt8} (hb : IsBytesK w D kd (.slice a n cap) d) (hz : ∀ b off, a = some ⟨b, off, none⟩ → ∀ j, w.frozen? ⟨b, j, none⟩ = false) : BW w D kd a n := by
  obtain ⟨_, _, e, h1, h2, h3, h4⟩ := id hb
  injection e with e1 e2 e3
  subst e1 e2 e3
  intro hn
  obtain ⟨b, off, ha, hC, hl, hc⟩ := h4 hn
  refine ⟨b, off, ha, hC, hl, fun j hj => ?_, hz b off ha⟩
  have hj' : j < (byteV d).length := by rw [h3]; omega
  have := hc j _ (List.getElem?_eq_getElem hj')
  rw [show (byteV d)[j] = .int .u8 ((d[j]'(by rw [h3] at hj'; omega)).toNat : Int) by simp [byteV]] at this
  exact ⟨_, this⟩
theorem Fin.mono' {C : Nat → Nat} {w w' : World} (h : Fin C w) (V : Below w.heap.size w w') : Fin C w' := fun b hb => h b (Nat.le_trans V.size hb)
theorem IsMsgs.one {w : World} {C : Nat → Nat} {m : Msg} : ∀ {cs : List Value}, IsMsgs w C cs [m] → ∃ v, cs = [.int .i64 m.port, v] ∧ IsBytes w C v m.d ∧ v.oneCell' = true
  | [a, v], ⟨h1, h2, h3, _⟩ => ⟨v, by rw [h1], h2, h3⟩
  | [], h => h.elim
  | [_], h => h.elim
  | _ :: _ :: _ :: [], ⟨_, _, _, h⟩ => h.elim
  | _ :: _ :: _ :: _ :: _, ⟨_, _, _, h⟩ => h.elim
set_option maxRecDepth 100000 in
set_option maxHeartbeats 16000000 in
theorem own_walk (d : List UInt8) (dv : Value) (w : World) (hd : IsBytes w (fun _ => 0) dv d) :
    Calls Try.prog 4 #[dv] w fun e w' => e = .returned (.bool true) ∧ Below w.heap.size w w' := by
  obtain ⟨da, dc, rfl, hdc, hdm, -⟩ := id hd
  unfold maxLen at hdm
  have HD := hid_ hd
  clear hd
  go_enter Try.func4, Try.ntmps4
  go_wp2_with fail
  refine (awake13 _).mono ?_
  rintro e w1 ⟨rfl, V1⟩
  by_cases h4 : (4 : Int) < (d.length : Int)
  · go_wp2
    go_ret
    exact ⟨rfl, V1⟩
  have l4 : d.length ≤ 4 := by omega
  have X1 := HD.out.fr (Fr.of_below (C := fun _ => 0) V1 (fun _ => False)) (fun h => h)
  obtain ⟨bi, oi, pi, w2, hr2, x2, hb2, hge2, hraw2⟩ := copy_of (P := Try.prog) w1 (fun _ _ => rfl : Fin (fun _ => 0) w1) Try.underlying40 info_u8' X1.src (by unfold maxLen; omega) (by omega)
  have s2 : NewS w1.heap.size (fun _ => 0) w2 (.slice (some ⟨bi, oi, none⟩) d.length pi) := by
    have hS1 : Sl w2 (fun _ => 7) 7 (.slice (some ⟨bi, oi, none⟩) d.length pi) 5 1 d.length (byteV d) := .inr ⟨bi, rfl, hraw2⟩
    intro b off n cap hy
    injection hy with hy
    injection hy with hy
    injection hy with hy _
    subst hy
    exact ⟨hge2, rfl, hraw2.lt, fun j => hS1.frozen j⟩
  obtain ⟨C2, f2, F2, bw2, -, hC2⟩ := recolV (K := fun _ => False) (C0 := fun _ => 0) 900 s2 x2 (Fr.of_below hb2 _) (fun _ _ => rfl)
  have T2 := (Fr.of_below (C := fun _ => 0) V1 (fun _ => False)).trans f2
  have k2 : IsBytesK w2 C2 900 (.slice (some ⟨bi, oi, none⟩) d.length pi) d := by
    obtain ⟨_, _, e, g1, g2, g3, g4⟩ := id x2
    refine ⟨_, _, rfl, by injection e with _ _ e3; rw [e3]; exact g1, by injection e with _ _ e3; rw [e3]; exact g2, g3, fun hn => ?_⟩
    obtain ⟨b', o', ha, -, hl', hc'⟩ := g4 hn
    obtain ⟨b'', o'', ha'', hC'', -⟩ := bw2 hn
    injection e with e1
    rw [← e1] at ha
    injection ha with ha
    injection ha with ha1 ha2
    injection ha'' with ha''
    injection ha'' with ha1'' ha2''
    subst ha1 ha2
    exact ⟨bi, oi, rfl, by rw [ha1'']; exact hC'', hl', hc'⟩
  have HR2 := hid_ hr2
  clear hr2 x2 s2 hraw2 hb2 V1 X1 f2
  go_wp2_with (refine wpList_append_run HR2.out (by rfl) (by rfl) (by rfl) (by rfl) ?_)
  refine (law13Wired C2 _ F2).mono ?_
  rintro e w3 ⟨pv, qv, rv, rfl, V3, L3⟩
  have F3 := (Fr.of_below (C := C2) V3 (fun _ => False)).Fin F2
  go_wp2_with fail
  refine (newWired C2 100 (by omega) 0 (.inl rfl) pv qv rv _ L3 F3).mono ?_
  rintro e w4 ⟨b0, ab0, C4, rfl, n0, -, -, f4, p4⟩
  have T24 := (Fr.of_below (C := C2) V3 (fun _ => False)).trans f4
  have T4 := T2.trans T24
  have F4 := f4.Fin F3
  have k4 := RdK.fr k2 T24 (fun h => h)
  have bw4 := bw2.fr T24 (fun h => h)
  clear f4 V3 L3 F3 k2 bw2 T24 T2 F2 hC2 HR2
  go_wp2_with fail
  refine (law13Wired (fun y => if y < w4.heap.size then 997 else 0) _ (fun y hy => if_neg (by omega))).mono ?_
  rintro e w5 ⟨pv', qv', rv', rfl, V5, L5⟩
  have F5 := (Fr.of_below (C := fun y => if y < w4.heap.size then 997 else 0) V5 (fun _ => False)).Fin (fun y hy => if_neg (by omega))
  go_wp2_with fail
  refine (newWired (fun y => if y < w4.heap.size then 997 else 0) 300 (by omega) 1 (.inr rfl) pv' qv' rv' _ L5 F5).mono ?_
  rintro e w6 ⟨b1, ab1, B6, rfl, n1, -, -, f6, r6⟩
  have U6 := (Fr.of_below (C := fun y => if y < w4.heap.size then 997 else 0) V5 (fun _ => False)).trans f6
  have V46 := U6.below (fun _ _ h => h)
  have g6 : Fr (fun _ => False) C4 (fun y => if w4.heap.size ≤ y ∧ y < w6.heap.size then 888 else C4 y) w4 w6 := (Fr.of_below V46 (fun _ => False)).recolour (fun y hy _ => if_neg (by omega)) (fun y hy => by have := V46.size; rw [if_neg (by omega)]; exact F4 y (by omega))
  have hC6 : ∀ y, w4.heap.size ≤ y → y < w6.heap.size → (fun y => if w4.heap.size ≤ y ∧ y < w6.heap.size then 888 else C4 y) y = 888 := fun y h1 h2 => if_pos ⟨h1, h2⟩
  generalize (fun y => if w4.heap.size ≤ y ∧ y < w6.heap.size then 888 else C4 y) = C6 at g6 hC6
  have hB6 : ∀ y, y < w4.heap.size → B6 y = 997 := fun y hy => (U6.block y hy (fun h => h)).2.trans (if_pos hy)
  have FB6 := f6.Fin F5
  have p6 := p4.fr g6 (fun x h => h.elim) (by simp [st0])
  have T6 := T4.trans g6
  have F6 := g6.Fin F4
  have k6 := RdK.fr k4 g6 (fun h => h)
  have bw6 := bw4.fr g6 (fun h => h)
  have HB6 := hid_ hB6
  have HC6 := hid_ hC6
  have HR6 := hid_ r6
  have HFB6 := hid_ FB6
  have hs46 := V46.size
  have hs4 := T4.size
  clear L5 F5 V5 f6 r6 p4 g6 k4 bw4 hB6 hC6 FB6 U6 T4 F4
  go_wp2_with fail
  refine (write_sampK wiredC wired_good C6 100 b0 ab0 (by omega) 900 (by omega) n0 pv qv rv 0 2 noLv (st0 4) _ d _ F6 p6 (show 2 < 4 by decide) rfl (show 0 < 2 by decide) rfl k6 (show (d.length : Int) ≤ 4 by omega) rfl).mono ?_
  rintro e w7 ⟨rfl, C7, lv7, f7, p7, vs0, v5, ⟨n7, l7⟩, s7⟩
  rw [put_own] at p7
  have T7 := (T6.mono (K' := fun x => x ≠ 0 ∧ x ≠ 888) (fun _ h => h.elim)).trans (f7.mono (K' := fun x => x ≠ 0 ∧ x ≠ 888) (fun x h => by omega))
  have A7 := f7.mono (K' := fun x => x ≠ 0 ∧ x ≠ 888) (fun x h => by omega)
  have F7 := f7.Fin F6
  have bw7 := bw6.fr f7 (by omega)
  have HP7 := hid_ p7
  have HL7 := hid_ l7
  have HS7 := hid_ s7
  have d0 : (0 : Int) ≤ (d.length : Int) := Int.natCast_nonneg _
  clear k6 f7 T6 bw6 p7 l7 s7 p6
  go_upto_block 1 with (fail)
  go_loopw [54] (fun iv wr => ∃ i : Nat, i ≤ d.length ∧ iv = .int .i64 i ∧ Fr (· = 900) C7 C7 w7 wr ∧ BW wr C7 900 (some ⟨bi, oi, none⟩) d.length) (fun iv _ => d.length - (intOf iv).toNat)
  case atStart => exact ⟨0, Nat.zero_le _, rfl, Fr.refl _ _ _, bw7⟩
  case round =>
    obtain ⟨i, hi, rfl, f8, bw8⟩ := hrel
    clear bw7
    by_cases hlt : i < d.length
    · obtain ⟨b', o', ha, hC', hl', hc', hz'⟩ := bw8 (by omega)
      injection ha with ha
      injection ha with ha1 ha2
      subst ha1 ha2
      obtain ⟨x, hx⟩ := hc' i hlt
      have i0 : (0 : Int) ≤ (i : Int) := Int.natCast_nonneg _
      have i1 : (i : Int) < (d.length : Int) := by omega
      clear hc'
      go_wp2_with fail
      go_roundw
      case rel => exact ⟨i + 1, by omega, by go_num, f8.setCell (.inr hC') _, bw8.set i hlt _⟩
      case measure => simp [intOf]; omega
    · obtain rfl : i = d.length := by omega
      clear hlt hi bw8
      have p8 := HP7.out.fr f8 (fun x h => by omega) (show 4 ≤ 24 by omega)
      have l8 := HL7.out.fr f8 (by omega)
      have s8 := HS7.out.fr f8 (by omega) (Nat.le_refl _)
      have T8 := T7.trans (f8.mono (K' := fun x => x ≠ 0 ∧ x ≠ 888) (fun x h => by omega))
      have A8 := A7.trans (f8.mono (K' := fun x => x ≠ 0 ∧ x ≠ 888) (fun x h => by omega))
      have F8 := f8.Fin F7
      clear f8 T7 A7 F7 HP7 HL7 HS7
      go_wp2_with fail
      refine (portsImageF wiredC wired_good C7 100 600 b0 ab0 (by omega) ⟨by omega, by omega⟩ pv qv rv 0 lv7 (stO d) _ F8 p8 (by intro i hi; have hi' : i < 4 := hi; rcases (by omega : i = 0 ∨ i = 1 ∨ i = 2 ∨ i = 3) with rfl | rfl | rfl | rfl <;> simp) (by intro i hi; have hi' : i < 4 := hi; rcases (by omega : i = 0 ∨ i = 1 ∨ i = 2 ∨ i = 3) with rfl | rfl | rfl | rfl <;> (intro x hx; simp at hx; try (subst hx; omega)))).mono ?_
      rintro e w9 ⟨v9, cs9, C9, rfl, f9, i9, m9, ns9⟩
      rw [show imageMs wiredC 0 (stO d) (stO d).length = [⟨2, d⟩] from image_own d] at i9 m9
      obtain ⟨vm, rfl, mb9, -⟩ := m9.one
      obtain ⟨va, vc, rfl, hvc, hvm, -⟩ := id mb9
      obtain ⟨D9, g9, G9, bw9, hD9, -⟩ := recolV 950 (ns9 _ (by simp)) mb9 f9 (f9.Fin F8)
      have i9 := i9.recol (D := D9) (fun y hy => (hD9 y (by omega)).trans hy)
      rw [show ([⟨2, d⟩] : List Msg).length = 1 from rfl] at i9
      obtain ⟨ia, ic, rfl, hic, him, -⟩ := i9.form
      have HP9 := hid_ (p8.fr g9 (fun x h => by omega) (show 4 ≤ 24 by omega))
      have HL9 := hid_ (l8.fr g9 (by omega))
      have HS9 := hid_ (s8.fr g9 (by omega) (Nat.le_refl _))
      have T9 := T8.trans (g9.mono (K' := fun x => x ≠ 0 ∧ x ≠ 888) (fun x h => by omega))
      have A9 := A8.trans (g9.mono (K' := fun x => x ≠ 0 ∧ x ≠ 888) (fun x h => by omega))
      have HI9 := hid_ i9
      clear p8 l8 s8 T8 A8 F8 m9 ns9 mb9 f9 i9 hD9 g9
      go_wp2_with fail
      go_loopw [67] (fun iv wr => ∃ i : Nat, i ≤ 1 ∧ iv = .int .i64 i ∧ Fr (· = 950) D9 D9 w9 wr ∧ BW wr D9 950 va d.length) (fun iv _ => 1 - (intOf iv).toNat)
      case atStart => exact ⟨0, by omega, rfl, Fr.refl _ _ _, bw9⟩
      case round =>
        obtain ⟨i, hi, rfl, f10, bw10⟩ := hrel
        clear bw9
        have i10 := HI9.out.fr f10 (by omega)
        by_cases hlt : i < 1
        · obtain rfl : i = 0 := by omega
          obtain ⟨bb, off, rfl, -, -, hcell⟩ := i10.at (by omega)
          have e0 := hcell 0 _ rfl
          have e1 := hcell 1 _ rfl
          rw [Nat.add_zero] at e0
          clear hcell i10
          go_upto_region 18 with (fail)
          refine gen_world (fun W => Fr (fun _ => False) D9 D9 wr W ∧ Bk W wr.heap.size 50 [.int .i64 2, .slice va d.length vc]) ⟨(Fr.refl _ D9 wr).alloc _, Bk.new _ _ _⟩ ?_
          rintro W10 ⟨h10, B10⟩
          have F10 := f10.Fin G9
          have hz : D9 wr.heap.size = 0 := F10 _ (Nat.le_refl _)
          have q1 := B10.cell_ 1 rfl
          have bw11 := bw10.fr h10 (fun h => h)
          have f11 := f10.trans (h10.mono (K' := (· = 950)) (fun _ h => h.elim))
          clear e0 e1 h10 bw10 f10
          go_wp2_with fail
          go_loopw [74] (fun jv w2 => ∃ j : Nat, j ≤ d.length ∧ jv = .int .i64 j ∧ Fr (· = 950) D9 D9 w9 w2 ∧ BW w2 D9 950 va d.length ∧ Bk w2 wr.heap.size 50 [.int .i64 2, .slice va d.length vc]) (fun jv _ => d.length - (intOf jv).toNat)
          case atStart => exact ⟨0, Nat.zero_le _, rfl, f11, bw11, B10⟩
          case round =>
            obtain ⟨j, hj, rfl, f12, bw12, B12⟩ := hrel
            clear bw11 B10 q1 f11
            have q1 := B12.cell_ 1 rfl
            by_cases hjl : j < d.length
            · obtain ⟨b', o', rfl, hC', hl', hc', hz'⟩ := bw12 (by omega)
              obtain ⟨x, hx⟩ := hc' j hjl
              have i0 : (0 : Int) ≤ (j : Int) := Int.natCast_nonneg _
              have i1 : (j : Int) < (d.length : Int) := by omega
              clear hc'
              go_wp2_with fail
              go_roundw
              case rel => exact ⟨j + 1, by omega, by go_num, f12.setCell (.inr hC') _, bw12.set j hjl _, B12.far (fun e => by rw [e] at hz; exact absurd (hz.symm.trans hC') (by omega)) _⟩
              case measure => simp [intOf]; omega
            · obtain rfl : j = d.length := by omega
              go_wp2_with fail
              go_roundw
              case rel => exact ⟨0 + 1, by omega, by go_num, f12, bw12⟩
              case measure => simp [intOf]
        · obtain rfl : i = 1 := by omega
          have p10 := HP9.out.fr f10 (fun x h => by omega) (show 4 ≤ 24 by omega)
          have l10 := HL9.out.fr f10 (by omega)
          have s10 := HS9.out.fr f10 (by omega) (Nat.le_refl _)
          have T10 := T9.trans (f10.mono (K' := fun x => x ≠ 0 ∧ x ≠ 888) (fun x h => by omega))
          have A10 := A9.trans (f10.mono (K' := fun x => x ≠ 0 ∧ x ≠ 888) (fun x h => by omega))
          have F10 := f10.Fin G9
          have hQ : ∀ i, i < (stO d).length → ∀ vs, Sl wr D9 (100 + 1 + i) (lv7 i) 40 1 vs.length vs → ∀ v ∈ vs, NewS w6.heap.size D9 wr v := by
            intro i hi vs hvs v hv
            obtain ⟨us, hus, hua⟩ := p10.each i hi
            have e1 : vs = us := Sl.uniq hvs hus
            have hul := hua.len
            by_cases e : i = 2
            · subst e
              have e2 : us = vs0 ++ [v5] := Sl.uniq hus l10
              have hul' : us.length = 1 := hul
              rw [e2, List.length_append, List.length_singleton] at hul'
              rw [e1, e2, List.eq_nil_of_length_eq_zero (l := vs0) (by omega)] at hv
              obtain rfl : v = v5 := by simpa using hv
              exact s10
            · have hi' : i < 4 := hi
              have h0 : us.length = 0 := by
                rw [hul]
                rcases (by omega : i = 0 ∨ i = 1 ∨ i = 3) with rfl | rfl | rfl <;> rfl
              rw [e1, List.eq_nil_of_length_eq_zero h0] at hv
              simp at hv
          clear HP9 HL9 HS9 T9 A9 G9 HI9 f10 bw10 i10 l10 s10 hi
          go_wp2_with fail
          refine (portsSealQ (NewS w6.heap.size D9 wr) wiredC wired_good D9 100 700 b0 ab0 (by omega) ⟨by omega, by omega⟩ n0 pv qv rv 0 lv7 (stO d) _ F10 p10 (by intro i hi; have hi' : i < 4 := hi; rcases (by omega : i = 0 ∨ i = 1 ∨ i = 2 ∨ i = 3) with rfl | rfl | rfl | rfl <;> simp) hQ).mono ?_
          rintro e w12 ⟨mv, cs12, C12, lv12, rfl, f12, -, i12, m12, q12⟩
          rw [show sealMs wiredC 0 (stO d) (stO d).length = [⟨2, d⟩] from seal_own d] at i12 m12
          obtain ⟨vl, rfl, lb12, -⟩ := m12.one
          obtain ⟨ea, ec, rfl, hec, hem, -⟩ := id lb12
          have s12 : NewS w6.heap.size C12 w12 (.slice ea d.length ec) := by
            rcases q12 _ (List.mem_cons_of_mem _ (List.mem_singleton.2 rfl)) with ⟨z, hz⟩ | hz
            · cases hz
            · exact hz.fr f12 (by unfold PKs; omega) (Nat.le_refl _)
          have T12 := T10.trans (f12.mono (K' := fun x => x ≠ 0 ∧ x ≠ 888) (fun x h => by unfold PKs at h; omega))
          have A12 := A10.trans (f12.mono (K' := fun x => x ≠ 0 ∧ x ≠ 888) (fun x h => by unfold PKs at h; omega))
          have hs612 := A12.size
          have hout : ∀ y, C12 y ≠ 888 → ¬ (w4.heap.size ≤ y ∧ y < w6.heap.size) := fun y h h12 => h (by rw [(A12.block y h12.2 (fun hk => hk.2 (HC6.out y h12.1 h12.2))).2]; exact HC6.out y h12.1 h12.2)
          obtain ⟨E, hE⟩ : ∃ E : Nat → Nat, ∀ y, E y = if w4.heap.size ≤ y ∧ y < w6.heap.size then B6 y else if y < w12.heap.size then (if C12 y = 700 then 998 else if y < w4.heap.size then 997 else 999) else 0 := ⟨_, fun _ => rfl⟩
          have FE : Fin E w12 := fun y hy => by rw [hE, if_neg (by omega), if_neg (by omega)]
          have gE : Fr (fun x => x = 997) B6 E w6 w12 := ⟨A12.os, A12.tape, A12.output, A12.size, fun y hy hk => by
            have hy4 : w4.heap.size ≤ y := by
              rcases Nat.lt_or_ge y w4.heap.size with h | h
              · exact absurd (HB6.out y h) hk
              · exact h
            exact ⟨(A12.block y hy (fun h => h.2 (HC6.out y hy4 hy))).1, by rw [hE, if_pos ⟨hy4, hy⟩]⟩, fun _ => FE⟩
          have r12 := HR6.out.fr gE (fun x h => by omega) (by simp [st0])
          have a12 : RdK w12 E 998 mv 2 1 _ := i12.rdk.recol (fun y hy hc => by rw [hE, if_neg (hout y (by rw [hc]; omega)), if_pos hy, if_pos hc])
          have k12 : IsBytesK w12 E 999 (.slice ea d.length ec) d := by
            obtain ⟨a', c', e, g1, g2, g3, g4⟩ := id lb12
            refine ⟨a', c', e, g1, g2, g3, fun hn => ?_⟩
            obtain ⟨b, off, ha, hC, hl, hc⟩ := g4 hn
            injection e with e1
            obtain ⟨z1, z2, z3, -⟩ := s12 b off _ _ (by rw [e1, ha])
            exact ⟨b, off, ha, by rw [hE, if_neg (by omega), if_pos hl, if_neg (by rw [z2]; omega), if_neg (by omega)], hl, hc⟩
          have bw12 : BW w12 E 999 ea d.length := bwOf k12 (fun b off ha => (s12 b off _ _ (by rw [ha])).2.2.2)
          have hold : ∀ y, y < w.heap.size → (w12.heap[y]? = w.heap[y]?) ∧ E y = 997 := fun y hy => by
            obtain ⟨t1, t2⟩ := T12.block y hy (fun h => h.1 rfl)
            have t2 : C12 y = 0 := t2
            exact ⟨t1, by rw [hE, if_neg (by omega), if_pos (by omega), if_neg (by rw [t2]; omega), if_pos (by omega)]⟩
          have HOLD := hid_ hold
          have HT12 := hid_ T12
          obtain ⟨ma, mc, rfl, hmc, hmm, -⟩ := id a12
          clear hE hout gE i12 m12 q12 f12 T10 A10 A12 T12 hold lb12 s12 p10 F10 hQ
          go_wp2_with fail
          refine (portsDeliverK wiredC wired_good E 300 998 b1 ab1 (by omega) (by omega) 999 (by omega) n1 pv' qv' rv' 1 0 noLv (st0 4) _ _ [⟨2, d⟩] _ FE r12 a12 ⟨rfl, k12, rfl, trivial⟩ (by simp)).mono ?_
          rintro e w13 ⟨E13, lv13, rfl, f13, r13⟩
          rw [show delivR wiredC 1 0 (st0 4) [⟨2, d⟩] ([⟨2, d⟩] : List Msg).length = (stA d 0, 1) from deliv_own d l4] at r13 ⊢
          have a13 := a12.fr f13 (by omega)
          have bw13 := bw12.fr f13 (by omega)
          have F13 := f13.Fin FE
          have Y13 := f13.mono (K' := fun x => x ≠ 997) (fun x h => by omega)
          obtain ⟨_, _, ea13, -, -, -, h13⟩ := a13
          obtain ⟨lbk, lo, hma, hcol, hlb, hcl⟩ := h13 (by omega)
          injection ea13 with ea13
          rw [hma] at ea13
          subst ea13
          have e13 := hcl 1 _ rfl
          have HR13 := hid_ r13
          clear a12 bw12 FE f13 r12 k12 h13 hcl hma r13
          go_wp2_with fail
          go_loopw [96] (fun jv wr2 => ∃ j : Nat, j ≤ d.length ∧ jv = .int .i64 j ∧ Fr (· = 999) E13 E13 w13 wr2 ∧ BW wr2 E13 999 ea d.length) (fun jv _ => d.length - (intOf jv).toNat)
          case atStart => exact ⟨0, Nat.zero_le _, rfl, Fr.refl _ _ _, bw13⟩
          case round =>
            obtain ⟨j, hj, rfl, f14, bw14⟩ := hrel
            clear bw13
            have e14 := (World.cell?_of_block (a := ⟨lbk, lo + 1, none⟩) (f14.block lbk hlb (by rw [hcol]; omega)).1).trans e13
            by_cases hjl : j < d.length
            · obtain ⟨b', o', rfl, hC', hl', hc', hz'⟩ := bw14 (by omega)
              obtain ⟨x, hx⟩ := hc' j hjl
              have i0 : (0 : Int) ≤ (j : Int) := Int.natCast_nonneg _
              have i1 : (j : Int) < (d.length : Int) := by omega
              clear hc'
              go_wp2_with fail
              go_roundw
              case rel => exact ⟨j + 1, by omega, by go_num, f14.setCell (.inr hC') _, bw14.set j hjl _⟩
              case measure => simp [intOf]; omega
            · obtain rfl : j = d.length := by omega
              have r14 := HR13.out.fr f14 (fun x h => by omega) (show 4 ≤ 24 by omega)
              have Y14 := Y13.trans (f14.mono (K' := fun x => x ≠ 997) (fun x h => by omega))
              have F14 := f14.Fin F13
              clear hj hjl bw14 e14 f14 HR13 Y13 F13 e13
              go_wp2_with fail
              refine (read_sampF wiredC wired_good E13 300 b1 ab1 (by omega) n1 pv' qv' rv' 1 3 lv13 (stA d 0) _ F14 r14 (show 3 < 4 by decide) rfl (show 1 < 2 by decide) rfl (by intro x hx; simp [stA] at hx; subst hx; omega) (by simp [stA]) rfl).mono ?_
              rintro e w15 ⟨v, d', q', hq', rfl, hb15, V15, ns15⟩
              obtain ⟨rfl, rfl⟩ : d = d' ∧ [] = q' := List.cons.inj hq'
              obtain ⟨ya, yc, rfl, hyc, hym, -⟩ := id hb15
              obtain ⟨D15, g15, G15, bw15, -, -⟩ := recolV 970 ns15 hb15 (Fr.of_below (C := E13) V15 (fun _ => False)) (F14.mono' V15)
              have sx := bytes_str hb15
              have HR15 := hid_ (r14.fr g15 (fun x h => h.elim) (show 4 ≤ 24 by omega))
              have Y15 := Y14.trans (g15.mono (K' := fun x => x ≠ 997) (fun _ h => h.elim))
              clear r14 F14 V15 ns15 hb15 g15 Y14 hq'
              go_wp2_with fail
              clear sx
              go_loopw [119] (fun jv wr3 => ∃ j : Nat, j ≤ d.length ∧ jv = .int .i64 j ∧ Fr (· = 970) D15 D15 w15 wr3 ∧ BW wr3 D15 970 ya d.length) (fun jv _ => d.length - (intOf jv).toNat)
              case atStart => exact ⟨0, Nat.zero_le _, rfl, Fr.refl _ _ _, bw15⟩
              case round =>
                obtain ⟨j, hj, rfl, f16, bw16⟩ := hrel
                clear bw15
                by_cases hjl : j < d.length
                · obtain ⟨b', o', rfl, hC', hl', hc', hz'⟩ := bw16 (by omega)
                  obtain ⟨x, hx⟩ := hc' j hjl
                  have i0 : (0 : Int) ≤ (j : Int) := Int.natCast_nonneg _
                  have i1 : (j : Int) < (d.length : Int) := by omega
                  clear hc'
                  go_wp2_with fail
                  go_roundw
                  case rel => exact ⟨j + 1, by omega, by go_num, f16.setCell (.inr hC') _, bw16.set j hjl _⟩
                  case measure => simp [intOf]; omega
                · obtain rfl : j = d.length := by omega
                  have r16 := HR15.out.fr f16 (fun x h => by omega) (show 4 ≤ 24 by omega)
                  have Y16 := Y15.trans (f16.mono (K' := fun x => x ≠ 997) (fun x h => by omega))
                  have F16 := f16.Fin G15
                  clear hj hjl bw16 f16 HR15 Y15 G15
                  go_wp2_with fail
                  refine (read_sampF wiredC wired_good D15 300 b1 ab1 (by omega) n1 pv' qv' rv' 1 3 lv13 (stA d 0) _ F16 r16 (show 3 < 4 by decide) rfl (show 1 < 2 by decide) rfl (by intro x hx; simp [stA] at hx; subst hx; omega) (by simp [stA]) rfl).mono ?_
                  rintro e w17 ⟨v, d', q', hq', rfl, hb17, V17, -⟩
                  obtain ⟨rfl, rfl⟩ : d = d' ∧ [] = q' := List.cons.inj hq'
                  have Y17 := Y16.trans (Fr.of_below (C := D15) V17 (fun x => x ≠ 997))
                  have VT : Below w.heap.size w w17 := ⟨Y17.os.trans HT12.out.os, Y17.tape.trans HT12.out.tape, Y17.output.trans HT12.out.output, Nat.le_trans HT12.out.size Y17.size, fun y hy => by
                    obtain ⟨t1, t2⟩ := HOLD.out y hy
                    exact (Y17.block y (Nat.lt_of_lt_of_le hy HT12.out.size) (fun h => h t2)).1.trans t1⟩
                  have sx := bytes_str hb17
                  have sz := bytes_str (HD.out.fr (Fr.of_below (C := fun _ => 0) VT (fun _ => False)) (fun h => h))
                  obtain ⟨za, zc, rfl, -⟩ := id hb17
                  clear r16 F16 V17 hb17 Y16 Y17 hq' HT12 HOLD
                  go_wp2_with fail
                  go_ret
                  exact ⟨rfl, VT⟩
end Go.Proofs.Ytogfbeibpfdleaa
