/- append in a guarded operation. No condition. · Chapter 13's PortsWrong: the walk. No condition. -/
import Derived.Test.YtogfbeibpfdleaaSl
import Derived.Test.YtogfbeibpfdleaaAwk13
import Derived.Test.YtogfbeibpfdleaaPWriteS
import Derived.Test.YtogfbeibpfdleaaPBad
set_option linter.unusedSimpArgs false
set_option linter.unusedVariables false
namespace Go.Proofs.Ytogfbeibpfdleaa
open Go.RowKit Go.Maps
theorem wpList_append_g {P : Program} {w w' : World} {ops : Array Oper} {rest : List Oper} {o : Oper} {a : Act} {Q : Exit → Act → World → Prop} {s x : Operand} {t u ty : TypeId} {vs vx v' : Value}
    (hr : (Builtin.append_ #[t, u] ty #[vs, vx]).run P w = .ok v' w') (hw : Region.wanted o (yielded ops a.tmps) = true) (ho : o.op = .call { callee := .builtin .append, args := #[s, x], argTypes := #[t, u] }) (hs : a.eval s = vs) (hx : a.eval x = vx)
    (h : wpList P ops Q rest (a.put o.dst v') w') : wpList P ops Q (o :: rest) a w := by
  unfold wpList
  rw [if_pos hw]
  exact .inl (wp_append_run hr ho hs hx h)
end Go.Proofs.Ytogfbeibpfdleaa
namespace Go.Proofs.Ytogfbeibpfdleaa
open Go.RowKit Go.Maps

/-- A constant's bytes, fresh. -/
theorem const_bytes {w : World} {C : Nat → Nat} (ds : List UInt8) (hl : ds.length ≤ 1000) (hf : Fin C w) (t : Nat) (r : Nat × Nat) : IsBytes (w.alloc (.cells (byteV ds).toArray t r)) C (.slice (some ⟨w.heap.size, 0, none⟩) ds.length ds.length) ds := by
  have hg : (w.alloc (.cells (byteV ds).toArray t r)).heap[w.heap.size]? = some (.cells (byteV ds).toArray t r) := by
    show (w.heap.push _)[w.heap.size]? = _
    simp
  refine ⟨_, _, rfl, Nat.le_refl _, by unfold maxLen; omega, by unfold byteV; simp, fun _ => ⟨w.heap.size, 0, rfl, hf _ (Nat.le_refl _), ?_, fun i y hy => ?_⟩⟩
  · show _ < (w.heap.push _).size
    simp
  · show (match (w.alloc (.cells (byteV ds).toArray t r)).heap[w.heap.size]? with | some (.cells c _ _) => c[0 + i]? | _ => none) = _
    rw [hg, Nat.zero_add]
    simpa using hy
theorem const_fr {C : Nat → Nat} (w : World) (o : Obj) : Fr (fun _ => False) C C w (w.alloc o) := Fr.of_below ((Below.refl _ _).alloc (Nat.le_refl _) _) _
def keepD : List UInt8 := [107, 101, 101, 112]
def stK : List PSt := [⟨[], 0⟩, ⟨[], 0⟩, ⟨[keepD], 0⟩, ⟨[], 0⟩]
theorem put_keep : putSt wiredC (st0 4) 2 keepD = stK := by rfl
theorem writeK (C : Nat → Nat) (k b ab : Nat) (hk : k ≠ 0) (hab : ab ≠ b) (pv qv rv : Value) (lv : Nat → Value) (st : List PSt) (dv : Value) (d : List UInt8) (w : World) (hf : Fin C w) (h : IsPorts w C k b ab wiredC pv qv rv 0 lv st)
    (hd : IsBytes w C dv d) (hs : d.length ≤ 4) :
    Calls Try.prog 13 #[.pointer (some ⟨b, 0, none⟩), .int .i64 0, .int .i64 2, dv] w fun e w' => e = .returned .nilIface ∧ ∃ C' lv', Fr (fun x => k ≤ x ∧ x < k + 100) C C' w w' ∧ IsPorts w' C' k b ab wiredC pv qv rv 0 lv' (putSt wiredC st 2 d) :=
  write_samp wiredC wired_good C k b ab hk hab pv qv rv 0 2 lv st dv d w hf h (show 2 < 4 by decide) rfl (show 0 < 2 by decide) rfl hd (show (d.length : Int) ≤ 4 by omega) rfl
theorem find_other (part port : Int) (out : Bool) (h : ¬ (part = 0 ∧ (port = 0 ∨ port = 2))) : findE wiredC 0 part port out = some (17, if port < -1 then -1 else port) := by
  unfold findE
  rw [if_pos]
  by_cases h1 : port < 0
  · exact .inl h1
  · by_cases h2 : (wiredC.ports.length : Int) ≤ port
    · exact .inr (.inl h2)
    · have h4 : port < 4 := by
        have : (wiredC.ports.length : Int) = 4 := rfl
        omega
      rcases (by omega : port = 0 ∨ port = 1 ∨ port = 2 ∨ port = 3) with rfl | rfl | rfl | rfl
      · refine .inr (.inr (.inl (fun e => h ⟨?_, .inl rfl⟩)))
        have : (wiredC.port (0 : Int).toNat).part = 0 := rfl
        omega
      · by_cases hp : part = 1
        · subst hp
          exact .inr (.inr (.inr (by decide)))
        · refine .inr (.inr (.inl (fun e => hp ?_)))
          have : (wiredC.port (1 : Int).toNat).part = 1 := rfl
          omega
      · refine .inr (.inr (.inl (fun e => h ⟨?_, .inr rfl⟩)))
        have : (wiredC.port (2 : Int).toNat).part = 0 := rfl
        omega
      · by_cases hp : part = 1
        · subst hp
          exact .inr (.inr (.inr (by decide)))
        · refine .inr (.inr (.inl (fun e => hp ?_)))
          have : (wiredC.port (3 : Int).toNat).part = 1 := rfl
          omega
/-- An error with a code and a place, read. -/
theorem read_wide (c a : Int) (hc : 1 ≤ c ∧ c ≤ 1000) (ha : -1 ≤ a ∧ a ≤ 9223372036854775807) (b : Nat) (w : World) (hB : Bk w b 95 [.int .i64 c, .int .i64 a, .nilIface]) :
    Calls Try.prog 17 #[faultV b] w fun e w' => e = .returned (.string ⟨(atT c a).toArray⟩) ∧ Below w.heap.size w w' := by
  exact read_any (fun _ => 0) (faultV b) [(c, some a)] w ⟨b, .nilIface, rfl, hB, rfl, rfl⟩ ⟨by simp, fun y hy => by
    simp only [List.mem_singleton] at hy
    subst hy
    exact ⟨by simp only; omega, by simp only; omega, by simp only; omega, fun a' h => by cases h; omega⟩⟩
theorem atT_clamp (c a : Int) : atT c (if a < -1 then -1 else a) = atT c a := by
  unfold atT
  by_cases h : a < -1
  · rw [if_pos h, if_pos (by omega), if_pos (by omega)]
  · rw [if_neg h]
theorem stK_q4 : ∀ i, i < stK.length → (stK.getD i default).q.length ≤ 4 := by decide
theorem stK_b : ∀ i, i < stK.length → ∀ x ∈ (stK.getD i default).q, x.length ≤ 140737488355328 := by decide
theorem stK_im : imageMs wiredC 0 stK stK.length = [⟨2, keepD⟩] := by rfl

/-- What the walk keeps. -/
structure WrongK (w : World) (C : Nat → Nat) (W : World) (b ab : Nat) (pv qv rv : Value) (lv : Nat → Value) (dv : Value) (d : List UInt8) : Prop where
  tot : Fr (· ≠ 0) (fun _ => 0) C w W
  fin : Fin C W
  pt : IsPorts W C 100 b ab wiredC pv qv rv 0 lv stK
  dat : IsBytes W C dv d
theorem WrongK.below {w W W' : World} {C : Nat → Nat} {b ab : Nat} {pv qv rv dv : Value} {lv : Nat → Value} {d : List UInt8} (h : WrongK w C W b ab pv qv rv lv dv d) (hb : Below W.heap.size W W') : WrongK w C W' b ab pv qv rv lv dv d := by
  have g := Fr.of_below (C := C) hb (fun _ => False)
  exact ⟨h.tot.trans (g.mono (fun _ h => h.elim)), g.Fin h.fin, h.pt.fr g (fun x h => h.elim) (by decide), h.dat.fr g (fun h => h)⟩

set_option maxRecDepth 100000 in
set_option maxHeartbeats 8000000 in
theorem wrong_walk (part port : Int) (hpa : I64 part) (hpo : I64 port) (d : List UInt8) (dv : Value) (w : World) (hd : IsBytes w (fun _ => 0) dv d) :
    Calls Try.prog 5 #[.int .i64 part, .int .i64 port, dv] w fun e w' => e = .returned (.bool true) ∧ Below w.heap.size w w' := by
  obtain ⟨da, dc, rfl, hdc, hdm, -⟩ := id hd
  unfold maxLen at hdm
  obtain ⟨po1, po2⟩ := hpo
  have kc := fun (w : World) (C : Array Value) (n c : Nat) => Lib.run_convert_bytes_const (P := Try.prog) w 40 5 C n c Try.underlying40 Try.underlying5
  go_enter Try.func5, Try.ntmps5
  go_wp2_with fail
  refine (awake13 _).mono ?_
  rintro e w1 ⟨rfl, V1⟩
  by_cases h100 : (100 : Int) < (d.length : Int)
  · go_wp2
    go_ret
    exact ⟨rfl, V1⟩
  have ld : d.length ≤ 100 := by omega
  go_wp2_with fail
  refine (law13Wired (fun _ => 0) _ (fun _ _ => rfl)).mono ?_
  rintro e w2 ⟨pv, qv, rv, rfl, V2, L2⟩
  go_wp2_with fail
  refine (newWired (fun _ => 0) 100 (by omega) 0 (.inl rfl) pv qv rv _ L2 (fun _ _ => rfl)).mono ?_
  rintro e w3 ⟨b0, ab0, C3, rfl, n0, hb0, hab0, f3, p3⟩
  have T3 := ((Fr.of_below (C := fun _ => 0) V1 (fun _ => False)).trans (Fr.of_below (C := fun _ => 0) V2 (fun _ => False))).trans f3
  have F3 : Fin C3 w3 := T3.Fin (fun _ _ => rfl)
  clear hb0 hab0 L2 V1 V2 f3
  go_wp2_with fail
  have D4 : IsBytes (w3.alloc (.cells #[.int .u8 107, .int .u8 101, .int .u8 101, .int .u8 112] 5 (4, 5))) C3 (.slice (some ⟨w3.heap.size, 0, none⟩) 4 4) keepD := const_bytes keepD (by decide) F3 5 (4, 5)
  have f4 := const_fr (C := C3) w3 (.cells #[.int .u8 107, .int .u8 101, .int .u8 101, .int .u8 112] 5 (4, 5))
  have p4 := p3.fr f4 (fun x h => h.elim) (by simp [st0])
  have T4 := (T3.trans f4).mono (K' := (· ≠ 0)) (fun _ h => h.elim)
  have F4 := f4.Fin F3
  clear p3 T3 F3 f4
  refine (writeK C3 100 b0 ab0 (by omega) n0 pv qv rv noLv (st0 4) _ keepD _ F4 p4 D4 (by decide)).mono ?_
  rintro e w5 ⟨rfl, C5, lv5, f5, p5⟩
  rw [put_keep] at p5
  have T5 := T4.trans (f5.mono (K' := (· ≠ 0)) (fun x h => by omega))
  have K5 : WrongK w C5 w5 b0 ab0 pv qv rv lv5 (.slice da d.length dc) d := ⟨T5, f5.Fin F4, p5, hd.fr T5 (by simp)⟩
  clear T4 F4 p4 D4 f5 p5 T5
  have k0 : (0 : Int) ≤ (d.length : Int) := Int.natCast_nonneg _
  go_upto_region 8 with (fail)
  by_cases hm : part = 0 ∧ (port = 0 ∨ port = 2)
  · obtain ⟨rfl, hport⟩ := hm
    rcases hport with rfl | rfl
    · have HE1 := hid_ (show findE wiredC 0 0 0 false = some (13, 0) by rfl)
      go_wp2_with fail
      refine (read_bad wiredC wired_good C5 100 b0 ab0 pv qv rv 0 _ _ lv5 stK w5 K5.pt _ HE1.out).mono ?_
      rintro e w6 ⟨ev, rfl, V6, E6⟩
      have K6 := K5.below V6
      obtain ⟨eb, rfl, hg6, B6⟩ := E6
      have hcE : C5 eb = 0 := K5.fin _ hg6
      obtain ⟨xb, xo, xp, W7, hr7, x7, hb7, hge7, hraw7⟩ := copy_of (P := Try.prog) w6 K6.fin Try.underlying40 info_u8' K6.dat.src (by unfold maxLen; omega) (by omega)
      have HR7 := hid_ hr7
      have K7 := K6.below hb7
      have B7 := B6.same (hb7.block _ B6.lt)
      clear hr7 hraw7 hge7 hb7 K6 B6 V6 K5
      go_wp2_with (refine wpList_append_run HR7.out (by rfl) (by rfl) (by rfl) (by rfl) ?_)
      clear HR7
      by_cases hsz : (1 : Int) < (d.length : Int)
      · refine (write_size wiredC wired_good C5 100 b0 ab0 (by omega) n0 pv qv rv 0 0 lv5 stK _ d W7 K7.fin K7.pt (by decide) rfl (by decide) rfl x7 (show (1 : Int) < (d.length : Int) from hsz)).mono ?_
        rintro e w8 ⟨ev2, rfl, V8, E8⟩
        have K8 := K7.below V8
        have B8 := B7.same (V8.block _ B7.lt)
        obtain ⟨eb2, rfl, hg8, D8⟩ := E8
        have hc8 : C5 eb2 = 0 := K7.fin _ hg8
        clear K7 B7 V8 x7
        go_wp2_with fail
        refine (read_wide 13 0 (by omega) (by omega) eb _ B8).mono ?_
        rintro e w9 ⟨rfl, V9⟩
        have K9 := K8.below V9
        have D9 := D8.same (V9.block _ D8.lt)
        clear K8 D8 B8 V9
        go_wp2_with fail
        refine (refAt_any 13 0 (by omega) (by omega) (by omega) (by omega) _).mono ?_
        rintro e w10 ⟨rfl, V10⟩
        have K10 := K9.below V10
        have D10 := D9.same (V10.block _ D9.lt)
        clear K9 D9 V10
        go_wp2_with fail
        refine (portsImage wiredC wired_good C5 100 600 b0 ab0 (by omega) ⟨by omega, by omega⟩ pv qv rv 0 lv5 stK _ K10.fin K10.pt stK_q4 stK_b).mono ?_
        rintro e w11 ⟨iv, is, C11, rfl, f11, s11, m11⟩
        rw [stK_im] at s11 m11
        obtain ⟨ia, ic, rfl, hic, him, -⟩ := s11.form
        have T11 := K10.tot.trans (f11.mono (fun x h => by omega))
        have D11 := D10.same ((f11.block _ D10.lt (fun e => by omega)).1)
        obtain ⟨mv, -, h1, hb, -⟩ := m11.get (i := 0) (by simp)
        obtain ⟨ib, io, rfl, hcol, hlt, hcell⟩ := s11.at (by simp)
        have c1 := hcell 1 mv h1
        have hb11 : IsBytes w11 C11 mv keepD := hb
        have F11 := f11.Fin K10.fin
        clear K10 f11 s11 m11 hcell h1 hb D10
        go_wp2_with fail
        refine (read_wide 12 0 (by omega) (by omega) eb2 _ D11).mono ?_
        rintro e w12 ⟨rfl, V12⟩
        have c12 := (V12.cell (World.block_lt_of_cell? _ _ c1)).trans c1
        have hb12 := hb11.fr (Fr.of_below (C := C11) V12 (fun _ => False)) (fun h => h)
        have T12 := T11.trans (Fr.of_below (C := C11) V12 (· ≠ 0))
        clear D11 c1 hb11 T11 V12
        go_wp2_with fail
        refine (refAt_any 12 0 (by omega) (by omega) (by omega) (by omega) _).mono ?_
        rintro e w13 ⟨rfl, V13⟩
        have c13 := (V13.cell (World.block_lt_of_cell? _ _ c12)).trans c12
        have hb13 := hb12.fr (Fr.of_below (C := C11) V13 (fun _ => False)) (fun h => h)
        have T13 := T12.trans (Fr.of_below (C := C11) V13 (· ≠ 0))
        have s13 : (convert 40 9 mv).run Try.prog w13 = .ok (.string ⟨#[107, 101, 101, 112]⟩) w13 := bytes_str hb13
        obtain ⟨ka, kcp, rfl, -⟩ := id hb13
        clear c12 hb12 T12 V13 hb13
        go_wp2
        go_ret
        exact ⟨rfl, T13.below (fun b _ h => h rfl)⟩
      · refine (write_queue wiredC wired_good C5 100 b0 ab0 (by omega) n0 pv qv rv 0 0 lv5 stK _ d W7 K7.fin K7.pt (by decide) rfl (by decide) rfl x7 (show (d.length : Int) ≤ 1 by omega) (by decide) (by decide)).mono ?_
        rintro e w8 ⟨rfl, C8, lv8, f8, p8⟩
        have hc6 : C5 eb = 0 := hcE
        have B8 := B7.same (f8.block _ B7.lt (by rw [hc6]; omega)).1
        have T8 := K7.tot.trans (f8.mono (K' := (· ≠ 0)) (fun x h => by omega))
        clear K7 B7 f8 p8 x7
        go_wp2_with fail
        refine (read_wide 13 0 (by omega) (by omega) eb _ B8).mono ?_
        rintro e w9 ⟨rfl, V9⟩
        have T9 := T8.trans (Fr.of_below (C := C8) V9 (· ≠ 0))
        clear T8 B8 V9
        go_wp2_with fail
        refine (refAt_any 13 0 (by omega) (by omega) (by omega) (by omega) _).mono ?_
        rintro e w10 ⟨rfl, V10⟩
        have T10 := T9.trans (Fr.of_below (C := C8) V10 (· ≠ 0))
        clear T9 V10
        go_wp2
        go_ret
        exact ⟨rfl, T10.below (fun b _ h => h rfl)⟩
    · have HE1 := hid_ (show findE wiredC 0 0 2 false = some (13, 2) by rfl)
      go_wp2_with fail
      refine (read_bad wiredC wired_good C5 100 b0 ab0 pv qv rv 0 _ _ lv5 stK w5 K5.pt _ HE1.out).mono ?_
      rintro e w6 ⟨ev, rfl, V6, E6⟩
      have K6 := K5.below V6
      obtain ⟨eb, rfl, hg6, B6⟩ := E6
      have hcE : C5 eb = 0 := K5.fin _ hg6
      obtain ⟨xb, xo, xp, W7, hr7, x7, hb7, hge7, hraw7⟩ := copy_of (P := Try.prog) w6 K6.fin Try.underlying40 info_u8' K6.dat.src (by unfold maxLen; omega) (by omega)
      have HR7 := hid_ hr7
      have K7 := K6.below hb7
      have B7 := B6.same (hb7.block _ B6.lt)
      clear hr7 hraw7 hge7 hb7 K6 B6 V6 K5
      go_wp2_with (refine wpList_append_run HR7.out (by rfl) (by rfl) (by rfl) (by rfl) ?_)
      clear HR7
      by_cases hsz : (4 : Int) < (d.length : Int)
      · refine (write_size wiredC wired_good C5 100 b0 ab0 (by omega) n0 pv qv rv 0 2 lv5 stK _ d W7 K7.fin K7.pt (by decide) rfl (by decide) rfl x7 (show (4 : Int) < (d.length : Int) from hsz)).mono ?_
        rintro e w8 ⟨ev2, rfl, V8, E8⟩
        have K8 := K7.below V8
        have B8 := B7.same (V8.block _ B7.lt)
        obtain ⟨eb2, rfl, hg8, D8⟩ := E8
        have hc8 : C5 eb2 = 0 := K7.fin _ hg8
        clear K7 B7 V8 x7
        go_wp2_with fail
        refine (read_wide 13 2 (by omega) (by omega) eb _ B8).mono ?_
        rintro e w9 ⟨rfl, V9⟩
        have K9 := K8.below V9
        have D9 := D8.same (V9.block _ D8.lt)
        clear K8 D8 B8 V9
        go_wp2_with fail
        refine (refAt_any 13 2 (by omega) (by omega) (by omega) (by omega) _).mono ?_
        rintro e w10 ⟨rfl, V10⟩
        have K10 := K9.below V10
        have D10 := D9.same (V10.block _ D9.lt)
        clear K9 D9 V10
        go_wp2_with fail
        refine (portsImage wiredC wired_good C5 100 600 b0 ab0 (by omega) ⟨by omega, by omega⟩ pv qv rv 0 lv5 stK _ K10.fin K10.pt stK_q4 stK_b).mono ?_
        rintro e w11 ⟨iv, is, C11, rfl, f11, s11, m11⟩
        rw [stK_im] at s11 m11
        obtain ⟨ia, ic, rfl, hic, him, -⟩ := s11.form
        have T11 := K10.tot.trans (f11.mono (fun x h => by omega))
        have D11 := D10.same ((f11.block _ D10.lt (fun e => by omega)).1)
        obtain ⟨mv, -, h1, hb, -⟩ := m11.get (i := 0) (by simp)
        obtain ⟨ib, io, rfl, hcol, hlt, hcell⟩ := s11.at (by simp)
        have c1 := hcell 1 mv h1
        have hb11 : IsBytes w11 C11 mv keepD := hb
        have F11 := f11.Fin K10.fin
        clear K10 f11 s11 m11 hcell h1 hb D10
        go_wp2_with fail
        refine (read_wide 12 2 (by omega) (by omega) eb2 _ D11).mono ?_
        rintro e w12 ⟨rfl, V12⟩
        have c12 := (V12.cell (World.block_lt_of_cell? _ _ c1)).trans c1
        have hb12 := hb11.fr (Fr.of_below (C := C11) V12 (fun _ => False)) (fun h => h)
        have T12 := T11.trans (Fr.of_below (C := C11) V12 (· ≠ 0))
        clear D11 c1 hb11 T11 V12
        go_wp2_with fail
        refine (refAt_any 12 2 (by omega) (by omega) (by omega) (by omega) _).mono ?_
        rintro e w13 ⟨rfl, V13⟩
        have c13 := (V13.cell (World.block_lt_of_cell? _ _ c12)).trans c12
        have hb13 := hb12.fr (Fr.of_below (C := C11) V13 (fun _ => False)) (fun h => h)
        have T13 := T12.trans (Fr.of_below (C := C11) V13 (· ≠ 0))
        have s13 : (convert 40 9 mv).run Try.prog w13 = .ok (.string ⟨#[107, 101, 101, 112]⟩) w13 := bytes_str hb13
        obtain ⟨ka, kcp, rfl, -⟩ := id hb13
        clear c12 hb12 T12 V13 hb13
        go_wp2
        go_ret
        exact ⟨rfl, T13.below (fun b _ h => h rfl)⟩
      · refine (write_samp wiredC wired_good C5 100 b0 ab0 (by omega) n0 pv qv rv 0 2 lv5 stK _ d W7 K7.fin K7.pt (by decide) rfl (by decide) rfl x7 (show (d.length : Int) ≤ 4 by omega) rfl).mono ?_
        rintro e w8 ⟨rfl, C8, lv8, f8, p8⟩
        have hc6 : C5 eb = 0 := hcE
        have B8 := B7.same (f8.block _ B7.lt (by rw [hc6]; omega)).1
        have T8 := K7.tot.trans (f8.mono (K' := (· ≠ 0)) (fun x h => by omega))
        clear K7 B7 f8 p8 x7
        go_wp2_with fail
        refine (read_wide 13 2 (by omega) (by omega) eb _ B8).mono ?_
        rintro e w9 ⟨rfl, V9⟩
        have T9 := T8.trans (Fr.of_below (C := C8) V9 (· ≠ 0))
        clear T8 B8 V9
        go_wp2_with fail
        refine (refAt_any 13 2 (by omega) (by omega) (by omega) (by omega) _).mono ?_
        rintro e w10 ⟨rfl, V10⟩
        have T10 := T9.trans (Fr.of_below (C := C8) V10 (· ≠ 0))
        clear T9 V10
        go_wp2
        go_ret
        exact ⟨rfl, T10.below (fun b _ h => h rfl)⟩
  · have hE1 := find_other part port false hm
    have hE2 := find_other part port true hm
    have hm2 := hid_ hm
    clear hm
    have hcl : -1 ≤ (if port < -1 then -1 else port) ∧ (if port < -1 then -1 else port) ≤ 9223372036854775807 := by split <;> omega
    have hat := atT_clamp 17 port
    generalize (if port < -1 then -1 else port) = pc at *
    have HCL := hid_ hcl
    have HAT := hid_ hat
    have HE1 := hid_ hE1
    have HE2 := hid_ hE2
    clear hcl hat hE1 hE2
    by_cases q1 : part = 0
    · subst q1
      have z0 : ((port : Int) == 0) = false := beq_eq_false_iff_ne.2 (fun h => hm2.out ⟨rfl, .inl h⟩)
      have z2 : ((port : Int) == 2) = false := beq_eq_false_iff_ne.2 (fun h => hm2.out ⟨rfl, .inr h⟩)
      go_wp2_with fail
      refine (read_bad wiredC wired_good C5 100 b0 ab0 pv qv rv 0 _ _ lv5 stK w5 K5.pt _ HE1.out).mono ?_
      rintro e w6 ⟨ev, rfl, V6, E6⟩
      have K6 := K5.below V6
      obtain ⟨eb, rfl, hg6, B6⟩ := E6
      have hcE : C5 eb = 0 := K5.fin _ hg6
      obtain ⟨xb, xo, xp, W7, hr7, x7, hb7, hge7, hraw7⟩ := copy_of (P := Try.prog) w6 K6.fin Try.underlying40 info_u8' K6.dat.src (by unfold maxLen; omega) (by omega)
      have HR7 := hid_ hr7
      have K7 := K6.below hb7
      have B7 := B6.same (hb7.block _ B6.lt)
      clear hr7 hraw7 hge7 hb7 K6 B6 V6 K5
      go_wp2_with (refine wpList_append_run HR7.out (by rfl) (by rfl) (by rfl) (by rfl) ?_)
      clear HR7
      refine (write_bad wiredC wired_good C5 100 b0 ab0 pv qv rv 0 _ _ lv5 stK _ W7 K7.pt _ HE2.out).mono ?_
      rintro e w8 ⟨ev2, rfl, V8, E8⟩
      have K8 := K7.below V8
      have B8 := B7.same (V8.block _ B7.lt)
      obtain ⟨eb2, rfl, -, D8⟩ := E8
      clear K7 B7 V8 x7
      go_wp2_with fail
      refine (read_wide 17 pc (by omega) HCL.out eb _ B8).mono ?_
      rintro e w9 ⟨rfl, V9⟩
      rw [HAT.out]
      have K9 := K8.below V9
      have D9 := D8.same (V9.block _ D8.lt)
      clear K8 D8 B8 V9
      go_wp2_with fail
      refine (refAt_any 17 _ (by omega) (by omega) po1 po2 _).mono ?_
      rintro e w10 ⟨rfl, V10⟩
      have K10 := K9.below V10
      have D10 := D9.same (V10.block _ D9.lt)
      clear K9 D9 V10
      go_wp2_with fail
      refine (read_wide 17 pc (by omega) HCL.out eb2 _ D10).mono ?_
      rintro e w11 ⟨rfl, V11⟩
      rw [HAT.out]
      have K11 := K10.below V11
      clear K10 D10 V11
      go_wp2_with fail
      refine (refAt_any 17 _ (by omega) (by omega) po1 po2 _).mono ?_
      rintro e w12 ⟨rfl, V12⟩
      have K12 := K11.below V12
      clear K11 V12
      go_wp2_with fail
      refine (portsImage wiredC wired_good C5 100 600 b0 ab0 (by omega) ⟨by omega, by omega⟩ pv qv rv 0 lv5 stK _ K12.fin K12.pt stK_q4 stK_b).mono ?_
      rintro e w13 ⟨iv, is, C13, rfl, f13, s13, -⟩
      rw [stK_im] at s13
      obtain ⟨ia, ic, rfl, hic, him, -⟩ := s13.form
      have T13 := K12.tot.trans (f13.mono (fun x h => by omega))
      clear K12 f13 s13
      go_wp2
      go_ret
      exact ⟨rfl, T13.below (fun b _ h => h rfl)⟩
    · have z0 : ((part : Int) == 0) = false := beq_eq_false_iff_ne.2 q1
      have HQ := hid_ q1
      clear q1
      by_cases q2 : port = 2
      · subst q2
        go_wp2_with fail
        refine (read_bad wiredC wired_good C5 100 b0 ab0 pv qv rv 0 _ _ lv5 stK w5 K5.pt _ HE1.out).mono ?_
        rintro e w6 ⟨ev, rfl, V6, E6⟩
        have K6 := K5.below V6
        obtain ⟨eb, rfl, hg6, B6⟩ := E6
        have hcE : C5 eb = 0 := K5.fin _ hg6
        obtain ⟨xb, xo, xp, W7, hr7, x7, hb7, hge7, hraw7⟩ := copy_of (P := Try.prog) w6 K6.fin Try.underlying40 info_u8' K6.dat.src (by unfold maxLen; omega) (by omega)
        have HR7 := hid_ hr7
        have K7 := K6.below hb7
        have B7 := B6.same (hb7.block _ B6.lt)
        clear hr7 hraw7 hge7 hb7 K6 B6 V6 K5
        go_wp2_with (refine wpList_append_run HR7.out (by rfl) (by rfl) (by rfl) (by rfl) ?_)
        clear HR7
        refine (write_bad wiredC wired_good C5 100 b0 ab0 pv qv rv 0 _ _ lv5 stK _ W7 K7.pt _ HE2.out).mono ?_
        rintro e w8 ⟨ev2, rfl, V8, E8⟩
        have K8 := K7.below V8
        have B8 := B7.same (V8.block _ B7.lt)
        obtain ⟨eb2, rfl, -, D8⟩ := E8
        clear K7 B7 V8 x7
        go_wp2_with fail
        refine (read_wide 17 pc (by omega) HCL.out eb _ B8).mono ?_
        rintro e w9 ⟨rfl, V9⟩
        rw [HAT.out]
        have K9 := K8.below V9
        have D9 := D8.same (V9.block _ D8.lt)
        clear K8 D8 B8 V9
        go_wp2_with fail
        refine (refAt_any 17 _ (by omega) (by omega) po1 po2 _).mono ?_
        rintro e w10 ⟨rfl, V10⟩
        have K10 := K9.below V10
        have D10 := D9.same (V10.block _ D9.lt)
        clear K9 D9 V10
        go_wp2_with fail
        refine (read_wide 17 pc (by omega) HCL.out eb2 _ D10).mono ?_
        rintro e w11 ⟨rfl, V11⟩
        rw [HAT.out]
        have K11 := K10.below V11
        clear K10 D10 V11
        go_wp2_with fail
        refine (refAt_any 17 _ (by omega) (by omega) po1 po2 _).mono ?_
        rintro e w12 ⟨rfl, V12⟩
        have K12 := K11.below V12
        clear K11 V12
        go_wp2_with fail
        refine (portsImage wiredC wired_good C5 100 600 b0 ab0 (by omega) ⟨by omega, by omega⟩ pv qv rv 0 lv5 stK _ K12.fin K12.pt stK_q4 stK_b).mono ?_
        rintro e w13 ⟨iv, is, C13, rfl, f13, s13, -⟩
        rw [stK_im] at s13
        obtain ⟨ia, ic, rfl, hic, him, -⟩ := s13.form
        have T13 := K12.tot.trans (f13.mono (fun x h => by omega))
        clear K12 f13 s13
        go_wp2
        go_ret
        exact ⟨rfl, T13.below (fun b _ h => h rfl)⟩
      · have z2 : ((port : Int) == 2) = false := beq_eq_false_iff_ne.2 q2
        have HQ2 := hid_ q2
        clear q2
        go_wp2_with fail
        refine (read_bad wiredC wired_good C5 100 b0 ab0 pv qv rv 0 _ _ lv5 stK w5 K5.pt _ HE1.out).mono ?_
        rintro e w6 ⟨ev, rfl, V6, E6⟩
        have K6 := K5.below V6
        obtain ⟨eb, rfl, hg6, B6⟩ := E6
        have hcE : C5 eb = 0 := K5.fin _ hg6
        obtain ⟨xb, xo, xp, W7, hr7, x7, hb7, hge7, hraw7⟩ := copy_of (P := Try.prog) w6 K6.fin Try.underlying40 info_u8' K6.dat.src (by unfold maxLen; omega) (by omega)
        have HR7 := hid_ hr7
        have K7 := K6.below hb7
        have B7 := B6.same (hb7.block _ B6.lt)
        clear hr7 hraw7 hge7 hb7 K6 B6 V6 K5
        go_wp2_with (refine wpList_append_run HR7.out (by rfl) (by rfl) (by rfl) (by rfl) ?_)
        clear HR7
        refine (write_bad wiredC wired_good C5 100 b0 ab0 pv qv rv 0 _ _ lv5 stK _ W7 K7.pt _ HE2.out).mono ?_
        rintro e w8 ⟨ev2, rfl, V8, E8⟩
        have K8 := K7.below V8
        have B8 := B7.same (V8.block _ B7.lt)
        obtain ⟨eb2, rfl, -, D8⟩ := E8
        clear K7 B7 V8 x7
        go_wp2_with fail
        refine (read_wide 17 pc (by omega) HCL.out eb _ B8).mono ?_
        rintro e w9 ⟨rfl, V9⟩
        rw [HAT.out]
        have K9 := K8.below V9
        have D9 := D8.same (V9.block _ D8.lt)
        clear K8 D8 B8 V9
        go_wp2_with fail
        refine (refAt_any 17 _ (by omega) (by omega) po1 po2 _).mono ?_
        rintro e w10 ⟨rfl, V10⟩
        have K10 := K9.below V10
        have D10 := D9.same (V10.block _ D9.lt)
        clear K9 D9 V10
        go_wp2_with fail
        refine (read_wide 17 pc (by omega) HCL.out eb2 _ D10).mono ?_
        rintro e w11 ⟨rfl, V11⟩
        rw [HAT.out]
        have K11 := K10.below V11
        clear K10 D10 V11
        go_wp2_with fail
        refine (refAt_any 17 _ (by omega) (by omega) po1 po2 _).mono ?_
        rintro e w12 ⟨rfl, V12⟩
        have K12 := K11.below V12
        clear K11 V12
        go_wp2_with fail
        refine (portsImage wiredC wired_good C5 100 600 b0 ab0 (by omega) ⟨by omega, by omega⟩ pv qv rv 0 lv5 stK _ K12.fin K12.pt stK_q4 stK_b).mono ?_
        rintro e w13 ⟨iv, is, C13, rfl, f13, s13, -⟩
        rw [stK_im] at s13
        obtain ⟨ia, ic, rfl, hic, him, -⟩ := s13.form
        have T13 := K12.tot.trans (f13.mono (fun x h => by omega))
        clear K12 f13 s13
        go_wp2
        go_ret
        exact ⟨rfl, T13.below (fun b _ h => h rfl)⟩
end Go.Proofs.Ytogfbeibpfdleaa
