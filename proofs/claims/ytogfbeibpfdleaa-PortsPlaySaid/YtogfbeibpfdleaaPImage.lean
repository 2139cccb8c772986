/- Package ports: Image. No condition but that the tables work. -/
import Derived.Test.YtogfbeibpfdleaaPSeal
set_option linter.unusedSimpArgs false
set_option linter.unusedVariables false
namespace Go.Proofs.Ytogfbeibpfdleaa
open Go.RowKit Go.Maps

/-- What stands in the first n ports. -/
def imageMs (c : Cfg) (node : Int) (st : List PSt) : Nat → List Msg
  | 0 => []
  | n + 1 => imageMs c node st n ++ if mineB c node n = true then (st.getD n default).q.map (fun d => ⟨(n : Int), d⟩) else []
theorem imageMs_len (c : Cfg) (node : Int) (st : List PSt) (hq : ∀ i, i < st.length → (st.getD i default).q.length ≤ 4) : ∀ n, n ≤ st.length → (imageMs c node st n).length ≤ 4 * n
  | 0, _ => by simp [imageMs]
  | n + 1, h => by
    have := imageMs_len c node st hq n (by omega)
    have := hq n (by omega)
    unfold imageMs
    split
    · rw [List.length_append, List.length_map]; omega
    · simp; omega
def ImageP (C : Nat → Nat) (kk : Nat) (w : World) (ms : List Msg) (e : Ending) (w' : World) : Prop :=
  ∃ v cs C', e = .returned v ∧ Fr (· = kk) C C' w w' ∧ Sl w' C' kk v 50 2 ms.length cs ∧ IsMsgs w' C' cs ms
def ImageR (C : Nat → Nat) (kk : Nat) (w : World) (ms : List Msg) (ov : Value) (wr : World) : Prop :=
  ∃ cs C', Fr (· = kk) C C' w wr ∧ Sl wr C' kk ov 50 2 ms.length cs ∧ IsMsgs wr C' cs ms

set_option maxRecDepth 100000 in
set_option maxHeartbeats 4000000 in
theorem portsImage (c : Cfg) (hg : Good c) (C : Nat → Nat) (k kk b ab : Nat) (hk : k ≠ 0) (hkk : kk ≠ 0 ∧ (kk < k ∨ k + 100 ≤ kk)) (pv qv rv : Value) (node : Int) (lv : Nat → Value) (st : List PSt) (w : World) (hf : Fin C w) (h : IsPorts w C k b ab c pv qv rv node lv st) (hq4 : ∀ i, i < st.length → (st.getD i default).q.length ≤ 4) (hb16 : ∀ i, i < st.length → ∀ x ∈ (st.getD i default).q, x.length ≤ 140737488355328) :
    Calls Try.prog 18 #[.pointer (some ⟨b, 0, none⟩)] w (ImageP C kk w (imageMs c node st st.length)) := by
  have hn24 : st.length ≤ 24 := by rw [h.len]; exact hg.nq
  obtain ⟨k0, k1⟩ := hkk
  have c12 := h.head.cell_ 12 rfl
  have hml := hid_ (imageMs_len c node st hq4)
  obtain ⟨i1, z1, hi1, hz1, hzs1, his1, hby1⟩ := info_row (P := Try.prog) (e := 50) (size := 2) (bytes := 32) (by kernel_rfl)
  go_enter Try.func18, Try.ntmps18
  go_wp2
  go_loopw [3, 14] (fun ov iv wr => ∃ i : Nat, i ≤ st.length ∧ iv = .int .i64 i ∧ ImageR C kk w (imageMs c node st i) ov wr) (fun _ iv _ => st.length - (intOf iv).toNat)
  case atStart => exact ⟨0, Nat.zero_le _, rfl, [], C, Fr.refl _ _ _, Sl.nil _ _ _ _ _, trivial⟩
  case round =>
    obtain ⟨i, hi, rfl, cs, C1, F1, hS1, hM1⟩ := hrel
    have h1 := h.fr F1 (fun x hx => by omega) hn24
    by_cases hlt : i < st.length
    · have hic : i < c.ports.length := by rw [← h.len]; exact hlt
      have hmine := hid_ (portsMine c hg C1 k b ab pv qv rv node i lv _ wr h1 hic)
      clear c12
      go_wp2_with fail
      refine hmine.out.mono ?_
      rintro e w2 ⟨rfl, hw2⟩
      have G2 := Fr.of_below (C := C1) hw2 (fun _ => False)
      have h2 := h1.fr G2 (fun x hx => hx.elim) hn24
      have hS2 := hS1.fr G2 (fun h => h)
      have hM2 := hM1.fr G2 (fun h => h)
      have F2 := F1.trans (G2.mono (K' := (· = kk)) (fun _ h => h.elim))
      obtain ⟨oa, oc, rfl, hoc, hom, -⟩ := id hS2.form
      clear h1 hS1 hM1 hmine
      cases hmb : mineB c node i with
      | false =>
        have HB := hid_ hmb
        clear hmb
        go_wp2
        go_roundw
        case rel => exact ⟨i + 1, by omega, by go_num, by
          have e2 : imageMs c node st (i + 1) = imageMs c node st i := by show _ ++ (if _ then _ else _) = _; rw [HB.out]; simp
          rw [e2]
          exact ⟨cs, C1, F2, hS2, hM2⟩⟩
        case measure => simp [intOf]; omega
      | true =>
        have HB := hid_ hmb
        obtain ⟨c8, c9, _, c11, c12⟩ := h2.cells
        have hi0 : (0 : Int) ≤ (i : Int) := Int.natCast_nonneg _
        have hi2 : (i : Int) < (st.length : Int) := by omega
        obtain ⟨vs, hSv, hAv⟩ := h2.each i hlt
        have hvl := hid_ hAv.len
        obtain ⟨la, lc, hlv, hlc, hlm, -⟩ := hSv.form
        obtain ⟨s0, s1⟩ := h2.state hlt
        rw [hlv] at s0 hSv
        have hvs4 : vs.length ≤ 4 := by rw [hvl.out]; exact hq4 i hlt
        have hb16' := hid_ (hb16 i hlt)
        unfold maxLen at hlm
        clear hlv hmb
        go_wp2
        obtain ⟨ms, hms⟩ : ∃ ms, ms = imageMs c node st i := ⟨_, rfl⟩
        have hmsl : ms.length ≤ 96 := by have := hml.out i (by omega); rw [← hms] at this; omega
        obtain ⟨q, hqq⟩ : ∃ q, q = (st.getD i default).q := ⟨_, rfl⟩
        have hqv : vs.length = q.length := by rw [hqq]; exact hvl.out
        rw [← hqq] at hAv hb16'
        rw [← hms] at hS2 hM2 ⊢
        have HMS := hid_ hms
        have HQQ := hid_ hqq
        have HQV := hid_ hqv
        clear hms hqq hqv c8 c9 c11 c12 s0 s1
        go_loopw [3, 29] (fun ov kv wr => ∃ (m : Nat) (C2 : Nat → Nat) (cs2 : List Value), m ≤ vs.length ∧ kv = .int .i64 m ∧ Fr (· = kk) C1 C2 w2 wr ∧ Sl wr C2 kk ov 50 2 (ms.length + m) cs2 ∧ IsMsgs wr C2 cs2 (ms ++ (q.take m).map (fun d => ⟨(i : Int), d⟩))) (fun _ kv _ => vs.length - (intOf kv).toNat)
        case atStart => exact ⟨0, C1, cs, Nat.zero_le _, rfl, Fr.refl _ _ _, hS2, by simpa using hM2⟩
        case round =>
          obtain ⟨m, C2, cs2, hm, rfl, f2, hS3, hM3⟩ := hrel
          obtain ⟨oa3, oc3, rfl, hoc3, hom3, hol3⟩ := hS3.form
          by_cases hmv : m < vs.length
          · obtain ⟨v0, hv0, hb0, ho0⟩ := hAv.get (i := m) (by rw [← HQV.out]; exact hmv)
            have hdl : (q.getD m []).length ≤ 140737488355328 := hb16'.out _ (by
              have hq1 : m < q.length := by rw [← HQV.out]; exact hmv
              rw [List.getD_eq_getElem?_getD, List.getElem?_eq_getElem hq1]
              exact List.getElem_mem hq1)
            obtain ⟨xa, xc, rfl, -⟩ := id hb0
            obtain ⟨bb, off, rfl, hCa, hbl, hcell⟩ := hSv.at (by omega)
            have hcv := hcell m _ hv0
            have hne : ¬ C1 bb = kk := by rw [hCa]; omega
            have hcw := (World.cell?_of_block (a := ⟨bb, off + m, none⟩) (f2.block bb hbl hne).1).trans hcv
            have hb3 := Rd.fr hb0 f2 (Ne.symm k0)
            have hm0 : (0 : Int) ≤ (m : Int) := Int.natCast_nonneg _
            have hm1 : (m : Int) < (vs.length : Int) := by omega
            have hfin2 : Fin C2 wr := (F2.trans f2).Fin hf
            clear hcell hcv hv0
            go_wp2_with fail
            refine (clone_any C2 _ (q.getD m []) _ hfin2 hb3 hdl).mono ?_
            rintro e W5 ⟨v5, rfl, hb5, ho5, hw5⟩
            obtain ⟨a5, c5, rfl, -⟩ := id hb5
            have G5 := Fr.of_below (C := C2) hw5 (fun _ => False)
            obtain ⟨v7, W7, C7, hr7, hS7, F7, ho7, hfar7⟩ := Sl.append (P := Try.prog) (t := 43) 0 Try.underlying43 hi1 his1 hz1 hzs1 ((hS3.fr G5 (fun h => h)).alloc (.cells #[.int .i64 (i : Int), .slice a5 (q.getD m []).length c5] 50)) (Src.new W5 50 2 1 1 [.int .i64 (i : Int), .slice a5 (q.getD m []).length c5] rfl) (by simp [Value.oneCell']) (by unfold maxLen; omega) (by rw [hby1]; omega)
            obtain ⟨a7, p7, rfl, -⟩ := id hS7.form
            have HR7 := hid_ hr7
            clear hr7
            go_wp2_with (refine wpList_append_run HR7.out (by rfl) (by rfl) (by rfl) (by rfl) ?_)
            have F67 := ((G5.mono (K' := (· = kk)) (fun _ h => h.elim)).alloc (.cells #[.int .i64 (i : Int), .slice a5 (q.getD m []).length c5] 50)) |>.trans F7
            go_roundw
            case rel => exact ⟨m + 1, C7, _, by omega, by go_num, f2.trans F67, hS7, by
              have hq1 : m < q.length := by rw [← HQV.out]; exact hmv
              have e1 : q.take (m + 1) = q.take m ++ [q.getD m []] := by rw [List.take_succ_eq_append_getElem hq1, List.getD_eq_getElem?_getD, List.getElem?_eq_getElem hq1]; rfl
              rw [e1, List.map_append, ← List.append_assoc]
              exact IsMsgs.snoc (m := ⟨(i : Int), q.getD m []⟩) (Rd.fr hb5 (((Fr.refl (· = kk) C2 W5).alloc _).trans F7) (Ne.symm k0)) rfl (hM3.fr F67 (Ne.symm k0))⟩
            case measure => simp [intOf]; omega
          · obtain rfl : m = vs.length := by omega
            go_wp2
            go_roundw
            case rel => exact ⟨i + 1, by omega, by go_num, by
              have e2 : imageMs c node st (i + 1) = ms ++ (q.take vs.length).map (fun d => ⟨(i : Int), d⟩) := by
                show _ ++ (if _ then _ else _) = _
                rw [if_pos HB.out, HMS.out, HQQ.out, List.take_of_length_le (by rw [hvl.out]; exact Nat.le_refl _)]
              rw [e2]
              refine ⟨cs2, C2, F2.trans f2, ?_, hM3⟩
              have hl2 : (ms ++ (q.take vs.length).map (fun d => (⟨(i : Int), d⟩ : Msg))).length = ms.length + vs.length := by
                rw [List.length_append, List.length_map, List.length_take, HQV.out, Nat.min_self]
              rw [hl2]
              exact hS3⟩
            case measure => simp [intOf]; omega
    · obtain rfl : i = st.length := by omega
      clear c12
      go_wp2
      go_ret
      exact ⟨_, cs, C1, rfl, F1, hS1, hM1⟩
end Go.Proofs.Ytogfbeibpfdleaa
