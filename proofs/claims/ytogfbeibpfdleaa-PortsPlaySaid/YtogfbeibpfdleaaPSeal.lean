/- Package ports: Seal. No condition but that the tables work. -/
import Derived.Test.YtogfbeibpfdleaaPMine
import Derived.Test.YtogfbeibpfdleaaPWrite
set_option linter.unusedSimpArgs false
set_option linter.unusedVariables false
namespace Go.Proofs.Ytogfbeibpfdleaa
open Go.RowKit Go.Maps

/-- A message: a port's number, and its bytes. -/
structure Msg where
  port : Int
  d : List UInt8
  deriving Inhabited
/-- The cells of messages whose bytes nobody writes. -/
def IsMsgs (w : World) (C : Nat → Nat) : List Value → List Msg → Prop
  | [], [] => True
  | a :: v :: cs, m :: ms => a = .int .i64 m.port ∧ IsBytes w C v m.d ∧ v.oneCell' = true ∧ IsMsgs w C cs ms
  | _, _ => False
theorem IsMsgs.fr {K : Nat → Prop} {C C' : Nat → Nat} {w w' : World} (f : Fr K C C' w w') (hk : ¬ K 0) : ∀ {cs : List Value} {ms : List Msg}, IsMsgs w C cs ms → IsMsgs w' C' cs ms
  | [], [], _ => trivial
  | a :: v :: cs, m :: ms, ⟨h1, h2, h3, h4⟩ => ⟨h1, Rd.fr h2 f hk, h3, IsMsgs.fr f hk h4⟩
  | [], _ :: _, h => h.elim
  | [_], [], h => h.elim
  | [_], _ :: _, h => h.elim
  | _ :: _ :: _, [], h => h.elim
theorem IsMsgs.snoc {w : World} {C : Nat → Nat} {v : Value} {m : Msg} (h1 : IsBytes w C v m.d) (h2 : v.oneCell' = true) : ∀ {cs : List Value} {ms : List Msg}, IsMsgs w C cs ms → IsMsgs w C (cs ++ [.int .i64 m.port, v]) (ms ++ [m])
  | [], [], _ => ⟨rfl, h1, h2, trivial⟩
  | a :: u :: cs, n :: ms, ⟨g1, g2, g3, g4⟩ => ⟨g1, g2, g3, IsMsgs.snoc h1 h2 g4⟩
  | [], _ :: _, h => h.elim
  | [_], [], h => h.elim
  | [_], _ :: _, h => h.elim
  | _ :: _ :: _, [], h => h.elim
theorem BytesAll.get {w : World} {C : Nat → Nat} : ∀ {vs : List Value} {q : List (List UInt8)} {i : Nat}, BytesAll w C vs q → i < q.length → ∃ v, vs[i]? = some v ∧ IsBytes w C v (q.getD i []) ∧ v.oneCell' = true
  | v :: vs, d :: q, 0, ⟨h1, h2, _⟩, _ => ⟨v, rfl, h1, h2⟩
  | v :: vs, d :: q, i + 1, ⟨_, _, h3⟩, hi => by
    obtain ⟨u, h4, h5, h6⟩ := h3.get (i := i) (by simpa using hi)
    exact ⟨u, by simpa using h4, by simpa using h5, h6⟩
  | [], [], _, _, hi => absurd hi (by simp)
  | [], _ :: _, _, h, _ => h.elim
  | _ :: _, [], _, h, _ => h.elim

def sealB (c : Cfg) (node : Int) (i : Nat) : Bool := mineB c node i && (c.port i).out
/-- What stands in the first n ports behind their sealing; what they gave. -/
def sealSt (c : Cfg) (node : Int) (st : List PSt) : Nat → List PSt
  | 0 => st
  | n + 1 => if sealB c node n = true then (sealSt c node st n).set n { (sealSt c node st n).getD n default with q := [] } else sealSt c node st n
def sealMs (c : Cfg) (node : Int) (st : List PSt) : Nat → List Msg
  | 0 => []
  | n + 1 => sealMs c node st n ++ if sealB c node n = true then (st.getD n default).q.map (fun d => ⟨(n : Int), d⟩) else []
theorem sealSt_len (c : Cfg) (node : Int) (st : List PSt) : ∀ n, (sealSt c node st n).length = st.length
  | 0 => rfl
  | n + 1 => by
    unfold sealSt
    split
    · rw [List.length_set, sealSt_len]
    · exact sealSt_len c node st n
theorem sealSt_get (c : Cfg) (node : Int) (st : List PSt) : ∀ n i, n ≤ i → (sealSt c node st n).getD i default = st.getD i default
  | 0, _, _ => rfl
  | n + 1, i, h => by
    unfold sealSt
    split
    · rw [List.getD_eq_getElem?_getD, List.getElem?_set_ne (by omega), ← List.getD_eq_getElem?_getD]
      exact sealSt_get c node st n i (by omega)
    · exact sealSt_get c node st n i (by omega)
theorem sealMs_len (c : Cfg) (node : Int) (st : List PSt) (hq : ∀ i, i < st.length → (st.getD i default).q.length ≤ 4) : ∀ n, n ≤ st.length → (sealMs c node st n).length ≤ 4 * n
  | 0, _ => by simp [sealMs]
  | n + 1, h => by
    have := sealMs_len c node st hq n (by omega)
    have := hq n (by omega)
    unfold sealMs
    split
    · rw [List.length_append, List.length_map]; omega
    · simp; omega

/-- Colours that a call on ports, and a new list of colour kk, may turn. -/
def PK (k kk : Nat) (x : Nat) : Prop := x = kk ∨ (k ≤ x ∧ x < k + 100)
def SealP (c : Cfg) (C : Nat → Nat) (k kk b ab : Nat) (pv qv rv : Value) (node : Int) (w : World) (st' : List PSt) (ms : List Msg) (e : Ending) (w' : World) : Prop :=
  ∃ v cs C' lv', e = .returned v ∧ Fr (PK k kk) C C' w w' ∧ IsPorts w' C' k b ab c pv qv rv node lv' st' ∧ Sl w' C' kk v 50 2 ms.length cs ∧ IsMsgs w' C' cs ms
/-- The loop's relation. -/
def SealR (c : Cfg) (C : Nat → Nat) (k kk b ab : Nat) (pv qv rv : Value) (node : Int) (w : World) (st' : List PSt) (ms : List Msg) (ov : Value) (wr : World) : Prop :=
  ∃ cs C' lv', Fr (PK k kk) C C' w wr ∧ IsPorts wr C' k b ab c pv qv rv node lv' st' ∧ Sl wr C' kk ov 50 2 ms.length cs ∧ IsMsgs wr C' cs ms

set_option maxRecDepth 100000 in
set_option maxHeartbeats 4000000 in
theorem portsSeal (c : Cfg) (hg : Good c) (C : Nat → Nat) (k kk b ab : Nat) (hk : k ≠ 0) (hkk : kk ≠ 0 ∧ (kk < k ∨ k + 100 ≤ kk)) (hab : ab ≠ b) (pv qv rv : Value) (node : Int) (lv : Nat → Value) (st : List PSt) (w : World) (hf : Fin C w) (h : IsPorts w C k b ab c pv qv rv node lv st) (hq4 : ∀ i, i < st.length → (st.getD i default).q.length ≤ 4) :
    Calls Try.prog 15 #[.pointer (some ⟨b, 0, none⟩)] w (SealP c C k kk b ab pv qv rv node w (sealSt c node st st.length) (sealMs c node st st.length)) := by
  have hn24 : st.length ≤ 24 := by rw [h.len]; exact hg.nq
  obtain ⟨k0, k1⟩ := hkk
  have c12 := h.head.cell_ 12 rfl
  have hml := hid_ (sealMs_len c node st hq4)
  obtain ⟨i1, z1, hi1, hz1, hzs1, his1, hby1⟩ := info_row (P := Try.prog) (e := 50) (size := 2) (bytes := 32) (by kernel_rfl)
  go_enter Try.func15, Try.ntmps15
  go_wp2
  go_loopw [3, 14] (fun ov iv wr => ∃ i : Nat, i ≤ st.length ∧ iv = .int .i64 i ∧ SealR c C k kk b ab pv qv rv node w (sealSt c node st i) (sealMs c node st i) ov wr) (fun _ iv _ => st.length - (intOf iv).toNat)
  case atStart => exact ⟨0, Nat.zero_le _, rfl, [], C, lv, Fr.refl _ _ _, h, Sl.nil _ _ _ _ _, trivial⟩
  case round =>
    obtain ⟨i, hi, rfl, cs, C1, lv1, F1, h1, hS1, hM1⟩ := hrel
    by_cases hlt : i < st.length
    · have hic : i < c.ports.length := by rw [← h.len]; exact hlt
      have hmine := hid_ (portsMine c hg C1 k b ab pv qv rv node i lv1 _ wr h1 hic)
      have hls : (sealSt c node st i).length = st.length := sealSt_len c node st i
      have HLS := hid_ hls
      clear hls c12
      go_wp2_with fail
      refine hmine.out.mono ?_
      rintro e w2 ⟨rfl, hw2⟩
      have G2 := Fr.of_below (C := C1) hw2 (fun _ => False)
      have h2 := h1.fr G2 (fun x hx => hx.elim) (by rw [HLS.out]; exact hn24)
      have hS2 := hS1.fr G2 (fun h => h)
      have hM2 := hM1.fr G2 (fun h => h)
      have F2 := F1.trans (G2.mono (K' := PK k kk) (fun _ h => h.elim))
      obtain ⟨oa, oc, rfl, hoc, hom, -⟩ := id hS2.form
      clear h1 hS1 hM1 hmine
      cases hmb : mineB c node i with
      | false =>
        have HB := hid_ (show sealB c node i = false by unfold sealB; rw [hmb]; rfl)
        clear hmb
        go_wp2
        go_roundw
        case rel => exact ⟨i + 1, by omega, by go_num, by
          have e1 : sealSt c node st (i + 1) = sealSt c node st i := by show (if _ then _ else _) = _; rw [HB.out]; rfl
          have e2 : sealMs c node st (i + 1) = sealMs c node st i := by show _ ++ (if _ then _ else _) = _; rw [HB.out]; simp
          rw [e1, e2]
          exact ⟨cs, C1, lv1, F2, h2, hS2, hM2⟩⟩
        case measure => simp [intOf]; omega
      | true =>
        obtain ⟨c8, c9, _, c11, c12⟩ := h2.cells
        rw [HLS.out] at c12
        have hq := h2.lists.ports
        obtain ⟨qa, qc, hqv, hqc, hqm, -⟩ := id hq
        rw [hqv] at hq c9
        obtain ⟨qb, qo, rfl, _, hcell⟩ := hq.row (fun _ => rfl) hic
        rw [show c.ports.getD i default = c.port i from rfl] at hcell
        have e2 := hcell 2 _ rfl
        have hi0 : (0 : Int) ≤ (i : Int) := Int.natCast_nonneg _
        have hi1' : (i : Int) < (c.ports.length : Int) := by omega
        have hi2 : (i : Int) < (st.length : Int) := by omega
        unfold maxLen at hqm
        clear hcell hq
        have HQV := hid_ hqv
        clear hqv
        cases hob : (c.port i).out with
        | false =>
          have HB := hid_ (show sealB c node i = false by unfold sealB; rw [hmb, hob]; rfl)
          rw [hob] at e2
          clear hmb hob
          go_wp2
          go_roundw
          case rel => exact ⟨i + 1, by omega, by go_num, by
            have e1 : sealSt c node st (i + 1) = sealSt c node st i := by show (if _ then _ else _) = _; rw [HB.out]; rfl
            have e2 : sealMs c node st (i + 1) = sealMs c node st i := by show _ ++ (if _ then _ else _) = _; rw [HB.out]; simp
            rw [e1, e2]
            exact ⟨cs, C1, lv1, F2, h2, hS2, hM2⟩⟩
          case measure => simp [intOf]; omega
        | true =>
          have HB := hid_ (show sealB c node i = true by unfold sealB; rw [hmb, hob]; rfl)
          rw [hob] at e2
          clear hmb hob
          have hgi := hid_ (sealSt_get c node st i i (Nat.le_refl _))
          have his : i < (sealSt c node st i).length := by rw [HLS.out]; exact hlt
          obtain ⟨vs, hSv, hAv⟩ := h2.each i his
          rw [hgi.out] at hAv
          have hvl := hid_ hAv.len
          obtain ⟨la, lc, hlv, hlc, hlm, -⟩ := hSv.form
          obtain ⟨s0, s1⟩ := h2.state his
          rw [hlv] at s0 hSv
          have HLV := hid_ hlv
          have hvs4 : vs.length ≤ 4 := by rw [hvl.out]; exact hq4 i hlt
          unfold maxLen at hlm
          clear hlv
          go_wp2
          obtain ⟨ms, hms⟩ : ∃ ms, ms = sealMs c node st i := ⟨_, rfl⟩
          have hmsl : ms.length ≤ 96 := by have := hml.out i (by omega); rw [← hms] at this; omega
          obtain ⟨q, hqq⟩ : ∃ q, q = (st.getD i default).q := ⟨_, rfl⟩
          have hqv : vs.length = q.length := by rw [hqq]; exact hvl.out
          rw [← hqq] at hAv
          rw [← hms] at hS2 hM2 ⊢
          have HMS := hid_ hms
          have HQQ := hid_ hqq
          have HQV := hid_ hqv
          clear hms hqq hqv c8 c9 c11 e2
          go_loopw [3, 42] (fun ov kv wr => ∃ (m : Nat) (C2 : Nat → Nat) (cs2 : List Value), m ≤ vs.length ∧ kv = .int .i64 m ∧ Fr (· = kk) C1 C2 w2 wr ∧ Sl wr C2 kk ov 50 2 (ms.length + m) cs2 ∧ IsMsgs wr C2 cs2 (ms ++ (q.take m).map (fun d => ⟨(i : Int), d⟩))) (fun _ kv _ => vs.length - (intOf kv).toNat)
          case atStart => exact ⟨0, C1, cs, Nat.zero_le _, rfl, Fr.refl _ _ _, hS2, by simpa using hM2⟩
          case round =>
            obtain ⟨m, C2, cs2, hm, rfl, f2, hS3, hM3⟩ := hrel
            have h3 := h2.fr f2 (fun x hx => by omega) (by rw [HLS.out]; exact hn24)
            obtain ⟨oa3, oc3, rfl, hoc3, hom3, hol3⟩ := hS3.form
            by_cases hmv : m < vs.length
            · obtain ⟨v0, hv0, hb0, ho0⟩ := hAv.get (i := m) (by rw [← HQV.out]; exact hmv)
              obtain ⟨xa, xc, rfl, -⟩ := id hb0
              obtain ⟨bb, off, rfl, hCa, hbl, hcell⟩ := hSv.at (by omega)
              have hcv := hcell m _ hv0
              have hne : ¬ C1 bb = kk := by rw [hCa]; omega
              have hcw := (World.cell?_of_block (a := ⟨bb, off + m, none⟩) (f2.block bb hbl hne).1).trans hcv
              have hb3 := Rd.fr hb0 f2 (Ne.symm k0)
              have hm0 : (0 : Int) ≤ (m : Int) := Int.natCast_nonneg _
              have hm1 : (m : Int) < (vs.length : Int) := by omega
              obtain ⟨v7, W7, C7, hr7, hS7, F7, ho7, hfar7⟩ := Sl.append (P := Try.prog) (t := 43) 0 Try.underlying43 hi1 his1 hz1 hzs1 (hS3.alloc (.cells #[.int .i64 (i : Int), .slice xa (q.getD m []).length xc] 50)) (Src.new wr 50 2 1 1 [.int .i64 (i : Int), .slice xa (q.getD m []).length xc] rfl) (by simp [Value.oneCell']) (by unfold maxLen; omega) (by rw [hby1]; omega)
              obtain ⟨a7, p7, rfl, -⟩ := id hS7.form
              have HR7 := hid_ hr7
              clear hr7 hcell hcv hv0
              go_wp2_with (refine wpList_append_run HR7.out (by rfl) (by rfl) (by rfl) (by rfl) ?_)
              have F67 := (Fr.refl (· = kk) C2 wr).alloc (.cells #[.int .i64 (i : Int), .slice xa (q.getD m []).length xc] 50) |>.trans F7
              go_roundw
              case rel => exact ⟨m + 1, C7, _, by omega, by go_num, f2.trans F67, hS7, by
                have hq1 : m < q.length := by rw [← HQV.out]; exact hmv
                have e1 : q.take (m + 1) = q.take m ++ [q.getD m []] := by rw [List.take_succ_eq_append_getElem hq1, List.getD_eq_getElem?_getD, List.getElem?_eq_getElem hq1]; rfl
                rw [e1, List.map_append, ← List.append_assoc]
                exact IsMsgs.snoc (m := ⟨(i : Int), q.getD m []⟩) (Rd.fr hb3 F67 (Ne.symm k0)) rfl (hM3.fr F67 (Ne.symm k0))⟩
              case measure => simp [intOf]; omega
            · obtain rfl : m = vs.length := by omega
              have hfz := h3.all.frozen (i * 2)
              obtain ⟨s0, s1⟩ := h3.state his
              obtain ⟨c8, c9, _, c11, c12⟩ := h3.cells
              rw [HLS.out] at c12
              have hturn := h3.turn (by rw [HLS.out]; exact hn24) hk his (Fr.refl (· = k + 1 + i) C2 wr) (IsList.nil wr C2 (k + 1 + i)) hab
              have hcab := h3.acol
              have HT := hid_ hturn
              clear hturn
              go_wp2
              go_roundw
              case rel => exact ⟨i + 1, by omega, by go_num, by
                have e1 : sealSt c node st (i + 1) = (sealSt c node st i).set i { (sealSt c node st i).getD i default with q := [] } := by show (if _ then _ else _) = _; rw [if_pos HB.out]
                have e2 : sealMs c node st (i + 1) = ms ++ (q.take vs.length).map (fun d => ⟨(i : Int), d⟩) := by
                  show _ ++ (if _ then _ else _) = _
                  rw [if_pos HB.out, HMS.out, HQQ.out, List.take_of_length_le (by rw [hvl.out]; exact Nat.le_refl _)]
                rw [e1, e2]
                have g : Fr (· = k) C2 C2 wr (wr.setCell ⟨ab, i * 2, none⟩ (.slice none 0 0)) := (Fr.refl _ _ _).setCell (.inr hcab) _
                refine ⟨cs2, C2, _, (F2.trans (f2.mono (K' := PK k kk) (fun x hx => .inl hx))).trans (g.mono (K' := PK k kk) (fun x hx => .inr (by omega))), HT.out, ?_, hM3.fr g (by omega)⟩
                have hl2 : (ms ++ (q.take vs.length).map (fun d => (⟨(i : Int), d⟩ : Msg))).length = ms.length + vs.length := by
                  rw [List.length_append, List.length_map, List.length_take, HQV.out, Nat.min_self]
                rw [hl2]
                exact hS3.fr g (by omega)⟩
              case measure => simp [intOf]; omega
    · obtain rfl : i = st.length := by omega
      clear c12
      go_wp2
      go_ret
      exact ⟨_, cs, C1, lv1, rfl, F1, h1, hS1, hM1⟩
end Go.Proofs.Ytogfbeibpfdleaa
