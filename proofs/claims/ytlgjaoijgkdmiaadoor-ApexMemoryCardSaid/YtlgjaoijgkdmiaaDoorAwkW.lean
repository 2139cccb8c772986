/- Chapter 13's tables, with another first partition. No condition. · Chapter 16's fixed facts: Awake returns true and leaves what was there. No condition. · Small facts on remainders. No condition. · escapementref16.SameWords. No condition. -/
import Derived.Test.YtlgjaoijgkdmiaaDoorNewK
import Derived.Test.YtlgjaoijgkdmiaaDoorRun2
import Derived.Test.YtlgjaoijgkdmiaaDoorHost
import Derived.Test.YtlgjaoijgkdmiaaDoorRunK
set_option linter.unusedSimpArgs false
set_option linter.unusedVariables false
namespace Go.Proofs.YtlgjaoijgkdmiaaDoor
open Go.RowKit Go.Maps

/-- Wired, with the first partition's budget, words and actions. -/
def partC (bu wo r0 r1 r2 r3 : Int) : Cfg := { wiredC with parts := [⟨0, 0, 10, bu, wo, r0, r1, r2, r3⟩, ⟨1, 0, 10, 9, 2, 0, 0, 0, 0⟩] }
section
variable {bu wo r0 r1 r2 r3 : Int} (hb : 0 ≤ bu ∧ bu ≤ 64) (hw : 0 ≤ wo ∧ wo ≤ 16) (h0 : 0 ≤ r0 ∧ r0 ≤ 3) (h1 : 0 ≤ r1 ∧ r1 ≤ 3) (h2 : 0 ≤ r2 ∧ r2 ≤ 3) (h3 : 0 ≤ r3 ∧ r3 ≤ 3)
include hb hw h0 h1 h2 h3
theorem part_bad0 : partBad (partC bu wo r0 r1 r2 r3) 0 = false := by
  have e : (partC bu wo r0 r1 r2 r3).part 0 = ⟨0, 0, 10, bu, wo, r0, r1, r2, r3⟩ := rfl
  unfold partBad
  rw [e]
  unfold partOk inb
  simp only [show (partC bu wo r0 r1 r2 r3).nodes = 2 from rfl, Bool.not_eq_false', Bool.and_eq_true, decide_eq_true_eq]
  omega
theorem part_tab : tabE (partC bu wo r0 r1 r2 r3) = none := by
  have hp := part_bad0 hb hw h0 h1 h2 h3
  unfold tabE
  rw [show rangesOk (partC bu wo r0 r1 r2 r3) = true from (show rangesOk wiredC = true by decide +kernel), if_neg (by simp), if_neg (by simp [partC, wiredC])]
  rw [atE_none (fun j hj => ?_), atE_none (fun j hj => ?_), atE_none (fun j hj => ?_)]
  · have hj : j < 2 := hj
    rcases (by omega : j = 0 ∨ j = 1) with rfl | rfl <;> rfl
  · have hj : j < 4 := hj
    rcases (by omega : j = 0 ∨ j = 1 ∨ j = 2 ∨ j = 3) with rfl | rfl | rfl | rfl <;> rfl
  · have hj : j < 2 := hj
    rcases (by omega : j = 0 ∨ j = 1) with rfl | rfl
    · exact hp
    · rfl
theorem part_snd : sndE (partC bu wo r0 r1 r2 r3) = none := by
  unfold sndE
  rw [part_tab hb hw h0 h1 h2 h3, if_neg (by simp), if_neg (show ¬ (partC bu wo r0 r1 r2 r3).nodes < 3 * (partC bu wo r0 r1 r2 r3).faulty + 1 from (show ¬ wiredC.nodes < 3 * wiredC.faulty + 1 by decide +kernel)), if_neg (show ¬ (partC bu wo r0 r1 r2 r3).margin < (partC bu wo r0 r1 r2 r3).prec + ((partC bu wo r0 r1 r2 r3).dmax - (partC bu wo r0 r1 r2 r3).dmin) + (partC bu wo r0 r1 r2 r3).drift from (show ¬ wiredC.margin < wiredC.prec + (wiredC.dmax - wiredC.dmin) + wiredC.drift by decide +kernel)), if_neg (show ¬ (partC bu wo r0 r1 r2 r3).slot < 2 * (partC bu wo r0 r1 r2 r3).margin + (partC bu wo r0 r1 r2 r3).dmax + (partC bu wo r0 r1 r2 r3).prec from (show ¬ wiredC.slot < 2 * wiredC.margin + wiredC.dmax + wiredC.prec by decide +kernel)), if_neg (show ¬ (partC bu wo r0 r1 r2 r3).gap < 2 * ((partC bu wo r0 r1 r2 r3).margin + (partC bu wo r0 r1 r2 r3).prec) from (show ¬ wiredC.gap < 2 * (wiredC.margin + wiredC.prec) by decide +kernel))]
  rw [atE_none (fun j hj => ?_), atE_none (fun j hj => ?_)]
  · have hj : j < 2 := hj
    rcases (by omega : j = 0 ∨ j = 1) with rfl | rfl <;> rfl
  · have hj : j < 2 := hj
    rcases (by omega : j = 0 ∨ j = 1) with rfl | rfl <;> rfl
theorem part_good : Good (partC bu wo r0 r1 r2 r3) := sndE_good (part_snd hb hw h0 h1 h2 h3)
theorem part_ok : (partC bu wo r0 r1 r2 r3).ok := by
  have hk := wired_ok
  refine ⟨hk.nodes, hk.faulty, hk.slot, hk.gap, hk.rho, hk.dmin, hk.dmax, hk.margin, fun p hp => ?_, hk.ports, hk.routes⟩
  simp only [partC, List.mem_cons, List.not_mem_nil, or_false] at hp
  rcases hp with rfl | rfl
  · constructor <;> first | (unfold I64; simp only; omega) | (unfold U8; simp only; omega)
  · exact hk.parts _ (by simp [wiredC])
omit hb hw in
theorem part_recs : ∀ p ∈ (partC bu wo r0 r1 r2 r3).parts, 0 ≤ p.r0 ∧ 0 ≤ p.r1 ∧ 0 ≤ p.r2 ∧ 0 ≤ p.r3 := by
  intro p hp
  simp only [partC, List.mem_cons, List.not_mem_nil, or_false] at hp
  rcases hp with rfl | rfl
  · exact ⟨h0.1, h1.1, h2.1, h3.1⟩
  · exact ⟨by simp, by simp, by simp, by simp⟩
end
end Go.Proofs.YtlgjaoijgkdmiaaDoor
namespace Go.Proofs.YtlgjaoijgkdmiaaDoor
open Go.RowKit Go.Maps

theorem ResIs.get {w : World} {C : Nat → Nat} : ∀ {rs : List Res} {cs : List Value} {i : Nat} {r : Res}, ResIs w C cs rs → rs[i]? = some r → ∃ dv fv, cs[i * 4]? = some (.int .i64 r.code) ∧ cs[i * 4 + 1]? = some (.int .i64 r.val) ∧ cs[i * 4 + 2]? = some dv ∧ cs[i * 4 + 3]? = some fv ∧ ReadV w C dv fv r.data
  | r0 :: rs, _, 0, r, ⟨dv, fv, cs', rfl, h2, h3⟩, hr => by
    simp only [List.getElem?_cons_zero, Option.some.injEq] at hr
    subst hr
    exact ⟨dv, fv, rfl, rfl, rfl, rfl, h2⟩
  | r0 :: rs, _, i + 1, r, ⟨dv, fv, cs', rfl, h2, h3⟩, hr => by
    simp only [List.getElem?_cons_succ] at hr
    obtain ⟨dv', fv', h1, h4, h5, h6, h7⟩ := ResIs.get h3 hr
    refine ⟨dv', fv', ?_, ?_, ?_, ?_, h7⟩
    · rw [show (i + 1) * 4 = (i * 4) + 1 + 1 + 1 + 1 by omega]; exact h1
    · rw [show (i + 1) * 4 + 1 = (i * 4 + 1) + 1 + 1 + 1 + 1 by omega]; exact h4
    · rw [show (i + 1) * 4 + 2 = (i * 4 + 2) + 1 + 1 + 1 + 1 by omega]; exact h5
    · rw [show (i + 1) * 4 + 3 = (i * 4 + 3) + 1 + 1 + 1 + 1 by omega]; exact h6
/-- The host and the partition, joined. -/
def mkA (b ab tb mb cb pb xb : Nat) (pv qv rv pv2 qv2 rv2 : Value) (node : Int) (part : Nat) : HA := ⟨b, ab, tb, mb, cb, pb, xb, 0, pv, qv, rv, pv2, qv2, rv2, node, part⟩
def st16 (c : Cfg) (mem : List Int) : HSt := ⟨st0 c.ports.length, fun _ => none, ⟨0, 0, 0, 0⟩, mem⟩
def run16 (c : Cfg) (part : Nat) : RSt := ⟨st16 c (List.replicate (c.part part).words.toNat 0), mon0 c.parts.length, (c.part part).budget⟩
theorem IsHost.hw {W : World} {C : Nat → Nat} {c : Cfg} {node : Int} {b ab tb mb lb gb cb pb xb part : Nat} {pv qv rv mpv pv2 qv2 rv2 : Value} {mem : List Int} (h : IsHost W C c node b ab tb mb lb gb cb pv qv rv mpv) (ha : IsApx W C 330 pb xb c pv2 qv2 rv2 part mem) :
    HW W C c (mkA b ab tb mb cb pb xb pv qv rv pv2 qv2 rv2 node part) noLv (st16 c mem) := ⟨h.ports, h.nab, h.tab, h.cmd, h.ccol, ha⟩
theorem run16_ok {c : Cfg} (hg : Good c) {part : Nat} (hp : part < c.parts.length) (B : Int) (hB : 0 ≤ B) : RunOk c part (run16 c part) B := by
  have hw := part_words hg hp
  refine ⟨fun x hx => ?_, fun j x hx => ?_, ?_, ?_, ⟨hw.2.2.1, hw.2.2.2⟩⟩
  · simp only [run16, st16, List.mem_replicate] at hx
    omega
  · simp only [run16, st16, st0] at hx
    rw [List.getD_eq_getElem?_getD, List.getElem?_replicate] at hx
    split at hx
    · simp at hx
    · cases (show x ∈ ([] : List (List UInt8)) from hx)
  · simp only [run16, mon0]
    rw [List.getD_eq_getElem?_getD, List.getElem?_replicate]
    split <;> simp <;> omega
  · simp only [run16, mon0]
    rw [List.getD_eq_getElem?_getD, List.getElem?_replicate]
    split <;> simp
theorem part_lists {W : World} {C : Nat → Nat} {bu wo r0 r1 r2 r3 : Int} {pb qb rb : Nat} (hp : Bk W pb 34 ((partC bu wo r0 r1 r2 r3).parts.flatMap Part.cells)) (hq : Bk W qb 83 (wiredC.ports.flatMap Port.cells)) (hr : Bk W rb 85 (wiredC.routes.flatMap Route.cells)) (c1 : C pb = 0) (c2 : C qb = 0) (c3 : C rb = 0) :
    Lists W C (partC bu wo r0 r1 r2 r3) (.slice (some ⟨pb, 0, none⟩) 2 2) (.slice (some ⟨qb, 0, none⟩) 4 4) (.slice (some ⟨rb, 0, none⟩) 2 2) :=
  ⟨hp.rd c1 rfl (by unfold maxLen; omega), hq.rd c2 rfl (by unfold maxLen; omega), hr.rd c3 rfl (by unfold maxLen; omega)⟩

def awkOps : List OpT := [⟨5, 0, 2, 0, 0, []⟩, ⟨3, 0, 0, 7, 0, []⟩, ⟨4, 0, 0, 0, 0, []⟩]
theorem awk_run : runR (partC 3 2 0 0 0 0) 0 0 0 awkOps (run16 (partC 3 2 0 0 0 0) 0) = ([⟨0, 0, none⟩, ⟨0, 7, none⟩, ⟨151, 0, none⟩], 0, (runR (partC 3 2 0 0 0 0) 0 0 0 awkOps (run16 (partC 3 2 0 0 0 0) 0)).2.2) ∧ (runR (partC 3 2 0 0 0 0) 0 0 0 awkOps (run16 (partC 3 2 0 0 0 0) 0)).2.2.left = 0 := by
  constructor <;> kernel_rfl

def oCell (o : OpT) : List Value := [.int .u8 o.kind, .int .i64 o.port, .int .i64 o.a, .int .i64 o.b, .int .i64 o.c, .slice none 0 0]
theorem bytes_nil (w : World) (C : Nat → Nat) : IsBytes w C (.slice none 0 0) [] := rd_nil w C 1
/-- Ops without bytes. -/
theorem opsIs_plain (w : World) (C : Nat → Nat) : ∀ l : List OpT, (∀ o ∈ l, o.d = []) → OpsIs w C (l.flatMap oCell) l
  | [], _ => rfl
  | o :: r, h => ⟨.slice none 0 0, r.flatMap oCell, rfl, by rw [h o (by simp)]; exact bytes_nil w C, rfl, opsIs_plain w C r (fun x hx => h x (by simp [hx]))⟩

/-- After Wired: the box of c, and the three lists' blocks. -/
structure IsBox (W : World) (xb pb qb rb : Nat) (bu wo r0 r1 r2 r3 : Int) : Prop where
  box : Bk W xb 28 (wiredC.cells (.slice (some ⟨pb, 0, none⟩) 2 2) (.slice (some ⟨qb, 0, none⟩) 4 4) (.slice (some ⟨rb, 0, none⟩) 2 2))
  parts : Bk W pb 34 ((partC bu wo r0 r1 r2 r3).parts.flatMap Part.cells)
  ports : Bk W qb 83 (wiredC.ports.flatMap Port.cells)
  routes : Bk W rb 85 (wiredC.routes.flatMap Route.cells)

theorem IsBox.set {W : World} {xb pb qb rb : Nat} {bu wo r0 r1 r2 r3 bu' wo' r0' r1' r2' r3' : Int} (h : IsBox W xb pb qb rb bu wo r0 r1 r2 r3) (hne : pb ≠ xb ∧ pb ≠ qb ∧ pb ≠ rb) (i : Nat) (u : Value)
    (he : ((partC bu wo r0 r1 r2 r3).parts.flatMap Part.cells).set i u = (partC bu' wo' r0' r1' r2' r3').parts.flatMap Part.cells) : IsBox (W.setCell ⟨pb, i, none⟩ u) xb pb qb rb bu' wo' r0' r1' r2' r3' :=
  ⟨h.box.far (a := ⟨pb, i, none⟩) hne.1.symm u, he ▸ h.parts.set i u, h.ports.far (a := ⟨pb, i, none⟩) hne.2.1.symm u, h.routes.far (a := ⟨pb, i, none⟩) hne.2.2.symm u⟩
/-- Stores one behind the other. -/
def putsW (b : Nat) : World → List (Nat × Value) → World
  | w, [] => w
  | w, (i, u) :: r => putsW b (w.setCell ⟨b, i, none⟩ u) r
theorem Bk.setsW {b t : Nat} : ∀ {w : World} {cs : List Value} (h : Bk w b t cs) (l : List (Nat × Value)), Bk (putsW b w l) b t (l.foldl (fun cs p => cs.set p.1 p.2) cs)
  | _, _, h, [] => h
  | _, _, h, (i, u) :: r => (h.set i u).setsW r
theorem Bk.setsFar {b b' t : Nat} (hne : b ≠ b') : ∀ {w : World} {cs : List Value} (h : Bk w b t cs) (l : List (Nat × Value)), Bk (putsW b' w l) b t cs
  | _, _, h, [] => h
  | _, _, h, (i, u) :: r => (h.far (a := ⟨b', i, none⟩) hne u).setsFar hne r
theorem IsBox.sets {W : World} {xb pb qb rb : Nat} {bu wo r0 r1 r2 r3 bu' wo' r0' r1' r2' r3' : Int} (hne : pb ≠ xb ∧ pb ≠ qb ∧ pb ≠ rb) (h : IsBox W xb pb qb rb bu wo r0 r1 r2 r3) (l : List (Nat × Value))
    (he : l.foldl (fun cs p => cs.set p.1 p.2) ((partC bu wo r0 r1 r2 r3).parts.flatMap Part.cells) = (partC bu' wo' r0' r1' r2' r3').parts.flatMap Part.cells) : IsBox (putsW pb W l) xb pb qb rb bu' wo' r0' r1' r2' r3' :=
  ⟨h.box.setsFar hne.1.symm l, he ▸ h.parts.setsW l, h.ports.setsFar hne.2.1.symm l, h.routes.setsFar hne.2.2.symm l⟩
theorem wired_box {w w1 : World} {pb qb rb : Nat} (V1 : Below w.heap.size w w1) (P1 : Bk w1 pb 34 (wiredC.parts.flatMap Part.cells)) (Q1 : Bk w1 qb 83 (wiredC.ports.flatMap Port.cells)) (R1 : Bk w1 rb 85 (wiredC.routes.flatMap Route.cells)) :
    Below w.heap.size w (w1.alloc (.cells (wiredC.cells (.slice (some ⟨pb, 0, none⟩) 2 2) (.slice (some ⟨qb, 0, none⟩) 4 4) (.slice (some ⟨rb, 0, none⟩) 2 2)).toArray 28)) ∧
    IsBox (w1.alloc (.cells (wiredC.cells (.slice (some ⟨pb, 0, none⟩) 2 2) (.slice (some ⟨qb, 0, none⟩) 4 4) (.slice (some ⟨rb, 0, none⟩) 2 2)).toArray 28)) w1.heap.size pb qb rb 9 2 0 0 0 0 :=
  ⟨V1.alloc V1.size _, Bk.new _ _ _, P1.alloc _, Q1.alloc _, R1.alloc _⟩

theorem IsBox.fr {K : Nat → Prop} {C C' : Nat → Nat} {w w' : World} {xb pb qb rb : Nat} {bu wo r0 r1 r2 r3 : Int} (h : IsBox w xb pb qb rb bu wo r0 r1 r2 r3) (f : Fr K C C' w w') (h0 : C xb = 0 ∧ C pb = 0 ∧ C qb = 0 ∧ C rb = 0) (hk : ¬ K 0) :
    IsBox w' xb pb qb rb bu wo r0 r1 r2 r3 ∧ (C' xb = 0 ∧ C' pb = 0 ∧ C' qb = 0 ∧ C' rb = 0) := by
  obtain ⟨a1, a2⟩ := h.box.frc h0.1 f hk
  obtain ⟨b1, b2⟩ := h.parts.frc h0.2.1 f hk
  obtain ⟨d1, d2⟩ := h.ports.frc h0.2.2.1 f hk
  obtain ⟨e1, e2⟩ := h.routes.frc h0.2.2.2 f hk
  exact ⟨⟨a1, b1, d1, e1⟩, a2, b2, d2, e2⟩
theorem IsBox.alloc {w : World} {xb pb qb rb : Nat} {bu wo r0 r1 r2 r3 : Int} (h : IsBox w xb pb qb rb bu wo r0 r1 r2 r3) (o : Obj) : IsBox (w.alloc o) xb pb qb rb bu wo r0 r1 r2 r3 :=
  ⟨h.box.alloc o, h.parts.alloc o, h.ports.alloc o, h.routes.alloc o⟩
/-- All is ready for a run. -/
theorem ready16 {c : Cfg} (hg : Good c) {node : Int} {part : Nat} {W W' : World} {C C' : Nat → Nat} {b ab tb mb lb gb cb pb xb hb : Nat} {pv qv rv mpv pv2 qv2 rv2 : Value} {mem : List Int} (h : IsHost W C c node b ab tb mb lb gb cb pv qv rv mpv) (f : Fr (fun _ => False) C C' W W') (ha : IsApx W' C' 330 pb xb c pv2 qv2 rv2 part mem)
    (hh : Bk W' hb 40 [.pointer (some ⟨b, 0, none⟩), .pointer (some ⟨tb, 0, none⟩), .pointer (some ⟨mb, 0, none⟩), .pointer (some ⟨cb, 0, none⟩)] ∧ C' hb = 0) (he : ErrT W' ∧ C' 0 = 0) (hf : Fin C' W') :
    RunM c (mkA b ab tb mb cb pb xb pv qv rv pv2 qv2 rv2 node part) lb gb mpv hb (.slice none 0 0) [] [] (.slice none 0 0) noLv (st16 c mem) (mon0 c.parts.length) W' C' := by
  have h' := h.fr f hg.nq (fun x hx => hx.elim)
  exact ⟨h'.hw ha, by simp only [st16, st0, List.length_replicate]; exact hg.nq, h'.mon, Sl.nil _ _ _ _ _, rfl, hh.1, hh.2, he.1, he.2, hf⟩
/-- What Run leaves, with all that is needed for another one. -/
def RunMP (c : Cfg) (A : HA) (lb gb : Nat) (mpv : Value) (hb : Nat) (C : Nat → Nat) (w : World) (budget : Int) (X : List Res × Int × RSt) (e : Ending) (w' : World) : Prop :=
  ∃ v C' lv' ov' cs, e = .returned (.tuple #[v, .int .u8 X.2.1, .int .i64 (budget - X.2.2.left)]) ∧ Fr KRun C C' w w' ∧ RunM c A lb gb mpv hb v X.1 cs ov' lv' X.2.2.h X.2.2.m w' C'
theorem apxRunM (c : Cfg) (hg : Good c) (A : HA) (lb gb : Nat) (mpv ov : Value) (C : Nat → Nat) (lv : Nat → Value) (s0 : RSt) (round : Int) (r0 : 0 ≤ round) (r1 : round < 1048576) (opv : Value) (ops : List OpT) (ocs : List Value) (B : Int) (hB : B + ops.length ≤ 100000)
    (hpart : A.part < c.parts.length) (hnode : 0 ≤ A.node ∧ A.node < 256) (w : World) {hb : Nat} {v : Value} {rs : List Res} {cs : List Value} (h : RunM c A lb gb mpv hb v rs cs ov lv s0.h s0.m w C) (ho : Rd w C opv 6 ops.length ocs) (hO : OpsIs w C ocs ops)
    (h3 : ∀ p ∈ c.parts, 0 ≤ p.r0 ∧ 0 ≤ p.r1 ∧ 0 ≤ p.r2 ∧ 0 ≤ p.r3) (hs : s0.left = (c.part A.part).budget) (hk : RunOk c A.part s0 B) :
    Calls Tryd.prog 12 #[.pointer (some ⟨A.pb, 0, none⟩), A.v, .int .u32 round, opv] w (RunMP c A lb gb mpv hb C w (c.part A.part).budget (runR c A.node A.part round ops s0)) := by
  refine (apxRun c hg A lb gb mpv ov C lv s0 round r0 r1 opv ops ocs B hB hpart hnode w h.fin h.hw h.mon ho hO h.err h.ecol h3 hs hk).mono ?_
  rintro e w' ⟨v', C', lv', ov', cs', rfl, F, hw, hm, hsl, hres⟩
  have k0 : ¬ KRun 0 := by unfold KRun; omega
  obtain ⟨a1, a2⟩ := h.host.frc h.hcol F k0
  obtain ⟨b1, b2⟩ := h.err.fr h.ecol F k0
  exact ⟨v', C', lv', ov', cs', rfl, F, ⟨hw, by rw [hw.ports.len]; exact hg.nq, hm, hsl, hres, a1, a2, b1, b2, F.Fin h.fin⟩⟩

set_option maxRecDepth 100000 in
set_option maxHeartbeats 8000000 in
theorem awake16 (w : World) (hT : ErrT w) : Calls Tryd.prog 8 #[] w fun e w' => e = .returned (.bool true) ∧ Below w.heap.size w w' := by
  have HT := hid_ hT
  clear hT
  go_enter Tryd.func8, Tryd.ntmps8
  go_wp2_with fail
  refine (law13WiredB w).mono ?_
  rintro e w1 ⟨pb, qb, rb, rfl, V1, ⟨hp, hq, hr, -, -⟩, P1, Q1, R1⟩
  unfold Cfg.v
  have hne : pb ≠ w1.heap.size ∧ pb ≠ qb ∧ pb ≠ rb := ⟨by have := P1.lt; omega, P1.ne Q1 (by decide), P1.ne R1 (by decide)⟩
  go_upto_region 2 with fail
  have B1 := wired_box V1 P1 Q1 R1
  refine gen_world (fun W => Below w.heap.size w W ∧ IsBox W w1.heap.size pb qb rb 9 2 0 0 0 0) B1 ?_
  clear B1 V1 P1 Q1 R1
  rintro W2 ⟨V2, B2⟩
  have c8 := B2.box.cell_ 8 rfl
  have z3 := B2.parts.cell_ 3 rfl
  have f3 := B2.parts.frozen 3
  go_upto_region 3 with fail
  refine gen_world (fun W => Below w.heap.size w W ∧ IsBox W w1.heap.size pb qb rb 3 2 0 0 0 0) ⟨V2.setCell hp _, B2.set hne 3 _ rfl⟩ ?_
  clear c8 z3 f3 V2 B2
  rintro W3 ⟨V3, B3⟩
  have HB3 := hid_ B3
  have hl3 : Lists W3 (fun _ => 0) (partC 3 2 0 0 0 0) _ _ _ := part_lists B3.parts B3.ports B3.routes rfl rfl rfl
  have c0 := B3.box.cell_ 0 rfl
  have c1 := B3.box.cell_ 1 rfl
  have c2 := B3.box.cell_ 2 rfl
  have c3 := B3.box.cell_ 3 rfl
  have c4 := B3.box.cell_ 4 rfl
  have c5 := B3.box.cell_ 5 rfl
  have c6 := B3.box.cell_ 6 rfl
  have c7 := B3.box.cell_ 7 rfl
  have c8 := B3.box.cell_ 8 rfl
  have c9 := B3.box.cell_ 9 rfl
  have c10 := B3.box.cell_ 10 rfl
  have hb : 0 ≤ (3 : Int) ∧ (3 : Int) ≤ 64 := by omega
  have hw : 0 ≤ (2 : Int) ∧ (2 : Int) ≤ 16 := by omega
  have ho : 0 ≤ (0 : Int) ∧ (0 : Int) ≤ 3 := by omega
  have hg := hid_ (part_good hb hw ho ho ho ho)
  have HN := hid_ (host_new (partC 3 2 0 0 0 0) hg.out (part_ok hb hw ho ho ho ho) (part_snd hb hw ho ho ho ho) rfl (fun _ => 0) _ _ _ 0 ⟨by omega, by show (0 : Int) < 2; omega⟩ W3 hl3 (fun _ _ => rfl))
  clear hl3 B3
  go_wp2_with fail
  refine HN.out.mono ?_
  clear c0 c1 c2 c3 c4 c5 c6 c7 c8 c9 c10
  rintro e W4 ⟨b, ab, tb, mb, lb, gb, cb, pv2, qv2, rv2, mpv, C4, rfl, F4, I4⟩
  have B4 := HB3.out.fr F4 ⟨rfl, rfl, rfl, rfl⟩ (fun h => h)
  have fin4 := F4.Fin (fun _ _ => rfl)
  have FW := hid_ ((Fr.of_below (C := fun _ => 0) V3 (fun _ => False)).trans F4)
  have B5 := B4.1.alloc (.cells #[.pointer (some ⟨b, 0, none⟩), .pointer (some ⟨tb, 0, none⟩), .pointer (some ⟨mb, 0, none⟩), .pointer (some ⟨cb, 0, none⟩)] 40)
  have HB4 := hid_ B4
  have HI4 := hid_ I4
  have HFN4 := hid_ fin4
  unfold hostV
  have c0 := B5.box.cell_ 0 rfl
  have c1 := B5.box.cell_ 1 rfl
  have c2 := B5.box.cell_ 2 rfl
  have c3 := B5.box.cell_ 3 rfl
  have c4 := B5.box.cell_ 4 rfl
  have c5 := B5.box.cell_ 5 rfl
  have c6 := B5.box.cell_ 6 rfl
  have c7 := B5.box.cell_ 7 rfl
  have c8 := B5.box.cell_ 8 rfl
  have c9 := B5.box.cell_ 9 rfl
  have c10 := B5.box.cell_ 10 rfl
  have fb := (Fr.refl (fun _ => False) C4 W4).alloc (.cells #[.pointer (some ⟨b, 0, none⟩), .pointer (some ⟨tb, 0, none⟩), .pointer (some ⟨mb, 0, none⟩), .pointer (some ⟨cb, 0, none⟩)] 40)
  have HNW := hid_ (apxNew (partC 3 2 0 0 0 0) C4 330 (by decide) _ _ _ 0 (show 0 < 2 by decide) ⟨by decide, by decide⟩ _ (part_lists (C := C4) B5.parts B5.ports B5.routes B4.2.2.1 B4.2.2.2.1 B4.2.2.2.2) (fb.Fin fin4))
  have HFB := hid_ fb
  have HBB := hid_ (Bk.new W4 40 [.pointer (some ⟨b, 0, none⟩), .pointer (some ⟨tb, 0, none⟩), .pointer (some ⟨mb, 0, none⟩), .pointer (some ⟨cb, 0, none⟩)])
  clear F4 B4 fin4 I4 B5 fb HB3 V3
  go_wp2_with fail
  refine HNW.out.mono ?_
  rintro e W6 ⟨pb6, xb6, C6, rfl, hpb6, F6, A6⟩
  have R6 := ready16 hg.out HI4.out (HFB.out.trans F6) A6 (HBB.out.frc (HFN4.out _ (Nat.le_refl _)) F6 (fun h => h)) (HT.out.fr (C := fun _ => 0) rfl (FW.out.trans (HFB.out.trans F6)) (fun h => h)) ((HFB.out.trans F6).Fin HFN4.out)
  have FW6 := hid_ (FW.out.trans (HFB.out.trans F6))
  have h0 := R6.host.cell_ 0 rfl
  have h1 := R6.host.cell_ 1 rfl
  have h2 := R6.host.cell_ 2 rfl
  have h3 := R6.host.cell_ 3 rfl
  have h0' := fun o => cell_alloc_keep o h0
  have h1' := fun o => cell_alloc_keep o h1
  have h2' := fun o => cell_alloc_keep o h2
  have h3' := fun o => cell_alloc_keep o h3
  have fo := (Fr.refl (fun _ => False) C6 W6).alloc (.cells (awkOps.flatMap oCell).toArray 60)
  have hRUN := apxRunM (partC 3 2 0 0 0 0) hg.out _ lb gb mpv _ C6 noLv (run16 (partC 3 2 0 0 0 0) 0) 0 (by omega) (by omega) _ awkOps _ 0 (by decide) (show 0 < 2 by decide) ⟨show (0 : Int) ≤ 0 by omega, show (0 : Int) < 256 by omega⟩ _ (R6.fr fo (fun x h => h.elim)) ((Bk.new W6 60 (awkOps.flatMap oCell)).rd (sz := 6) (n := 3) (R6.fin _ (Nat.le_refl _)) rfl (by unfold maxLen; omega)) (opsIs_plain _ _ _ (by decide)) (part_recs ho ho ho ho) rfl (run16_ok hg.out (show 0 < 2 by decide) 0 (by omega))
  have HRUN := hid_ hRUN
  have HFO := hid_ fo
  have HS6 := hid_ R6.fin
  clear hRUN fo R6 F6 A6 hpb6 ho hb hw HNW HN HB4 HI4 HT HFB HBB
  go_wp2_with fail
  refine HRUN.out.mono ?_
  rw [show runR (partC 3 2 0 0 0 0) (mkA b ab tb mb cb pb6 xb6 pv2 qv2 rv2 _ _ _ 0 0).node (mkA b ab tb mb cb pb6 xb6 pv2 qv2 rv2 _ _ _ 0 0).part 0 awkOps (run16 (partC 3 2 0 0 0 0) 0) = _ from awk_run.1]
  rintro e W7 ⟨v, C7, lv7, ov7, cs, rfl, F7, R7⟩
  simp only
  rw [show (runR (partC 3 2 0 0 0 0) 0 0 0 awkOps (run16 (partC 3 2 0 0 0 0) 0)).2.2.left = 0 from awk_run.2]
  rw [show ((partC 3 2 0 0 0 0).part (mkA b ab tb mb cb pb6 xb6 pv2 qv2 rv2 _ _ _ 0 0).part).budget - 0 = 3 from rfl]
  obtain ⟨va, vc, rfl, hvc, hvm, -⟩ := R7.sl.form
  obtain ⟨rb7, ro7, rfl, -, -, hcell⟩ := R7.sl.at (show 0 < 3 by omega)
  obtain ⟨_, _, -, y1, -⟩ := R7.res.get (i := 1) rfl
  obtain ⟨_, _, y2, -⟩ := R7.res.get (i := 2) rfl
  have z1 := hcell _ _ y1
  have z2 := hcell _ _ y2
  have e1 : W7.cell? ⟨rb7, ro7 + 4 + 1, none⟩ = some (.int .i64 7) := z1
  have e2 : W7.cell? ⟨rb7, ro7 + 8, none⟩ = some (.int .i64 151) := z2
  have hB := (((FW6.out.trans HFO.out).mono (K' := KRun) (fun _ h => h.elim)).trans F7).mono (K' := (· ≠ 0)) (fun x h => by unfold KRun at h; omega)
  have HBW := hid_ hB.old
  unfold maxLen at hvm
  simp only [List.length_cons, List.length_nil] at hvc ⊢
  clear z1 z2 y1 y2 hcell hB F7 R7 HRUN
  go_wp2
  go_ret
  exact ⟨rfl, HBW.out⟩
end Go.Proofs.YtlgjaoijgkdmiaaDoor
namespace Go.Proofs.YtlgjaoijgkdmiaaDoor
open Go.RowKit Go.Maps
theorem rem_small16 (x m : Int) (hm : 0 < m) (h9 : m ≤ 1000000) : 0 ≤ wrap64 ((IntKind.u64.wrap x).tmod m) ∧ wrap64 ((IntKind.u64.wrap x).tmod m) < m := by
  have h0 : 0 ≤ IntKind.u64.wrap x := by simp [IntKind.wrap, IntKind.signed, IntKind.bits]; omega
  rw [Int.tmod_eq_emod_of_nonneg h0]
  have h1 := Int.emod_nonneg (IntKind.u64.wrap x) (show m ≠ 0 by omega)
  have h2 := Int.emod_lt_of_pos (IntKind.u64.wrap x) hm
  unfold wrap64
  omega
end Go.Proofs.YtlgjaoijgkdmiaaDoor
namespace Go.Proofs.YtlgjaoijgkdmiaaDoor
open Go.RowKit Go.Maps

/-- Words that can be read. -/
def WordsAt (w : World) (v : Value) (l : List Int) : Prop :=
  ∃ a c, v = .slice a l.length c ∧ l.length ≤ c ∧ c ≤ maxLen ∧ (0 < l.length → ∃ b off, a = some ⟨b, off, none⟩ ∧ ∀ i (h : i < l.length), w.cell? ⟨b, off + i, none⟩ = some (.int .u16 l[i]))
theorem wordsAt_of_rd {w : World} {C : Nat → Nat} {v : Value} {l : List Int} (h : Rd w C v 1 l.length (u16s l)) : WordsAt w v l := by
  obtain ⟨a, c, rfl, h1, h2, h3, h4⟩ := h
  refine ⟨a, c, rfl, h1, h2, fun hn => ?_⟩
  obtain ⟨b, off, ha, _, _, hc⟩ := h4 hn
  exact ⟨b, off, ha, fun i hi => hc i _ (by unfold u16s; rw [List.getElem?_map, List.getElem?_eq_getElem hi]; rfl)⟩
theorem WordsAt.grown {w w' : World} {v : Value} {l : List Int} (h : WordsAt w v l) (hb : Below w.heap.size w w') : WordsAt w' v l := by
  obtain ⟨a, c, rfl, h1, h2, h4⟩ := h
  refine ⟨a, c, rfl, h1, h2, fun hn => ?_⟩
  obtain ⟨b, off, ha, hc⟩ := h4 hn
  exact ⟨b, off, ha, fun i hi => grown_cell hb (hc i hi)⟩

set_option maxRecDepth 100000 in
set_option maxHeartbeats 2000000 in
theorem sameWords (av bv : Value) (l r : List Int) (w : World) (ha : WordsAt w av l) (hb : WordsAt w bv r) :
    Calls Tryd.prog 16 #[av, bv] w fun e w' => e = .returned (.bool (decide (l = r))) ∧ Below w.heap.size w w' := by
  obtain ⟨aa, ac, rfl, ha1, ha2, ha3⟩ := ha
  obtain ⟨ba, bc, rfl, hb1, hb2, hb3⟩ := hb
  unfold maxLen at ha2 hb2
  by_cases hlen : l.length = r.length
  · have h1 : ((l.length : Int) != (r.length : Int)) = false := by rw [hlen]; simp
    have HL := hid_ hlen
    have HA := hid_ ha3
    have HB := hid_ hb3
    clear hlen ha3 hb3
    go_enter Tryd.func16, Tryd.ntmps16
    go_wp2
    go_loopw [5] (fun iv wr => ∃ i : Nat, i ≤ l.length ∧ iv = .int .i64 i ∧ (∀ j, j < i → l[j]? = r[j]?) ∧ Below w.heap.size w wr) (fun iv _ => l.length - (intOf iv).toNat)
    case atStart => exact ⟨0, Nat.zero_le _, rfl, fun j hj => by omega, Below.refl _ _⟩
    case round =>
      obtain ⟨i, hi, rfl, hall, hW⟩ := hrel
      have j0 : (0 : Int) ≤ (i : Int) := Int.natCast_nonneg _
      have HALL := hid_ hall
      have HW := hid_ hW
      by_cases hlt : i < l.length
      · have hlr : i < r.length := by rw [← HL.out]; exact hlt
        obtain ⟨b1, o1, rfl, hc1⟩ := HA.out (by omega)
        obtain ⟨b2, o2, rfl, hc2⟩ := HB.out (by omega)
        have x1 := grown_cell hW (hc1 i hlt)
        have x2 := grown_cell hW (hc2 i hlr)
        have j1 : (i : Int) < (l.length : Int) := by omega
        have j2 : (i : Int) < (r.length : Int) := by omega
        obtain ⟨p, hp⟩ : ∃ p, l[i] = p := ⟨_, rfl⟩
        obtain ⟨q, hq⟩ : ∃ p, r[i] = p := ⟨_, rfl⟩
        rw [hp] at x1
        rw [hq] at x2
        have HP := hid_ hp
        have HQ := hid_ hq
        by_cases hpq : p = q
        · have hb : (p != q) = false := by simpa using hpq
          have HPQ := hid_ hpq
          clear hall hW hc1 hc2 hp hq hpq
          go_wp2_with fail
          go_region
          go_wp2
          go_roundw
          case rel =>
            refine ⟨i + 1, by omega, by go_num, fun j hj => ?_, HW.out.drew⟩
            rcases (by omega : j < i ∨ j = i) with h | rfl
            · exact HALL.out j h
            · rw [List.getElem?_eq_getElem hlt, List.getElem?_eq_getElem hlr, HP.out, HQ.out, HPQ.out]
          case measure => simp [intOf]; omega
        · have hb : (p != q) = true := by simpa using hpq
          have hne : decide (l = r) = false := by
            simp
            rintro rfl
            exact hpq (hp.symm.trans hq)
          have HNE := hid_ hne
          clear hall hW hc1 hc2 hp hq hpq hne
          go_wp2_with fail
          go_region
          go_wp2
          go_ret
          exact ⟨by rw [HNE.out]; rfl, HW.out.drew⟩
      · have he : decide (l = r) = true := by
          simp
          refine List.ext_getElem? fun j => ?_
          rcases Nat.lt_or_ge j i with h | h
          · exact hall j h
          · rw [List.getElem?_eq_none (by omega), List.getElem?_eq_none (by have := HL.out; omega)]
        have HE := hid_ he
        clear hall hW he
        go_wp2
        go_ret
        exact ⟨by rw [HE.out]; rfl, HW.out⟩
  · have h1 : ((l.length : Int) != (r.length : Int)) = true := by simp; omega
    have hne : decide (l = r) = false := by simp; rintro rfl; exact hlen rfl
    rw [hne]
    clear hlen ha3 hb3
    go_enter Tryd.func16, Tryd.ntmps16
    go_wp2
    go_ret
    exact ⟨rfl, Below.refl _ _⟩
end Go.Proofs.YtlgjaoijgkdmiaaDoor
