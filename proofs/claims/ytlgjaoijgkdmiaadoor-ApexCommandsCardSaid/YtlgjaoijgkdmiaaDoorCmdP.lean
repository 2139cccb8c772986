/- ApexCommands' plain law. No condition. -/
import Derived.Test.YtlgjaoijgkdmiaaDoorAwkK
set_option linter.unusedSimpArgs false
set_option linter.unusedVariables false
namespace Go.Proofs.YtlgjaoijgkdmiaaDoor
open Go.RowKit Go.Maps

instance : Inhabited Res := ⟨⟨0, 0, none⟩⟩
def isCmd (o : OpT) : Bool := decide (7 ≤ o.kind) && decide (o.kind ≤ 9)
def outR (o : OpT) : Prop := o.a < 0 ∨ 8 ≤ o.a
instance (o : OpT) : Decidable (outR o) := by unfold outR; exact inferInstance
/-- The codes of a list of commands. -/
def cds : Bool → List OpT → List Int
  | _, [] => []
  | busy, o :: r => if outR o then 2 :: cds busy r else if busy then 14 :: cds true r else 0 :: cds true r
/-- The place of the first lawful one among the first i; -1. -/
def fstI (ops : List OpT) : Nat → Int
  | 0 => -1
  | i + 1 => if outR (ops.getD i default) then fstI ops i else if 0 ≤ fstI ops i then fstI ops i else (i : Int)
def mapC (o : OpT) : Cmd := if o.kind = 8 then ⟨2, o.a, 0, 0⟩ else if o.kind = 9 then ⟨3, o.a, w16 o.b, w16 o.c⟩ else ⟨1, o.a, w16 o.b, 0⟩
abbrev cmdC : Cfg := partC 64 2 0 0 0 0

theorem mapC_pos (o : OpT) : 1 ≤ (mapC o).kind := by
  unfold mapC
  by_cases h8 : o.kind = 8
  · rw [if_pos h8]; show (1 : Int) ≤ 2; omega
  · rw [if_neg h8]
    by_cases h9 : o.kind = 9
    · rw [if_pos h9]; show (1 : Int) ≤ 3; omega
    · rw [if_neg h9]; show (1 : Int) ≤ 1; omega
theorem cmd_step (s : RSt) (o : OpT) (ho : isCmd o = true) (hl : 1 ≤ s.left) :
    stepE cmdC 0 0 s o = cmdE s.h.cmd 0 o ∧ stepS cmdC 0 0 s o = ⟨⟨s.h.st, s.h.f, cmdM s.h.cmd o, s.h.mem⟩, s.m, s.left - 1⟩ := by
  unfold isCmd at ho
  simp only [Bool.and_eq_true, decide_eq_true_eq] at ho
  have hc : costO o = 1 := by unfold costO; rw [if_neg (by omega)]
  have hn : ¬ s.left < costO o := by omega
  constructor
  · unfold stepE opE
    rw [if_neg hn, if_neg (by omega), if_neg (by omega), if_neg (by omega), if_neg (by omega), if_pos (by omega)]
  · unfold stepS opS
    rw [if_neg hn, hc, if_neg (by omega), if_neg (by omega), if_neg (by omega), if_pos (by omega)]

theorem cmd_main : ∀ (r : List OpT) (s : RSt), (∀ o ∈ r, isCmd o = true) → (r.length : Int) ≤ s.left → (s.h.cmd.kind = 0 ∨ 1 ≤ s.h.cmd.kind) →
    (runR cmdC 0 0 0 r s).1.map (·.code) = cds (decide (s.h.cmd.kind ≠ 0)) r ∧ (runR cmdC 0 0 0 r s).2.2.h.cmd = r.foldl cmdM s.h.cmd
  | [], s, _, _, _ => ⟨rfl, rfl⟩
  | o :: r, s, hr, hl, hk => by
    have ho := hr o (by simp)
    have hl1 : 1 ≤ s.left := by simp only [List.length_cons] at hl; omega
    obtain ⟨hE, hS⟩ := cmd_step s o ho hl1
    have hr' : ∀ x ∈ r, isCmd x = true := fun x hx => hr x (by simp [hx])
    have hl' : (r.length : Int) ≤ s.left - 1 := by simp only [List.length_cons] at hl; omega
    by_cases hb : outR o
    · have e1 : cmdE s.h.cmd 0 o = some (2, if o.a < -1 then -1 else o.a) := by unfold cmdE; rw [if_pos (show o.a < 0 ∨ 8 ≤ o.a from hb)]
      have e2 : cmdM s.h.cmd o = s.h.cmd := by unfold cmdM; rw [if_pos (show o.a < 0 ∨ 8 ≤ o.a from hb)]
      have hR : (stepR cmdC 0 0 s o).code = 2 := by unfold stepR; rw [hE, e1]
      have hkd : kindE (errL (stepE cmdC 0 0 s o)) = some 2 := by rw [hE, e1]; rfl
      have hA : repA cmdC.parts (stepS cmdC 0 0 s o).m 0 0 (2 : Int).toNat = 0 := by unfold repA; rfl
      rw [runR_go2 hkd (by rw [hA]; omega)]
      have := cmd_main r ⟨(stepS cmdC 0 0 s o).h, repM 0 cmdC.parts (stepS cmdC 0 0 s o).m 0 0 (2 : Int).toNat, (stepS cmdC 0 0 s o).left⟩ hr' (by rw [hS]; exact hl') (by rw [hS]; simp only; rw [e2]; exact hk)
      obtain ⟨q1, q2⟩ := this
      simp only [List.map_cons, List.foldl_cons]
      rw [q1, q2, hR]
      simp only [hS, e2]
      rw [cds, if_pos hb]
      first | exact ⟨rfl, rfl⟩ | exact ⟨rfl, trivial⟩ | exact ⟨trivial, trivial⟩ | exact trivial
    · by_cases hz : s.h.cmd.kind = 0
      · have e1 : cmdE s.h.cmd 0 o = none := by unfold cmdE; rw [if_neg (show ¬ (o.a < 0 ∨ 8 ≤ o.a) from hb), if_neg (by simpa using hz)]
        have e2 : cmdM s.h.cmd o = mapC o := by unfold cmdM mapC; rw [if_neg (show ¬ (o.a < 0 ∨ 8 ≤ o.a) from hb), if_neg (by simpa using hz)]
        have hk1 : 1 ≤ (mapC o).kind := by exact mapC_pos o
        have hR : (stepR cmdC 0 0 s o).code = 0 := by
          unfold stepR
          rw [hE, e1]
          unfold isCmd at ho
          simp only [Bool.and_eq_true, decide_eq_true_eq] at ho
          show (opV s.h o).1 = 0
          unfold opV
          rw [if_neg (by omega), if_neg (by omega), if_neg (by omega)]
        have hkd : kindE (errL (stepE cmdC 0 0 s o)) = none := by rw [hE, e1]; rfl
        rw [runR_go1 hkd]
        obtain ⟨q1, q2⟩ := cmd_main r (stepS cmdC 0 0 s o) hr' (by rw [hS]; exact hl') (by rw [hS]; simp only; rw [e2]; exact .inr hk1)
        simp only [List.map_cons, List.foldl_cons]
        rw [q1, q2, hR]
        simp only [hS, e2]
        rw [cds, if_neg hb]
        have g2 : decide ((mapC o).kind ≠ 0) = true := by simp; omega
        rw [g2]
        simp only [hz, ne_eq, not_true, decide_false, Bool.false_eq_true, if_false, decide_true, Bool.not_true]
        first | exact ⟨rfl, rfl⟩ | exact ⟨rfl, trivial⟩ | exact ⟨trivial, trivial⟩ | exact trivial
      · have e1 : cmdE s.h.cmd 0 o = some (14, ((0 : Nat) : Int)) := by unfold cmdE; rw [if_neg (show ¬ (o.a < 0 ∨ 8 ≤ o.a) from hb), if_pos (by simpa using hz)]
        have e2 : cmdM s.h.cmd o = s.h.cmd := by unfold cmdM; rw [if_neg (show ¬ (o.a < 0 ∨ 8 ≤ o.a) from hb), if_pos (by simpa using hz)]
        have hR : (stepR cmdC 0 0 s o).code = 14 := by unfold stepR; rw [hE, e1]
        have hkd : kindE (errL (stepE cmdC 0 0 s o)) = none := by rw [hE, e1]; rfl
        rw [runR_go1 hkd]
        obtain ⟨q1, q2⟩ := cmd_main r (stepS cmdC 0 0 s o) hr' (by rw [hS]; exact hl') (by rw [hS]; simp only; rw [e2]; exact hk)
        simp only [List.map_cons, List.foldl_cons]
        rw [q1, q2, hR]
        simp only [hS, e2]
        rw [cds, if_neg hb]
        simp only [hz, ne_eq, not_false_eq_true, decide_true, if_true, decide_false, Bool.not_false]
        first | exact ⟨rfl, rfl⟩ | exact ⟨rfl, trivial⟩ | exact ⟨trivial, trivial⟩ | exact trivial
theorem cds_len : ∀ (r : List OpT) (b : Bool), (cds b r).length = r.length
  | [], _ => rfl
  | o :: r, b => by
    rw [cds]
    split
    · simp [cds_len r]
    · split <;> simp [cds_len r]
theorem fstI_cons_out (o : OpT) (r : List OpT) (h : outR o) : ∀ i, fstI (o :: r) (i + 1) = if 0 ≤ fstI r i then fstI r i + 1 else -1
  | 0 => by rw [show fstI (o :: r) (0 + 1) = (if outR o then (-1) else if (0 : Int) ≤ -1 then -1 else 0) from rfl, if_pos h]; rfl
  | i + 1 => by
    rw [fstI, fstI_cons_out o r h i, List.getD_cons_succ]
    conv => rhs; rw [fstI]
    by_cases ho : outR (r.getD i default)
    · rw [if_pos ho, if_pos ho]
    · rw [if_neg ho, if_neg ho]
      by_cases hp : 0 ≤ fstI r i
      · rw [if_pos hp, if_pos hp, if_pos (by omega), if_pos hp]
      · rw [if_neg hp, if_neg hp, if_neg (by omega), if_pos (by omega)]; omega
theorem fstI_cons_in (o : OpT) (r : List OpT) (h : ¬ outR o) : ∀ i, fstI (o :: r) (i + 1) = 0
  | 0 => by rw [show fstI (o :: r) (0 + 1) = (if outR o then (-1) else if (0 : Int) ≤ -1 then -1 else 0) from rfl, if_neg h]; rfl
  | i + 1 => by
    rw [fstI, fstI_cons_in o r h i]
    split
    · rfl
    · rfl
/-- The code at each place. -/
theorem cds_busy : ∀ (r : List OpT) (i : Nat), i < r.length → (cds true r).getD i 0 = if outR (r.getD i default) then 2 else 14
  | o :: r, 0, _ => by
    rw [cds]
    by_cases h : outR o
    · rw [if_pos h]; simp [h]
    · rw [if_neg h]; simp [h]
  | o :: r, i + 1, hi => by
    have := cds_busy r i (by simpa using hi)
    rw [cds]
    by_cases h : outR o
    · rw [if_pos h]; simpa using this
    · rw [if_neg h]; simpa using this
theorem cds_get : ∀ (r : List OpT) (i : Nat), i < r.length → (cds false r).getD i 0 = if outR (r.getD i default) then 2 else if 0 ≤ fstI r i then 14 else 0
  | o :: r, 0, _ => by
    rw [cds]
    by_cases h : outR o
    · rw [if_pos h]; simp [h]
    · rw [if_neg h]; simp [h, fstI]
  | o :: r, i + 1, hi => by
    rw [cds]
    by_cases h : outR o
    · rw [if_pos h, fstI_cons_out o r h, List.getD_cons_succ, List.getD_cons_succ, cds_get r i (by simpa using hi)]
      by_cases hp : 0 ≤ fstI r i
      · rw [if_pos hp, if_pos hp, if_pos (show 0 ≤ fstI r i + 1 by omega)]
      · rw [if_neg hp, if_neg hp, if_neg (show ¬ (0 : Int) ≤ -1 by omega)]
    · rw [if_neg h, fstI_cons_in o r h, if_neg (by simp), List.getD_cons_succ, List.getD_cons_succ, cds_busy r i (by simpa using hi), if_pos (show (0 : Int) ≤ 0 by omega)]
theorem fold_busy : ∀ (r : List OpT) (c : Cmd), c.kind ≠ 0 → r.foldl cmdM c = c
  | [], _, _ => rfl
  | o :: r, c, h => by
    have e : cmdM c o = c := by
      unfold cmdM
      by_cases hb : o.a < 0 ∨ 8 ≤ o.a
      · rw [if_pos hb]
      · rw [if_neg hb, if_pos h]
    rw [List.foldl_cons, e, fold_busy r c h]
/-- What waits at last. -/
theorem fold_get : ∀ (r : List OpT), (fstI r r.length < 0 ∧ r.foldl cmdM ⟨0, 0, 0, 0⟩ = ⟨0, 0, 0, 0⟩) ∨ ∃ j : Nat, fstI r r.length = j ∧ j < r.length ∧ ¬ outR (r.getD j default) ∧ r.foldl cmdM ⟨0, 0, 0, 0⟩ = mapC (r.getD j default)
  | [] => .inl ⟨by simp [fstI], rfl⟩
  | o :: r => by
    by_cases h : outR o
    · have e : cmdM ⟨0, 0, 0, 0⟩ o = ⟨0, 0, 0, 0⟩ := by unfold cmdM; rw [if_pos (show o.a < 0 ∨ 8 ≤ o.a from h)]
      rw [List.foldl_cons, e, List.length_cons, fstI_cons_out o r h]
      rcases fold_get r with ⟨h1, h2⟩ | ⟨j, h1, h2, h3, h4⟩
      · exact .inl ⟨by rw [if_neg (by omega)]; omega, h2⟩
      · exact .inr ⟨j + 1, by rw [h1, if_pos (by omega)]; simp, by omega, by simpa using h3, by simpa using h4⟩
    · have e : cmdM ⟨0, 0, 0, 0⟩ o = mapC o := by unfold cmdM mapC; rw [if_neg (show ¬ (o.a < 0 ∨ 8 ≤ o.a) from h), if_neg (by simp)]
      have hk1 : (mapC o).kind ≠ 0 := by have := mapC_pos o; omega
      rw [List.foldl_cons, e, List.length_cons, fstI_cons_in o r h, fold_busy r _ hk1]
      exact .inr ⟨0, rfl, by omega, by simpa using h, by simp⟩
theorem mapC_kind (o : OpT) (ho : isCmd o = true) : (mapC o).kind = o.kind - 6 ∧ (mapC o).key = o.a := by
  unfold isCmd at ho
  simp only [Bool.and_eq_true, decide_eq_true_eq] at ho
  unfold mapC
  by_cases h8 : o.kind = 8
  · rw [if_pos h8, h8]; first | exact ⟨rfl, rfl⟩ | exact ⟨rfl, trivial⟩ | exact ⟨trivial, trivial⟩ | exact trivial
  · rw [if_neg h8]
    by_cases h9 : o.kind = 9
    · rw [if_pos h9, h9]; first | exact ⟨rfl, rfl⟩ | exact ⟨rfl, trivial⟩ | exact ⟨trivial, trivial⟩ | exact trivial
    · rw [if_neg h9]; exact ⟨by simp only; omega, rfl⟩
end Go.Proofs.YtlgjaoijgkdmiaaDoor
