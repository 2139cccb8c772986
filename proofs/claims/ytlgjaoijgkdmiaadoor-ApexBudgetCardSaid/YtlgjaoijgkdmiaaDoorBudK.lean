/- ApexBudget's plain law. No condition. · ApexBudget's walk. No condition. -/
import Derived.Test.YtlgjaoijgkdmiaaDoorAwkK
import Derived.Test.YtlgjaoijgkdmiaaDoorOpenK
import Derived.Deep.RegionHeld3
set_option linter.unusedSimpArgs false
set_option linter.unusedVariables false
namespace Go.Proofs.YtlgjaoijgkdmiaaDoor
open Go.RowKit Go.Maps

instance : Inhabited Res := ⟨⟨0, 0, none⟩⟩
def rcode (rs : List Res) (i : Nat) : Int := (rs.getD i default).code
def cstN (rs : List Res) (ops : List OpT) : Nat → Int
  | 0 => 0
  | i + 1 => cstN rs ops i + if rcode rs i = 151 then 0 else costO (ops.getD i default)
def ovN (rs : List Res) : Nat → Bool
  | 0 => false
  | i + 1 => ovN rs i || decide (rcode rs i = 151)
theorem cstN_cons (r : Res) (rs : List Res) (o : OpT) (ops : List OpT) : ∀ i, cstN (r :: rs) (o :: ops) (i + 1) = (if r.code = 151 then 0 else costO o) + cstN rs ops i
  | 0 => by simp [cstN, rcode]
  | i + 1 => by
    rw [cstN, cstN_cons r rs o ops i]
    simp only [cstN, rcode, List.getD_cons_succ]
    omega
theorem findE_rng {c : Cfg} {node part port : Int} {out : Bool} {x : Int × Int} (h : findE c node part port out = some x) : x.1 ≠ 151 := by
  unfold findE at h
  repeat' split at h
  all_goals first | (cases h; done) | (injection h with h; subst h; simp)
theorem writeE_rng {c : Cfg} {node part port : Int} {d : List UInt8} {st : List PSt} {x : Int × Int} (h : writeE c node part port d st = some x) : x.1 ≠ 151 := by
  unfold writeE at h
  cases hF : findE c node part port true with
  | some y =>
    rw [hF] at h
    injection h with h
    subst h
    exact findE_rng hF
  | none =>
    rw [hF] at h
    simp only at h
    repeat' split at h
    all_goals first | (cases h; done) | (injection h with h; subst h; simp)
theorem readE_rng {c : Cfg} {node part port : Int} {st : List PSt} {x : Int × Int} (h : readE c node part port st = some x) : x.1 ≠ 151 := by
  unfold readE at h
  cases hF : findE c node part port false with
  | some y =>
    rw [hF] at h
    injection h with h
    subst h
    exact findE_rng hF
  | none =>
    rw [hF] at h
    simp only at h
    repeat' split at h
    all_goals first | (cases h; done) | (injection h with h; subst h; simp)
theorem opE_rng {c : Cfg} {node : Int} {part : Nat} {s : HSt} {o : OpT} {x : Int × Int} (h : opE c node part s o = some x) : x.1 ≠ 151 := by
  unfold opE at h
  split at h
  · exact writeE_rng h
  split at h
  · exact readE_rng h
  unfold cmdE at h
  repeat' split at h
  all_goals first | (cases h; done) | (injection h with h; subst h; simp)
theorem opV_rng (s : HSt) (o : OpT) : (opV s o).1 ≠ 151 := by
  unfold opV
  repeat' split
  all_goals simp
theorem hasE_one (c d a : Int) (h : d ≠ c) : hasE c (errL (some (d, a))) = false := by
  simp [errL, hasE, h]
theorem kindE_ne {c a kd : Int} (hc : c ≠ 151) (h : kindE (errL (some (c, a))) = some kd) : kd = 1 ∨ kd = 2 ∨ kd = 3 := by
  unfold kindE at h
  rw [hasE_one 151 c a hc, if_neg (by simp [errL]), if_neg (by simp)] at h
  repeat' split at h
  all_goals first | (cases h; done) | (injection h with h; omega)

section
variable (D : Int) (hD : 0 ≤ D ∧ D ≤ 64)
theorem bud_main : ∀ (ops : List OpT) (s : RSt), s.m.last.getD 0 0 = 0 → 0 ≤ s.left →
    (runR (partC D 2 1 0 0 0) 0 0 1 ops s).1.length ≤ ops.length ∧
    ((∀ i, i < (runR (partC D 2 1 0 0 0) 0 0 1 ops s).1.length → rcode (runR (partC D 2 1 0 0 0) 0 0 1 ops s).1 i ≠ 151) ∧ (runR (partC D 2 1 0 0 0) 0 0 1 ops s).1.length = ops.length ∧ (runR (partC D 2 1 0 0 0) 0 0 1 ops s).2.1 = 0 ∧
        (runR (partC D 2 1 0 0 0) 0 0 1 ops s).2.2.left = s.left - cstN (runR (partC D 2 1 0 0 0) 0 0 1 ops s).1 ops ops.length ∧ 0 ≤ (runR (partC D 2 1 0 0 0) 0 0 1 ops s).2.2.left
      ∨ ∃ k, (runR (partC D 2 1 0 0 0) 0 0 1 ops s).1.length = k + 1 ∧ (∀ i, i < k → rcode (runR (partC D 2 1 0 0 0) 0 0 1 ops s).1 i ≠ 151) ∧ rcode (runR (partC D 2 1 0 0 0) 0 0 1 ops s).1 k = 151 ∧ (runR (partC D 2 1 0 0 0) 0 0 1 ops s).2.1 = 1 ∧ (runR (partC D 2 1 0 0 0) 0 0 1 ops s).2.2.left = 0 ∧
        cstN (runR (partC D 2 1 0 0 0) 0 0 1 ops s).1 ops k ≤ s.left ∧ s.left - cstN (runR (partC D 2 1 0 0 0) 0 0 1 ops s).1 ops k < costO (ops.getD k default))
  | [], s, hm, hl => by
    rw [runR]
    refine ⟨by simp, .inl ⟨fun i hi => by simp at hi, rfl, rfl, by simp [cstN], hl⟩⟩
  | o :: ops, s, hm, hl => by
    have hcp := costO_pos o
    by_cases hov : s.left < costO o
    · have hE : stepE (partC D 2 1 0 0 0) 0 0 s o = some (151, 0) := by unfold stepE; rw [if_pos hov]; rfl
      have hS : stepS (partC D 2 1 0 0 0) 0 0 s o = ⟨s.h, s.m, 0⟩ := by unfold stepS; rw [if_pos hov]
      have hR : stepR (partC D 2 1 0 0 0) 0 0 s o = ⟨151, 0, none⟩ := by unfold stepR; rw [hE]
      have ha : repA (partC D 2 1 0 0 0).parts s.m 1 0 0 = 1 := by
        unfold repA agn
        rw [hm]
        simp [recov, partC]
      rw [runR_stop (kd := 0) (by rw [hE]; rfl) (.inr rfl), hR, hS]
      refine ⟨by simp, .inr ⟨0, rfl, fun i hi => by omega, rfl, ha, rfl, by simp [cstN]; exact hl, by simp [cstN]; exact hov⟩⟩
    · have hE : stepE (partC D 2 1 0 0 0) 0 0 s o = opE (partC D 2 1 0 0 0) 0 0 s.h o := by unfold stepE; rw [if_neg hov]
      have hS : stepS (partC D 2 1 0 0 0) 0 0 s o = ⟨opS (partC D 2 1 0 0 0) 0 0 s.h o, s.m, s.left - costO o⟩ := by unfold stepS; rw [if_neg hov]
      have hR : (stepR (partC D 2 1 0 0 0) 0 0 s o).code ≠ 151 := by
        unfold stepR
        rw [hE]
        cases hq : opE (partC D 2 1 0 0 0) 0 0 s.h o with
        | none => exact opV_rng _ _
        | some x => obtain ⟨a, b⟩ := x; exact opE_rng hq
      obtain ⟨s', hs', hrun, hm', hl'⟩ : ∃ s', s'.left = s.left - costO o ∧ runR (partC D 2 1 0 0 0) 0 0 1 (o :: ops) s = (stepR (partC D 2 1 0 0 0) 0 0 s o :: (runR (partC D 2 1 0 0 0) 0 0 1 ops s').1, (runR (partC D 2 1 0 0 0) 0 0 1 ops s').2) ∧ s'.m.last.getD 0 0 = 0 ∧ 0 ≤ s'.left := by
        cases hk : kindE (errL (stepE (partC D 2 1 0 0 0) 0 0 s o)) with
        | none => exact ⟨_, by rw [hS], runR_go1 hk, by rw [hS]; exact hm, by rw [hS]; simp; omega⟩
        | some kd =>
          have hkd : kd = 1 ∨ kd = 2 ∨ kd = 3 := by
            rw [hE] at hk
            cases hq : opE (partC D 2 1 0 0 0) 0 0 s.h o with
            | none => rw [hq] at hk; simp [errL, kindE] at hk
            | some x => obtain ⟨a, b⟩ := x; rw [hq] at hk; exact kindE_ne (opE_rng hq) hk
          have hrec : recov ((partC D 2 1 0 0 0).parts.getD 0 default) kd.toNat = 0 := by rcases hkd with rfl | rfl | rfl <;> rfl
          have ha : repA (partC D 2 1 0 0 0).parts (stepS (partC D 2 1 0 0 0) 0 0 s o).m 1 0 kd.toNat = 0 := by unfold repA; rw [hrec]; simp
          refine ⟨_, ?_, runR_go2 hk (by rw [ha]; omega), ?_, ?_⟩
          · show (stepS (partC D 2 1 0 0 0) 0 0 s o).left = _; rw [hS]
          · show (repM 0 (partC D 2 1 0 0 0).parts (stepS (partC D 2 1 0 0 0) 0 0 s o).m 1 0 kd.toNat).last.getD 0 0 = 0
            unfold repM
            simp only [hrec]
            rw [if_neg (by omega), hS]
            exact hm
          · show 0 ≤ (stepS (partC D 2 1 0 0 0) 0 0 s o).left; rw [hS]; simp; omega
      obtain ⟨h1, h2⟩ := bud_main ops s' hm' hl'
      rw [hrun]
      generalize runR (partC D 2 1 0 0 0) 0 0 1 ops s' = X at h1 h2 ⊢
      generalize stepR (partC D 2 1 0 0 0) 0 0 s o = r at hR ⊢
      simp only [List.length_cons]
      refine ⟨by omega, ?_⟩
      rcases h2 with ⟨q1, q2, q3, q4, q5⟩ | ⟨k, q1, q2, q3, q4, q5, q6, q7⟩
      · refine .inl ⟨fun i hi => ?_, by omega, q3, ?_, q5⟩
        · cases i with
          | zero => exact hR
          | succ i => exact q1 i (by omega)
        · rw [cstN_cons, if_neg hR, q4, hs']; omega
      · refine .inr ⟨k + 1, by omega, fun i hi => ?_, q3, q4, q5, ?_, ?_⟩
        · cases i with
          | zero => exact hR
          | succ i => exact q2 i (by omega)
        · rw [cstN_cons, if_neg hR]; omega
        · rw [cstN_cons, if_neg hR]
          simp only [List.getD_cons_succ]
          omega
end
theorem cstN_mono (rs : List Res) (ops : List OpT) (i : Nat) : cstN rs ops i ≤ cstN rs ops (i + 1) := by
  rw [cstN]
  have := costO_pos (ops.getD i default)
  split <;> omega
theorem cstN_le (rs : List Res) (ops : List OpT) (i : Nat) : ∀ j, cstN rs ops i ≤ cstN rs ops (i + j)
  | 0 => Int.le_refl _
  | j + 1 => Int.le_trans (cstN_le rs ops i j) (cstN_mono rs ops (i + j))
theorem ovN_false (rs : List Res) : ∀ i, (∀ j, j < i → rcode rs j ≠ 151) → ovN rs i = false
  | 0, _ => rfl
  | i + 1, h => by rw [ovN, ovN_false rs i (fun j hj => h j (by omega))]; simpa using h i (by omega)
/-- What the walk wants of a run. -/
structure BudF (D : Int) (ops : List OpT) (rs : List Res) (act left : Int) : Prop where
  len : rs.length ≤ ops.length
  cst : ∀ i, i ≤ rs.length → 0 ≤ cstN rs ops i ∧ cstN rs ops i ≤ D
  over : ∀ i, i < rs.length → rcode rs i = 151 → rs.length = i + 1 ∧ D - cstN rs ops i < costO (ops.getD i default)
  fin : (ovN rs rs.length = true ∧ act = 1) ∨ (ovN rs rs.length = false ∧ act = 0 ∧ D - left = cstN rs ops rs.length ∧ rs.length = ops.length)
  left : 0 ≤ left ∧ left ≤ D
theorem bud_facts (D : Int) (hD : 0 ≤ D) (ops : List OpT) (X : List Res × Int × RSt) (h : runR (partC D 2 1 0 0 0) 0 0 1 ops (run16 (partC D 2 1 0 0 0) 0) = X) : BudF D ops X.1 X.2.1 X.2.2.left := by
  have hm := bud_main D ops (run16 (partC D 2 1 0 0 0) 0) rfl hD
  rw [h] at hm
  have hl : (run16 (partC D 2 1 0 0 0) 0).left = D := rfl
  rw [hl] at hm
  obtain ⟨h1, h2⟩ := hm
  have c0 : ∀ i, 0 ≤ cstN X.1 ops i := fun i => by have := cstN_le X.1 ops 0 i; rwa [Nat.zero_add] at this
  rcases h2 with ⟨q1, q2, q3, q4, q5⟩ | ⟨k, q1, q2, q3, q4, q5, q6, q7⟩
  · refine ⟨h1, fun i hi => ⟨c0 i, ?_⟩, fun i hi h => absurd h (q1 i hi), .inr ⟨ovN_false _ _ q1, q3, by rw [q4, q2]; omega, q2⟩, ⟨q5, ?_⟩⟩
    · have := cstN_le X.1 ops i (X.1.length - i)
      rw [Nat.add_sub_cancel' hi, q2] at this
      omega
    · have := c0 ops.length; omega
  · have hk : cstN X.1 ops (k + 1) = cstN X.1 ops k := by rw [cstN, if_pos q3]; omega
    refine ⟨h1, fun i hi => ⟨c0 i, ?_⟩, fun i hi h => ?_, .inl ⟨?_, q4⟩, ⟨by omega, by omega⟩⟩
    · by_cases e : i = k + 1
      · rw [e, hk]; exact q6
      · have := cstN_le X.1 ops i (k - i)
        rw [Nat.add_sub_cancel' (by omega)] at this
        omega
    · by_cases e : i = k
      · subst e; exact ⟨q1, q7⟩
      · exact absurd h (q2 i (by omega))
    · rw [q1, ovN, q3]; simp
end Go.Proofs.YtlgjaoijgkdmiaaDoor
namespace Go.Proofs.YtlgjaoijgkdmiaaDoor
open Go.RowKit Go.Maps

/-- Behind the run. -/
def BudR (D : Int) (A : HA) (lb gb : Nat) (mpv : Value) (hb : Nat) (w : World) (oa : Option Addr) (oc : Nat) (ops : List OpT) (ocs : List Value) (xb pb qb rb : Nat) (rs : List Res) (act left : Int) (lv av nv : Value) (W : World) : Prop :=
  ∃ (v9 : Value) (C9 : Nat → Nat) (lv9 : Nat → Value) (ov9 : Value) (cs9 : List Value), lv = v9 ∧ av = .int .u8 act ∧ nv = .int .i64 (D - left) ∧ Below w.heap.size w W ∧ IsBox W xb pb qb rb D 2 1 0 0 0 ∧ Rd W C9 (.slice oa ops.length oc) 6 ops.length ocs ∧ Sl W C9 340 v9 56 4 rs.length cs9 ∧ ResIs W C9 cs9 rs
set_option maxRecDepth 100000 in
set_option maxHeartbeats 16000000 in
theorem budget_walk (budget : Int) (opv : Value) (ocs : List Value) (ops : List OpT) (w : World) (hT : ErrT w) (ho : Rd w (fun _ => 0) opv 6 ops.length ocs) (hO : OpsIs w (fun _ => 0) ocs ops) (hd : ∀ i, i < ops.length → (ops.getD i default).d.length ≤ 140737488355328) :
    Calls Tryd.prog 3 #[.int .i64 budget, opv] w fun e w' => e = .returned (.bool true) ∧ Below w.heap.size w w' := by
  obtain ⟨oa, oc, rfl, hoc, hom, -⟩ := id ho
  unfold maxLen at hom
  have HO := hid_ ho
  have HOP := hid_ hO
  have HD := hid_ hd
  have HT := hid_ hT
  clear ho hO hd hT
  go_enter Tryd.func3, Tryd.ntmps3
  go_wp2_with fail
  refine (awake16 _ HT.out).mono ?_
  rintro e w0 ⟨rfl, V0⟩
  by_cases h200 : (200 : Int) < (ops.length : Int)
  · go_wp2
    go_ret
    exact ⟨rfl, V0⟩
  have l200 : ops.length ≤ 200 := by omega
  obtain ⟨D, hD, hD0, hD1⟩ : ∃ D : Int, wrap64 ((IntKind.u64.wrap budget).tmod 65) = D ∧ 0 ≤ D ∧ D ≤ 64 := by
    have := rem_small16 budget 65 (by omega) (by omega)
    exact ⟨_, rfl, by omega, by omega⟩
  have hDw : IntKind.i64.wrap ((IntKind.u64.wrap budget).tmod 65) = D := by rw [← hD]; exact IntWalk.i64_left _
  go_wp2_with fail
  refine (law13WiredB _).mono ?_
  rintro e w1 ⟨pb, qb, rb, rfl, V1, ⟨hp, hq, hr, -, -⟩, P1, Q1, R1⟩
  unfold Cfg.v
  have hne : pb ≠ w1.heap.size ∧ pb ≠ qb ∧ pb ≠ rb := ⟨by have := P1.lt; omega, P1.ne Q1 (by decide), P1.ne R1 (by decide)⟩
  go_upto_region 6 with fail
  have B1 := wired_box (below_then V0 V1) P1 Q1 R1
  have hpw : w.heap.size ≤ pb := Nat.le_trans V0.size hp
  refine gen_world (fun W => Below w.heap.size w W ∧ IsBox W w1.heap.size pb qb rb 9 2 0 0 0 0) B1 ?_
  clear B1 V1 P1 Q1 R1
  rintro W2 ⟨V2, B2⟩
  have c8 := B2.box.cell_ 8 rfl
  have f3 := fun i => B2.parts.frozen i
  have z3 := B2.parts.cell_ 3 rfl
  go_upto_region 7 with fail
  refine gen_world (fun W => Below w.heap.size w W ∧ IsBox W w1.heap.size pb qb rb D 2 0 0 0 0) ⟨V2.setCell hpw _, IsBox.sets hne B2 [(3, .int .i64 D)] rfl⟩ ?_
  clear c8 f3 z3 V2 B2
  rintro W2 ⟨V2, B2⟩
  have c8 := B2.box.cell_ 8 rfl
  have f3 := fun i => B2.parts.frozen i
  have z5 := B2.parts.cell_ 5 rfl
  have z6 := B2.parts.cell_ 6 rfl
  have z7 := B2.parts.cell_ 7 rfl
  have z8 := B2.parts.cell_ 8 rfl
  clear hDw hD
  go_upto_region 8 with fail
  refine gen_world (fun W => Below w.heap.size w W ∧ IsBox W w1.heap.size pb qb rb D 2 1 0 0 0) ⟨(((V2.setCell hpw _).setCell hpw _).setCell hpw _).setCell hpw _, IsBox.sets hne B2 [(5, .int .u8 1), (6, .int .u8 0), (7, .int .u8 0), (8, .int .u8 0)] rfl⟩ ?_
  clear c8 f3 z5 z6 z7 z8 V2 B2
  rintro W2 ⟨V2, B2⟩
  have HB3 := hid_ B2
  have hl3 : Lists W2 (fun _ => 0) (partC D 2 1 0 0 0) _ _ _ := part_lists B2.parts B2.ports B2.routes rfl rfl rfl
  have c0 := B2.box.cell_ 0 rfl
  have c1 := B2.box.cell_ 1 rfl
  have c2 := B2.box.cell_ 2 rfl
  have c3 := B2.box.cell_ 3 rfl
  have c4 := B2.box.cell_ 4 rfl
  have c5 := B2.box.cell_ 5 rfl
  have c6 := B2.box.cell_ 6 rfl
  have c7 := B2.box.cell_ 7 rfl
  have c8 := B2.box.cell_ 8 rfl
  have c9 := B2.box.cell_ 9 rfl
  have c10 := B2.box.cell_ 10 rfl
  have hg := hid_ (part_good (show (0 : Int) ≤ D ∧ (D : Int) ≤ 64 by omega) (show (0 : Int) ≤ 2 ∧ (2 : Int) ≤ 16 by omega) (show (0 : Int) ≤ 1 ∧ (1 : Int) ≤ 3 by omega) (show (0 : Int) ≤ 0 ∧ (0 : Int) ≤ 3 by omega) (show (0 : Int) ≤ 0 ∧ (0 : Int) ≤ 3 by omega) (show (0 : Int) ≤ 0 ∧ (0 : Int) ≤ 3 by omega))
  have HN := hid_ (host_new (partC D 2 1 0 0 0) hg.out (part_ok (show (0 : Int) ≤ D ∧ (D : Int) ≤ 64 by omega) (show (0 : Int) ≤ 2 ∧ (2 : Int) ≤ 16 by omega) (show (0 : Int) ≤ 1 ∧ (1 : Int) ≤ 3 by omega) (show (0 : Int) ≤ 0 ∧ (0 : Int) ≤ 3 by omega) (show (0 : Int) ≤ 0 ∧ (0 : Int) ≤ 3 by omega) (show (0 : Int) ≤ 0 ∧ (0 : Int) ≤ 3 by omega)) (part_snd (show (0 : Int) ≤ D ∧ (D : Int) ≤ 64 by omega) (show (0 : Int) ≤ 2 ∧ (2 : Int) ≤ 16 by omega) (show (0 : Int) ≤ 1 ∧ (1 : Int) ≤ 3 by omega) (show (0 : Int) ≤ 0 ∧ (0 : Int) ≤ 3 by omega) (show (0 : Int) ≤ 0 ∧ (0 : Int) ≤ 3 by omega) (show (0 : Int) ≤ 0 ∧ (0 : Int) ≤ 3 by omega)) rfl (fun _ => 0) _ _ _ 0 ⟨by omega, by show (0 : Int) < 2; omega⟩ W2 hl3 (fun _ _ => rfl))
  clear hl3 B2
  go_wp2_with fail
  refine HN.out.mono ?_
  clear c0 c1 c2 c3 c4 c5 c6 c7 c8 c9 c10
  rintro e W4 ⟨b, ab, tb, mb, lb, gb, cb, pv2, qv2, rv2, mpv, C4, rfl, F4, I4⟩
  have B4 := HB3.out.fr F4 ⟨rfl, rfl, rfl, rfl⟩ (fun h => h)
  have fin4 := F4.Fin (fun _ _ => rfl)
  have FW := hid_ ((Fr.of_below (C := fun _ => 0) V2 (fun _ => False)).trans F4)
  have B5 := B4.1.alloc (.cells #[.pointer (some ⟨b, 0, none⟩), .pointer (some ⟨tb, 0, none⟩), .pointer (some ⟨mb, 0, none⟩), .pointer (some ⟨cb, 0, none⟩)] 40)
  have HB4 := hid_ B4
  have HI4 := hid_ I4
  have HFN4 := hid_ fin4
  unfold hostV
  have c0 := B5.box.cell_ 0 rfl
  have c1 := B5.box.cell_ 1 rfl
  have c2 := B5.box.cell_ 2 rfl
  have c3 := B5.box.cell_ 3 rfl
  have c4 := B5.box.cell_ 4 rfl
  have c5 := B5.box.cell_ 5 rfl
  have c6 := B5.box.cell_ 6 rfl
  have c7 := B5.box.cell_ 7 rfl
  have c8 := B5.box.cell_ 8 rfl
  have c9 := B5.box.cell_ 9 rfl
  have c10 := B5.box.cell_ 10 rfl
  have fb := (Fr.refl (fun _ => False) C4 W4).alloc (.cells #[.pointer (some ⟨b, 0, none⟩), .pointer (some ⟨tb, 0, none⟩), .pointer (some ⟨mb, 0, none⟩), .pointer (some ⟨cb, 0, none⟩)] 40)
  have HNW := hid_ (apxNew (partC D 2 1 0 0 0) C4 330 (by decide) _ _ _ 0 (show 0 < 2 by decide) ⟨show (0 : Int) ≤ 2 by omega, show (2 : Int) ≤ 16 by omega⟩ _ (part_lists (C := C4) B5.parts B5.ports B5.routes B4.2.2.1 B4.2.2.2.1 B4.2.2.2.2) (fb.Fin fin4))
  have HFB := hid_ fb
  have HBB := hid_ (Bk.new W4 40 [.pointer (some ⟨b, 0, none⟩), .pointer (some ⟨tb, 0, none⟩), .pointer (some ⟨mb, 0, none⟩), .pointer (some ⟨cb, 0, none⟩)])
  clear F4 B4 fin4 I4 B5 fb HB3 V2
  go_wp2_with fail
  refine HNW.out.mono ?_
  rintro e W6 ⟨pb6, xb6, C6, rfl, hpb6, F6, A6⟩
  have R6 := ready16 hg.out HI4.out (HFB.out.trans F6) A6 (HBB.out.frc (HFN4.out _ (Nat.le_refl _)) F6 (fun h => h)) (HT.out.fr (C := fun _ => 0) rfl (FW.out.trans (HFB.out.trans F6)) (fun h => h)) ((HFB.out.trans F6).Fin HFN4.out)
  have FW6 := FW.out.trans (HFB.out.trans F6)
  have B6 := HB4.out.1.fr (HFB.out.trans F6) HB4.out.2 (fun h => h)
  clear c0 c1 c2 c3 c4 c5 c6 c7 c8 c9 c10 F6 A6 hpb6 HNW HN HB4 HI4 HFB HBB FW HFN4
  obtain ⟨X, hX⟩ : ∃ X, runR (partC D 2 1 0 0 0) 0 0 1 ops (run16 (partC D 2 1 0 0 0) 0) = X := ⟨_, rfl⟩
  have hbf := bud_facts D hD0 ops X hX
  obtain ⟨rs, act, sF⟩ := X
  simp only at hbf
  have HBF := hid_ hbf
  clear hbf
  obtain ⟨A, hA⟩ : ∃ A, mkA b ab tb mb cb pb6 xb6 pv2 qv2 rv2 (.slice (some ⟨pb, 0, none⟩) 2 2) (.slice (some ⟨qb, 0, none⟩) 4 4) (.slice (some ⟨rb, 0, none⟩) 2 2) 0 0 = A := ⟨_, rfl⟩
  have HRN := hid_ (fun (W8 : World) (v8 : Value) (ocs8 : List Value) (r : RunM (partC D 2 1 0 0 0) A lb gb mpv W4.heap.size (.slice none 0 0) [] [] (.slice none 0 0) noLv (st16 (partC D 2 1 0 0 0) (List.replicate ((partC D 2 1 0 0 0).part 0).words.toNat 0)) (mon0 (partC D 2 1 0 0 0).parts.length) W8 C6) (o : Rd W8 C6 v8 6 ops.length ocs8) (p : OpsIs W8 C6 ocs8 ops) =>
    show Calls Tryd.prog 12 #[.pointer (some ⟨pb6, 0, none⟩), .agg #[.pointer (some ⟨A.b, 0, none⟩), .pointer (some ⟨A.tb, 0, none⟩), .pointer (some ⟨A.mb, 0, none⟩), .pointer (some ⟨A.cb, 0, none⟩)], .int .u32 1, v8] W8 (RunMP (partC D 2 1 0 0 0) A lb gb mpv W4.heap.size C6 W8 D (rs, act, sF)) from by
      rw [← hX]
      have := apxRunM (partC D 2 1 0 0 0) hg.out A lb gb mpv _ C6 noLv (run16 (partC D 2 1 0 0 0) 0) 1 (by omega) (by omega) v8 ops ocs8 0 (by omega) (by rw [← hA]; exact show 0 < 2 by decide) (by rw [← hA]; exact ⟨show (0 : Int) ≤ 0 by omega, show (0 : Int) < 256 by omega⟩) W8 r o p (part_recs (show (0 : Int) ≤ 1 ∧ (1 : Int) ≤ 3 by omega) (show (0 : Int) ≤ 0 ∧ (0 : Int) ≤ 3 by omega) (show (0 : Int) ≤ 0 ∧ (0 : Int) ≤ 3 by omega) (show (0 : Int) ≤ 0 ∧ (0 : Int) ≤ 3 by omega)) (by rw [← hA]; rfl) (by rw [← hA]; exact run16_ok hg.out (show 0 < 2 by decide) 0 (by omega))
      rw [← hA] at this ⊢
      exact this)
  have R6' := R6
  rw [hA] at R6'
  have HX := hid_ hX
  have HA := hid_ hA
  clear hX hA
  go_upto_region 12 with fail
  have fd := (Fr.refl (fun _ => False) C6 W6).drew
  have RD := hid_ (R6'.fr fd (fun x h => h.elim))
  have HOD := hid_ ((HO.out.fr FW6 (fun h => h)).fr fd (fun h => h))
  have HPD := hid_ ((HOP.out.fr FW6 (fun h => h)).fr fd (fun h => h))
  have h0 := R6'.host.cell_ 0 rfl
  have h1 := R6'.host.cell_ 1 rfl
  have h2 := R6'.host.cell_ 2 rfl
  have h3 := R6'.host.cell_ 3 rfl
  have HB6 := hid_ B6
  have HCP := hid_ (opsCopied C6 (.slice oa ops.length oc) ocs ops W6.drew RD.out.fin HOD.out HPD.out (by omega) HD.out)
  have HFW6 := hid_ FW6
  clear R6 R6' FW6 B6
  go_cut [10, 11, 12] (fun lv av nv W => BudR D A lb gb mpv W4.heap.size w oa oc ops ocs w1.heap.size pb qb rb rs act sF.left lv av nv W)
  case first =>
   go_region_with (first
    | ((with_reducible refine HCP.out.mono ?_); rintro e W8 ⟨v8, ocs8, rfl, V8, O8, P8⟩
       have R8 := RD.out.fr (Fr.of_below (C := C6) V8 (fun _ => False)) (fun x h => h.elim)
       have i0 := R8.host.cell_ 0 rfl
       have i1 := R8.host.cell_ 1 rfl
       have i2 := R8.host.cell_ 2 rfl
       have i3 := R8.host.cell_ 3 rfl)
    | ((with_reducible refine (HRN.out W8 v8 ocs8 R8 O8 P8).mono ?_); rintro e W9 ⟨v9, C9, lv9, ov9, cs9, rfl, F9, R9⟩))
   all_goals
    go_wp2_with fail
    go_simp
    go_meet
    case rel =>
     have k0 : ¬ KRun 0 := by unfold KRun; omega
     have g8 := Fr.of_below (C := C6) V8 (fun _ => False)
     have g9 := (fd.trans g8).mono (K' := KRun) (fun _ h => h.elim)
     have T9 := (HFW6.out.mono (K' := KRun) (fun _ h => h.elim)).trans (g9.trans F9)
     exact ⟨v9, C9, lv9, ov9, cs9, rfl, rfl, rfl, (T9.mono (K' := (· ≠ 0)) (fun x h e => k0 (e ▸ h))).old, (HB6.out.1.fr (g9.trans F9) HB6.out.2 k0).1, HO.out.fr T9 k0, R9.sl, R9.res⟩
  case rest =>
    obtain ⟨v9, C9, lv9, ov9, cs9, rfl, rfl, rfl, hold, B9, O9, S9, E9⟩ := hcut
    obtain ⟨va, vc, rfl, hvc, hvm, -⟩ := S9.form
    unfold maxLen at hvm
    have HOLD := hid_ hold
    obtain ⟨left, hleft⟩ : ∃ x, sF.left = x := ⟨_, rfl⟩
    rw [hleft]
    have hbf := HBF.out
    rw [hleft] at hbf
    have hfl := hbf.left
    have HBF2 := hid_ hbf
    have HS9 := hid_ S9
    have HE9 := hid_ E9
    have HB9 := hid_ B9
    have HO9 := hid_ O9
    clear hleft hold S9 E9 B9 O9 fd h0 h1 h2 h3 hbf RD HOD HPD HCP HRN HX HA HFW6 HB6 HBF HT hg
    go_wp2_with fail
    go_loopw [13, 14, 15, 62] (fun cv ov _ iv wr => ∃ i : Nat, i ≤ rs.length ∧ iv = .int .i64 i ∧ cv = .int .i64 (cstN rs ops i) ∧ ov = .bool (ovN rs i) ∧ Below wc.heap.size wc wr)
      (fun _ _ _ iv _ => rs.length - (intOf iv).toNat)
    case atStart => exact ⟨0, Nat.zero_le _, rfl, rfl, rfl, Below.refl _ _⟩
    case round =>
      obtain ⟨i, hi, rfl, rfl, rfl, hW⟩ := hrel
      have hw8 := grown_cell hW (HB9.out.box.cell_ 8 rfl)
      have hp3 := grown_cell hW (HB9.out.parts.cell_ 3 rfl)
      have HW := hid_ hW
      clear hW
      have hcst := HBF2.out.cst i hi
      obtain ⟨ci, hci⟩ : ∃ x, cstN rs ops i = x := ⟨_, rfl⟩
      obtain ⟨oi, hoi⟩ : ∃ x, ovN rs i = x := ⟨_, rfl⟩
      rw [hci] at hcst ⊢
      rw [hoi]
      by_cases hlt : i < rs.length
      · have hrs : rs[i]? = some (rs.getD i default) := by rw [List.getD_eq_getElem?_getD, List.getElem?_eq_getElem hlt]; rfl
        obtain ⟨_, _, y0, -⟩ := HE9.out.get hrs
        obtain ⟨vb, vo, rfl, -, -, hvcell⟩ := HS9.out.at (show 0 < rs.length by omega)
        have x0 := grown_cell HW.out (hvcell _ _ y0)
        rw [show (rs.getD i default).code = rcode rs i from rfl] at x0
        obtain ⟨cd, hcd⟩ : ∃ x, rcode rs i = x := ⟨_, rfl⟩
        rw [hcd] at x0
        have hil : i < ops.length := by have := HBF2.out.len; omega
        obtain ⟨dv, hdb, -, hcells⟩ := HOP.out.get hil
        obtain ⟨oa', oc', hov, -, -, -, hor⟩ := HO9.out
        injection hov with e1 e2 e3
        subst e1
        clear e2 e3
        obtain ⟨ob, of, rfl, -, -, hoc2⟩ := hor (by omega)
        obtain ⟨ok, op, oa1, ob1, oc1, od, hopt⟩ : ∃ ok op oa ob oc od, ops.getD i default = ⟨ok, op, oa, ob, oc, od⟩ := ⟨_, _, _, _, _, _, rfl⟩
        rw [hopt] at hdb hcells
        have hx : ∀ j v, ((OpT.mk ok op oa1 ob1 oc1 od).cells dv)[j]? = some v → wr.cell? ⟨ob, of + i * 6 + j, none⟩ = some v := fun j v hj => by rw [Nat.add_assoc]; exact grown_cell HW.out (hoc2 _ _ (hcells j v hj))
        have z0 : wr.cell? ⟨ob, of + i * 6, none⟩ = some (.int .u8 ok) := hx 0 _ rfl
        have z1 := hx 1 _ rfl
        have z2 := hx 2 _ rfl
        have z3 := hx 3 _ rfl
        have z4 := hx 4 _ rfl
        have z5 := hx 5 _ rfl
        have j0 : (0 : Int) ≤ (i : Int) := Int.natCast_nonneg _
        have j1 : (i : Int) < (rs.length : Int) := by omega
        have j2 : (i : Int) < (ops.length : Int) := by omega
        have HCST := hid_ (apxCost ⟨ok, op, oa1, ob1, oc1, od⟩ dv wr)
        have HCSD := hid_ (apxCost ⟨ok, op, oa1, ob1, oc1, od⟩ dv wr.drew)
        obtain ⟨n, hn⟩ : ∃ n, costO ⟨ok, op, oa1, ob1, oc1, od⟩ = n := ⟨_, rfl⟩
        rw [hn] at HCST HCSD
        unfold OpT.v at HCST HCSD
        have HN := hid_ hn
        have HCI := hid_ hci
        have HOI := hid_ hoi
        have HCD := hid_ hcd
        have HOT := hid_ hopt
        by_cases h151 : cd = 151
        · have hb1 : (cd == 151) = true := by simpa using h151
          obtain ⟨q1, q2⟩ := HBF2.out.over i hlt (HCD.out.trans h151)
          rw [hopt, hn, hci] at q2
          have hlen : IntKind.i64.wrap ((rs.length : Int) - 1) = (i : Int) := by rw [q1, IntWalk.i64_in _ (by omega)]; omega
          have hdc : IntKind.i64.wrap (D - ci) = D - ci := IntWalk.i64_in _ (by omega)
          have hle : decide (n ≤ D - ci) = false := by simp; omega
          have HRL := hid_ q1
          clear hci hoi hcd hopt hn h151 q1 hx hcells hoc2 hor hvcell hrs y0 hdb
          go_upto_region 19 with fail
          go_region_held3 (fun w' => w'.cell? ⟨w1.heap.size, 8, none⟩ = some (.slice (some ⟨pb, 0, none⟩) 2 2) ∧ w'.cell? ⟨pb, 3, none⟩ = some (.int .i64 D) ∧ w'.cell? ⟨ob, of + i * 6, none⟩ = some (.int .u8 ok) ∧ w'.cell? ⟨ob, of + i * 6 + 1, none⟩ = some (.int .i64 op) ∧ w'.cell? ⟨ob, of + i * 6 + 2, none⟩ = some (.int .i64 oa1) ∧ w'.cell? ⟨ob, of + i * 6 + 3, none⟩ = some (.int .i64 ob1) ∧ w'.cell? ⟨ob, of + i * 6 + 4, none⟩ = some (.int .i64 oc1) ∧ w'.cell? ⟨ob, of + i * 6 + 5, none⟩ = some dv)
            (first | exact ⟨hw8, hp3, z0, z1, z2, z3, z4, z5⟩ | exact ⟨grown_cell hb3 hw8, grown_cell hb3 hp3, grown_cell hb3 z0, grown_cell hb3 z1, grown_cell hb3 z2, grown_cell hb3 z3, grown_cell hb3 z4, grown_cell hb3 z5⟩)
            (first | (go_at_call 14; refine HCSD.out.mono ?_; rintro e w3 ⟨rfl, hb3⟩))
          go_wp2
          go_roundw
          case rel =>
            refine ⟨i + 1, by omega, by go_num, ?_, ?_, (HW.out.drew.trans (hb3.mono (by have := HW.out.size; exact this)))⟩
            · rw [cstN, HCI.out, HCD.out, if_pos (by simpa using hb1), Int.add_zero]
            · rw [ovN, HCD.out]; simp; exact .inr (by simpa using hb1)
          case measure => simp [intOf]; omega
        · have hb1 : (cd == 151) = false := by simpa using h151
          have hn1 : 1 ≤ n := by rw [← hn]; exact costO_pos _
          have hsum := HBF2.out.cst (i + 1) hlt
          rw [cstN, hci, hcd, hopt, hn, if_neg h151] at hsum
          clear hci hoi hcd hopt hn h151 hx hcells hoc2 hor hvcell hrs y0 hdb
          go_wp2_with fail
          refine HCST.out.mono ?_
          rintro e w3 ⟨rfl, hb3⟩
          go_wp2
          go_roundw
          case rel =>
            refine ⟨i + 1, by omega, by go_num, ?_, ?_, (HW.out.trans (hb3.mono (by have := HW.out.size; exact this)))⟩
            · rw [cstN, HCI.out, HCD.out, HOT.out, HN.out, if_neg (by simpa using hb1)]
            · rw [ovN, HCD.out, HOI.out]; simp; intro h; exact absurd h (by simpa using hb1)
          case measure => simp [intOf]; omega
      · obtain rfl : i = rs.length := by omega
        have hfin := HBF2.out.fin
        rw [hci, hoi] at hfin
        have hcst2 := hcst
        have hnl : IntKind.i64.wrap (D - left) = D - left := IntWalk.i64_in _ (by omega)
        have g1 : decide (D < D - left) = false := by simp; omega
        have g2 : decide (D < ci) = false := by simp; omega
        have HEND := hid_ (below_then (w := w) (w' := wc) HOLD.out HW.out)
        clear hci hoi hcst
        rcases hfin with ⟨p1, p2⟩ | ⟨p1, p2, p3, p4⟩
        · subst p1 p2
          go_wp2
          go_ret
          exact ⟨rfl, HEND.out⟩
        · have g3 : ((D - left) != ci) = false := by rw [p3]; simp
          have g4 : ((rs.length : Int) == (ops.length : Int)) = true := by rw [p4]; simp
          subst p1 p2
          clear p3 p4
          go_wp2
          go_ret
          exact ⟨rfl, HEND.out⟩
end Go.Proofs.YtlgjaoijgkdmiaaDoor
