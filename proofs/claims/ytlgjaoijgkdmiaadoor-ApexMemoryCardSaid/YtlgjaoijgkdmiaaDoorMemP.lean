/- ApexMemory's plain law; a run of a store and a load. No condition but that the tables work. -/
import Derived.Test.YtlgjaoijgkdmiaaDoorAwkW
set_option linter.unusedSimpArgs false
set_option linter.unusedVariables false
namespace Go.Proofs.YtlgjaoijgkdmiaaDoor
open Go.RowKit Go.Maps

theorem runR_ok {c : Cfg} (hg : Good c) {node : Int} {part : Nat} {round : Int} (r0 : 0 ≤ round) (r1 : round < 1048576) : ∀ (ops : List OpT) (s : RSt) (B : Int), RunOk c part s B → RunOk c part (runR c node part round ops s).2.2 (B + (ops.length : Int))
  | [], s, B, h => by
    rw [runR]
    exact h.mono (by simp)
  | o :: r, s, B, h => by
    have h1 := h.step hg (node := node) o
    have e : B + (((o :: r).length : Nat) : Int) = B + 1 + (r.length : Int) := by rw [List.length_cons]; omega
    rw [e]
    cases hk : kindE (errL (stepE c node part s o)) with
    | none =>
      rw [runR_go1 hk]
      exact runR_ok hg r0 r1 r _ _ (h1.mono (by omega))
    | some kd =>
      by_cases h2 : repA c.parts (stepS c node part s o).m round part kd.toNat ≠ 0 ∨ kd = 0
      · rw [runR_stop hk h2]
        exact (h1.rep r0 r1 _).mono (by omega)
      · rw [runR_go2 hk h2]
        exact runR_ok hg r0 r1 r _ _ (h1.rep r0 r1 _)
def memC : Cfg := partC 64 5 0 0 0 0
def actOps (a b : Int) : List OpT := [⟨3, 0, a, b, 0, []⟩, ⟨4, 0, a, 0, 0, []⟩]
/-- What a store and a load come to. -/
def memX (h : HSt) (a b : Int) : List Res × HSt :=
  if a < 0 ∨ 5 ≤ a then ([⟨150, 0, none⟩, ⟨150, 0, none⟩], h) else ([⟨0, w16 b, none⟩, ⟨0, w16 b, none⟩], ⟨h.st, h.f, h.cmd, h.mem.set a.toNat (w16 b)⟩)
theorem mem_run (h : HSt) (m : MSt) (a b : Int) (hl : h.mem.length = 5) :
    ∃ m' l', runR memC 0 0 0 (actOps a b) ⟨h, m, 64⟩ = ((memX h a b).1, 0, ⟨(memX h a b).2, m', l'⟩) := by
  unfold memX actOps
  have n3 : ∀ (h : HSt) (m : MSt) (l : Int), 1 ≤ l → ¬ (RSt.mk h m l).left < costO ⟨3, 0, a, b, 0, []⟩ := fun h m l hl => by show ¬ l < 1; omega
  have n4 : ∀ (h : HSt) (m : MSt) (l : Int), 1 ≤ l → ¬ (RSt.mk h m l).left < costO ⟨4, 0, a, 0, 0, []⟩ := fun h m l hl => by show ¬ l < 1; omega
  by_cases hin : a < 0 ∨ 5 ≤ a
  · rw [if_pos hin]
    have hin5 : a < 0 ∨ ((5 : Nat) : Int) ≤ a := hin
    have E3 : ∀ (m : MSt) (l : Int), 1 ≤ l → stepE memC 0 0 ⟨h, m, l⟩ ⟨3, 0, a, b, 0, []⟩ = some (150, low a) := fun m l h1 => by
      unfold stepE
      rw [if_neg (n3 h m l h1)]
      unfold opE
      simp [hl, hin]
    have E4 : ∀ (m : MSt) (l : Int), 1 ≤ l → stepE memC 0 0 ⟨h, m, l⟩ ⟨4, 0, a, 0, 0, []⟩ = some (150, low a) := fun m l h1 => by
      unfold stepE
      rw [if_neg (n4 h m l h1)]
      unfold opE
      simp [hl, hin]
    have S3 : ∀ (m : MSt) (l : Int), 1 ≤ l → stepS memC 0 0 ⟨h, m, l⟩ ⟨3, 0, a, b, 0, []⟩ = ⟨h, m, l - 1⟩ := fun m l h1 => by
      unfold stepS
      rw [if_neg (n3 h m l h1)]
      unfold opS
      simp [hl, hin]
      rfl
    have S4 : ∀ (m : MSt) (l : Int), 1 ≤ l → stepS memC 0 0 ⟨h, m, l⟩ ⟨4, 0, a, 0, 0, []⟩ = ⟨h, m, l - 1⟩ := fun m l h1 => by
      unfold stepS
      rw [if_neg (n4 h m l h1)]
      unfold opS
      simp
      rfl
    have hkd : kindE (errL (some (150, low a))) = some 1 := by
      unfold kindE errL
      simp [hasE]
    have hA : ∀ m : MSt, repA memC.parts m 0 0 (1 : Int).toNat = 0 := fun m => rfl
    rw [runR_go2 (kd := 1) (by rw [E3 _ _ (by omega)]; exact hkd) (by rw [S3 _ _ (by omega), hA]; omega)]
    rw [S3 _ _ (by omega)]
    simp only
    rw [runR_go2 (kd := 1) (by rw [E4 _ _ (by omega)]; exact hkd) (by rw [S4 _ _ (by omega), hA]; omega)]
    rw [S4 _ _ (by omega), runR]
    have R3 : ∀ (m : MSt) (l : Int), 1 ≤ l → stepR memC 0 0 ⟨h, m, l⟩ ⟨3, 0, a, b, 0, []⟩ = ⟨150, 0, none⟩ := fun m l h1 => by unfold stepR; rw [E3 _ _ h1]
    have R4 : ∀ (m : MSt) (l : Int), 1 ≤ l → stepR memC 0 0 ⟨h, m, l⟩ ⟨4, 0, a, 0, 0, []⟩ = ⟨150, 0, none⟩ := fun m l h1 => by unfold stepR; rw [E4 _ _ h1]
    rw [R3 _ _ (by omega), R4 _ _ (by omega)]
    exact ⟨_, _, rfl⟩
  · rw [if_neg hin]
    obtain ⟨i, rfl⟩ := Int.eq_ofNat_of_zero_le (show 0 ≤ a by omega)
    have hi : i < 5 := by omega
    have hin' : ¬ ((i : Int) < 0 ∨ (5 : Int) ≤ (i : Int)) := hin
    have E3 : stepE memC 0 0 ⟨h, m, 64⟩ ⟨3, 0, i, b, 0, []⟩ = none := by
      unfold stepE
      rw [if_neg (n3 h m 64 (by omega))]
      unfold opE
      simp [hl]
      omega
    have S3 : stepS memC 0 0 ⟨h, m, 64⟩ ⟨3, 0, i, b, 0, []⟩ = ⟨⟨h.st, h.f, h.cmd, h.mem.set i (w16 b)⟩, m, 63⟩ := by
      unfold stepS
      rw [if_neg (n3 h m 64 (by omega))]
      unfold opS
      simp [hl]
      exact ⟨fun h => by omega, rfl⟩
    have E4 : stepE memC 0 0 ⟨⟨h.st, h.f, h.cmd, h.mem.set i (w16 b)⟩, m, 63⟩ ⟨4, 0, i, 0, 0, []⟩ = none := by
      unfold stepE
      rw [if_neg (n4 _ m 63 (by omega))]
      unfold opE
      simp [hl]
      omega
    have S4 : ∃ l', stepS memC 0 0 ⟨⟨h.st, h.f, h.cmd, h.mem.set i (w16 b)⟩, m, 63⟩ ⟨4, 0, i, 0, 0, []⟩ = ⟨⟨h.st, h.f, h.cmd, h.mem.set i (w16 b)⟩, m, l'⟩ := by
      unfold stepS
      rw [if_neg (n4 _ m 63 (by omega))]
      unfold opS
      simp
    obtain ⟨l', S4⟩ := S4
    have R3 : stepR memC 0 0 ⟨h, m, 64⟩ ⟨3, 0, i, b, 0, []⟩ = ⟨0, w16 b, none⟩ := by
      unfold stepR
      rw [E3]
      unfold opV opD
      simp [hl]
      rw [if_neg (by omega)]
      exact ⟨rfl, rfl⟩
    have R4 : stepR memC 0 0 ⟨⟨h.st, h.f, h.cmd, h.mem.set i (w16 b)⟩, m, 63⟩ ⟨4, 0, i, 0, 0, []⟩ = ⟨0, w16 b, none⟩ := by
      unfold stepR
      rw [E4]
      unfold opV opD
      simp [hl]
      rw [if_neg (by omega)]
      simp [hl, hi]
    rw [runR_go1 (by rw [E3]; rfl), S3, runR_go1 (by rw [E4]; rfl), S4, runR, R3, R4]
    exact ⟨_, _, rfl⟩

def pairC (p : Int × Int) : List Value := [.int .i64 p.1, .int .i64 p.2]
theorem newCol {C : Nat → Nat} {w : World} (hf : Fin C w) (o : Obj) (k : Nat) : ∃ C', Fr (fun _ => False) C C' w (w.alloc o) ∧ C' w.heap.size = k := by
  refine ⟨fun y => if y = w.heap.size then k else C y, ((Fr.refl _ C w).alloc o).recolour (fun y hy _ => if_neg (by omega)) (fun y hy => ?_), if_pos rfl⟩
  have hy' : w.heap.size + 1 ≤ y := by simpa using hy
  rw [if_neg (by omega)]
  exact hf y (by omega)
def KMem (x : Nat) : Prop := KRun x ∨ x = 500
theorem RunM.fr5 {K : Nat → Prop} {C C' : Nat → Nat} {w w' : World} {c : Cfg} {A : HA} {lb gb hb : Nat} {mpv v ov : Value} {rs : List Res} {cs : List Value} {lv : Nat → Value} {s : HSt} {m : MSt}
    (h : RunM c A lb gb mpv hb v rs cs ov lv s m w C) (f : Fr K C C' w w') (hk : ∀ x, K x → 400 ≤ x) : RunM c A lb gb mpv hb v rs cs ov lv s m w' C' := by
  have k0 : ¬ K 0 := fun h => by have := hk _ h; omega
  obtain ⟨a1, a2⟩ := h.host.frc h.hcol f k0
  obtain ⟨b1, b2⟩ := h.err.fr h.ecol f k0
  exact ⟨h.hw.fr f h.len (fun x hx => by have := hk _ hx; omega), h.len, h.mon.fr f ⟨k0, fun h => by have := hk _ h; omega, fun h => by have := hk _ h; omega⟩,
    h.sl.fr f (fun h => by have := hk _ h; omega), h.res.fr f k0, a1, a2, b1, b2, f.Fin h.fin⟩
/-- What a run of a store and a load leaves. -/
def MemRP (A : HA) (lb gb : Nat) (mpv : Value) (hb : Nat) (C : Nat → Nat) (w : World) (B : Int) (X : List Res × HSt) (e : Ending) (w' : World) : Prop :=
  ∃ v C' lv' ov' cs m' n, e = .returned (.tuple #[v, .int .u8 0, .int .i64 n]) ∧ Fr KRun C C' w w' ∧ RunM memC A lb gb mpv hb v X.1 cs ov' lv' X.2 m' w' C' ∧ RunOk memC 0 ⟨X.2, m', 64⟩ (B + 2)
theorem mem_runM (hg : Good memC) (A : HA) (hn : A.node = 0) (hp : A.part = 0) (lb gb : Nat) (mpv : Value) (hb : Nat) (v0 : Value) (rs0 : List Res) (cs0 : List Value) (ov0 : Value) (lv0 : Nat → Value) (h : HSt) (m : MSt) (a b : Int) (B : Int) (hB : B ≤ 1000) (w : World) (C : Nat → Nat)
    (R : RunM memC A lb gb mpv hb v0 rs0 cs0 ov0 lv0 h m w C) (K : RunOk memC 0 ⟨h, m, 64⟩ B) (hl : h.mem.length = 5) :
    Calls Tryd.prog 12 #[.pointer (some ⟨A.pb, 0, none⟩), .agg #[.pointer (some ⟨A.b, 0, none⟩), .pointer (some ⟨A.tb, 0, none⟩), .pointer (some ⟨A.mb, 0, none⟩), .pointer (some ⟨A.cb, 0, none⟩)], .int .u32 0, .slice (some ⟨w.heap.size, 0, none⟩) 2 2] (w.alloc (.cells ((actOps a b).flatMap oCell).toArray 60))
      (MemRP A lb gb mpv hb C w B (memX h a b)) := by
  have fo := (Fr.refl (fun _ => False) C w).alloc (.cells ((actOps a b).flatMap oCell).toArray 60)
  obtain ⟨m', l', hX⟩ := mem_run h m a b hl
  have hk := runR_ok hg (node := 0) (part := 0) (round := 0) (by omega) (by omega) (actOps a b) ⟨h, m, 64⟩ B K
  rw [hX] at hk
  have hrun := apxRunM memC hg A lb gb mpv ov0 C lv0 ⟨h, m, 64⟩ 0 (by omega) (by omega) (.slice (some ⟨w.heap.size, 0, none⟩) 2 2) (actOps a b) ((actOps a b).flatMap oCell) B (by show B + ((2 : Nat) : Int) ≤ 100000; omega) (by rw [hp]; decide) (by rw [hn]; omega) _ (R.fr fo (fun x h => h.elim))
    ((Bk.new w 60 ((actOps a b).flatMap oCell)).rd (sz := 6) (n := 2) (R.fin _ (Nat.le_refl _)) rfl (by unfold maxLen; omega)) (opsIs_plain _ _ _ (fun o ho => by
      simp only [actOps, List.mem_cons, List.not_mem_nil, or_false] at ho
      rcases ho with rfl | rfl <;> rfl)) (part_recs (show (0 : Int) ≤ 0 ∧ (0 : Int) ≤ 3 by omega) (show (0 : Int) ≤ 0 ∧ (0 : Int) ≤ 3 by omega) (show (0 : Int) ≤ 0 ∧ (0 : Int) ≤ 3 by omega) (show (0 : Int) ≤ 0 ∧ (0 : Int) ≤ 3 by omega)) (by rw [hp]; rfl) (by rw [hp]; exact K)
  rw [hn, hp, hX] at hrun
  refine hrun.mono ?_
  rintro e w' ⟨v, C', lv', ov', cs, rfl, F, RM⟩
  exact ⟨v, C', lv', ov', cs, m', _, rfl, (fo.mono (fun _ h => h.elim)).trans F, RM, ⟨hk.mem, hk.q, hk.again, hk.last, by show (0 : Int) ≤ 64 ∧ (64 : Int) ≤ 64; omega⟩⟩
end Go.Proofs.YtlgjaoijgkdmiaaDoor
