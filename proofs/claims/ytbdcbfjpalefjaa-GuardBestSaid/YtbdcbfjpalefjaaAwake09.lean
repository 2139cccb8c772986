/- Chapter 9's fixed facts: Awake returns true and leaves what was there. No condition. -/
import Derived.Test.YtbdcbfjpalefjaaGuard3
set_option linter.unusedSimpArgs false
set_option linter.unusedVariables false
namespace Go.Proofs.Ytbdcbfjpalefjaa
open Go.RowKit Go.Maps

theorem results_cell1 {fn : Func} {p : Tmp} {ty : TypeId} (h : fn.results = #[.cell p ty]) (tmps : Array Value) (P : Program) (w : World) :
    (results fn tmps).run P w = ((asAddr (tmps.getD p undef)).run P w).andThen fun a w₁ => (loadVar ty a).run P w₁ := by
  simp only [results, h]
  simp [Sem.run_bind, Result.andThen]

def twoC : Cfg := ⟨2, 0, 1000, 500, 0, 0, 0, 98, [], [], []⟩
theorem rd_nil (w : World) (C : Nat → Nat) (sz : Nat) : Rd w C (.slice none 0 0) sz 0 [] := ⟨none, 0, rfl, Nat.le_refl _, Nat.zero_le _, by simp, fun h => absurd h (by simp)⟩
theorem twoLists (w : World) (C : Nat → Nat) : Lists w C twoC (.slice none 0 0) (.slice none 0 0) (.slice none 0 0) := ⟨rd_nil w C 9, rd_nil w C 6, rd_nil w C 2⟩
theorem twoOk : twoC.ok := by
  constructor <;> first | (unfold I64 twoC; simp) | (intro p hp; cases hp)
theorem twoSnd : sndE twoC = none := by decide +kernel

set_option maxRecDepth 100000 in
theorem law9Two (w : World) : Calls Try.prog 20 #[] w fun e w' => e = .returned (twoC.v (.slice none 0 0) (.slice none 0 0) (.slice none 0 0)) ∧ Below w.heap.size w w' := by
  have hb := fun o => (Below.refl w.heap.size w).alloc (Nat.le_refl _) o
  go_enter Try.func20, Try.ntmps20
  go_wp2
  have dc := (Bk.new w 26 (twoC.cells (.slice none 0 0) (.slice none 0 0) (.slice none 0 0))).cfg0
  refine bodyPost_ret (v := twoC.v (.slice none 0 0) (.slice none 0 0) (.slice none 0 0)) ((results_cell1 rfl _ _ _).trans ?_) rfl ⟨rfl, hb _⟩
  unfold twoC Cfg.cells at dc
  unfold twoC Cfg.v
  go_simp

set_option maxRecDepth 100000 in
set_option maxHeartbeats 4000000 in
theorem awake09 (w : World) : Calls Try.prog 7 #[] w fun e w' => e = .returned (.bool true) ∧ Below w.heap.size w w' := by
  go_enter Try.func7, Try.ntmps7
  go_wp2_with fail
  refine (law9Two _).mono ?_
  rintro e w1 ⟨rfl, hw1⟩
  go_wp2_with fail
  refine (guardNew twoC twoOk (fun _ => 0) _ _ _ _ (twoLists _ _) (fun _ _ => rfl)).mono ?_
  rintro e w2 ⟨hw2, hP⟩
  rw [twoSnd] at hP
  obtain ⟨b, g, rfl, hbs, hgs, hG⟩ := hP
  have hw := below_then hw1 hw2
  have hsz := hw1.size
  have hR : Ranges twoC := (sndE_good twoSnd).rg
  -- from here on the marks' block alone has another colour
  have f0 : Fr (· ≠ 0) (fun _ => 0) (fun x => if x = g then 1 else 0) w w2 := (Fr.of_below hw (· ≠ 0)).recolour (fun x hx _ => by rw [if_neg (by omega)]) (fun x hx => by
    have := hG.marks.lt
    rw [if_neg (by omega)])
  obtain ⟨D, f0, hCg⟩ : ∃ D : Nat → Nat, Fr (· ≠ 0) (fun _ => 0) D w w2 ∧ D g = 1 := ⟨_, f0, by simp⟩
  have HCg := hid_ hCg
  clear hCg
  have hm : ∀ {w' w''}, Fr (· = D g) D D w' w'' → Fr (· ≠ 0) D D w' w'' := fun h => h.mono (fun c hc => by rw [HCg.out] at hc; omega)
  go_wp2_with fail
  refine (guardDue twoC _ _ _ b g _ hR 1 (by omega) w2 hG).mono ?_
  rintro e w3 ⟨rfl, hw3⟩
  rw [show twoC.send 1 + twoC.mean = 1098 by decide +kernel]
  have hG3 := hG.below hw3
  have f3 := f0.trans (Fr.of_below hw3 (· ≠ 0))
  go_wp2_with fail
  refine (guardCome twoC _ _ _ b g _ hR (by decide +kernel) 1 1000 w3 hG3 D).mono ?_
  rw [show comeV twoC (List.replicate twoC.nodes.toNat false) 1 1000 = (1, [false, true]) by decide +kernel]
  rintro e w4 ⟨rfl, f4, hG4⟩
  have f4' := f3.trans (hm f4)
  go_wp2_with fail
  refine (guardCome twoC _ _ _ b g _ hR (by decide +kernel) 1 1000 w4 hG4 D).mono ?_
  rw [show comeV twoC [false, true] 1 1000 = (4, [false, true]) by decide +kernel]
  rintro e w5 ⟨rfl, f5, hG5⟩
  have f5' := f4'.trans (hm f5)
  go_wp2_with fail
  refine (guardCome twoC _ _ _ b g _ hR (by decide +kernel) 1 999 w5 hG5 D).mono ?_
  rw [show comeV twoC [false, true] 1 999 = (2, [false, true]) by decide +kernel]
  rintro e w6 ⟨rfl, f6, hG6⟩
  have f6' := f5'.trans (hm f6)
  go_wp2_with fail
  refine (guardCome twoC _ _ _ b g _ hR (by decide +kernel) 1 1197 w6 hG6 D).mono ?_
  rw [show comeV twoC [false, true] 1 1197 = (3, [false, true]) by decide +kernel]
  rintro e w7 ⟨rfl, f7, hG7⟩
  have f7' := f6'.trans (hm f7)
  go_wp2_with fail
  refine (guardCome twoC _ _ _ b g _ hR (by decide +kernel) 9 0 w7 hG7 D).mono ?_
  rw [show comeV twoC [false, true] 9 0 = (5, [false, true]) by decide +kernel]
  rintro e w8 ⟨rfl, f8, hG8⟩
  have f8' := f7'.trans (hm f8)
  have hfin := f8'.below (fun _ _ hn => hn rfl)
  clear f0 f3 f4 f4' f5 f5' f6 f6' f7 f7' f8 f8' hm hG hG3 hG4 hG5 hG6 hG7 hG8 hR
  go_wp2
  go_ret
  exact ⟨rfl, hfin⟩
end Go.Proofs.Ytbdcbfjpalefjaa
