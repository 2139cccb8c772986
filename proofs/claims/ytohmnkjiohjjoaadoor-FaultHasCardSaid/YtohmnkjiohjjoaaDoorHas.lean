/- FaultHas: the walk. No condition but that errors.errorType holds its handle. -/
import Derived.Test.YtohmnkjiohjjoaaDoorAwake01
import Derived.Test.YtohmnkjiohjjoaaDoorRHas
set_option linter.unusedSimpArgs false
set_option linter.unusedVariables false
namespace Go.Proofs.YtohmnkjiohjjoaaDoor
open Go.RowKit Go.Maps

theorem ta_ef2 (v : Value) (w : World) : (Instr.typeAssert (.iface 33 v) 25 36 true).run Tryd.prog w = .ok (.tuple #[.pointer none, .bool false]) w := by kernel_rfl
theorem ta_nf (w : World) : (Instr.typeAssert .nilIface 25 36 true).run Tryd.prog w = .ok (.tuple #[.pointer none, .bool false]) w := by kernel_rfl

set_option maxRecDepth 100000 in
set_option maxHeartbeats 8000000 in
theorem has_walk (l : List LinkT) (lv : Value) (code : Int) (w : World) (hg : ErrT w) (hl : ∀ x ∈ l, x.ok) (hv : Rd w z0 lv 3 l.length (l.flatMap LinkT.cells)) :
    Calls Tryd.prog 4 #[lv, .int .i64 code] w fun e w' => e = .returned (.bool true) ∧ Below w.heap.size w w' := by
  have HG := hid_ hg
  have HV := hid_ hv
  obtain ⟨r0, r1⟩ := codeM_rng 199 code (by omega) (by omega)
  obtain ⟨c, hcd⟩ : ∃ c, codeM 199 code = c := ⟨_, rfl⟩
  rw [hcd] at r0 r1
  have hcd2 : wrap64 ((IntKind.u64.wrap code).tmod 199) = c := hcd
  obtain ⟨i1, hi1, hcmp⟩ : ∃ i, Tryd.prog.info? 36 = some i ∧ i.comparable = true := by
    have h : (Tryd.prog.info? 36).map (·.comparable) = some true := by kernel_rfl
    obtain ⟨i, h1, h2⟩ := Option.map_eq_some_iff.1 h
    exact ⟨i, h1, h2⟩
  obtain ⟨j1, hj1, -⟩ : ∃ i, Tryd.prog.info? 39 = some i ∧ i.size = 3 := by
    have h : (Tryd.prog.info? 39).map (·.size) = some 3 := by kernel_rfl
    obtain ⟨i, h1, h2⟩ := Option.map_eq_some_iff.1 h
    exact ⟨i, h1, h2⟩
  clear hg hv hcd
  go_enter Tryd.func4, Tryd.ntmps4
  go_wp2_with fail
  refine (awake01 _ HG.out).mono ?_
  rintro e w1 ⟨rfl, b1⟩
  go_wp2_with fail
  refine (made_any l lv _ hl (HV.out.fr (Fr.of_below b1 (fun _ => False)) (fun h => h))).mono ?_
  rintro e w2 ⟨ev, n, hn, hn2, rfl, hE, b2⟩
  have hgood := madeE_good l hl n hn2
  obtain ⟨e, he⟩ : ∃ e, madeE l n = e := ⟨_, rfl⟩
  rw [he] at hE hgood ⊢
  have B2 := below_then b1 b2
  have HE2 := hid_ hE
  have HGD := hid_ hgood
  have hlen := HGD.out.len
  clear b1 b2 hE hgood he
  go_wp2_with fail
  refine (refHas_any ⟨(errT e).toArray⟩ (e.map (·.1)) (1 + c) _ (by simpa using scanO_errT HGD.out false (.inl rfl)) (by simp [ByteArray.size]; omega)).mono ?_
  rintro x w3 ⟨rfl, b3⟩
  rw [hasL_map]
  have B3 := below_then B2 b3
  have HE3 := hid_ (HE2.out.fr (Fr.of_below b3 (fun _ => False)) (fun h => h))
  clear b3 B2 HE2
  obtain ⟨h, hh⟩ : ∃ h, hasE (1 + c) e = h := ⟨_, rfl⟩
  have HC := hid_ (fun W hW => fault_has z0 ev e (1 + c) W hW)
  have HC2 := hid_ (fun W hW hne => errs_Is z0 ev e (1 + c) W hW hne)
  rw [hh] at HC HC2 ⊢
  have HT0 := hid_ ((Bk.new w3 36 [.pointer none]))
  have HG4 : ErrT (w3.alloc (.cells #[.pointer none] 36)) := cell_alloc_keep _ (HG.out.below B3)
  have HGG := hid_ HG4
  have B4 : Below w.heap.size w (w3.alloc (.cells #[.pointer none] 36)) := below_then B3 ((Below.refl _ _).alloc (Nat.le_refl _) _)
  have t1 := ta_ff
  have t2 := ta_ef2
  have t3 := ta_nf
  have B3' := B3
  clear hh HG4 B3
  match e, HE3, HC, HC2 with
  | [], HE3, HC, HC2 =>
    have hn0 := HE3.out
    simp only [IsErr] at hn0
    subst hn0
    go_wp2_with fail
    refine (HC.out _ HE3.out).mono ?_
    rintro x w4 ⟨rfl, rfl⟩
    cases h
    all_goals
      go_wp2_with fail
      refine (as_nil _ _).mono ?_
      rintro x w5 ⟨rfl, rfl⟩
      go_wp2
      go_ret
      exact ⟨rfl, B4⟩
  | (d, none) :: r, HE3, HC, HC2 =>
    have hn0 := HE3.out.2
    subst hn0
    go_wp2_with fail
    refine (HC.out _ HE3.out).mono ?_
    rintro x w4 ⟨rfl, rfl⟩
    cases h
    all_goals
      go_wp2_with fail
      refine (HC2.out _ HE3.out (by simp)).mono ?_
      rintro x w4 ⟨rfl, rfl⟩
      go_wp2_with fail
      refine (as_ef_ d _ _ HGG.out).mono ?_
      rintro x w5 ⟨rfl, b5⟩
      have B5 := below_then B4 b5
      clear b5
      go_wp2
      go_ret
      exact ⟨rfl, B5⟩
  | (d, some a) :: r, HE3, HC, HC2 =>
    have hn0 := HE3.out
    simp only [IsErr] at hn0
    obtain ⟨b, cv, rfl, hB, -, -⟩ := hn0
    have heq := fun W => run_eql_iface_ptr_same (P := Tryd.prog) W ⟨b, 0, none⟩ Tryd.underlying25 Tryd.underlying36 hi1 hcmp hj1
    have HQ := hid_ heq
    clear hB heq hi1 hcmp hj1
    go_wp2_with fail
    refine (HC.out _ HE3.out).mono ?_
    rintro x w4 ⟨rfl, rfl⟩
    cases h
    all_goals
      go_wp2_with fail
      refine (HC2.out _ HE3.out (by simp)).mono ?_
      rintro x w4 ⟨rfl, rfl⟩
      go_wp2_with fail
      refine (as_ff_ ⟨b, 0, none⟩ _ _ _ HGG.out (HT0.out.cell_ 0 rfl) (HT0.out.frozen 0)).mono ?_
      rintro x w5 ⟨rfl, hcell, b5⟩
      have B5 : Below w.heap.size w w5 := B4.trans (b5.mono B3'.size)
      have heq := HQ.out
      clear b5
      go_wp2
      go_ret
      exact ⟨rfl, B5⟩
end Go.Proofs.YtohmnkjiohjjoaaDoor
