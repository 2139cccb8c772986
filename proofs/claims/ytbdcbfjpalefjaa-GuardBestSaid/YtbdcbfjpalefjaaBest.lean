/- Package guard's Best: Put and Take. No condition but the tables' own ranges. -/
import Derived.Test.YtbdcbfjpalefjaaOpenW
import Derived.Deep.RegionHeld3
import Derived.Deep.RegionLaw
import Derived.Deep.DrawnRows
import Derived.Deep.CutBlock
import Derived.Outline
set_option linter.unusedSimpArgs false
set_option linter.unusedVariables false
namespace Go.Proofs.Ytbdcbfjpalefjaa
open Go.RowKit Go.Maps
attribute [local go_sem ↓] Go.wp_at_zero Go.wp_at_succ

theorem info_u8 : (Try.prog.info? 5).map (fun i => (i.zero, i.size, i.bytes)) = some (some (.int .u8 0), 1, 1) := by kernel_rfl
theorem info_bs : (Try.prog.info? 55).map (fun i => (i.zero, i.size, i.bytes)) = some (some (.slice none 0 0), 1, 24) := by kernel_rfl

def BytesAll (w : World) (C : Nat → Nat) : List Value → List (List UInt8) → Prop
  | [], [] => True
  | v :: vs, d :: q => IsBytes w C v d ∧ v.oneCell' = true ∧ BytesAll w C vs q
  | _, _ => False
theorem BytesAll.fr {K : Nat → Prop} {C C' : Nat → Nat} {w w' : World} (f : Fr K C C' w w') (hk : ¬ K 0) : ∀ {vs : List Value} {q : List (List UInt8)}, BytesAll w C vs q → BytesAll w' C' vs q
  | [], [], _ => trivial
  | v :: vs, d :: q, ⟨h1, h2, h3⟩ => ⟨Rd.fr h1 f hk, h2, BytesAll.fr f hk h3⟩
theorem BytesAll.len {w : World} {C : Nat → Nat} : ∀ {vs : List Value} {q : List (List UInt8)}, BytesAll w C vs q → vs.length = q.length
  | [], [], _ => rfl
  | _ :: _, _ :: _, ⟨_, _, h⟩ => by simp [h.len]
theorem BytesAll.snoc {w : World} {C : Nat → Nat} {v : Value} {d : List UInt8} (h1 : IsBytes w C v d) (h2 : v.oneCell' = true) : ∀ {vs : List Value} {q : List (List UInt8)}, BytesAll w C vs q → BytesAll w C (vs ++ [v]) (q ++ [d])
  | [], [], _ => ⟨h1, h2, trivial⟩
  | _ :: _, _ :: _, ⟨h3, h4, h⟩ => ⟨h3, h4, h.snoc h1 h2⟩

/-- What waits, of colour k at block b. -/
def IsBest (w : World) (C : Nat → Nat) (k b : Nat) (q : List (List UInt8)) : Prop :=
  ∃ v vs, Bk w b 53 [v] ∧ C b = k ∧ Sl w C k v 55 1 vs.length vs ∧ BytesAll w C vs q
theorem IsBest.fr {K : Nat → Prop} {C C' : Nat → Nat} {w w' : World} {k b : Nat} {q : List (List UInt8)} (h : IsBest w C k b q) (f : Fr K C C' w w') (hk : ¬ K k) (h0 : ¬ K 0) : IsBest w' C' k b q := by
  obtain ⟨v, vs, h1, h2, h3, h4⟩ := h
  obtain ⟨f1, f2⟩ := f.block b h1.lt (by rw [h2]; exact hk)
  exact ⟨v, vs, h1.same f1, f2.trans h2, h3.fr f hk, h4.fr f h0⟩

set_option maxRecDepth 100000 in
set_option maxHeartbeats 4000000 in
theorem bestPut_ok (C : Nat → Nat) (k b : Nat) (hk : k ≠ 0) (q : List (List UInt8)) (dv : Value) (d : List UInt8) (w : World) (hf : Fin C w) (h : IsBest w C k b q) (hd : Src w dv 1 d.length (byteV d)) (h4 : q.length < 4) (h16 : d.length ≤ 16) :
    Calls Try.prog 18 #[.pointer (some ⟨b, 0, none⟩), dv] w fun e w' => e = .returned (.bool true) ∧ ∃ C', Fr (· = k) C C' w w' ∧ IsBest w' C' k b (q ++ [d]) := by
  obtain ⟨v, vs, hB, hCb, hS, hA⟩ := h
  have hlen := hA.len
  obtain ⟨a, cap, rfl, hc, hcm, hl⟩ := hS.form
  obtain ⟨da, dc, rfl, -⟩ := id hd
  obtain ⟨i0, hi0, hz0, hz1, hz2⟩ := info_parts info_u8
  obtain ⟨i1, hi1, hy0, hy1, hy2⟩ := info_parts info_bs
  have c0 := hB.cell_ 0 rfl
  -- the copy of the bytes
  obtain ⟨v1, W1, b1, hr1, hraw, hbel, hwh⟩ := append_fresh (P := Try.prog) (C := C) (t := 55) 0 Try.underlying55 hi0 hz1 hz0 rfl (w := w.drew.alloc (.cells #[] 5)) (b := w.heap.size) (Bk.new _ _ []) (hd.drew.alloc _) (by unfold maxLen; omega) (by rw [hz2]; omega)
  have HW1 : Below w.heap.size w W1 := below_then (((Below.refl _ w).drew).alloc (Nat.le_refl _) _) hbel
  have F1 : Fr (fun _ => False) C C w W1 := Fr.of_below HW1 _
  have hC1 : C b1 = 0 := hf _ (by rcases hwh with ⟨rfl, _⟩ | rfl <;> simp)
  have hB1 : IsBytes W1 C v1 d := hraw.rd hC1
  obtain ⟨off1, cap1, rfl⟩ : ∃ off1 cap1, v1 = .slice (some ⟨b1, off1, none⟩) d.length cap1 := by obtain ⟨_, o, c, _, h, _⟩ := hraw; exact ⟨o, c, h⟩
  have ho1 : (Value.slice (some ⟨b1, off1, none⟩) d.length cap1).oneCell' = true := rfl
  have hBk1 := hB.fr F1 (fun h => h)
  have hS1 := (hS.fr F1 (fun h => h)).alloc (.cells #[.slice (some ⟨b1, off1, none⟩) d.length cap1] 55)
  -- the append onto the list
  obtain ⟨v2, W2, C2, hr2, hS2, F2, ho2, hfar⟩ := Sl.append (P := Try.prog) (t := 51) 0 Try.underlying51 hi1 hy1 hy0 rfl hS1 (Src.new W1 55 1 1 1 [.slice (some ⟨b1, off1, none⟩) d.length cap1] rfl) (by simp [ho1]) (by unfold maxLen; omega) (by rw [hy2]; omega)
  have hBk2 := (hBk1.alloc (.cells #[.slice (some ⟨b1, off1, none⟩) d.length cap1] 55)).same (hfar b (hBk1.alloc _).lt (hS1.apart (hBk1.alloc _) (by decide))).1
  have hCb2 := (hfar b (hBk1.alloc (.cells #[.slice (some ⟨b1, off1, none⟩) d.length cap1] 55)).lt (hS1.apart (hBk1.alloc _) (by decide))).2
  obtain ⟨a2, cap2, rfl, -⟩ := id hS2.form
  have c1 := hBk1.cell_ 0 rfl
  have f2 := hBk2.frozen 0
  have ca := fun o => cell_alloc_keep o c0
  have ca1 := fun o => cell_alloc_keep o c1
  have c2 := hBk2.cell_ 0 rfl
  have HR1 := hid_ hr1
  have HR2 := hid_ hr2
  have FA := (F1.alloc (.cells #[.slice (some ⟨b1, off1, none⟩) d.length cap1] 55)).mono (K' := (· = k)) (fun _ h => h.elim)
  have FA2 := FA.trans F2
  have hA2 := BytesAll.snoc hB1 ho1 (hA.fr F1 (fun h => h))
  have hA3 := hA2.fr (((Fr.refl (fun _ => False) C W1).alloc (.cells #[.slice (some ⟨b1, off1, none⟩) d.length cap1] 55)).mono (K' := (· = k)) (fun _ h => h.elim) |>.trans F2) (by omega)
  have hq4 : (vs.length : Int) < 4 := by omega
  have hd16 : (d.length : Int) ≤ 16 := by omega
  have HZ := hid_ hlen
  clear hr1 hr2 hlen hfar hS1 hwh hl
  go_enter Try.func18, Try.ntmps18
  go_upto_region 3 with (fail)
  go_region_law
    (first | (refine step_append_run HR1.out (by rfl) (by rfl) (by rfl) (by rfl) ?_) | (refine step_append_run HR2.out (by rfl) (by rfl) (by rfl) (by rfl) ?_))
  all_goals
    go_wp2
    go_ret
    refine ⟨rfl, C2, FA2.setCell (.inr hCb) _, .slice a2 (vs.length + 1) cap2, vs ++ [.slice (some ⟨b1, off1, none⟩) d.length cap1], hBk2.set 0 _, hCb2.trans hCb, ?_, ?_⟩
    · have := hS2.far (a := ⟨b, 0, none⟩) (hS2.apart hBk2 (by decide)) (.slice a2 (vs.length + 1) cap2)
      rw [List.length_append]
      exact this
    · exact hA3.fr ((Fr.refl (· = k) C2 W2).setCell (a := ⟨b, 0, none⟩) (.inr (hCb2.trans hCb)) _) (fun h => hk h.symm)

set_option maxRecDepth 100000 in
theorem bestPut_no (C : Nat → Nat) (k b : Nat) (q : List (List UInt8)) (dv : Value) (d : List UInt8) (w : World) (h : IsBest w C k b q) (hd : Src w dv 1 d.length (byteV d)) (hn : 4 ≤ q.length ∨ 16 < d.length) :
    Calls Try.prog 18 #[.pointer (some ⟨b, 0, none⟩), dv] w fun e w' => e = .returned (.bool false) ∧ w = w' := by
  obtain ⟨v, vs, hB, hCb, hS, hA⟩ := h
  have hlen := hA.len
  obtain ⟨a, cap, rfl, hc, hcm, hl⟩ := hS.form
  obtain ⟨da, dc, rfl, -⟩ := id hd
  have c0 := hB.cell_ 0 rfl
  rcases hn with hn | hn
  · have h1 : (4 : Int) ≤ (vs.length : Int) := by omega
    clear hlen hl
    go_enter Try.func18, Try.ntmps18
    go_wp2
    go_ret
    exact ⟨rfl, rfl⟩
  · have h1 : (16 : Int) < (d.length : Int) := by omega
    clear hlen hl
    go_enter Try.func18, Try.ntmps18
    go_wp2
    all_goals
      go_ret
      exact ⟨rfl, rfl⟩
end Go.Proofs.Ytbdcbfjpalefjaa
