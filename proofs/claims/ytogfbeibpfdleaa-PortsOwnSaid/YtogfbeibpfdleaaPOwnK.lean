/- Chapter 13's PortsOwn: bytes that may be written, colours. No condition. -/
import Derived.Test.YtogfbeibpfdleaaPOwnD
import Derived.Test.YtogfbeibpfdleaaPOwnR
import Derived.Test.YtogfbeibpfdleaaPOwnS
import Derived.Test.YtogfbeibpfdleaaPUse
import Derived.Test.YtogfbeibpfdleaaAwake13
import Derived.Test.YtogfbeibpfdleaaPFresh
set_option linter.unusedSimpArgs false
set_option linter.unusedVariables false
namespace Go.Proofs.Ytogfbeibpfdleaa
open Go.RowKit Go.Maps

/-- n bytes of colour k that may be written. -/
def BW (w : World) (C : Nat → Nat) (k : Nat) (a : Option Addr) (n : Nat) : Prop :=
  0 < n → ∃ b off, a = some ⟨b, off, none⟩ ∧ C b = k ∧ b < w.heap.size ∧ (∀ j, j < n → ∃ x : Int, w.cell? ⟨b, off + j, none⟩ = some (.int .u8 x)) ∧ ∀ j, w.frozen? ⟨b, j, none⟩ = false
theorem frozen_same {w w' : World} {b : Nat} (h : w'.heap[b]? = w.heap[b]?) (j : Nat) : w'.frozen? ⟨b, j, none⟩ = w.frozen? ⟨b, j, none⟩ := by
  unfold World.frozen?
  simp only [h]
theorem BW.fr {K : Nat → Prop} {C C' : Nat → Nat} {w w' : World} {k n : Nat} {a : Option Addr} (h : BW w C k a n) (f : Fr K C C' w w') (hk : ¬ K k) : BW w' C' k a n := by
  intro hn
  obtain ⟨b, off, ha, hC, hl, hc, hz⟩ := h hn
  obtain ⟨e1, e2⟩ := f.block b hl (by rw [hC]; exact hk)
  refine ⟨b, off, ha, e2.trans hC, Nat.lt_of_lt_of_le hl f.size, fun j hj => ?_, fun j => (frozen_same e1 j).trans (hz j)⟩
  obtain ⟨x, hx⟩ := hc j hj
  exact ⟨x, (World.cell?_of_block (a := ⟨b, off + j, none⟩) e1).trans hx⟩
theorem BW.set {C : Nat → Nat} {w : World} {k n b off : Nat} (h : BW w C k (some ⟨b, off, none⟩) n) (i : Nat) (hi : i < n) (y : Int) : BW (w.setCell ⟨b, off + i, none⟩ (.int .u8 y)) C k (some ⟨b, off, none⟩) n := by
  intro hn
  obtain ⟨b', off', ha, hC, hl, hc, hz⟩ := h hn
  injection ha with ha
  injection ha with e1 e2
  subst e1 e2
  refine ⟨b, off, rfl, hC, by rw [World.size_setCell]; exact hl, fun j hj => ?_, fun j => by rw [World.frozen?_setCell]; exact hz j⟩
  obtain ⟨x, hx⟩ := hc j hj
  obtain ⟨x0, hx0⟩ := hc i hi
  by_cases e : j = i
  · subst e
    exact ⟨y, World.cell?_setCell_same _ _ _ hx0⟩
  · exact ⟨x, (World.cell?_setCell_other _ _ _ _ (by intro h; injection h with _ h; omega)).trans hx⟩
/-- Bytes in a new block, coloured anew. -/
theorem recolV {K : Nat → Prop} {C0 C : Nat → Nat} {w0 w : World} {a : Option Addr} {n cap : Nat} {d : List UInt8} (kd : Nat) (hS : NewS w0.heap.size C w (.slice a n cap)) (hb : IsBytes w C (.slice a n cap) d) (f : Fr K C0 C w0 w) (hf : Fin C w) :
    ∃ D, Fr K C0 D w0 w ∧ Fin D w ∧ BW w D kd a n ∧ (∀ y, C y ≠ 0 → D y = C y) ∧ ∀ y, y < w0.heap.size → D y = C y := by
  obtain ⟨_, _, e, h1, h2, h3, h4⟩ := id hb
  injection e with e1 e2 e3
  subst e1 e2 e3
  by_cases hn : 0 < d.length
  · obtain ⟨b, off, ha, hC, hl, hc⟩ := h4 hn
    subst ha
    obtain ⟨g1, g2, g3, g4⟩ := hS b off _ _ rfl
    refine ⟨fun y => if y = b then kd else C y, ?_, ?_, fun _ => ⟨b, off, rfl, if_pos rfl, hl, fun j hj => ?_, g4⟩, fun y hy => if_neg (fun e => by subst e; exact hy g2), fun y hy => if_neg (by omega)⟩
    · refine f.recolour (fun y hy hk => ?_) (fun y hy => ?_)
      · rw [if_neg (by omega)]
        exact (f.block y hy hk).2
      · rw [if_neg (by omega)]
        exact hf y hy
    · intro y hy
      show (if y = b then kd else C y) = 0
      rw [if_neg (by omega)]
      exact hf y hy
    · have hj' : j < (byteV d).length := by rw [h3]; omega
      have := hc j _ (List.getElem?_eq_getElem hj')
      rw [show (byteV d)[j] = .int .u8 ((d[j]'(by rw [h3] at hj'; omega)).toNat : Int) by simp [byteV]] at this
      exact ⟨_, this⟩
  · exact ⟨C, f, hf, fun h => absurd h hn, fun _ _ => rfl, fun _ _ => rfl⟩
theorem Sl.recol {w : World} {C D : Nat → Nat} {k : Nat} {v : Value} {e : TypeId} {sz n : Nat} {cs : List Value} (h : Sl w C k v e sz n cs) (hD : ∀ y, C y = k → D y = k) : Sl w D k v e sz n cs := by
  rcases h with h | ⟨b, hb, h⟩
  · exact .inl h
  · exact .inr ⟨b, hD b hb, h⟩
theorem RdK.recol {w : World} {C D : Nat → Nat} {k k' : Nat} {v : Value} {sz n : Nat} {cs : List Value} (h : RdK w C k v sz n cs) (hD : ∀ y, y < w.heap.size → C y = k → D y = k') : RdK w D k' v sz n cs := by
  obtain ⟨a, c, h1, h2, h3, h4, h5⟩ := h
  exact ⟨a, c, h1, h2, h3, h4, fun hn => by
    obtain ⟨b, off, ha, hC, hl, hc⟩ := h5 hn
    exact ⟨b, off, ha, hD b hl hC, hl, hc⟩⟩
theorem put_own (d : List UInt8) : putSt wiredC (st0 4) 2 d = [⟨[], 0⟩, ⟨[], 0⟩, ⟨[d], 0⟩, ⟨[], 0⟩] := rfl
abbrev stO (d : List UInt8) : List PSt := [⟨[], 0⟩, ⟨[], 0⟩, ⟨[d], 0⟩, ⟨[], 0⟩]
theorem image_own (d : List UInt8) : imageMs wiredC 0 (stO d) 4 = [⟨2, d⟩] := rfl
theorem seal_own (d : List UInt8) : sealMs wiredC 0 (stO d) 4 = [⟨2, d⟩] := rfl
theorem deliv_own (d : List UInt8) (hd : d.length ≤ 4) : delivR wiredC 1 0 (st0 4) [⟨2, d⟩] 1 = (stA d 0, 1) := by
  have hm : msgB wiredC 0 ⟨2, d⟩ = true := by
    unfold msgB
    simp [wiredC, Cfg.port, Cfg.part]
    omega
  unfold delivR
  simp only [delivR, show ([⟨2, d⟩] : List Msg).getD 0 default = ⟨2, d⟩ from rfl, hm]
  rfl
end Go.Proofs.Ytogfbeibpfdleaa
