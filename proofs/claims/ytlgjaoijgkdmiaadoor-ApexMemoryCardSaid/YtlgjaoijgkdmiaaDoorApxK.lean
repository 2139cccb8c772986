/- apex.Partition.Clear. No condition. -/
import Derived.Test.YtlgjaoijgkdmiaaDoorApx
import Derived.Test.YtlgjaoijgkdmiaaDoorTab
import Derived.Lib.SliceRun
set_option linter.unusedSimpArgs false
set_option linter.unusedVariables false
namespace Go.Proofs.YtlgjaoijgkdmiaaDoor
open Go.RowKit Go.Maps

theorem Bk.setCells {b t : Nat} : ∀ (vs p q : List Value) (w : World), q.length = vs.length → Bk w b t (p ++ q) → Bk (w.setCells b p.length vs) b t (p ++ vs)
  | [], p, q, w, hq, h => by
    cases q with
    | nil => exact h
    | cons _ _ => cases hq
  | v :: r, p, q, w, hq, h => by
    cases q with
    | nil => cases hq
    | cons x q =>
      have h1 := h.set p.length v
      rw [List.set_append_right _ _ (Nat.le_refl _), Nat.sub_self, List.set_cons_zero, show p ++ v :: q = (p ++ [v]) ++ q by simp] at h1
      have := Bk.setCells r (p ++ [v]) q (w.setCell ⟨b, p.length, none⟩ v) (by simpa using hq) h1
      rw [List.length_append] at this
      simpa [World.setCells] using this
theorem Fr.setCells {K : Nat → Prop} {C C' : Nat → Nat} {w : World} {b : Nat} : ∀ (vs : List Value) (o : Nat) (w' : World), Fr K C C' w w' → K (C b) → Fr K C C' w (w'.setCells b o vs)
  | [], o, w', h, _ => h
  | v :: r, o, w', h, hk => Fr.setCells r (o + 1) _ (h.setCell (.inr hk) v) hk

theorem IsApx.zero {w : World} {C : Nat → Nat} {k pb mb : Nat} {c : Cfg} {pv qv rv : Value} {part : Nat} {mem : List Int} (h : IsApx w C k pb mb c pv qv rv part mem) (hk : k ≠ 0) :
    Fr (· = k) C C w (w.setCells mb 0 (List.replicate mem.length (.int .u16 0))) ∧ IsApx (w.setCells mb 0 (List.replicate mem.length (.int .u16 0))) C k pb mb c pv qv rv part (List.replicate mem.length 0) := by
  have f : Fr (· = k) C C w (w.setCells mb 0 (List.replicate mem.length (.int .u16 0))) := Fr.setCells _ _ _ (Fr.refl _ C w) h.wcol
  have hne := h.head.ne h.words (by decide)
  have f2 : ∀ (vs : List Value) (o : Nat) (w' : World), Bk w' pb 91 (c.cells pv qv rv ++ [.int .i64 (part : Int), .slice (some ⟨mb, 0, none⟩) mem.length mem.length]) → Bk (w'.setCells mb o vs) pb 91 (c.cells pv qv rv ++ [.int .i64 (part : Int), .slice (some ⟨mb, 0, none⟩) mem.length mem.length]) := by
    intro vs
    induction vs with
    | nil => intro o w' g; exact g
    | cons v r ih => intro o w' g; exact ih (o + 1) _ (g.far hne v)
  refine ⟨f, ?_, h.hcol, h.lists.fr f (fun e => hk e.symm), ?_, h.wcol⟩
  · rw [List.length_replicate]
    exact f2 _ _ _ h.head
  · have := Bk.setCells (List.replicate mem.length (.int .u16 0)) [] (u16s mem) w (by simp [u16s_len]) h.words
    unfold u16s
    rw [List.map_replicate]
    exact this

theorem clear_run {w : World} {C : Nat → Nat} {k pb mb : Nat} {c : Cfg} {pv qv rv : Value} {part : Nat} {mem : List Int} (h : IsApx w C k pb mb c pv qv rv part mem) (ty : TypeId) :
    (Builtin.clear_ #[71] ty #[.slice (some ⟨mb, 0, none⟩) mem.length mem.length]).run Tryd.prog w = .ok (.tuple #[]) (w.setCells mb 0 (List.replicate mem.length (.int .u16 0))) := by
  rcases Nat.eq_zero_or_pos mem.length with h0 | hp
  · rw [h0]
    simp [Builtin.clear_, run_underlying Tryd.underlying71, World.setCells]
  · exact Lib.run_clear_slice w 71 63 ty _ Tryd.underlying71 zero16 rfl rfl mb 0 _ _ hp (fun j hj => by rw [h.words.cell_ (0 + j) (show (u16s mem)[0 + j]? = some (.int .u16 mem[j]) by unfold u16s; simp [hj])]; rfl) (fun j hj => h.words.frozen _)

set_option maxRecDepth 100000 in
theorem apxClear (C : Nat → Nat) (k pb mb : Nat) (hk : k ≠ 0) (c : Cfg) (pv qv rv : Value) (part : Nat) (mem : List Int) (w : World) (h : IsApx w C k pb mb c pv qv rv part mem) :
    Calls Tryd.prog 18 #[.pointer (some ⟨pb, 0, none⟩)] w fun e w' => e = .returned (.tuple #[]) ∧ Fr (· = k) C C w w' ∧ IsApx w' C k pb mb c pv qv rv part (List.replicate mem.length 0) := by
  have c12 := h.cells.2.2
  obtain ⟨g1, g2⟩ := h.zero hk
  have hr := clear_run h
  have HF := hid_ g1
  have HA := hid_ g2
  clear g1 g2 h
  go_enter Tryd.func18, Tryd.ntmps18
  go_wp2
  go_end0
  exact ⟨rfl, HF.out, HA.out⟩
end Go.Proofs.YtlgjaoijgkdmiaaDoor
