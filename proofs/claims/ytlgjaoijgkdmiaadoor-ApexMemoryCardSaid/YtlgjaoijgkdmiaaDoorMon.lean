/- Package health: a monitor in memory; New, Report, Seal. No condition but lists of moderate length. -/
import Derived.Test.YtlgjaoijgkdmiaaDoorCfg
import Derived.Test.YtlgjaoijgkdmiaaDoorSl
import Derived.Deep.RegionLaw
import Derived.Deep.RegionHeld3
import Derived.Deep.CutBlock
import Derived.Outline
set_option linter.unusedSimpArgs false
set_option linter.unusedVariables false
namespace Go.Proofs.YtlgjaoijgkdmiaaDoor
open Go.RowKit Go.Maps

structure Rec where
  round : Int
  node : Int
  part : Int
  kind : Int
  did : Int
  deriving Inhabited
def Rec.cells (r : Rec) : List Value := [.int .u32 r.round, .int .u8 r.node, .int .u8 r.part, .int .u8 r.kind, .int .u8 r.did]
/-- What a monitor holds. -/
structure MSt where
  last : List Int
  again : List Int
  out : List Rec
def u32s (l : List Int) : List Value := l.map (Value.int .u32)
def i64s (l : List Int) : List Value := l.map (Value.int .i64)

/-- A monitor at block mb: the head and its two counts have colour k, its records colour k + 1; its tables are read alone. -/
structure IsMon (w : World) (C : Nat → Nat) (k mb lb gb : Nat) (node : Int) (ps : List Part) (pv ov : Value) (m : MSt) : Prop where
  head : Bk w mb 104 [.int .i64 node, pv, .slice (some ⟨lb, 0, none⟩) ps.length ps.length, .slice (some ⟨gb, 0, none⟩) ps.length ps.length, ov]
  hcol : C mb = k
  parts : Rd w C pv 9 ps.length (ps.flatMap Part.cells)
  last : Bk w lb 51 (u32s m.last)
  lcol : C lb = k
  llen : m.last.length = ps.length
  again : Bk w gb 3 (i64s m.again)
  gcol : C gb = k
  glen : m.again.length = ps.length
  out : Sl w C (k + 1) ov 127 5 m.out.length (m.out.flatMap Rec.cells)
theorem IsMon.fr {K : Nat → Prop} {C C' : Nat → Nat} {w w' : World} {k mb lb gb : Nat} {node : Int} {ps : List Part} {pv ov : Value} {m : MSt} (h : IsMon w C k mb lb gb node ps pv ov m) (f : Fr K C C' w w') (hk : ¬ K 0 ∧ ¬ K k ∧ ¬ K (k + 1)) :
    IsMon w' C' k mb lb gb node ps pv ov m :=
  ⟨h.head.fr f (by rw [h.hcol]; exact hk.2.1), (f.block mb h.head.lt (by rw [h.hcol]; exact hk.2.1)).2.trans h.hcol, h.parts.fr f hk.1,
   h.last.fr f (by rw [h.lcol]; exact hk.2.1), (f.block lb h.last.lt (by rw [h.lcol]; exact hk.2.1)).2.trans h.lcol, h.llen,
   h.again.fr f (by rw [h.gcol]; exact hk.2.1), (f.block gb h.again.lt (by rw [h.gcol]; exact hk.2.1)).2.trans h.gcol, h.glen, h.out.fr f hk.2.2⟩

theorem make_u32 (n : Nat) (hn : n ≤ 12) (w : World) : (Instr.makeSlice 101 (.int .i64 n) (.int .i64 n)).run Tryd.prog w = .ok (.slice (some ⟨w.heap.size, 0, none⟩) n n) (w.alloc (.cells (u32s (List.replicate n 0)).toArray 51)) := by
  rcases (by omega : n = 0 ∨ n = 1 ∨ n = 2 ∨ n = 3 ∨ n = 4 ∨ n = 5 ∨ n = 6 ∨ n = 7 ∨ n = 8 ∨ n = 9 ∨ n = 10 ∨ n = 11 ∨ n = 12) with rfl | rfl | rfl | rfl | rfl | rfl | rfl | rfl | rfl | rfl | rfl | rfl | rfl <;> kernel_rfl
theorem make_int (n : Nat) (hn : n ≤ 12) (w : World) : (Instr.makeSlice 102 (.int .i64 n) (.int .i64 n)).run Tryd.prog w = .ok (.slice (some ⟨w.heap.size, 0, none⟩) n n) (w.alloc (.cells (i64s (List.replicate n 0)).toArray 3)) := by
  rcases (by omega : n = 0 ∨ n = 1 ∨ n = 2 ∨ n = 3 ∨ n = 4 ∨ n = 5 ∨ n = 6 ∨ n = 7 ∨ n = 8 ∨ n = 9 ∨ n = 10 ∨ n = 11 ∨ n = 12) with rfl | rfl | rfl | rfl | rfl | rfl | rfl | rfl | rfl | rfl | rfl | rfl | rfl <;> kernel_rfl

theorem info_part2 : (Tryd.prog.info? 34).map (fun i => (i.zero.map (·.cells.size), i.size, i.bytes)) = some (some 9, 9, 48) := by kernel_rfl
/-- append([]Part{}, parts...) in a world that has grown since w. -/
theorem copy_parts {w : World} {C : Nat → Nat} {n : Nat} {v : Value} {cs : List Value} (hp : Rd w C v 9 n cs) (hn : n ≤ 12) (W : World) (b : Nat) (hb : W.heap[b]? = some (.cells #[] 34 (0, 0))) (hW : Below w.heap.size w W) :
    ∃ v' W' b', (Builtin.append_ #[24, 24] 0 #[.slice (some ⟨b, 0, none⟩) 0 0, v]).run Tryd.prog W = .ok v' W' ∧ Raw W' v' 34 9 n cs b' ∧ Below W.heap.size W W' ∧ (b' = b ∨ b' = W.heap.size) := by
  obtain ⟨i, z, hi, hz, hzs, hs, hby⟩ := info_row info_part2
  obtain ⟨v', W', b', h1, h2, h3, h4⟩ := append_fresh (P := Tryd.prog) (C := C) (t := 24) 0 Tryd.underlying24 hi hs hz hzs hb ((hp.src).same fun a u h => grown_cell hW h) (by unfold maxLen; omega) (by rw [hby]; omega)
  exact ⟨v', W', b', h1, h2, h3, by rcases h4 with ⟨h, _⟩ | h; exact .inl h; exact .inr h⟩

theorem step_copy_parts {w W : World} {C : Nat → Nat} {n b : Nat} {v : Value} {cs : List Value} (hp : Rd w C v 9 n cs) (hn : n ≤ 12) {ops : Array Oper} {o : Oper} {a : Act} {K : Act → World → Prop} {Q : Exit → Act → World → Prop} {E : Prop} {s x : Operand}
    (hgd : o.guard = none) (ho : o.op = .call { callee := .builtin .append, args := #[s, x], argTypes := #[24, 24] }) (hs : a.eval s = .slice (some ⟨b, 0, none⟩) 0 0) (hx : a.eval x = v)
    (hb : W.heap[b]? = some (.cells #[] 34 (0, 0))) (hW : Below w.heap.size w W)
    (h : ∀ off cap b' W', Raw W' (.slice (some ⟨b', off, none⟩) n cap) 34 9 n cs b' → Below W.heap.size W W' → (b' = b ∨ b' = W.heap.size) → K (a.put o.dst (.slice (some ⟨b', off, none⟩) n cap)) W') :
    if Region.wanted o (yielded ops a.tmps) = true then Oper.wp Tryd.prog o a W K Q else E := by
  obtain ⟨v', W', b', hr, hraw, hbel, hwh⟩ := copy_parts hp hn W b hb hW
  obtain ⟨off, cap, rfl⟩ : ∃ off cap, v' = .slice (some ⟨b', off, none⟩) n cap := by obtain ⟨_, o, c, _, h, _⟩ := hraw; exact ⟨o, c, h⟩
  exact step_append_run hr hgd ho hs hx (h off cap b' W' hraw hbel hwh)

theorem bkN (w : World) (n t : Nat) (h : w.heap.size = n) : Bk (w.alloc (.cells #[] t)) n t [] := h ▸ Bk.new w t []

def mon0 (n : Nat) : MSt := ⟨List.replicate n 0, List.replicate n 0, []⟩
/-- What New leaves. -/
def MonNewP (C : Nat → Nat) (k : Nat) (node : Int) (ps : List Part) (w : World) (e : Ending) (w' : World) : Prop :=
  ∃ mb lb gb pb off cap C', e = .returned (.pointer (some ⟨mb, 0, none⟩)) ∧ w.heap.size ≤ mb ∧ w.heap.size ≤ pb ∧ pb < w'.heap.size ∧ Fr (fun _ => False) C C' w w' ∧ IsMon w' C' k mb lb gb node ps (.slice (some ⟨pb, off, none⟩) ps.length cap) (.slice none 0 0) (mon0 ps.length)

theorem bkG {w : World} {n t : Nat} {cs : List Value} (h : w.heap.size = n) : Bk (w.alloc (.cells cs.toArray t)) n t cs := h ▸ Bk.new w t cs
theorem Bk.neRaw {w : World} {b b' t e sz n : Nat} {cs cs' : List Value} {v : Value} (h : Bk w b t cs) (h' : Raw w v e sz n cs' b') (hne : t ≠ e) : b' ≠ b := by
  rintro rfl
  obtain ⟨_, _, _, cur, _, _, _, h4, _⟩ := h'
  unfold Bk at h
  rw [h] at h4
  simp only [Option.some.injEq, Obj.cells.injEq] at h4
  exact hne h4.2.1
theorem monNew_end {C : Nat → Nat} {k : Nat} (hk : k ≠ 0) {node : Int} {ps : List Part} {w W : World} (hf : Fin C w) {mb lb gb b' off cap : Nat} (hB : Below w.heap.size w W)
    (hh : Bk W mb 104 [.int .i64 node, .slice (some ⟨b', off, none⟩) ps.length cap, .slice (some ⟨lb, 0, none⟩) ps.length ps.length, .slice (some ⟨gb, 0, none⟩) ps.length ps.length, .slice none 0 0])
    (hl : Bk W lb 51 (u32s (List.replicate ps.length 0))) (hg : Bk W gb 3 (i64s (List.replicate ps.length 0))) (hr : Raw W (.slice (some ⟨b', off, none⟩) ps.length cap) 34 9 ps.length (ps.flatMap Part.cells) b')
    (h1 : w.heap.size ≤ mb) (h2 : w.heap.size ≤ lb) (h3 : w.heap.size ≤ gb) (h4 : w.heap.size ≤ b') : MonNewP C k node ps w (.returned (.pointer (some ⟨mb, 0, none⟩))) W := by
  have n1 := hh.neRaw hr (by decide)
  have n2 := hl.neRaw hr (by decide)
  have n3 := hg.neRaw hr (by decide)
  have l1 := hh.lt
  have l2 := hl.lt
  have l3 := hg.lt
  have l4 := hr.lt
  refine ⟨mb, lb, gb, b', off, cap, fun y => if y = mb ∨ y = lb ∨ y = gb then k else C y, rfl, h1, h4, l4, (Fr.of_below hB _).recolour (fun y hy _ => if_neg (by omega)) (fun y hy => by rw [if_neg (by omega)]; exact hf y (by have := hB.size; omega)), hh, if_pos (.inl rfl), hr.rd ?_, hl, if_pos (.inr (.inl rfl)), by simp [mon0], hg, if_pos (.inr (.inr rfl)), by simp [mon0], Sl.nil _ _ _ _ _⟩
  rw [if_neg (by omega)]
  exact hf b' h4

set_option maxRecDepth 100000 in
set_option maxHeartbeats 8000000 in
theorem monNew (C : Nat → Nat) (k : Nat) (hk : k ≠ 0) (node : Int) (ps : List Part) (pv : Value) (w : World) (hf : Fin C w) (hp : Rd w C pv 9 ps.length (ps.flatMap Part.cells)) (hn : ps.length ≤ 12) :
    Calls Tryd.prog 25 #[.int .i64 node, pv] w (MonNewP C k node ps w) := by
  obtain ⟨pa, pc, rfl, hpc, hpm, -⟩ := id hp
  have mk1 := make_u32 ps.length hn
  have mk2 := make_int ps.length hn
  have HP := hid_ hp
  clear hp
  go_enter Tryd.func25, Tryd.ntmps25
  go_wp2_with fail
  go_region_law (first | (have hh := HP.out; have hn2 := hn; refine step_copy_parts (b := w.heap.size) (s := .tmp 6) (x := .tmp 7) hh hn2 ?_ ?_ ?_ ?_ ?_ ?_ ?_; rfl; rfl; rfl; rfl; (first | exact (bkN _ _ _ (by simp)).drew | exact ((bkN _ _ _ (by simp)).alloc _).drew | exact (((bkN _ _ _ (by simp)).alloc _).alloc _).drew); (first | exact ((Below.refl _ _).alloc (Nat.le_refl _) _).drew | exact (((Below.refl _ _).alloc (Nat.le_refl _) _).alloc (by simp) _).drew | exact ((((Below.refl _ _).alloc (Nat.le_refl _) _).alloc (by simp) _).alloc (by simp; omega) _).drew); intro off cap b' W' hraw hbel hwh) | (have hh := HP.out; have hn2 := hn; refine step_copy_parts (b := w.heap.size + 1) (s := .tmp 6) (x := .tmp 7) hh hn2 ?_ ?_ ?_ ?_ ?_ ?_ ?_; rfl; rfl; rfl; rfl; (first | exact (bkN _ _ _ (by simp)).drew | exact ((bkN _ _ _ (by simp)).alloc _).drew | exact (((bkN _ _ _ (by simp)).alloc _).alloc _).drew); (first | exact ((Below.refl _ _).alloc (Nat.le_refl _) _).drew | exact (((Below.refl _ _).alloc (Nat.le_refl _) _).alloc (by simp) _).drew | exact ((((Below.refl _ _).alloc (Nat.le_refl _) _).alloc (by simp) _).alloc (by simp; omega) _).drew); intro off cap b' W' hraw hbel hwh) | (have hh := HP.out; have hn2 := hn; refine step_copy_parts (b := w.heap.size + 1 + 1) (s := .tmp 6) (x := .tmp 7) hh hn2 ?_ ?_ ?_ ?_ ?_ ?_ ?_; rfl; rfl; rfl; rfl; (first | exact (bkN _ _ _ (by simp)).drew | exact ((bkN _ _ _ (by simp)).alloc _).drew | exact (((bkN _ _ _ (by simp)).alloc _).alloc _).drew); (first | exact ((Below.refl _ _).alloc (Nat.le_refl _) _).drew | exact (((Below.refl _ _).alloc (Nat.le_refl _) _).alloc (by simp) _).drew | exact ((((Below.refl _ _).alloc (Nat.le_refl _) _).alloc (by simp) _).alloc (by simp; omega) _).drew); intro off cap b' W' hraw hbel hwh))
  all_goals
    go_wp2
    go_ret
  all_goals
    have hs1 := hbel.size
    simp only [World.size_alloc, World.size_drew] at hs1
    have hrl := hraw.lt
    have hP := below_then (w := w) (by first | exact ((Below.refl _ _).alloc (Nat.le_refl _) _).drew | exact (((Below.refl _ _).alloc (Nat.le_refl _) _).alloc (by simp) _).drew | exact ((((Below.refl _ _).alloc (Nat.le_refl _) _).alloc (by simp) _).alloc (by (try simp) <;> omega) _).drew) hbel
    have hP2 := hP.size
    refine monNew_end hk hf ?_ (bkG (by simp)) ?_ ?_ ?_ ?_ ?_ ?_ ?_
    · first | exact hP.alloc (by (try simp) <;> omega) _ | exact (hP.alloc (by (try simp) <;> omega) _).alloc (by (try simp) <;> omega) _ | exact ((hP.alloc (by (try simp) <;> omega) _).alloc (by (try simp) <;> omega) _).alloc (by (try simp) <;> omega) _
    · first | exact (bkG (by simp)) | exact ((bkG (by simp)).alloc _) | exact (((bkG (by simp)).alloc _).alloc _) | exact ((((bkG (by simp)).alloc _).alloc _).alloc _) | exact ((bkG (by simp)).drew.same (hbel.block _ (by (try simp) <;> omega))) | exact (((bkG (by simp)).drew.same (hbel.block _ (by (try simp) <;> omega))).alloc _) | exact ((((bkG (by simp)).drew.same (hbel.block _ (by (try simp) <;> omega))).alloc _).alloc _) | exact (((((bkG (by simp)).drew.same (hbel.block _ (by (try simp) <;> omega))).alloc _).alloc _).alloc _) | exact (((bkG (by simp)).alloc _).drew.same (hbel.block _ (by (try simp) <;> omega))) | exact ((((bkG (by simp)).alloc _).drew.same (hbel.block _ (by (try simp) <;> omega))).alloc _) | exact (((((bkG (by simp)).alloc _).drew.same (hbel.block _ (by (try simp) <;> omega))).alloc _).alloc _) | exact ((((((bkG (by simp)).alloc _).drew.same (hbel.block _ (by (try simp) <;> omega))).alloc _).alloc _).alloc _) | exact ((((bkG (by simp)).alloc _).alloc _).drew.same (hbel.block _ (by (try simp) <;> omega))) | exact (((((bkG (by simp)).alloc _).alloc _).drew.same (hbel.block _ (by (try simp) <;> omega))).alloc _) | exact ((((((bkG (by simp)).alloc _).alloc _).drew.same (hbel.block _ (by (try simp) <;> omega))).alloc _).alloc _) | exact (((((((bkG (by simp)).alloc _).alloc _).drew.same (hbel.block _ (by (try simp) <;> omega))).alloc _).alloc _).alloc _)
    · first | exact (bkG (by simp)) | exact ((bkG (by simp)).alloc _) | exact (((bkG (by simp)).alloc _).alloc _) | exact ((((bkG (by simp)).alloc _).alloc _).alloc _) | exact ((bkG (by simp)).drew.same (hbel.block _ (by (try simp) <;> omega))) | exact (((bkG (by simp)).drew.same (hbel.block _ (by (try simp) <;> omega))).alloc _) | exact ((((bkG (by simp)).drew.same (hbel.block _ (by (try simp) <;> omega))).alloc _).alloc _) | exact (((((bkG (by simp)).drew.same (hbel.block _ (by (try simp) <;> omega))).alloc _).alloc _).alloc _) | exact (((bkG (by simp)).alloc _).drew.same (hbel.block _ (by (try simp) <;> omega))) | exact ((((bkG (by simp)).alloc _).drew.same (hbel.block _ (by (try simp) <;> omega))).alloc _) | exact (((((bkG (by simp)).alloc _).drew.same (hbel.block _ (by (try simp) <;> omega))).alloc _).alloc _) | exact ((((((bkG (by simp)).alloc _).drew.same (hbel.block _ (by (try simp) <;> omega))).alloc _).alloc _).alloc _) | exact ((((bkG (by simp)).alloc _).alloc _).drew.same (hbel.block _ (by (try simp) <;> omega))) | exact (((((bkG (by simp)).alloc _).alloc _).drew.same (hbel.block _ (by (try simp) <;> omega))).alloc _) | exact ((((((bkG (by simp)).alloc _).alloc _).drew.same (hbel.block _ (by (try simp) <;> omega))).alloc _).alloc _) | exact (((((((bkG (by simp)).alloc _).alloc _).drew.same (hbel.block _ (by (try simp) <;> omega))).alloc _).alloc _).alloc _)
    · first | exact hraw.same (Below.heap_alloc _ _ _ (by (try simp) <;> omega)) | exact (hraw.same (Below.heap_alloc _ _ _ (by (try simp) <;> omega))).same (Below.heap_alloc _ _ _ (by (try simp) <;> omega)) | exact ((hraw.same (Below.heap_alloc _ _ _ (by (try simp) <;> omega))).same (Below.heap_alloc _ _ _ (by (try simp) <;> omega))).same (Below.heap_alloc _ _ _ (by (try simp) <;> omega))
    · (try simp) <;> omega
    · (try simp) <;> omega
    · (try simp) <;> omega
    · rcases hwh with h | h <;> subst h <;> (try simp) <;> omega
end Go.Proofs.YtlgjaoijgkdmiaaDoor
