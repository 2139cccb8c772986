/- Package apex: a partition in memory; New, Memory, Cost. No condition but that the tables work. -/
import Derived.Test.YtlgjaoijgkdmiaaDoorPorts
import Derived.Deep.DeepCutAuto
set_option linter.unusedSimpArgs false
set_option linter.unusedVariables false
namespace Go.Proofs.YtlgjaoijgkdmiaaDoor
open Go.RowKit Go.Maps

def u16s (l : List Int) : List Value := l.map (Value.int .u16)
/-- A partition at block pb; its words at block mb; both have colour k. -/
structure IsApx (w : World) (C : Nat → Nat) (k pb mb : Nat) (c : Cfg) (pv qv rv : Value) (part : Nat) (mem : List Int) : Prop where
  head : Bk w pb 91 (c.cells pv qv rv ++ [.int .i64 (part : Int), .slice (some ⟨mb, 0, none⟩) mem.length mem.length])
  hcol : C pb = k
  lists : Lists w C c pv qv rv
  words : Bk w mb 63 (u16s mem)
  wcol : C mb = k
theorem IsApx.fr {K : Nat → Prop} {C C' : Nat → Nat} {w w' : World} {k pb mb : Nat} {c : Cfg} {pv qv rv : Value} {part : Nat} {mem : List Int} (h : IsApx w C k pb mb c pv qv rv part mem) (f : Fr K C C' w w') (hk : ¬ K 0 ∧ ¬ K k) : IsApx w' C' k pb mb c pv qv rv part mem :=
  ⟨h.head.fr f (by rw [h.hcol]; exact hk.2), (f.block pb h.head.lt (by rw [h.hcol]; exact hk.2)).2.trans h.hcol, h.lists.fr f hk.1, h.words.fr f (by rw [h.wcol]; exact hk.2), (f.block mb h.words.lt (by rw [h.wcol]; exact hk.2)).2.trans h.wcol⟩
theorem IsApx.cells {w : World} {C : Nat → Nat} {k pb mb : Nat} {c : Cfg} {pv qv rv : Value} {part : Nat} {mem : List Int} (h : IsApx w C k pb mb c pv qv rv part mem) :
    w.cell? ⟨pb, 8, none⟩ = some pv ∧ w.cell? ⟨pb, 11, none⟩ = some (.int .i64 (part : Int)) ∧ w.cell? ⟨pb, 12, none⟩ = some (.slice (some ⟨mb, 0, none⟩) mem.length mem.length) :=
  ⟨h.head.cell_ 8 rfl, h.head.cell_ 11 rfl, h.head.cell_ 12 rfl⟩
theorem IsApx.set {w : World} {C : Nat → Nat} {k pb mb : Nat} {c : Cfg} {pv qv rv : Value} {part : Nat} {mem : List Int} (h : IsApx w C k pb mb c pv qv rv part mem) (hk : k ≠ 0) (i : Nat) (x : Int) :
    Fr (· = k) C C w (w.setCell ⟨mb, i, none⟩ (.int .u16 x)) ∧ IsApx (w.setCell ⟨mb, i, none⟩ (.int .u16 x)) C k pb mb c pv qv rv part (mem.set i x) := by
  have f : Fr (· = k) C C w (w.setCell ⟨mb, i, none⟩ (.int .u16 x)) := (Fr.refl _ C w).setCell (.inr h.wcol) _
  refine ⟨f, ?_, h.hcol, h.lists.fr f (fun e => hk e.symm), ?_, h.wcol⟩
  · rw [List.length_set]
    exact h.head.far (h.head.ne h.words (by decide)) _
  · have := h.words.set i (.int .u16 x)
    unfold u16s at this ⊢
    rw [List.map_set]
    exact this

theorem make_u16 (n : Nat) (hn : n ≤ 16) (w : World) : (Instr.makeSlice 71 (.int .i64 n) (.int .i64 n)).run Tryd.prog w = .ok (.slice (some ⟨w.heap.size, 0, none⟩) n n) (w.alloc (.cells (u16s (List.replicate n 0)).toArray 63)) := by
  rcases (by omega : n = 0 ∨ n = 1 ∨ n = 2 ∨ n = 3 ∨ n = 4 ∨ n = 5 ∨ n = 6 ∨ n = 7 ∨ n = 8 ∨ n = 9 ∨ n = 10 ∨ n = 11 ∨ n = 12 ∨ n = 13 ∨ n = 14 ∨ n = 15 ∨ n = 16) with rfl | rfl | rfl | rfl | rfl | rfl | rfl | rfl | rfl | rfl | rfl | rfl | rfl | rfl | rfl | rfl | rfl <;> kernel_rfl

theorem part_words {c : Cfg} (hg : Good c) {i : Nat} (hi : i < c.parts.length) : 0 ≤ (c.part i).words ∧ (c.part i).words ≤ 16 ∧ 0 ≤ (c.part i).budget ∧ (c.part i).budget ≤ 64 := by
  have := hg.parts i hi
  unfold partOk inb at this
  simp only [Bool.and_eq_true, decide_eq_true_eq] at this
  omega
/-- What New leaves. -/
def ApxNewP (C : Nat → Nat) (k : Nat) (c : Cfg) (pv qv rv : Value) (i : Nat) (w : World) (e : Ending) (w' : World) : Prop :=
  ∃ pb mb C', e = .returned (.tuple #[.pointer (some ⟨pb, 0, none⟩), .nilIface]) ∧ w.heap.size ≤ pb ∧ Fr (fun _ => False) C C' w w' ∧ IsApx w' C' k pb mb c pv qv rv i (List.replicate (c.part i).words.toNat 0)

set_option maxRecDepth 100000 in
set_option maxHeartbeats 4000000 in
theorem apxNew (c : Cfg) (C : Nat → Nat) (k : Nat) (hk : k ≠ 0) (pv qv rv : Value) (i : Nat) (hi : i < c.parts.length) (hw : 0 ≤ (c.part i).words ∧ (c.part i).words ≤ 16) (w : World) (hl : Lists w C c pv qv rv) (hf : Fin C w) :
    Calls Tryd.prog 11 #[c.v pv qv rv, .int .i64 (i : Int)] w (ApxNewP C k c pv qv rv i w) := by
  obtain ⟨pa, pc, rfl, hpc, hpm, -⟩ := id hl.parts
  unfold maxLen at hpm
  obtain ⟨tb, tf, rfl, -, hrow⟩ := hl.parts.row (fun _ => rfl) hi
  have e4 := hrow 4 _ rfl
  rw [show c.parts.getD i default = c.part i from rfl] at e4
  obtain ⟨n, hn⟩ := Int.eq_ofNat_of_zero_le hw.1
  rw [hn] at e4
  have n16 : n ≤ 16 := by omega
  have mk := make_u16 n n16
  have hng : ¬ ((n : Int) < 0) := by omega
  have i0 : (0 : Int) ≤ (i : Int) := Int.natCast_nonneg _
  have i1 : (i : Int) < (c.parts.length : Int) := by omega
  have HN := hid_ hn
  have HL := hid_ hl
  unfold Cfg.v
  clear hn hl hrow
  go_enter Tryd.func11, Tryd.ntmps11
  go_upto_region 1 with (fail)
  refine gen_world (fun W => Below w.heap.size w W ∧ Bk W w.heap.size 28 (c.cells (.slice (some ⟨tb, tf, none⟩) c.parts.length pc) qv rv)) ⟨(Below.refl w.heap.size w).alloc (Nat.le_refl _) _, Bk.new _ _ _⟩ ?_
  rintro W ⟨hW, hB⟩
  have b8 := hB.cell_ 8 rfl
  have e4 := grown_cell hW e4
  have s1 := hW.size
  have dc := hB.cfg0
  have dcA := fun o => (hB.alloc o).cfg0
  have mkW := mk W
  have HLW := hid_ (HL.out.fr (Fr.of_below (C := C) hW (fun _ => False)) (fun h => h))
  have HHW := hid_ hW
  go_upto_region 3 with (fail)
  have e4A := fun o => cell_alloc_keep o e4
  go_region
  all_goals
    go_wp2_with fail
    go_ret2
    have hPn := Bk.new (W.alloc (.cells (u16s (List.replicate n 0)).toArray 63)) 91 (c.cells (.slice (some ⟨tb, tf, none⟩) c.parts.length pc) qv rv ++ [Value.int .i64 (i : Int), Value.slice (some ⟨W.heap.size, 0, none⟩) n n])
    rw [World.size_alloc] at hPn
    have hAl := (Bk.new W 63 (u16s (List.replicate n 0))).alloc (.cells (c.cells (.slice (some ⟨tb, tf, none⟩) c.parts.length pc) qv rv ++ [Value.int .i64 (i : Int), Value.slice (some ⟨W.heap.size, 0, none⟩) n n]).toArray 91)
    have G1 := Fr.of_below (C := C) HHW.out (fun _ => False)
    have hsz := HHW.out.size
    have G2 : Fr (fun _ => False) C (fun x => if x = W.heap.size ∨ x = W.heap.size + 1 then k else C x) w (((W.alloc (.cells (u16s (List.replicate n 0)).toArray 63)).alloc (.cells (c.cells (.slice (some ⟨tb, tf, none⟩) c.parts.length pc) qv rv ++ [Value.int .i64 (i : Int), Value.slice (some ⟨W.heap.size, 0, none⟩) n n]).toArray 91)).drew) :=
      (((G1.alloc _).alloc _).drew).recolour (fun x hx _ => if_neg (by omega)) (fun x hx => by
        have hx' : W.heap.size + 2 ≤ x := by simpa using hx
        rw [if_neg (by omega)]
        exact hf x (by omega))
    refine ⟨W.heap.size + 1, W.heap.size, (fun x => if x = W.heap.size ∨ x = W.heap.size + 1 then k else C x), rfl, by omega, G2, ?_⟩
    rw [HN.out, Int.toNat_natCast]
    exact ⟨by rw [List.length_replicate]; exact hPn.drew, by simp, HL.out.fr G2 (fun h => h), hAl.drew, by simp⟩

/-- An op: its numbers; its bytes lie elsewhere. -/
structure OpT where
  kind : Int
  port : Int
  a : Int
  b : Int
  c : Int
  d : List UInt8
  deriving Inhabited
def OpT.cells (o : OpT) (dv : Value) : List Value := [.int .u8 o.kind, .int .i64 o.port, .int .i64 o.a, .int .i64 o.b, .int .i64 o.c, dv]
def OpT.v (o : OpT) (dv : Value) : Value := .agg #[.int .u8 o.kind, .int .i64 o.port, .int .i64 o.a, .int .i64 o.b, .int .i64 o.c, dv]
def costO (o : OpT) : Int := if o.kind = 5 then (if o.a < 1 then 1 else o.a) else 1

set_option maxRecDepth 100000 in
theorem apxCost (o : OpT) (dv : Value) (w : World) :
    Calls Tryd.prog 14 #[o.v dv] w fun e w' => e = .returned (.int .i64 (costO o)) ∧ Below w.heap.size w w' := by
  obtain ⟨ck, cp, ca, cb, cc, cd⟩ := o
  unfold OpT.v costO
  simp only
  by_cases h5 : ck = 5
  · have hb : (ck == 5) = true := by simpa using h5
    rw [if_pos h5]
    by_cases h1 : ca < 1
    · rw [if_pos h1]
      clear h5
      go_enter Tryd.func14, Tryd.ntmps14
      go_wp2
      go_ret
      exact ⟨rfl, (Below.refl _ _).alloc (Nat.le_refl _) _⟩
    · rw [if_neg h1]
      clear h5
      go_enter Tryd.func14, Tryd.ntmps14
      go_wp2
      go_ret
      exact ⟨rfl, (Below.refl _ _).alloc (Nat.le_refl _) _⟩
  · have hb : (ck == 5) = false := by simpa using h5
    rw [if_neg h5]
    clear h5
    go_enter Tryd.func14, Tryd.ntmps14
    go_wp2
    go_ret
    exact ⟨rfl, (Below.refl _ _).alloc (Nat.le_refl _) _⟩

theorem info_u16 : (Tryd.prog.info? 63).map (fun i => (i.zero.map (·.cells.size), i.size, i.bytes)) = some (some 1, 1, 2) := by kernel_rfl
theorem u16s_len (l : List Int) : (u16s l).length = l.length := by unfold u16s; simp
set_option maxRecDepth 100000 in
set_option maxHeartbeats 1000000 in
theorem apxMemory (C : Nat → Nat) (k pb mb : Nat) (c : Cfg) (pv qv rv : Value) (part : Nat) (mem : List Int) (w : World) (hf : Fin C w) (h : IsApx w C k pb mb c pv qv rv part mem) (hm : mem.length ≤ 100) :
    Calls Tryd.prog 17 #[.pointer (some ⟨pb, 0, none⟩)] w fun e w' => ∃ b off cap, e = .returned (.slice (some ⟨b, off, none⟩) mem.length cap) ∧ Below w.heap.size w w' ∧ w.heap.size ≤ b ∧ Raw w' (.slice (some ⟨b, off, none⟩) mem.length cap) 63 1 mem.length (u16s mem) b := by
  obtain ⟨-, -, c12⟩ := h.cells
  have hsrc : Src w (.slice (some ⟨mb, 0, none⟩) mem.length mem.length) 1 mem.length (u16s mem) :=
    ⟨_, _, rfl, by rw [u16s_len, Nat.mul_one], fun _ => ⟨_, rfl, fun j u hu => by rw [addr_add, Nat.zero_add]; exact h.words.cell_ j hu⟩⟩
  obtain ⟨b, off, cap, w1, hr, -, hb, hge, hraw⟩ := copy_of (P := Tryd.prog) w hf Tryd.underlying71 info_u16 hsrc (by unfold maxLen; omega) (by omega)
  have HR := hid_ hr
  have c12A := fun o => cell_alloc_keep o c12
  clear hr h
  go_enter Tryd.func17, Tryd.ntmps17
  go_wp2_with (refine wpList_append_run HR.out (by rfl) (by rfl) (by rfl) (by rfl) ?_)
  go_ret
  exact ⟨b, off, cap, rfl, hb, hge, hraw⟩
end Go.Proofs.YtlgjaoijgkdmiaaDoor
