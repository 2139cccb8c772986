/- Slices whose memory is known by its colour: appending, storing, slicing. No condition. -/
import Derived.Test.YtogfbeibpfdleaaBase
import Derived.Test.YtogfbeibpfdleaaProg
import Derived.Laws.AppendOwn
import Derived.Laws.CopyRow
set_option linter.unusedSimpArgs false
set_option linter.unusedVariables false
namespace Go.Proofs.Ytogfbeibpfdleaa
open Go.RowKit Go.Maps

/-- A slice value of n elements of sz cells each, whose cells cs lie in block b, which may be written up to its capacity. -/
def Raw (w : World) (v : Value) (e : TypeId) (sz n : Nat) (cs : List Value) (b : Nat) : Prop :=
  cs.length = n * sz ∧ ∃ off cap cur, v = .slice (some ⟨b, off, none⟩) n cap ∧ n ≤ cap ∧ cap ≤ maxLen ∧ w.heap[b]? = some (.cells cur e (0, 0)) ∧ off + cap * sz ≤ cur.size ∧ ∀ i x, cs[i]? = some x → cur[off + i]? = some x

/-- As Raw, of colour k; or nil. -/
def Sl (w : World) (C : Nat → Nat) (k : Nat) (v : Value) (e : TypeId) (sz n : Nat) (cs : List Value) : Prop :=
  (v = .slice none 0 0 ∧ n = 0 ∧ cs = []) ∨ ∃ b, C b = k ∧ Raw w v e sz n cs b

theorem Raw.lt {w : World} {v : Value} {e : TypeId} {sz n : Nat} {cs : List Value} {b : Nat} (h : Raw w v e sz n cs b) : b < w.heap.size := by
  obtain ⟨_, off, cap, cur, _, _, _, h, _, _⟩ := h
  exact (Array.getElem?_eq_some_iff.1 h).1
theorem Raw.same {w w' : World} {v : Value} {e : TypeId} {sz n : Nat} {cs : List Value} {b : Nat} (h : Raw w v e sz n cs b) (hh : w'.heap[b]? = w.heap[b]?) : Raw w' v e sz n cs b := by
  obtain ⟨h0, off, cap, cur, h1, h2, h3, h4, h5, h6⟩ := h
  exact ⟨h0, off, cap, cur, h1, h2, h3, hh.trans h4, h5, h6⟩
theorem Sl.nil (w : World) (C : Nat → Nat) (k : Nat) (e : TypeId) (sz : Nat) : Sl w C k (.slice none 0 0) e sz 0 [] := .inl ⟨rfl, rfl, rfl⟩
theorem Sl.fr {K : Nat → Prop} {C C' : Nat → Nat} {w w' : World} {k : Nat} {v : Value} {e : TypeId} {sz n : Nat} {cs : List Value} (h : Sl w C k v e sz n cs) (f : Fr K C C' w w') (hk : ¬ K k) : Sl w' C' k v e sz n cs := by
  rcases h with h | ⟨b, hb, h⟩
  · exact .inl h
  · obtain ⟨f1, f2⟩ := f.block b h.lt (by rw [hb]; exact hk)
    exact .inr ⟨b, f2.trans hb, h.same f1⟩
theorem Sl.alloc {w : World} {C : Nat → Nat} {k : Nat} {v : Value} {e : TypeId} {sz n : Nat} {cs : List Value} (h : Sl w C k v e sz n cs) (o : Obj) : Sl (w.alloc o) C k v e sz n cs := by
  rcases h with h | ⟨b, hb, h⟩
  · exact .inl h
  · exact .inr ⟨b, hb, h.same (Below.heap_alloc w o b h.lt)⟩
theorem Sl.drew {w : World} {C : Nat → Nat} {k : Nat} {v : Value} {e : TypeId} {sz n : Nat} {cs : List Value} (h : Sl w C k v e sz n cs) : Sl w.drew C k v e sz n cs := h
theorem Sl.drewN {w : World} {C : Nat → Nat} {k : Nat} {v : Value} {e : TypeId} {sz n : Nat} {cs : List Value} (h : Sl w C k v e sz n cs) (m : Nat) : Sl (w.drewN m) C k v e sz n cs := h
theorem Sl.form {w : World} {C : Nat → Nat} {k : Nat} {v : Value} {e : TypeId} {sz n : Nat} {cs : List Value} (h : Sl w C k v e sz n cs) : ∃ a cap, v = .slice a n cap ∧ n ≤ cap ∧ cap ≤ maxLen ∧ cs.length = n * sz := by
  rcases h with ⟨rfl, rfl, rfl⟩ | ⟨b, _, h0, off, cap, cur, rfl, h1, h2, _⟩
  · exact ⟨_, _, rfl, Nat.le_refl _, Nat.zero_le _, by simp⟩
  · exact ⟨_, _, rfl, h1, h2, h0⟩
/-- Where an element's cells are. -/
theorem Sl.at {w : World} {C : Nat → Nat} {k : Nat} {a : Option Addr} {cap : Nat} {e : TypeId} {sz n : Nat} {cs : List Value} (h : Sl w C k (.slice a n cap) e sz n cs) (hn : 0 < n) :
    ∃ b off, a = some ⟨b, off, none⟩ ∧ C b = k ∧ b < w.heap.size ∧ ∀ i x, cs[i]? = some x → w.cell? ⟨b, off + i, none⟩ = some x := by
  rcases h with ⟨_, h1, _⟩ | ⟨b, hb, h⟩
  · omega
  · have hlt := h.lt
    obtain ⟨h0, off, cap', cur, h1, h2, h3, h4, h5, h6⟩ := h
    injection h1 with h1 _ h7
    exact ⟨b, off, h1, hb, hlt, fun i x hx => (cell_of_row w b (off + i) cur e (0, 0) h4).trans (h6 i x hx)⟩
theorem Sl.frozen {w : World} {C : Nat → Nat} {k : Nat} {b off n cap : Nat} {e : TypeId} {sz : Nat} {cs : List Value} (h : Sl w C k (.slice (some ⟨b, off, none⟩) n cap) e sz n cs) (i : Nat) : w.frozen? ⟨b, i, none⟩ = false := by
  rcases h with ⟨h, _⟩ | ⟨b', _, _, off', cap', cur, h1, _, _, h4, _, _⟩
  · cases h
  · simp only [Value.slice.injEq, Option.some.injEq, Addr.mk.injEq] at h1
    obtain ⟨⟨rfl, _⟩, _⟩ := h1
    simp [World.frozen?, h4]
/-- As a slice that is read. -/
theorem Sl.rd {w : World} {C : Nat → Nat} {v : Value} {e : TypeId} {sz n : Nat} {cs : List Value} (h : Sl w C 0 v e sz n cs) : Rd w C v sz n cs := by
  obtain ⟨a, cap, rfl, h1, h2, h3⟩ := h.form
  exact ⟨a, cap, rfl, h1, h2, h3, fun hn => by
    obtain ⟨b, off, h4, h5, h6, h7⟩ := h.at hn
    exact ⟨b, off, h4, h5, h6, h7⟩⟩

/-- A store into an element's cell. -/
theorem Sl.set {w : World} {C : Nat → Nat} {k b off n cap : Nat} {e : TypeId} {sz : Nat} {cs : List Value} (h : Sl w C k (.slice (some ⟨b, off, none⟩) n cap) e sz n cs) (i : Nat) (hi : i < n * sz) (u : Value) :
    Sl (w.setCell ⟨b, off + i, none⟩ u) C k (.slice (some ⟨b, off, none⟩) n cap) e sz n (cs.set i u) := by
  rcases h with ⟨h, _⟩ | ⟨b', hb, h0, off', cap', cur, h1, h2, h3, h4, h5, h6⟩
  · cases h
  · simp only [Value.slice.injEq, Option.some.injEq, Addr.mk.injEq, and_true] at h1
    obtain ⟨⟨rfl, rfl⟩, _, rfl⟩ := h1
    have hlt : off + i < cur.size := by
      have := Nat.mul_le_mul_right sz h2
      omega
    refine .inr ⟨b, hb, by rw [List.length_set]; exact h0, off, cap, cur.setIfInBounds (off + i) u, rfl, h2, h3, ?_, by simpa using h5, fun j x hx => ?_⟩
    · simp [World.setCell, Array.getElem?_modify, h4]
    · rw [List.getElem?_set] at hx
      split at hx
      · rename_i hij
        subst hij
        split at hx
        · cases hx
          rw [Array.getElem?_setIfInBounds_self, if_pos hlt]
        · cases hx
      · rename_i hne
        rw [Array.getElem?_setIfInBounds_ne (by omega)]
        exact h6 j x hx

theorem Raw.at {w : World} {a : Option Addr} {cap : Nat} {e : TypeId} {sz n : Nat} {cs : List Value} {b : Nat} (h : Raw w (.slice a n cap) e sz n cs b) : ∃ off, a = some ⟨b, off, none⟩ ∧ ∀ i x, cs[i]? = some x → w.cell? ((⟨b, off, none⟩ : Addr).add i) = some x := by
  obtain ⟨h0, off, cap', cur, h1, h2, h3, h4, h5, h6⟩ := h
  injection h1 with h1 _ h7
  exact ⟨off, h1, fun i x hx => by rw [addr_add]; exact (cell_of_row w b (off + i) cur e (0, 0) h4).trans (h6 i x hx)⟩

/-- What is appended: m elements, their cells. -/
def Src (w : World) (x : Value) (sz m : Nat) (news : List Value) : Prop :=
  ∃ a c, x = .slice a m c ∧ news.length = m * sz ∧ (0 < m → ∃ ad, a = some ad ∧ ∀ j u, news[j]? = some u → w.cell? (ad.add j) = some u)
theorem Src.same {w w' : World} {x : Value} {sz m : Nat} {news : List Value} (h : Src w x sz m news) (hh : ∀ a v, w.cell? a = some v → w'.cell? a = some v) : Src w' x sz m news := by
  obtain ⟨a, c, h1, h2, h3⟩ := h
  exact ⟨a, c, h1, h2, fun hm => by obtain ⟨ad, ha, h4⟩ := h3 hm; exact ⟨ad, ha, fun j u hu => hh _ _ (h4 j u hu)⟩⟩
theorem Src.alloc {w : World} {x : Value} {sz m : Nat} {news : List Value} (h : Src w x sz m news) (o : Obj) : Src (w.alloc o) x sz m news := h.same fun _ _ h => cell_alloc_keep o h
theorem Src.drew {w : World} {x : Value} {sz m : Nat} {news : List Value} (h : Src w x sz m news) : Src w.drew x sz m news := h
theorem Rd.src {w : World} {C : Nat → Nat} {v : Value} {sz n : Nat} {cs : List Value} (h : Rd w C v sz n cs) : Src w v sz n cs := by
  obtain ⟨a, cap, rfl, h1, h2, h3, h4⟩ := h
  refine ⟨a, cap, rfl, h3, fun hn => ?_⟩
  obtain ⟨b, off, rfl, _, _, h5⟩ := h4 hn
  exact ⟨_, rfl, fun j u hu => by rw [addr_add]; exact h5 j u hu⟩
theorem Sl.src {w : World} {C : Nat → Nat} {k : Nat} {v : Value} {e : TypeId} {sz n : Nat} {cs : List Value} (h : Sl w C k v e sz n cs) : Src w v sz n cs := by
  obtain ⟨a, cap, rfl, h1, h2, h3⟩ := h.form
  refine ⟨a, cap, rfl, h3, fun hn => ?_⟩
  obtain ⟨b, off, rfl, _, _, h5⟩ := h.at hn
  exact ⟨_, rfl, fun j u hu => by rw [addr_add]; exact h5 j u hu⟩
/-- A block that was just made. -/
theorem Src.new (w : World) (t : TypeId) (sz m c : Nat) (cs : List Value) (h : cs.length = m * sz) : Src (w.alloc (.cells cs.toArray t)) (.slice (some ⟨w.heap.size, 0, none⟩) m c) sz m cs :=
  ⟨_, _, rfl, h, fun _ => ⟨_, rfl, fun j u hu => by rw [addr_add, Nat.zero_add]; exact (Bk.new w t cs).cell_ j hu⟩⟩

/-- Worlds that differ in block b alone. -/
structure Upd (w w' : World) (b : Nat) : Prop where
  os : w'.os = w.os
  tape : w'.tape = w.tape
  output : w'.output = w.output
  size : w'.heap.size = w.heap.size
  block : ∀ x, x ≠ b → w'.heap[x]? = w.heap[x]?
theorem Upd.fr {w w' : World} {b k : Nat} {C : Nat → Nat} (h : Upd w w' b) (hb : C b = k) : Fr (· = k) C C w w' :=
  ⟨h.os, h.tape, h.output, by rw [h.size]; exact Nat.le_refl _, fun x _ hx => ⟨h.block x (fun e => hx (by rw [e]; exact hb)), rfl⟩, fun hf x hx => hf x (by rw [← h.size]; exact hx)⟩
theorem Upd.below {w w' : World} {b n : Nat} (h : Upd w w' b) (hb : n ≤ b) : Below n w w' :=
  ⟨h.os, h.tape, h.output, by rw [h.size]; exact Nat.le_refl _, fun x hx => h.block x (by omega)⟩

section
variable {P : Program}
theorem append_zero {w : World} {x : Value} {sz n cap : Nat} {a : Option Addr} {t ty e : TypeId} {i : TypeInfo} (ht : P.underlying t = some (.slice e)) (hi : P.info? e = some i) (hs : i.size = sz) (hc : n ≤ cap) (hx : Src w x sz 0 []) :
    (Builtin.append_ #[t, t] ty #[.slice a n cap, x]).run P w = .ok (.slice a n cap) w := by
  obtain ⟨ax, c, rfl, _, _⟩ := hx
  have hf : (Builtin.firstCells sz 0 (.slice ax 0 c)).run P w = .ok #[] w := by
    cases ax with
    | none => exact run_firstCells_none _ _ _ _ _
    | some b => exact run_firstCells_some (P := P) w sz 0 b 0 c [] (by simp) (by simp)
  subst hs
  cases a <;> simp [Builtin.append_, run_underlying ht, sizeOf, typeInfo, hi, Builtin.lenOf, hc, hf, storeCells]

theorem Raw.append_room {w : World} {x : Value} {sz n m cap b : Nat} {a : Option Addr} {cs news : List Value} {t ty e : TypeId} {i : TypeInfo} (ht : P.underlying t = some (.slice e)) (hi : P.info? e = some i) (hs : i.size = sz)
    (h : Raw w (.slice a n cap) e sz n cs b) (hx : Src w x sz m news) (hm : 0 < m) (h1 : ∀ u ∈ news, u.oneCell' = true) (hroom : n + m ≤ cap) :
    ∃ w', (Builtin.append_ #[t, t] ty #[.slice a n cap, x]).run P w = .ok (.slice a (n + m) cap) w' ∧ Raw w' (.slice a (n + m) cap) e sz (n + m) (cs ++ news) b ∧ Upd w w' b := by
  obtain ⟨ax, c, rfl, hl, h2⟩ := hx
  obtain ⟨ad, rfl, hnews⟩ := h2 hm
  obtain ⟨h0, off, cap', cur, h1', h2, h3, h4, h5, h6⟩ := h
  simp only [Value.slice.injEq, true_and] at h1'
  obtain ⟨rfl, rfl⟩ := h1'
  have hmul : (n + m) * sz ≤ cap * sz := Nat.mul_le_mul_right _ hroom
  rw [Nat.add_mul] at hmul
  have hst := run_storeCells_at P b (off + n * sz) e news 0 cur w h4 (by omega) h1
  have hf := run_firstCells_some (P := P) w sz m ad m c news hl hnews
  subst hs
  refine ⟨w.setRow b (cur.toList.take (off + n * i.size + 0) ++ news ++ cur.toList.drop (off + n * i.size + 0 + news.length)).toArray, ?_, ⟨by rw [List.length_append, h0, hl, Nat.add_mul], off, cap, _, rfl, hroom, h3, setRow_heap w b cur _ e _ h4, ?_, ?_⟩, ⟨rfl, rfl, rfl, by simp [World.setRow], fun x hx => setRow_other w b x _ hx⟩⟩
  · simp [Builtin.append_, run_underlying ht, sizeOf, typeInfo, hi, Builtin.lenOf, hroom, hf, addr_add, hst]
  · simp only [List.size_toArray, List.length_append, List.length_take, List.length_drop, Array.length_toList]
    omega
  · intro j u hu
    rw [List.getElem?_toArray, List.append_assoc, Nat.add_zero]
    have hlt : (cur.toList.take (off + n * i.size)).length = off + n * i.size := by rw [List.length_take, Array.length_toList]; omega
    rw [List.getElem?_append] at hu
    split at hu
    · rename_i hj
      rw [List.getElem?_append_left (by rw [hlt]; omega), List.getElem?_take_of_lt (by omega), Array.getElem?_toList]
      exact h6 j u hu
    · rename_i hj
      rw [List.getElem?_append_right (by rw [hlt]; omega), hlt]
      have hj' : j - n * i.size < news.length := by rw [h0] at hu; exact (List.getElem?_eq_some_iff.1 hu).1
      rw [List.getElem?_append_left (by omega), show off + j - (off + n * i.size) = j - n * i.size by omega, ← h0]
      exact hu

theorem append_grow {w : World} {x : Value} {sz n m cap : Nat} {a : Option Addr} {cs news : List Value} {t ty e : TypeId} {i : TypeInfo} {z : Value} (ht : P.underlying t = some (.slice e)) (hi : P.info? e = some i) (hs : i.size = sz) (hz : i.zero = some z) (hzs : z.cells.size = sz)
    (h0 : cs.length = n * sz) (hcs : (a = none ∧ n = 0 ∧ cap = 0) ∨ ∃ ad, a = some ad ∧ ∀ j u, cs[j]? = some u → w.cell? (ad.add j) = some u) (hx : Src w x sz m news) (hgr : cap < n + m) (hc : n ≤ cap) (h63 : n + m ≤ maxLen) (hbytes : (n + m) * i.bytes ≤ 140737488355328) :
    ∃ v' w', (Builtin.append_ #[t, t] ty #[.slice a n cap, x]).run P w = .ok v' w' ∧ Raw w' v' e sz (n + m) (cs ++ news) w.heap.size ∧ Below w.heap.size w w' ∧ w'.heap.size = w.heap.size + 1 := by
  obtain ⟨ax, c, rfl, hl, h2⟩ := hx
  have hm : 0 < m := by omega
  obtain ⟨ad, rfl, hnews⟩ := h2 hm
  have hsmall : n + m ≤ 9223372036854775807 := by simp only [maxLen] at h63; omega
  subst hs
  have hlen : (cs ++ news).length = (n + m) * i.size := by rw [List.length_append, h0, hl, Nat.add_mul]
  have fin : ∀ old, Raw (w.drew.alloc (.cells (cs.toArray ++ news.toArray ++ Builtin.zeroCells z.cells (grownCap w (n + m) old e - (n + m))) e)) (.slice (some ⟨w.heap.size, 0, none⟩) (n + m) (grownCap w (n + m) old e)) e i.size (n + m) (cs ++ news) w.heap.size ∧
      Below w.heap.size w (w.drew.alloc (.cells (cs.toArray ++ news.toArray ++ Builtin.zeroCells z.cells (grownCap w (n + m) old e - (n + m))) e)) ∧
      (w.drew.alloc (.cells (cs.toArray ++ news.toArray ++ Builtin.zeroCells z.cells (grownCap w (n + m) old e - (n + m))) e)).heap.size = w.heap.size + 1 := by
    intro old
    have hge := grownCap_ge w (n + m) old e
    have hcm : grownCap w (n + m) old e ≤ maxLen := grownCap_le_maxLen w (n + m) old e h63
    refine ⟨⟨hlen, 0, _, _, rfl, hge, hcm, heap_alloc_new w.drew _, ?_, ?_⟩, ((Below.refl _ w).drew).alloc (Nat.le_refl _) _, by simp⟩
    · simp only [Array.size_append, List.size_toArray, size_zeroCells, hzs, h0, hl, ← Nat.add_mul, Nat.zero_add]
      refine Nat.le_of_eq ?_
      congr 1
      omega
    · intro j u hu
      rw [Nat.zero_add, Array.getElem?_append_left (by
        have := (List.getElem?_eq_some_iff.1 hu).1
        simpa using this)]
      simpa using hu
  rcases hcs with ⟨rfl, rfl, rfl⟩ | ⟨b, rfl, holds⟩
  · have hx : cs = [] := List.eq_nil_of_length_eq_zero (by simpa using h0)
    subst hx
    have hr := run_append_nil (P := P) w t ty e i z ht hi hz ad m c news hl hnews hm (by omega) (by rw [Nat.zero_add] at hbytes; omega)
    have := fin 0
    simp only [Nat.zero_add, List.nil_append, Array.empty_append] at this ⊢
    exact ⟨_, _, hr, this⟩
  · have hr := run_append_grow (P := P) w t ty e i z ht hi hz b n cap cs h0 holds ad m c news hl hnews (by omega) (by omega) (growslice_fits (by omega) hbytes)
    exact ⟨_, _, hr, fin cap⟩

/-- A slice lies in no block of another element's type. -/
theorem Sl.apart {w : World} {C : Nat → Nat} {k : Nat} {v : Value} {e t : TypeId} {sz n b : Nat} {cs cells : List Value} (h : Sl w C k v e sz n cs) (hb : Bk w b t cells) (ht : t ≠ e) : v.ownBlock ≠ some b := by
  rcases h with ⟨rfl, _⟩ | ⟨b', _, _, off, cap, cur, rfl, _, _, h4, _⟩
  · simp [Value.ownBlock]
  · simp only [Value.ownBlock, ne_eq, Option.some.injEq]
    rintro rfl
    unfold Bk at hb
    rw [h4] at hb
    simp only [Option.some.injEq, Obj.cells.injEq] at hb
    exact ht hb.2.1.symm
theorem Sl.far {w : World} {C : Nat → Nat} {k : Nat} {v : Value} {e : TypeId} {sz n : Nat} {cs : List Value} (h : Sl w C k v e sz n cs) {a : Addr} (ha : v.ownBlock ≠ some a.block) (u : Value) : Sl (w.setCell a u) C k v e sz n cs := by
  rcases h with h | ⟨b, hb, h⟩
  · exact .inl h
  · refine .inr ⟨b, hb, h.same (Below.heap_setCell w a u b (fun e => ha ?_))⟩
    obtain ⟨_, off, cap, cur, rfl, _⟩ := h
    simp [Value.ownBlock, e]
/-- append onto a slice of colour k. -/
theorem Sl.append {w : World} {C : Nat → Nat} {k : Nat} {v x : Value} {sz n m : Nat} {cs news : List Value} {t e : TypeId} (ty : TypeId) {i : TypeInfo} {z : Value} (ht : P.underlying t = some (.slice e)) (hi : P.info? e = some i) (hs : i.size = sz) (hz : i.zero = some z) (hzs : z.cells.size = sz)
    (h : Sl w C k v e sz n cs) (hx : Src w x sz m news) (h1 : ∀ u ∈ news, u.oneCell' = true) (h63 : n + m ≤ maxLen) (hbytes : (n + m) * i.bytes ≤ 140737488355328) :
    ∃ v' w' C', (Builtin.append_ #[t, t] ty #[v, x]).run P w = .ok v' w' ∧ Sl w' C' k v' e sz (n + m) (cs ++ news) ∧ Fr (· = k) C C' w w' ∧ v'.oneCell' = true ∧ ∀ y, y < w.heap.size → v.ownBlock ≠ some y → w'.heap[y]? = w.heap[y]? ∧ C' y = C y := by
  obtain ⟨a, cap, rfl, hc, hcm, hl⟩ := h.form
  by_cases hm : m = 0
  · subst hm
    have hn : news = [] := by
      obtain ⟨_, _, _, h2, _⟩ := hx
      exact List.eq_nil_of_length_eq_zero (by simpa using h2)
    subst hn
    exact ⟨_, w, C, append_zero ht hi hs hc hx, by simpa using h, Fr.refl _ _ _, rfl, fun _ _ _ => ⟨rfl, rfl⟩⟩
  · by_cases hroom : n + m ≤ cap
    · rcases h with ⟨h, _, _⟩ | ⟨b, hb, h⟩
      · simp only [Value.slice.injEq] at h
        omega
      · obtain ⟨w', hr, h', hu⟩ := Raw.append_room (ty := ty) ht hi hs h hx (by omega) h1 hroom
        refine ⟨_, w', C, hr, .inr ⟨b, hb, h'⟩, hu.fr hb, rfl, fun y _ hy => ⟨hu.block y (fun e => hy ?_), rfl⟩⟩
        obtain ⟨off, rfl, _⟩ := h.at
        simp [Value.ownBlock, e]
    · have hcs : (a = none ∧ n = 0 ∧ cap = 0) ∨ ∃ ad, a = some ad ∧ ∀ j u, cs[j]? = some u → w.cell? (ad.add j) = some u := by
        rcases h with ⟨h, _, _⟩ | ⟨b, hb, h⟩
        · simp only [Value.slice.injEq] at h
          exact .inl h
        · obtain ⟨off, h1, h2⟩ := h.at
          exact .inr ⟨_, h1, h2⟩
      obtain ⟨v', w', hr, h', hb', hsz⟩ := append_grow (ty := ty) ht hi hs hz hzs hl hcs hx (by omega) hc h63 hbytes
      refine ⟨v', w', fun y => if y = w.heap.size then k else C y, hr, .inr ⟨_, by simp, h'⟩, ?_, ?_, fun y hy _ => ⟨hb'.block y hy, if_neg (by omega)⟩⟩
      rotate_left
      · obtain ⟨_, _, _, _, rfl, _⟩ := h'
        rfl
      refine ⟨hb'.os, hb'.tape, hb'.output, hb'.size, fun y hy _ => ⟨hb'.block y hy, if_neg (by omega)⟩, fun hf y hy => ?_⟩
      have : y ≠ w.heap.size := by omega
      rw [if_neg this]
      exact hf y (by omega)

/-- append onto an empty slice without room: what is new has no colour yet. -/
theorem append_fresh {w : World} {C : Nat → Nat} {x : Value} {b sz m : Nat} {cur : Array Value} {news : List Value} {t e : TypeId} (ty : TypeId) {i : TypeInfo} {z : Value} (ht : P.underlying t = some (.slice e)) (hi : P.info? e = some i) (hs : i.size = sz) (hz : i.zero = some z) (hzs : z.cells.size = sz)
    (hb : w.heap[b]? = some (.cells cur e (0, 0))) (hx : Src w x sz m news) (h63 : m ≤ maxLen) (hbytes : m * i.bytes ≤ 140737488355328) :
    ∃ v' w' b', (Builtin.append_ #[t, t] ty #[.slice (some ⟨b, 0, none⟩) 0 0, x]).run P w = .ok v' w' ∧ Raw w' v' e sz m news b' ∧ Below w.heap.size w w' ∧ (b' = b ∧ m = 0 ∧ w' = w ∨ b' = w.heap.size) := by
  by_cases hm : m = 0
  · subst hm
    have hn : news = [] := by
      obtain ⟨_, _, _, h2, _⟩ := hx
      exact List.eq_nil_of_length_eq_zero (by simpa using h2)
    subst hn
    exact ⟨_, w, b, append_zero ht hi hs (Nat.le_refl _) hx, ⟨by simp, 0, 0, cur, rfl, Nat.le_refl _, Nat.zero_le _, hb, by simp, by simp⟩, Below.refl _ _, .inl ⟨rfl, rfl, rfl⟩⟩
  · obtain ⟨v', w', hr, h', hb', hsz⟩ := append_grow (cs := []) (n := 0) (cap := 0) (ty := ty) ht hi hs hz hzs (by simp) (.inr ⟨⟨b, 0, none⟩, rfl, fun j u hu => by simp at hu⟩) hx (by omega) (Nat.le_refl _) (by omega) (by rw [Nat.zero_add]; exact hbytes)
    rw [Nat.zero_add, List.nil_append] at h'
    exact ⟨v', w', _, hr, h', hb', .inr rfl⟩
/-- append, at a plain region's operation, by its run. -/
theorem wp_append_run {w w' : World} {o : Oper} {a : Act} {K : Act → World → Prop} {Q : Exit → Act → World → Prop} {s x : Operand} {t u ty : TypeId} {vs vx v' : Value}
    (hr : (Builtin.append_ #[t, u] ty #[vs, vx]).run P w = .ok v' w') (ho : o.op = .call { callee := .builtin .append, args := #[s, x], argTypes := #[t, u] }) (hs : a.eval s = vs) (hx : a.eval x = vx)
    (h : K (a.put o.dst v') w') : o.wp P a w K Q := by
  have hr' : (Builtin.append_ #[t, u] o.type #[vs, vx]).run P w = .ok v' w' := hr
  unfold Oper.wp execOp
  simp only [ho, resolve, invoke, builtin, Sem.run_bind, Sem.run_pure, Result.andThen_ok, List.map_toArray, List.map_cons, List.map_nil, hs, hx, hr']
  exact h
theorem wpList_append_run {w w' : World} {ops : Array Oper} {rest : List Oper} {o : Oper} {a : Act} {Q : Exit → Act → World → Prop} {s x : Operand} {t u ty : TypeId} {vs vx v' : Value}
    (hr : (Builtin.append_ #[t, u] ty #[vs, vx]).run P w = .ok v' w') (hgd : o.guard = none) (ho : o.op = .call { callee := .builtin .append, args := #[s, x], argTypes := #[t, u] }) (hs : a.eval s = vs) (hx : a.eval x = vx)
    (h : wpList P ops Q rest (a.put o.dst v') w') : wpList P ops Q (o :: rest) a w :=
  wpList_plain hgd fun _ hK => wp_append_run hr ho hs hx (hK _ _ h)
theorem step_append_run {w w' : World} {ops : Array Oper} {o : Oper} {a : Act} {K : Act → World → Prop} {Q : Exit → Act → World → Prop} {E : Prop} {s x : Operand} {t u ty : TypeId} {vs vx v' : Value}
    (hr : (Builtin.append_ #[t, u] ty #[vs, vx]).run P w = .ok v' w') (hgd : o.guard = none) (ho : o.op = .call { callee := .builtin .append, args := #[s, x], argTypes := #[t, u] }) (hs : a.eval s = vs) (hx : a.eval x = vx)
    (h : K (a.put o.dst v') w') : if Region.wanted o (yielded ops a.tmps) = true then Oper.wp P o a w K Q else E := by
  have hw : Region.wanted o (yielded ops a.tmps) = true := by simp [Region.wanted, hgd]
  rw [if_pos hw]
  exact wp_append_run hr ho hs hx h
end
/-- What is read of a Raw slice. -/
theorem Raw.rd {w : World} {C : Nat → Nat} {v : Value} {e : TypeId} {sz n : Nat} {cs : List Value} {b : Nat} (h : Raw w v e sz n cs b) (hb : C b = 0) : Rd w C v sz n cs :=
  Sl.rd (.inr ⟨b, hb, h⟩)
/-- All elements but the first. -/
theorem Sl.tail {w : World} {C : Nat → Nat} {k b off n cap : Nat} {e : TypeId} {sz : Nat} {xs cs : List Value} (h : Sl w C k (.slice (some ⟨b, off, none⟩) (n + 1) cap) e sz (n + 1) (xs ++ cs)) (hx : xs.length = sz) :
    Sl w C k (.slice (if cap = 1 then some ⟨b, off, none⟩ else some ⟨b, off + sz, none⟩) n (cap - 1)) e sz n cs := by
  rcases h with ⟨h, _⟩ | ⟨b', hb, h0, off', cap', cur, h1, h2, h3, h4, h5, h6⟩
  · cases h
  · simp only [Value.slice.injEq, Option.some.injEq, Addr.mk.injEq, and_true] at h1
    obtain ⟨⟨rfl, rfl⟩, _, rfl⟩ := h1
    have hl : cs.length = n * sz := by rw [List.length_append, hx, Nat.add_mul] at h0; omega
    by_cases hc : cap = 1
    · subst hc
      have hn : n = 0 := by omega
      subst hn
      have : cs = [] := List.eq_nil_of_length_eq_zero (by simpa using hl)
      subst this
      exact .inr ⟨b, hb, by simp, off, 0, cur, by simp, Nat.le_refl _, Nat.zero_le _, h4, by omega, by simp⟩
    · have hm : (cap - 1) * sz + sz = cap * sz := by rw [← Nat.succ_mul]; congr 1; omega
      refine .inr ⟨b, hb, hl, off + sz, cap - 1, cur, by rw [if_neg hc], by omega, by omega, h4, by omega, fun j x hj => ?_⟩
      have := h6 (sz + j) x (by rw [List.getElem?_append_right (by omega), hx, show sz + j - sz = j by omega]; exact hj)
      rw [show off + sz + j = off + (sz + j) by omega]
      exact this
theorem info_row {P : Program} {e : TypeId} {size bytes : Nat} (h : (P.info? e).map (fun i => (i.zero.map (·.cells.size), i.size, i.bytes)) = some (some size, size, bytes)) :
    ∃ i z, P.info? e = some i ∧ i.zero = some z ∧ z.cells.size = size ∧ i.size = size ∧ i.bytes = bytes := by
  cases hi : P.info? e with
  | none => rw [hi] at h; cases h
  | some i =>
    rw [hi] at h
    simp only [Option.map_some, Option.some.injEq, Prod.mk.injEq] at h
    cases hz : i.zero with
    | none => rw [hz] at h; simp at h
    | some z =>
      rw [hz] at h
      simp only [Option.map_some, Option.some.injEq] at h
      exact ⟨i, z, rfl, hz, h.1, h.2.1, h.2.2⟩
/-- append([]T{}, xs...): a copy. -/
theorem copy_of {P : Program} {C : Nat → Nat} {t e : TypeId} {sz bytes n : Nat} {v : Value} {cs : List Value} (w : World) (hf : Fin C w) (ht : P.underlying t = some (.slice e)) (hi : (P.info? e).map (fun i => (i.zero.map (·.cells.size), i.size, i.bytes)) = some (some sz, sz, bytes))
    (hx : Src w v sz n cs) (h63 : n ≤ maxLen) (hbytes : n * bytes ≤ 140737488355328) :
    ∃ b off cap w', (Builtin.append_ #[t, t] 0 #[.slice (some ⟨w.heap.size, 0, none⟩) 0 0, v]).run P (w.alloc (.cells #[] e)) = .ok (.slice (some ⟨b, off, none⟩) n cap) w' ∧
      Rd w' C (.slice (some ⟨b, off, none⟩) n cap) sz n cs ∧ Below w.heap.size w w' ∧ w.heap.size ≤ b ∧ Raw w' (.slice (some ⟨b, off, none⟩) n cap) e sz n cs b := by
  obtain ⟨i, z, hi, hz, hzs, hs, hb⟩ := info_row hi
  obtain ⟨v1, w', b, hr, hraw, hbel, hwh⟩ := append_fresh (P := P) (C := C) (t := t) 0 ht hi hs hz hzs (w := w.alloc (.cells #[] e)) (b := w.heap.size) (Bk.new _ _ []) (hx.alloc _) h63 (by rw [hb]; exact hbytes)
  have hge : w.heap.size ≤ b := by rcases hwh with ⟨rfl, _⟩ | rfl <;> simp
  obtain ⟨off, cap, rfl⟩ : ∃ off cap, v1 = .slice (some ⟨b, off, none⟩) n cap := by obtain ⟨_, o, c, _, h, _⟩ := hraw; exact ⟨o, c, h⟩
  exact ⟨b, off, cap, w', hr, hraw.rd (hf b hge), below_then ((Below.refl _ w).alloc (Nat.le_refl _) _) hbel, hge, hraw⟩
end Go.Proofs.Ytogfbeibpfdleaa
