/- PortsPlay's plain law: what a node's ports hold stays small, whatever is called. No condition but that the tables work. · PortsPlay: what is in memory; calls of nil ports; errors read. No condition. · PortsPlay: for every table, node and calls the law returns true, and leaves memory as it was. No condition. · PortsPlay: for every table, node and calls the law returns true, and leaves memory as it was: where all is right. No condition. -/
import Derived.Test.YtogfbeibpfdleaaPCPlain
import Derived.Test.YtogfbeibpfdleaaPTot
import Derived.Test.YtogfbeibpfdleaaPWrongK
import Derived.Test.YtogfbeibpfdleaaPSameK
import Derived.Test.YtogfbeibpfdleaaRPK
import Derived.Test.YtogfbeibpfdleaaRPD
import Derived.Test.YtogfbeibpfdleaaPDeliver2
set_option linter.unusedSimpArgs false
set_option linter.unusedVariables false
namespace Go.Proofs.Ytogfbeibpfdleaa
open Go.RowKit Go.Maps

/-- Ages are moderate. -/
def Ages (st : List PSt) : Prop := ∀ i, i < st.length → 0 ≤ (st.getD i default).age ∧ (st.getD i default).age ≤ 9
theorem getD_set' (st : List PSt) (i j : Nat) (s : PSt) (hj : j < st.length) : (st.set i s).getD j default = if i = j then s else st.getD j default := by
  rw [List.getD_eq_getElem?_getD, List.getElem?_set]
  split
  · rename_i h
    subst h
    rw [if_pos hj]
    rfl
  · rw [List.getD_eq_getElem?_getD]
theorem Ages.set {st : List PSt} (h : Ages st) (i : Nat) (s : PSt) (hs : 0 ≤ s.age ∧ s.age ≤ 9) : Ages (st.set i s) := fun j hj => by
  rw [List.length_set] at hj
  rw [getD_set' _ _ _ _ hj]
  split
  · exact hs
  · exact h j hj
theorem Ages.at {st : List PSt} (h : Ages st) (i : Nat) : 0 ≤ (st.getD i default).age ∧ (st.getD i default).age ≤ 9 := by
  by_cases hi : i < st.length
  · exact h i hi
  · rw [List.getD_eq_getElem?_getD, List.getElem?_eq_none (by omega)]
    exact ⟨by decide, by decide⟩
theorem Inv.set {c : Cfg} {st : List PSt} (h : Inv c st) (i : Nat) (s : PSt) (hs : s.q.length ≤ 4 ∧ ∀ x ∈ s.q, x.length ≤ 16) : Inv c (st.set i s) := by
  refine ⟨by rw [List.length_set]; exact h.1, fun j hj => ?_⟩
  rw [List.length_set] at hj
  rw [getD_set' _ _ _ _ hj]
  split
  · exact hs
  · exact h.2 j hj
theorem Inv.at {c : Cfg} {st : List PSt} (h : Inv c st) (i : Nat) : (st.getD i default).q.length ≤ 4 ∧ ∀ x ∈ (st.getD i default).q, x.length ≤ 16 := by
  by_cases hi : i < st.length
  · exact h.2 i hi
  · rw [List.getD_eq_getElem?_getD, List.getElem?_eq_none (by omega)]
    refine ⟨Nat.zero_le _, fun x hx => ?_⟩
    cases hx
/-- What is kept. -/
def Kept (c : Cfg) (st : List PSt) : Prop := Inv c st ∧ Ages st
theorem kept0 (c : Cfg) : Kept c (st0 c.ports.length) := by
  refine ⟨inv0 c, fun i hi => ?_⟩
  unfold st0
  rw [List.getD_eq_getElem?_getD, List.getElem?_replicate]
  split <;> exact ⟨by decide, by decide⟩
theorem kept_write {c : Cfg} (hg : Good c) {st : List PSt} (h : Kept c st) (node part port : Int) (d : List UInt8) : Kept c (writeS c node part port d st) := by
  unfold writeS
  cases hE : writeE c node part port d st with
  | some x => exact h
  | none =>
    unfold writeE at hE
    cases hF : findE c node part port true with
    | some x => rw [hF] at hE; cases hE
    | none =>
      obtain ⟨i, j, rfl, rfl, hj, hi, hil, rfl, ho⟩ := findE_none hg hF
      rw [hF] at hE
      simp only [Int.toNat_natCast] at hE ⊢
      have hp := hg.ports j hj
      unfold portOk inb at hp
      split at hE
      · cases hE
      · rename_i h1
        unfold putSt
        by_cases h2 : (c.port j).kind = 1
        · rw [if_pos h2]
          rw [if_pos h2] at hp
          simp only [Bool.and_eq_true, decide_eq_true_eq] at hp
          exact ⟨h.1.set _ _ ⟨by simp, fun x hx => by simp at hx; subst hx; omega⟩, h.2.set _ _ (h.2.at j)⟩
        · rw [if_neg h2] at hE hp ⊢
          split at hE
          · cases hE
          · rename_i h3
            split at hp
            · simp only [Bool.and_eq_true, decide_eq_true_eq] at hp
              refine ⟨h.1.set _ _ ⟨by rw [List.length_append, List.length_singleton]; omega, fun x hx => ?_⟩, h.2.set _ _ (h.2.at j)⟩
              rcases List.mem_append.1 hx with h4 | h4
              · exact (h.1.at j).2 x h4
              · simp at h4; subst h4; omega
            · simp at hp
theorem kept_read {c : Cfg} {st : List PSt} (h : Kept c st) (node part port : Int) : Kept c (readS c node part port st) := by
  unfold readS
  cases hE : readE c node part port st with
  | some x => exact h
  | none =>
    simp only
    split
    · exact h
    · refine ⟨h.1.set _ _ ⟨by rw [List.length_tail]; have := (h.1.at port.toNat).1; omega, fun x hx => (h.1.at port.toNat).2 x (List.mem_of_mem_tail hx)⟩, h.2.set _ _ (h.2.at _)⟩
theorem kept_seal {c : Cfg} {st : List PSt} (h : Kept c st) (node : Int) : ∀ n, Kept c (sealSt c node st n)
  | 0 => h
  | n + 1 => by
    unfold sealSt
    split
    · exact ⟨(kept_seal h node n).1.set _ _ ⟨by simp, by simp⟩, (kept_seal h node n).2.set _ _ ((kept_seal h node n).2.at n)⟩
    · exact kept_seal h node n
theorem ages_put {c : Cfg} {st : List PSt} (h : Ages st) (j : Nat) (d : List UInt8) : Ages (putS c st j d) := by
  unfold putS putIn
  split
  · split
    · exact h.set _ _ ⟨by show (0 : Int) ≤ 0; omega, by show (0 : Int) ≤ 9; omega⟩
    · exact h.set _ _ (h.at j)
  · exact h
theorem ages_via {c : Cfg} {st : List PSt} (h : Ages st) (node : Int) (p : Nat) (d : List UInt8) : ∀ n, Ages (viaR c node st p d n).1
  | 0 => h
  | n + 1 => by
    unfold viaR
    simp only
    split
    · exact ages_put (ages_via h node p d n) _ _
    · exact ages_via h node p d n
theorem ages_deliv {c : Cfg} {st : List PSt} (h : Ages st) (node src : Int) (ms : List Msg) : ∀ n, Ages (delivR c node src st ms n).1
  | 0 => h
  | n + 1 => by
    unfold delivR
    simp only
    split
    · exact ages_via (ages_deliv h node src ms n) _ _ _ _
    · exact ages_deliv h node src ms n
theorem kept_deliv {c : Cfg} (hg : Good c) {st : List PSt} (h : Kept c st) (node src : Int) (ms : List Msg) (n : Nat) : Kept c (delivR c node src st ms n).1 := ⟨delivR_inv hg h.1 node src ms n, ages_deliv h.2 node src ms n⟩
theorem kept_age {c : Cfg} {st : List PSt} (h : Kept c st) : ∀ n, Kept c (ageSt st n)
  | 0 => h
  | n + 1 => by
    have ih := kept_age h n
    unfold ageSt
    have ha := ih.2.at n
    exact ⟨ih.1.set _ _ (ih.1.at n), ih.2.set _ _ (by show 0 ≤ ageUp _ ∧ ageUp _ ≤ 9; unfold ageUp; split <;> omega)⟩
theorem kept_clear {c : Cfg} {st : List PSt} (h : Kept c st) (part : Int) : ∀ n, Kept c (clearSt c part st n)
  | 0 => h
  | n + 1 => by
    unfold clearSt
    split
    · exact ⟨(kept_clear h part n).1.set _ _ ⟨by simp, by simp⟩, (kept_clear h part n).2.set _ _ ⟨by decide, by decide⟩⟩
    · exact kept_clear h part n
/-- Errors' places are places. -/
def OkE (E : Option (Int × Int)) : Prop := ∀ x, E = some x → (1 ≤ x.1 ∧ x.1 ≤ 1000) ∧ -1 ≤ x.2 ∧ x.2 ≤ 9223372036854775807
theorem findE_ok (c : Cfg) (node part port : Int) (out : Bool) (hp : I64 port) : OkE (findE c node part port out) := by
  intro x hx
  unfold findE at hx
  obtain ⟨h1, h2⟩ := hp
  split at hx
  · injection hx with hx
    subst hx
    refine ⟨⟨by simp only; omega, by simp only; omega⟩, ?_, ?_⟩
    · simp only; split <;> omega
    · simp only; split <;> omega
  · rename_i hn
    split at hx
    · injection hx with hx
      subst hx
      exact ⟨⟨by simp only; omega, by simp only; omega⟩, by simp only; omega, by simp only; omega⟩
    · cases hx
theorem writeE_ok (c : Cfg) (hg : Good c) (node part port : Int) (d : List UInt8) (st : List PSt) (hp : I64 port) : OkE (writeE c node part port d st) := by
  intro x hx
  have hf := findE_ok c node part port true hp
  unfold writeE at hx
  cases hF : findE c node part port true with
  | some y => rw [hF] at hx hf; exact hf x hx
  | none =>
    obtain ⟨i, j, rfl, rfl, hj, -⟩ := findE_none hg hF
    rw [hF] at hx
    obtain ⟨h1, h2⟩ := hp
    simp only at hx
    split at hx
    · injection hx with hx
      subst hx
      exact ⟨⟨by simp only; omega, by simp only; omega⟩, by simp only; omega, by simp only; omega⟩
    · split at hx
      · cases hx
      · split at hx
        · injection hx with hx
          subst hx
          exact ⟨⟨by simp only; omega, by simp only; omega⟩, by simp only; omega, by simp only; omega⟩
        · cases hx
theorem readE_ok (c : Cfg) (hg : Good c) (node part port : Int) (st : List PSt) (hp : I64 port) : OkE (readE c node part port st) := by
  intro x hx
  have hf := findE_ok c node part port false hp
  unfold readE at hx
  cases hF : findE c node part port false with
  | some y => rw [hF] at hx hf; exact hf x hx
  | none =>
    obtain ⟨i, j, rfl, rfl, hj, -⟩ := findE_none hg hF
    rw [hF] at hx
    obtain ⟨h1, h2⟩ := hp
    simp only at hx
    split at hx
    · injection hx with hx
      subst hx
      exact ⟨⟨by simp only; omega, by simp only; omega⟩, by simp only; omega, by simp only; omega⟩
    · cases hx
theorem sealMs_d {c : Cfg} {st : List PSt} (hi : Inv c st) (node : Int) : ∀ n, n ≤ st.length → ∀ m ∈ sealMs c node st n, m.d.length ≤ 16
  | 0, _ => by simp [sealMs]
  | n + 1, h => by
    intro m hm
    unfold sealMs at hm
    rcases List.mem_append.1 hm with h1 | h1
    · exact sealMs_d hi node n (by omega) m h1
    · split at h1
      · obtain ⟨d, hd, rfl⟩ := List.mem_map.1 h1
        exact (hi.2 n (by omega)).2 d hd
      · cases h1
end Go.Proofs.Ytogfbeibpfdleaa
namespace Go.Proofs.Ytogfbeibpfdleaa
open Go.RowKit Go.Maps

/-- A call that came in. -/
structure ActT where
  kind : Int
  part : Int
  port : Int
  src : Int
  dv : Value
  d : List UInt8
  lv : Value
  l : List (Value × Msg)
  deriving Inhabited
def ActT.cells (a : ActT) : List Value := [.int .i64 a.kind, .int .i64 a.part, .int .i64 a.port, .int .i64 a.src, a.dv, a.lv]
def ActT.ms (a : ActT) : List Msg := a.l.map fun p => p.2
def ActT.mc (a : ActT) : List Value := a.l.flatMap fun p => [.int .i64 p.2.port, p.1]
structure ActOk (W : World) (C : Nat → Nat) (a : ActT) : Prop where
  part : I64 a.part
  port : I64 a.port
  src : I64 a.src
  data : IsBytes W C a.dv a.d
  dlen : a.d.length ≤ 140737488355328
  list : Rd W C a.lv 2 a.ms.length a.mc
  msgs : IsMsgs W C a.mc a.ms
  mlen : ∀ i, i < a.ms.length → (a.ms.getD i default).d.length ≤ 140737488355328
theorem ActOk.fr {K : Nat → Prop} {C C' : Nat → Nat} {W W' : World} {a : ActT} (h : ActOk W C a) (f : Fr K C C' W W') (hk : ¬ K 0) : ActOk W' C' a :=
  ⟨h.part, h.port, h.src, Rd.fr h.data f hk, h.dlen, h.list.fr f hk, h.msgs.fr f hk, h.mlen⟩
/-- The two objects side by side. -/
structure PS (w : World) (c : Cfg) (pu qu ru pv qv rv : Value) (node : Int) (b ab rb rab : Nat) (C : Nat → Nat) (lv lv2 : Nat → Value) (s s2 : List PSt) (W : World) : Prop where
  T : Fr (· ≠ 0) (fun _ => 0) C w W
  p : IsPorts W C 100 b ab c pu qu ru node lv s
  q : IsRPs W C 300 rb rab c pv qv rv node lv2 s2
section
variable {w W W' : World} {c : Cfg} {pu qu ru pv qv rv : Value} {node : Int} {b ab rb rab : Nat} {C C' : Nat → Nat} {lv lv2 : Nat → Value} {s s2 : List PSt}
theorem PS.fin (h : PS w c pu qu ru pv qv rv node b ab rb rab C lv lv2 s s2 W) : Fin C W := h.T.Fin (fin0 w)
theorem PS.fr {K : Nat → Prop} (h : PS w c pu qu ru pv qv rv node b ab rb rab C lv lv2 s s2 W) (hg : Good c) (f : Fr K C C' W W') (hK : ∀ x, K x → x ≠ 0 ∧ (x < 100 ∨ 200 ≤ x) ∧ (x < 300 ∨ 400 ≤ x)) : PS w c pu qu ru pv qv rv node b ab rb rab C' lv lv2 s s2 W' :=
  ⟨h.T.trans (f.mono (fun x hx => (hK x hx).1)), h.p.fr f (fun x hx => by have := hK x hx; omega) (by rw [h.p.len]; exact hg.nq), h.q.fr f (fun x hx => by have := hK x hx; omega) (by rw [h.q.len]; exact hg.nq)⟩
theorem PS.below (h : PS w c pu qu ru pv qv rv node b ab rb rab C lv lv2 s s2 W) (hg : Good c) (V : Below W.heap.size W W') : PS w c pu qu ru pv qv rv node b ab rb rab C lv lv2 s s2 W' :=
  h.fr hg (Fr.of_below V (fun _ => False)) (fun x hx => hx.elim)
theorem PS.left {K : Nat → Prop} {lv' : Nat → Value} {s' : List PSt} (h : PS w c pu qu ru pv qv rv node b ab rb rab C lv lv2 s s2 W) (hg : Good c) (f : Fr K C C' W W') (hK : ∀ x, K x → x ≠ 0 ∧ (x < 300 ∨ 400 ≤ x)) (p : IsPorts W' C' 100 b ab c pu qu ru node lv' s') : PS w c pu qu ru pv qv rv node b ab rb rab C' lv' lv2 s' s2 W' :=
  ⟨h.T.trans (f.mono (fun x hx => (hK x hx).1)), p, h.q.fr f (fun x hx => by have := hK x hx; omega) (by rw [h.q.len]; exact hg.nq)⟩
theorem PS.right {K : Nat → Prop} {lv' : Nat → Value} {s' : List PSt} (h : PS w c pu qu ru pv qv rv node b ab rb rab C lv lv2 s s2 W) (hg : Good c) (f : Fr K C C' W W') (hK : ∀ x, K x → x ≠ 0 ∧ (x < 100 ∨ 200 ≤ x)) (q : IsRPs W' C' 300 rb rab c pv qv rv node lv' s') : PS w c pu qu ru pv qv rv node b ab rb rab C' lv lv' s s' W' :=
  ⟨h.T.trans (f.mono (fun x hx => (hK x hx).1)), h.p.fr f (fun x hx => by have := hK x hx; omega) (by rw [h.p.len]; exact hg.nq), q⟩
end
/-- The loop's relation. -/
def PlayR (w : World) (c : Cfg) (pu qu ru pv qv rv : Value) (node : Int) (b ab rb rab : Nat) (st : List PSt) (W : World) : Prop :=
  Kept c st ∧ ∃ C lv lv2, PS w c pu qu ru pv qv rv node b ab rb rab C lv lv2 st st W
theorem Kept.q4 {c : Cfg} {st : List PSt} (h : Kept c st) : ∀ i, i < st.length → (st.getD i default).q.length ≤ 4 := fun i hi => (h.1.2 i hi).1
theorem Kept.b16 {c : Cfg} {st : List PSt} (h : Kept c st) (j : Nat) : ∀ x ∈ (st.getD j default).q, x.length ≤ 140737488355328 := fun x hx => by have := (h.1.at j).2 x hx; omega
/-- What Read leaves; no block gets another colour. -/
def ReadQ (c : Cfg) (C : Nat → Nat) (k b ab : Nat) (pv qv rv : Value) (node : Int) (D : Option (List UInt8 × Bool)) (E : Option (Int × Int)) (st' : List PSt) (w : World) (e : Ending) (w' : World) : Prop :=
  ∃ v fv ev lv', e = .returned (.tuple #[v, fv, ev]) ∧ ReadV w' C v fv D ∧ ErrO w w' ev E ∧ Fr (fun x => k ≤ x ∧ x < k + 100) C C w w' ∧ IsPorts w' C k b ab c pv qv rv node lv' st'
theorem portsReadC (c : Cfg) (hg : Good c) (C : Nat → Nat) (k b ab : Nat) (hk : k ≠ 0) (hab : ab ≠ b) (pv qv rv : Value) (node part port : Int) (lv : Nat → Value) (st : List PSt) (w : World) (hf : Fin C w) (h : IsPorts w C k b ab c pv qv rv node lv st) (hbytes : ∀ j, ∀ x ∈ (st.getD j default).q, x.length ≤ 140737488355328) :
    Calls Try.prog 16 #[.pointer (some ⟨b, 0, none⟩), .int .i64 part, .int .i64 port] w (ReadQ c C k b ab pv qv rv node (readD c node part port st) (readE c node part port st) (readS c node part port st) w) := by
  have keep : ∀ (x : Int × Int) (e : Ending) (w' : World), readE c node part port st = some x → (∃ ev, e = .returned (.tuple #[.slice none 0 0, .bool false, ev]) ∧ Below w.heap.size w w' ∧ ErrO w w' ev (some x)) → ReadQ c C k b ab pv qv rv node (readD c node part port st) (readE c node part port st) (readS c node part port st) w e w' := by
    rintro x e w' hx ⟨ev, he, hb, hE⟩
    have f := Fr.of_below (C := C) hb (fun _ => False)
    refine ⟨_, _, ev, lv, he, ?_, by rw [hx]; exact hE, f.mono (fun _ h => h.elim), ?_⟩
    · unfold readD
      rw [hx]
      exact ⟨rfl, rfl⟩
    · unfold readS
      rw [hx]
      exact h.fr f (fun x hx => hx.elim) (by rw [h.len]; exact nq24 hg)
  cases hF : findE c node part port false with
  | some x =>
    have hx : readE c node part port st = some x := by unfold readE; rw [hF]
    exact (read_bad c hg C k b ab pv qv rv node part port lv st w h x hF).mono fun e w' hh => keep x e w' hx hh
  | none =>
    obtain ⟨i, j, rfl, rfl, hj, hi, hil, rfl, ho⟩ := findE_none hg hF
    by_cases h1 : (st.getD j default).q = []
    · have hx : readE c (c.part i).node i j st = some (10, (j : Int)) := by unfold readE; rw [hF]; simp only [Int.toNat_natCast]; rw [if_pos h1]
      exact (read_empty c hg C k b ab hk hab pv qv rv i j lv st w hf h hj hi hil ho h1).mono fun e w' hh => keep _ e w' hx hh
    · have hx : readE c (c.part i).node i j st = none := by unfold readE; rw [hF]; simp only [Int.toNat_natCast]; rw [if_neg h1]
      by_cases h2 : (c.port j).kind = 1
      · refine (read_samp c hg C k b ab hk hab pv qv rv i j lv st w hf h hj hi hil ho (hbytes j) h1 h2).mono fun e w' hh => ?_
        obtain ⟨v, d, q, hq, he, hv, hb⟩ := hh
        have f := Fr.of_below (C := C) hb (fun _ => False)
        refine ⟨_, _, _, lv, he, ?_, by rw [hx]; rfl, f.mono (fun _ h => h.elim), ?_⟩
        · unfold readD
          rw [hx]
          simp only [Int.toNat_natCast]
          rw [if_pos h2, hq]
          exact ⟨hv, rfl⟩
        · unfold readS
          rw [hx]
          simp only [Int.toNat_natCast]
          rw [if_pos h2]
          exact h.fr f (fun x hx => hx.elim) (by rw [h.len]; exact nq24 hg)
      · refine (read_queue c hg C k b ab hk hab pv qv rv i j lv st w hf h hj hi hil ho (hbytes j) h1 h2).mono fun e w' hh => ?_
        obtain ⟨v, d, q, hq, he, hv, lv', hfr, hp⟩ := hh
        refine ⟨_, _, _, lv', he, ?_, by rw [hx]; rfl, hfr, ?_⟩
        · unfold readD
          rw [hx]
          simp only [Int.toNat_natCast]
          rw [if_neg h2, hq]
          exact ⟨hv, rfl⟩
        · unfold readS
          rw [hx]
          simp only [Int.toNat_natCast]
          rw [if_neg h2, hq]
          exact hp
/-- An error that is read. -/
theorem read_err {w w' : World} {ev : Value} {E : Option (Int × Int)} (hE : OkE E) (h : ErrO w w' ev E) (W : World) (V : Below w'.heap.size w' W) :
    Calls Try.prog 17 #[ev] W fun e W' => e = .returned (.string ⟨(refT E).toArray⟩) ∧ Below W.heap.size W W' := by
  cases E with
  | none =>
    obtain rfl : ev = .nilIface := h
    exact read_nil W
  | some x =>
    obtain ⟨cc, aa⟩ := x
    obtain ⟨fb, rfl, hge, hB⟩ := h
    obtain ⟨h1, h2⟩ := hE _ rfl
    exact read_wide cc aa h1 h2 fb W (hB.same (V.block _ hB.lt))
theorem ReadV.any {w : World} {C : Nat → Nat} {v fv : Value} {D : Option (List UInt8 × Bool)} (h : ReadV w C v fv D) : IsBytes w C v (D.getD ([], false)).1 ∧ fv = .bool (D.getD ([], false)).2 := by
  cases D with
  | none => obtain ⟨rfl, rfl⟩ := h; exact ⟨rd_nil _ _ _, rfl⟩
  | some x => exact h
set_option maxRecDepth 100000 in
theorem seal_nil (w : World) : Calls Try.prog 15 #[.pointer none] w fun e w' => e = .returned (.slice none 0 0) ∧ w' = w := by
  go_enter Try.func15, Try.ntmps15
  go_wp2
  go_ret
  exact ⟨rfl, rfl⟩
set_option maxRecDepth 100000 in
theorem find_nil (w : World) (x y : Int) (o : Bool) : Calls Try.prog 38 #[.pointer none, .int .i64 x, .int .i64 y, .bool o] w fun e w' => e = .returned (.iface 81 (.int .i64 1)) ∧ w' = w := by
  go_enter Try.func38, Try.ntmps38
  go_wp2
  go_ret
  exact ⟨rfl, rfl⟩
set_option maxRecDepth 100000 in
theorem write_nil (w : World) : Calls Try.prog 13 #[.pointer none, .int .i64 0, .int .i64 0, .slice none 0 0] w fun e w' => e = .returned (.iface 81 (.int .i64 1)) ∧ w' = w := by
  go_enter Try.func13, Try.ntmps13
  go_wp2_with fail
  refine (find_nil w 0 0 true).mono ?_
  rintro e w' ⟨rfl, rfl⟩
  go_wp2
  go_ret
  exact ⟨rfl, rfl⟩
theorem read_num (n : Int) (h : 1 ≤ n ∧ n ≤ 100) (W : World) : Calls Try.prog 17 #[.iface 81 (.int .i64 n)] W fun e w' => e = .returned (.string ⟨(num n).toArray⟩) ∧ Below W.heap.size W w' :=
  read_any (fun _ => 0) _ [(n, none)] W ⟨rfl, rfl⟩ ⟨by simp, fun y hy => by
    simp only [List.mem_singleton] at hy
    subst hy
    exact ⟨by omega, by omega, by omega, fun a' h => by cases h⟩⟩
end Go.Proofs.Ytogfbeibpfdleaa
namespace Go.Proofs.Ytogfbeibpfdleaa
open Go.RowKit Go.Maps

set_option maxRecDepth 100000 in
set_option maxHeartbeats 16000000 in
theorem pplay_a (c : Cfg) (hok : c.ok) (pv qv rv : Value) (node : Int) (acts : List ActT) (la : Option Addr) (lc : Nat) (w : World) (hl : Lists w (fun _ => 0) c pv qv rv) (hh : Rd w (fun _ => 0) (.slice la acts.length lc) 6 acts.length (acts.flatMap ActT.cells)) (ha : ∀ i, i < acts.length → ActOk w (fun _ => 0) (acts.getD i default)) (hL : longB c = true) :
    Calls Try.prog 9 #[c.v pv qv rv, .int .i64 node, .slice la acts.length lc] w fun e w' => e = .returned (.bool true) ∧ Below w.heap.size w w' := by
  obtain ⟨a', cap', hv', h1', h2', -⟩ := id hh
  cases hv'
  unfold maxLen at h2'
  have HL := hid_ hl
  have HH := hid_ hh
  have HA := hid_ ha
  have HOK := hid_ hok
  have HB0 := hid_ ((Below.refl w.heap.size w).alloc (Nat.le_refl _) (.cells (c.cells pv qv rv).toArray 28))
  have HK0 := hid_ (Bk.new w 28 (c.cells pv qv rv))
  clear hl hh ha hok
  unfold Cfg.v
  go_enter Try.func9, Try.ntmps9
  go_upto_region 1 with fail
  refine gen_world (fun W => Below w.heap.size w W ∧ Bk W w.heap.size 28 (c.cells pv qv rv)) ⟨HB0.out, HK0.out⟩ ?_
  rintro W0 ⟨V0, K0⟩
  have HV0 := hid_ V0
  have HKK := hid_ K0
  clear V0 K0 HB0 HK0
  go_wp2_with fail
  refine (awake13 W0).mono ?_
  rintro e w1 ⟨rfl, V1⟩
  have HV1 := hid_ (below_then HV0.out V1)
  have HK1 := hid_ (HKK.out.same (V1.block _ HKK.out.lt))
  have dc := HK1.out.cfg0
  have HLG := hid_ (law6Long c (fun _ => 0) pv qv rv w1 (HL.out.fr (Fr.of_below HV1.out (fun _ => False)) (fun h => h)))
  unfold Cfg.v at HLG
  rw [hL] at HLG
  clear V1 HKK HV0
  go_wp2_with fail
  refine HLG.out.mono ?_
  rintro e w2 ⟨rfl, V2⟩
  have HV2 := hid_ (below_then HV1.out V2)
  have HK2 := hid_ (HK1.out.same (V2.block _ HK1.out.lt))
  clear V2 HV1 HK1 HLG dc
  go_wp2
  go_ret
  exact ⟨rfl, HV2.out⟩

set_option maxRecDepth 100000 in
set_option maxHeartbeats 16000000 in
theorem pplay_b (c : Cfg) (hok : c.ok) (pv qv rv : Value) (node : Int) (acts : List ActT) (la : Option Addr) (lc : Nat) (w : World) (hl : Lists w (fun _ => 0) c pv qv rv) (hh : Rd w (fun _ => 0) (.slice la acts.length lc) 6 acts.length (acts.flatMap ActT.cells)) (ha : ∀ i, i < acts.length → ActOk w (fun _ => 0) (acts.getD i default)) (hL : longB c = false) (x : Int × Int) (hs : sndE c = some x) :
    Calls Try.prog 9 #[c.v pv qv rv, .int .i64 node, .slice la acts.length lc] w fun e w' => e = .returned (.bool true) ∧ Below w.heap.size w w' := by
  obtain ⟨a', cap', hv', h1', h2', -⟩ := id hh
  cases hv'
  unfold maxLen at h2'
  have HL := hid_ hl
  have HH := hid_ hh
  have HA := hid_ ha
  have HOK := hid_ hok
  have HB0 := hid_ ((Below.refl w.heap.size w).alloc (Nat.le_refl _) (.cells (c.cells pv qv rv).toArray 28))
  have HK0 := hid_ (Bk.new w 28 (c.cells pv qv rv))
  clear hl hh ha hok
  unfold Cfg.v
  have HS := hid_ hs
  clear hs
  go_enter Try.func9, Try.ntmps9
  go_upto_region 1 with fail
  refine gen_world (fun W => Below w.heap.size w W ∧ Bk W w.heap.size 28 (c.cells pv qv rv)) ⟨HB0.out, HK0.out⟩ ?_
  rintro W0 ⟨V0, K0⟩
  have HV0 := hid_ V0
  have HKK := hid_ K0
  clear V0 K0 HB0 HK0
  go_wp2_with fail
  refine (awake13 W0).mono ?_
  rintro e w1 ⟨rfl, V1⟩
  have HV1 := hid_ (below_then HV0.out V1)
  have HK1 := hid_ (HKK.out.same (V1.block _ HKK.out.lt))
  have dc := HK1.out.cfg0
  have HLG := hid_ (law6Long c (fun _ => 0) pv qv rv w1 (HL.out.fr (Fr.of_below HV1.out (fun _ => False)) (fun h => h)))
  unfold Cfg.v at HLG
  rw [hL] at HLG
  clear V1 HKK HV0
  go_wp2_with fail
  refine HLG.out.mono ?_
  rintro e w2 ⟨rfl, V2⟩
  have HV2 := hid_ (below_then HV1.out V2)
  have HK2 := hid_ (HK1.out.same (V2.block _ HK1.out.lt))
  clear V2 HV1 HK1 HLG dc
  have dc := HK2.out.cfg0
  have HLS2 := hid_ (HL.out.fr (Fr.of_below HV2.out (fun _ => False)) (fun h => h))
  have HCP := hid_ (refCopied c (fun _ => 0) pv qv rv w2 HLS2.out (fun _ _ => rfl) hL)
  unfold Cfg.v at HCP
  have HLL := hid_ hL
  clear hL
  go_wp2_with fail
  refine HCP.out.mono ?_
  rintro e w3 ⟨pu, qu, ru, rfl, V3, L3⟩
  have HV3 := hid_ (below_then HV2.out V3)
  have HK3 := hid_ (HK2.out.same (V3.block _ HK2.out.lt))
  have HNW := hid_ (portsNew c HOK.out (fun _ => 0) 100 (by omega) pu qu ru node w3 L3 (fun _ _ => rfl))
  unfold Cfg.v NewP at HNW
  have HL3 := hid_ L3
  clear V3 L3 HV2 HK2 HCP HLS2 dc
  rw [HS.out] at HNW
  simp only at HNW
  go_wp2_with fail
  refine HNW.out.mono ?_
  rintro e w4 ⟨ev, rfl, V4, hE⟩
  have HV4 := hid_ (below_then HV3.out V4)
  have HK4 := hid_ (HK3.out.same (V4.block _ HK3.out.lt))
  have HE := hid_ hE
  have HEV := hid_ (show ∃ fb, ev = faultV fb by obtain ⟨cc, aa⟩ := x; obtain ⟨fb, h, _⟩ := hE; exact ⟨fb, h⟩)
  clear V4 HV3 HK3 HNW hE
  have dc := HK4.out.cfg0
  have HCK := hid_ (refCheck6 c HOK.out (fun _ => 0) pv qv rv w4 (HL.out.fr (Fr.of_below HV4.out (fun _ => False)) (fun h => h)) (fun _ _ => rfl))
  unfold Cfg.v at HCK
  rw [HS.out] at HCK
  obtain ⟨t, ht⟩ : ∃ t, refT (some x) = t := ⟨_, rfl⟩
  have hne := refT_ne x
  rw [ht] at HCK hne
  obtain ⟨y, ys, rfl⟩ : ∃ y ys, t = y :: ys := by cases t with | nil => exact absurd rfl hne | cons y ys => exact ⟨y, ys, rfl⟩
  have HT := hid_ ht
  clear hne ht
  go_wp2_with fail
  refine HCK.out.mono ?_
  rintro e w5 ⟨rfl, V5⟩
  have HV5 := hid_ (below_then HV4.out V5)
  have HR5 := hid_ (read_err (E := some x) (fun y hy => by have h := sndE_ok HLL.out x HS.out; injection hy with hy; subst hy; unfold OkPair at h; omega) HE.out w5 V5)
  rw [HT.out] at HR5
  clear dc V5 HV4 HK4 HCK HE
  go_wp2_with fail
  refine HR5.out.mono ?_
  rintro e w6 ⟨rfl, V6⟩
  have HV6 := hid_ (below_then HV5.out V6)
  clear V6 HR5 HV5
  go_wp2_with fail
  refine (seal_nil w6).mono ?_
  rintro e w7 ⟨rfl, rfl⟩
  go_wp2_with fail
  refine (write_nil w7).mono ?_
  rintro e w8 ⟨rfl, rfl⟩
  go_wp2_with fail
  refine (read_num 1 ⟨by omega, by omega⟩ w8).mono ?_
  rintro e w9 ⟨rfl, V9⟩
  have HV9 := hid_ (below_then HV6.out V9)
  rw [show num 1 = [49] by kernel_rfl]
  clear V9
  go_wp2
  go_ret
  exact ⟨by simp, HV9.out⟩

set_option maxRecDepth 100000 in
set_option maxHeartbeats 16000000 in
theorem pplay_c (c : Cfg) (hok : c.ok) (pv qv rv : Value) (node : Int) (acts : List ActT) (la : Option Addr) (lc : Nat) (w : World) (hl : Lists w (fun _ => 0) c pv qv rv) (hh : Rd w (fun _ => 0) (.slice la acts.length lc) 6 acts.length (acts.flatMap ActT.cells)) (ha : ∀ i, i < acts.length → ActOk w (fun _ => 0) (acts.getD i default)) (hL : longB c = false) (hs : sndE c = none) (hno : node < 0 ∨ c.nodes ≤ node) :
    Calls Try.prog 9 #[c.v pv qv rv, .int .i64 node, .slice la acts.length lc] w fun e w' => e = .returned (.bool true) ∧ Below w.heap.size w w' := by
  obtain ⟨a', cap', hv', h1', h2', -⟩ := id hh
  cases hv'
  unfold maxLen at h2'
  have HL := hid_ hl
  have HH := hid_ hh
  have HA := hid_ ha
  have HOK := hid_ hok
  have HB0 := hid_ ((Below.refl w.heap.size w).alloc (Nat.le_refl _) (.cells (c.cells pv qv rv).toArray 28))
  have HK0 := hid_ (Bk.new w 28 (c.cells pv qv rv))
  clear hl hh ha hok
  unfold Cfg.v
  have HS := hid_ hs
  have HNO := hid_ hno
  clear hs hno
  go_enter Try.func9, Try.ntmps9
  go_upto_region 1 with fail
  refine gen_world (fun W => Below w.heap.size w W ∧ Bk W w.heap.size 28 (c.cells pv qv rv)) ⟨HB0.out, HK0.out⟩ ?_
  rintro W0 ⟨V0, K0⟩
  have HV0 := hid_ V0
  have HKK := hid_ K0
  clear V0 K0 HB0 HK0
  go_wp2_with fail
  refine (awake13 W0).mono ?_
  rintro e w1 ⟨rfl, V1⟩
  have HV1 := hid_ (below_then HV0.out V1)
  have HK1 := hid_ (HKK.out.same (V1.block _ HKK.out.lt))
  have dc := HK1.out.cfg0
  have HLG := hid_ (law6Long c (fun _ => 0) pv qv rv w1 (HL.out.fr (Fr.of_below HV1.out (fun _ => False)) (fun h => h)))
  unfold Cfg.v at HLG
  rw [hL] at HLG
  clear V1 HKK HV0
  go_wp2_with fail
  refine HLG.out.mono ?_
  rintro e w2 ⟨rfl, V2⟩
  have HV2 := hid_ (below_then HV1.out V2)
  have HK2 := hid_ (HK1.out.same (V2.block _ HK1.out.lt))
  clear V2 HV1 HK1 HLG dc
  have dc := HK2.out.cfg0
  have HLS2 := hid_ (HL.out.fr (Fr.of_below HV2.out (fun _ => False)) (fun h => h))
  have HCP := hid_ (refCopied c (fun _ => 0) pv qv rv w2 HLS2.out (fun _ _ => rfl) hL)
  unfold Cfg.v at HCP
  have HLL := hid_ hL
  clear hL
  go_wp2_with fail
  refine HCP.out.mono ?_
  rintro e w3 ⟨pu, qu, ru, rfl, V3, L3⟩
  have HV3 := hid_ (below_then HV2.out V3)
  have HK3 := hid_ (HK2.out.same (V3.block _ HK2.out.lt))
  have HNW := hid_ (portsNew c HOK.out (fun _ => 0) 100 (by omega) pu qu ru node w3 L3 (fun _ _ => rfl))
  unfold Cfg.v NewP at HNW
  have HL3 := hid_ L3
  clear V3 L3 HV2 HK2 HCP HLS2 dc
  rw [HS.out] at HNW
  simp only at HNW
  simp only [if_pos HNO.out] at HNW
  go_wp2_with fail
  refine HNW.out.mono ?_
  rintro e w4 ⟨rfl, V4⟩
  have HV4 := hid_ (below_then HV3.out V4)
  have HK4 := hid_ (HK3.out.same (V4.block _ HK3.out.lt))
  clear V4 HV3 HK3 HNW
  have dc := HK4.out.cfg0
  have HCK := hid_ (refCheck6 c HOK.out (fun _ => 0) pv qv rv w4 (HL.out.fr (Fr.of_below HV4.out (fun _ => False)) (fun h => h)) (fun _ _ => rfl))
  unfold Cfg.v at HCK
  rw [HS.out, show refT none = [] from rfl] at HCK
  go_wp2_with fail
  refine HCK.out.mono ?_
  rintro e w5 ⟨rfl, V5⟩
  have HV5 := hid_ (below_then HV4.out V5)
  have HK5 := hid_ (HK4.out.same (V5.block _ HK4.out.lt))
  clear dc V5 HV4 HK4 HCK
  have dc := HK5.out.cell_ 0 rfl
  rcases (by have := HNO.out; omega : (node < 0) ∨ (¬ node < 0 ∧ c.nodes ≤ node)) with h0 | ⟨h0, h1⟩
  · have g0 : decide (node < 0) = true := decide_eq_true h0
    go_wp2_with fail
    refine (refE_any 2 (by omega) (by omega) _).mono ?_
    rintro e w5b ⟨rfl, V5b⟩
    have HV5b := hid_ (below_then HV5.out V5b)
    rw [show num 2 = [50] by kernel_rfl]
    clear V5b dc h0 g0
    go_wp2_with fail
    refine (read_num 2 ⟨by omega, by omega⟩ _).mono ?_
    rintro e w6 ⟨rfl, V6⟩
    have HV6 := hid_ (below_then HV5b.out V6)
    rw [show num 2 = [50] by kernel_rfl]
    clear V6
    go_wp2_with fail
    refine (seal_nil w6).mono ?_
    rintro e w7 ⟨rfl, rfl⟩
    go_wp2_with fail
    refine (write_nil w7).mono ?_
    rintro e w8 ⟨rfl, rfl⟩
    go_wp2_with fail
    refine (read_num 1 ⟨by omega, by omega⟩ w8).mono ?_
    rintro e w9 ⟨rfl, V9⟩
    have HV9 := hid_ (below_then HV6.out V9)
    rw [show num 1 = [49] by kernel_rfl]
    clear V9
    go_wp2
    go_ret
    exact ⟨by simp, HV9.out⟩
  · have g0 : decide (node < 0) = false := decide_eq_false h0
    have g1 : decide (c.nodes ≤ node) = true := decide_eq_true h1
    go_wp2_with fail
    refine (refE_any 2 (by omega) (by omega) _).mono ?_
    rintro e w5b ⟨rfl, V5b⟩
    have HV5b := hid_ (below_then HV5.out V5b)
    rw [show num 2 = [50] by kernel_rfl]
    clear V5b dc h0 h1 g0 g1
    go_wp2_with fail
    refine (read_num 2 ⟨by omega, by omega⟩ _).mono ?_
    rintro e w6 ⟨rfl, V6⟩
    have HV6 := hid_ (below_then HV5b.out V6)
    rw [show num 2 = [50] by kernel_rfl]
    clear V6
    go_wp2_with fail
    refine (seal_nil w6).mono ?_
    rintro e w7 ⟨rfl, rfl⟩
    go_wp2_with fail
    refine (write_nil w7).mono ?_
    rintro e w8 ⟨rfl, rfl⟩
    go_wp2_with fail
    refine (read_num 1 ⟨by omega, by omega⟩ w8).mono ?_
    rintro e w9 ⟨rfl, V9⟩
    have HV9 := hid_ (below_then HV6.out V9)
    rw [show num 1 = [49] by kernel_rfl]
    clear V9
    go_wp2
    go_ret
    exact ⟨by simp, HV9.out⟩

end Go.Proofs.Ytogfbeibpfdleaa
namespace Go.Proofs.Ytogfbeibpfdleaa
open Go.RowKit Go.Maps

theorem u64_tmod (x : Int) : 0 ≤ (IntKind.u64.wrap x).tmod 7 ∧ (IntKind.u64.wrap x).tmod 7 ≤ 6 := by
  have h1 : 0 ≤ IntKind.u64.wrap x := by simp [IntKind.wrap, IntKind.signed, IntKind.bits]; omega
  rw [Int.tmod_eq_emod_of_nonneg h1]
  omega
theorem act124 {W : World} {xb : Nat} {a : ActT} {da : Option Addr} {n dc : Nat} (h : Bk W xb 68 a.cells) (hd : a.dv = .slice da n dc) : W.cell? ⟨xb, 1, none⟩ = some (.int .i64 a.part) ∧ W.cell? ⟨xb, 2, none⟩ = some (.int .i64 a.port) ∧ W.cell? ⟨xb, 4, none⟩ = some (.slice da n dc) :=
  ⟨h.cell_ 1 rfl, h.cell_ 2 rfl, by rw [← hd]; exact h.cell_ 4 rfl⟩
theorem act35 {W : World} {xb : Nat} {a : ActT} {da : Option Addr} {n dc : Nat} (h : Bk W xb 68 a.cells) (hd : a.lv = .slice da n dc) : W.cell? ⟨xb, 3, none⟩ = some (.int .i64 a.src) ∧ W.cell? ⟨xb, 5, none⟩ = some (.slice da n dc) :=
  ⟨h.cell_ 3 rfl, by rw [← hd]; exact h.cell_ 5 rfl⟩
theorem pplay_rw (c : Cfg) (hg : Good c) (C : Nat → Nat) (b ab : Nat) (hab : ab ≠ b) (pv qv rv : Value) (node : Int) (a : ActT) (E : Option (Int × Int)) (da : Option Addr) (dc : Nat) (lv : Nat → Value) (st : List PSt) (w : World) (hE : writeE c node a.part a.port a.d st = E) (hd : a.dv = .slice da a.d.length dc) (ha : ActOk w C a) (hf : Fin C w) (h : IsRPs w C 300 b ab c pv qv rv node lv st) :
    Calls Try.prog 30 #[.pointer (some ⟨b, 0, none⟩), .int .i64 a.part, .int .i64 a.port, .slice da a.d.length dc] w (RWriteP c C 300 b ab pv qv rv node E (writeS c node a.part a.port a.d st) w) := by
  have := rpWrite c hg C 300 b ab (by omega) hab pv qv rv node a.part a.port ha.port lv st a.dv a.d w hf h ha.data
  rw [hE, hd] at this
  exact this
theorem pplay_dl (c : Cfg) (hg : Good c) (C : Nat → Nat) (b ab : Nat) (hab : ab ≠ b) (pv qv rv : Value) (node : Int) (a : ActT) (R : List PSt × Nat) (lv : Nat → Value) (st : List PSt) (mv : Value) (cs : List Value) (w : World) (hR : delivR c node a.src st a.ms a.ms.length = R) (hl : a.ms.length ≤ 100) (hf : Fin C w) (h : IsPorts w C 100 b ab c pv qv rv node lv st) (hs : Sl w C 600 mv 50 2 a.ms.length cs) (hm : IsMsgs w C cs a.ms) :
    Calls Try.prog 14 #[.pointer (some ⟨b, 0, none⟩), .int .i64 a.src, mv] w (DelivP c C 100 b ab pv qv rv node w R) := by
  have := portsDeliver c hg C 100 600 b ab (by omega) (by omega) hab pv qv rv node a.src lv st mv cs a.ms w hf h hs.rdk hm (by omega)
  rw [hR] at this
  exact this
theorem pplay_rdl (c : Cfg) (hg : Good c) (C : Nat → Nat) (b ab : Nat) (hab : ab ≠ b) (pv qv rv : Value) (node : Int) (a : ActT) (R : List PSt × Nat) (ma : Option Addr) (mc : Nat) (lv : Nat → Value) (st : List PSt) (w : World) (hR : delivR c node a.src st a.ms a.ms.length = R) (hd : a.lv = .slice ma a.ms.length mc) (hl : a.ms.length ≤ 100) (ha : ActOk w C a) (hf : Fin C w) (h : IsRPs w C 300 b ab c pv qv rv node lv st) :
    Calls Try.prog 33 #[.pointer (some ⟨b, 0, none⟩), .int .i64 a.src, .slice ma a.ms.length mc] w (RDelivP c C 300 b ab pv qv rv node w R) := by
  have := rpDeliver c hg C 300 0 b ab (by omega) (by omega) hab pv qv rv node a.src lv st a.lv a.mc a.ms w hf h ha.list.rdk ha.msgs (by omega)
  rw [hR, hd] at this
  exact this
theorem read_errF {K : Nat → Prop} {C C' : Nat → Nat} {w w1 w2 : World} {ev : Value} {E : Option (Int × Int)} (hE : OkE E) (h : ErrO w w1 ev E) (hc : ∀ b, w.heap.size ≤ b → C b = 0) (f : Fr K C C' w1 w2) (hk : ¬ K 0) (W : World) (V : Below w2.heap.size w2 W) :
    Calls Try.prog 17 #[ev] W fun e W' => e = .returned (.string ⟨(refT E).toArray⟩) ∧ Below W.heap.size W W' := by
  cases E with
  | none =>
    obtain rfl : ev = .nilIface := h
    exact read_nil W
  | some x =>
    obtain ⟨cc, aa⟩ := x
    obtain ⟨fb, rfl, hge, hB⟩ := h
    obtain ⟨h1, h2⟩ := hE _ rfl
    have hB2 := hB.fr f (by rw [hc fb hge]; exact hk)
    exact read_wide cc aa h1 h2 fb W (hB2.same (V.block _ hB2.lt))

set_option maxRecDepth 100000 in
set_option maxHeartbeats 16000000 in
theorem pplay_d (c : Cfg) (hok : c.ok) (pv qv rv : Value) (node : Int) (acts : List ActT) (la : Option Addr) (lc : Nat) (w : World) (hl : Lists w (fun _ => 0) c pv qv rv) (hh : Rd w (fun _ => 0) (.slice la acts.length lc) 6 acts.length (acts.flatMap ActT.cells)) (ha : ∀ i, i < acts.length → ActOk w (fun _ => 0) (acts.getD i default)) (hL : longB c = false) (hs : sndE c = none) (hok2 : ¬ (node < 0 ∨ c.nodes ≤ node)) :
    Calls Try.prog 9 #[c.v pv qv rv, .int .i64 node, .slice la acts.length lc] w fun e w' => e = .returned (.bool true) ∧ Below w.heap.size w w' := by
  obtain ⟨a', cap', hv', h1', h2', -⟩ := id hh
  cases hv'
  unfold maxLen at h2'
  have HL := hid_ hl
  have HH := hid_ hh
  have HA := hid_ ha
  have HOK := hid_ hok
  have HB0 := hid_ ((Below.refl w.heap.size w).alloc (Nat.le_refl _) (.cells (c.cells pv qv rv).toArray 28))
  have HK0 := hid_ (Bk.new w 28 (c.cells pv qv rv))
  clear hl hh ha hok
  unfold Cfg.v
  have HS := hid_ hs
  have HNO := hid_ hok2
  have HG := hid_ (sndE_good hs)
  clear hs hok2
  go_enter Try.func9, Try.ntmps9
  go_upto_region 1 with fail
  refine gen_world (fun W => Below w.heap.size w W ∧ Bk W w.heap.size 28 (c.cells pv qv rv)) ⟨HB0.out, HK0.out⟩ ?_
  rintro W0 ⟨V0, K0⟩
  have HV0 := hid_ V0
  have HKK := hid_ K0
  clear V0 K0 HB0 HK0
  go_wp2_with fail
  refine (awake13 W0).mono ?_
  rintro e w1 ⟨rfl, V1⟩
  have HV1 := hid_ (below_then HV0.out V1)
  have HK1 := hid_ (HKK.out.same (V1.block _ HKK.out.lt))
  have dc := HK1.out.cfg0
  have HLG := hid_ (law6Long c (fun _ => 0) pv qv rv w1 (HL.out.fr (Fr.of_below HV1.out (fun _ => False)) (fun h => h)))
  unfold Cfg.v at HLG
  rw [hL] at HLG
  clear V1 HKK HV0
  go_wp2_with fail
  refine HLG.out.mono ?_
  rintro e w2 ⟨rfl, V2⟩
  have HV2 := hid_ (below_then HV1.out V2)
  have HK2 := hid_ (HK1.out.same (V2.block _ HK1.out.lt))
  clear V2 HV1 HK1 HLG dc
  have dc := HK2.out.cfg0
  have HLS2 := hid_ (HL.out.fr (Fr.of_below HV2.out (fun _ => False)) (fun h => h))
  have HCP := hid_ (refCopied c (fun _ => 0) pv qv rv w2 HLS2.out (fun _ _ => rfl) hL)
  unfold Cfg.v at HCP
  have HLL := hid_ hL
  clear hL
  go_wp2_with fail
  refine HCP.out.mono ?_
  rintro e w3 ⟨pu, qu, ru, rfl, V3, L3⟩
  have HV3 := hid_ (below_then HV2.out V3)
  have HK3 := hid_ (HK2.out.same (V3.block _ HK2.out.lt))
  have HNW := hid_ (portsNew c HOK.out (fun _ => 0) 100 (by omega) pu qu ru node w3 L3 (fun _ _ => rfl))
  unfold Cfg.v NewP at HNW
  have HL3 := hid_ L3
  clear V3 L3 HV2 HK2 HCP HLS2 dc
  rw [HS.out] at HNW
  simp only at HNW
  simp only [if_neg HNO.out] at HNW
  go_wp2_with fail
  refine HNW.out.mono ?_
  rintro e w4 ⟨b, ab, C4, rfl, hne, _, _, F4, P4⟩
  have HV4 := hid_ (below_then HV3.out (F4.below (fun _ _ h => h)))
  have HK4 := hid_ (show Bk w4 w.heap.size 28 (c.cells pv qv rv) ∧ C4 w.heap.size = 0 from ⟨HK3.out.fr F4 (fun h => h), (F4.block _ HK3.out.lt (fun h => h)).2⟩)
  have HT4 := hid_ ((Fr.of_below (C := fun _ => 0) HV3.out (fun _ => False)).trans F4)
  have HP4 := hid_ P4
  have HN1 := hid_ hne
  clear F4 P4 HV3 HK3 HNW hne
  have dc := HK4.out.1.cfg0
  have HCK := hid_ (refCheck6 c HOK.out (fun _ => 0) pv qv rv w4 (HL.out.fr (Fr.of_below HV4.out (fun _ => False)) (fun h => h)) (fun _ _ => rfl))
  unfold Cfg.v at HCK
  rw [HS.out, show refT none = [] from rfl] at HCK
  go_wp2_with fail
  refine HCK.out.mono ?_
  rintro e w5 ⟨rfl, V5⟩
  have HT5 := hid_ (HT4.out.trans (Fr.of_below (C := C4) V5 _))
  have HP5 := hid_ (HP4.out.fr (Fr.of_below (C := C4) V5 (fun _ => False)) (fun x hx => hx.elim) (by have := HG.out.nq; simp [st0]; exact this))
  have HK5 := hid_ (HK4.out.1.same (V5.block _ HK4.out.1.lt))
  clear dc V5 HT4 HP4 HCK HK4 HV4
  have dc := HK5.out.cfg0
  have g0 : decide (node < 0) = false := decide_eq_false (by have := HNO.out; omega)
  have g1 : decide (c.nodes ≤ node) = false := decide_eq_false (by have := HNO.out; omega)
  go_wp2_with fail
  refine (read_nil w5).mono ?_
  rintro e w6 ⟨rfl, V6⟩
  have HT6 := hid_ (HT5.out.trans (Fr.of_below (C := C4) V6 _))
  have HP6 := hid_ (HP5.out.fr (Fr.of_below (C := C4) V6 (fun _ => False)) (fun x hx => hx.elim) (by have := HG.out.nq; simp [st0]; exact this))
  have HK6 := hid_ (HK5.out.same (V6.block _ HK5.out.lt))
  rw [show refT none = [] from rfl]
  have HNR := hid_ (rpNew c HG.out C4 300 (by omega) pv qv rv node w6 (HL.out.fr HT6.out (fun h => h)) (HT6.out.Fin (fin0 w)))
  unfold Cfg.v at HNR
  clear dc V6 HT5 HP5 HK5 g0 g1
  have dc := HK6.out.cfg0
  go_wp2_with fail
  refine HNR.out.mono ?_
  rintro e w7 ⟨rb, rab, C7, rfl, hne2, _, _, F7, Q7⟩
  have HNE := hid_ (And.intro HN1.out hne2)
  have HP7 := hid_ (PS.mk (pv := pv) (qv := qv) (rv := rv) ((HT6.out.trans F7).mono (K' := (· ≠ 0)) (fun x hx => hx.elim)) (HP6.out.fr F7 (fun x hx => hx.elim) (by have := HG.out.nq; simp [st0]; exact this)) Q7)
  clear dc F7 Q7 HT6 HP6 HK6 HNR hne2 HN1
  go_wp2_with fail
  go_loopw [11] (fun iv wr => ∃ (i : Nat) (st : List PSt), i ≤ acts.length ∧ iv = .int .i64 i ∧ PlayR w c pu qu ru pv qv rv node b ab rb rab st wr) (fun iv _ => acts.length - (intOf iv).toNat)
  case atStart => exact ⟨0, _, Nat.zero_le _, rfl, kept0 c, _, _, _, HP7.out⟩
  case round =>
    obtain ⟨i, st, hin, rfl, hk, C, lv, lv2, PSt⟩ := hrel
    have j0 : (0 : Int) ≤ (i : Int) := Int.natCast_nonneg _
    have HKP := hid_ hk
    have HP0 := hid_ PSt
    have HLEN := hid_ (show st.length ≤ 24 from by rw [PSt.p.len]; exact HG.out.nq)
    clear hk PSt
    rcases (by omega : (i < acts.length ∧ i < 120) ∨ (¬ i < acts.length) ∨ (i < acts.length ∧ ¬ i < 120)) with ⟨hlt, h120⟩ | hout
    · have j1 : (i : Int) < (acts.length : Int) := by omega
      have j2 : (i : Int) < 120 := by omega
      have hhr := HH.out.fr HP0.out.T (by decide)
      obtain ⟨bo, oo, rfl, hCo, hco⟩ := hhr.row (fun _ => rfl) hlt
      obtain ⟨at_, hat⟩ : ∃ x, acts.getD i default = x := ⟨_, rfl⟩
      have hao := (HA.out i hlt).fr HP0.out.T (by decide)
      rw [hat] at hco hao
      have y0 := hco 0 _ rfl
      have y1 := hco 1 _ rfl
      have y2 := hco 2 _ rfl
      have y3 := hco 3 _ rfl
      have y4 := hco 4 _ rfl
      have y5 := hco 5 _ rfl
      simp only [Nat.add_zero] at y0
      have HAO0 := hid_ hao
      obtain ⟨qa, qc, hqv, -⟩ := id hao.data
      obtain ⟨qm, qn, hqw, -⟩ := id hao.list
      rw [hqv] at y4
      rw [hqw] at y5
      have hcs : at_.cells = [.int .i64 at_.kind, .int .i64 at_.part, .int .i64 at_.port, .int .i64 at_.src, .slice qa at_.d.length qc, .slice qm at_.ms.length qn] := by unfold ActT.cells; rw [hqv, hqw]
      have hx0 := Bk.new wr 68 [.int .i64 at_.kind, .int .i64 at_.part, .int .i64 at_.port, .int .i64 at_.src, .slice qa at_.d.length qc, .slice qm at_.ms.length qn]
      rw [← hcs] at hx0
      have HX0 := hid_ hx0
      have HCS := hid_ hcs
      clear hco hat hao hhr hqv hqw hcs hx0
      go_upto_region 18 with fail
      have HC0 := hid_ (show C wr.heap.size = 0 from HP0.out.fin _ (Nat.le_refl _))
      obtain ⟨xb, hxb⟩ : ∃ x, wr.heap.size = x := ⟨_, rfl⟩
      refine gen_world (fun W => Below wr.heap.size wr W ∧ Bk W wr.heap.size 68 at_.cells) ⟨(Below.refl _ _).alloc (Nat.le_refl _) _, by have := HX0.out; rw [HCS.out] at this ⊢; exact this⟩ ?_
      clear y0 y1 y2 y3 y4 y5
      rintro W ⟨V, X⟩
      have HPS := hid_ (HP0.out.below HG.out V)
      have HAO := hid_ (HAO0.out.fr (Fr.of_below (C := C) V (fun _ => False)) (fun h => h))
      have HX := hid_ (show Bk W xb 68 at_.cells ∧ C xb = 0 from by rw [← hxb]; exact ⟨X, HC0.out⟩)
      rw [hxb]
      clear V X hxb HX0 HC0 HP0 HAO0
      have x0 := HX.out.1.cell_ 0 rfl
      have x1 := HX.out.1.cell_ 1 rfl
      have x2 := HX.out.1.cell_ 2 rfl
      have x3 := HX.out.1.cell_ 3 rfl
      have x4 := HX.out.1.cell_ 4 rfl
      have x5 := HX.out.1.cell_ 5 rfl
      obtain ⟨kd, hkd⟩ : ∃ x, (IntKind.u64.wrap at_.kind).tmod 7 = x := ⟨_, rfl⟩
      have hkr := u64_tmod at_.kind
      rw [hkd] at hkr
      rcases (by omega : kd = 0 ∨ kd = 1 ∨ kd = 2 ∨ kd = 3 ∨ kd = 4 ∨ kd = 5 ∨ kd = 6) with rfl | rfl | rfl | rfl | rfl | rfl | rfl
      · clear hkr
        obtain ⟨E, hE⟩ : ∃ E, writeE c node at_.part at_.port at_.d st = E := ⟨_, rfl⟩
        have hOK := writeE_ok c HG.out node at_.part at_.port at_.d st HAO.out.port
        rw [hE] at hOK
        have HEE := hid_ hE
        have HOKE := hid_ hOK
        clear hE hOK
        go_upto_region 22 with fail
        obtain ⟨da, dc, hdv, -⟩ := id HAO.out.data
        rw [hdv] at x4
        have HDV := hid_ hdv
        clear hdv
        have hdl := HAO.out.dlen
        obtain ⟨b1, o1, p1, W5, hr1, hb5, hw5, hge1, hraw1⟩ := copy_of (P := Try.prog) (C := C) W.drew HPS.out.fin Try.underlying40 info_u8' (show Src W.drew (.slice da at_.d.length dc) 1 at_.d.length (byteV at_.d) from by have := HAO.out.data.src; rw [HDV.out] at this; exact this) (by unfold maxLen; omega) (by omega)
        have HR1 := hid_ hr1
        have HP5 := hid_ (HPS.out.below HG.out (W' := W5) ⟨hw5.os, hw5.tape, hw5.output, hw5.size, hw5.block⟩)
        have HX5 := hid_ (show Bk W5 xb 68 at_.cells ∧ C xb = 0 from ⟨HX.out.1.same (hw5.block _ HX.out.1.lt), HX.out.2⟩)
        have HA5 := hid_ (HAO.out.fr (Fr.of_below (C := C) (w := W) (w' := W5) ⟨hw5.os, hw5.tape, hw5.output, hw5.size, hw5.block⟩ (fun _ => False)) (fun h => h))
        have hwr := portsWrite c HG.out C 100 b ab (by omega) HNE.out.1 pu qu ru node at_.part at_.port lv st _ at_.d W5 HP5.out.fin HP5.out.p hb5
        rw [HEE.out] at hwr
        have HWR := hid_ hwr
        clear hr1 hb5 hw5 hge1 hraw1 hwr hdl
        go_region_held3 (fun w' => w'.cell? ⟨xb, 1, none⟩ = some (.int .i64 at_.part) ∧ w'.cell? ⟨xb, 2, none⟩ = some (.int .i64 at_.port) ∧ w'.cell? ⟨xb, 4, none⟩ = some (.slice da at_.d.length dc)) (first | exact act124 HX8.out.1 HDV.out | exact act124 HX7.out.1 HDV.out | exact act124 HX6.out.1 HDV.out | exact act124 HX5.out.1 HDV.out | go_keep) (first | ((with_reducible refine step_append_run (s := .tmp 102) (x := .tmp 104) (t := 40) (u := 40) (ty := 0) HR1.out ?_ ?_ ?_ ?_ ?_); rfl; rfl; rfl; rfl) | ((with_reducible refine HWR.out.mono ?_); rintro e W6 ⟨ev, C6, lv6, rfl, hE6, F6, P6⟩; have HP6 := hid_ (HP5.out.left HG.out F6 (fun x hx => by omega) P6); have HX6 := hid_ (show Bk W6 xb 68 at_.cells ∧ C6 xb = 0 from ⟨HX5.out.1.fr F6 (by rw [HX5.out.2]; omega), (F6.block _ HX5.out.1.lt (by rw [HX5.out.2]; omega)).2.trans HX5.out.2⟩); have HA6 := hid_ (HA5.out.fr F6 (by omega)); have HRD := hid_ (read_err HOKE.out hE6 W6 (Below.refl _ _)); clear hE6 F6 P6) | ((with_reducible refine HRD.out.mono ?_); rintro e W7 ⟨rfl, V7⟩; have HP7 := hid_ (HP6.out.below HG.out V7); have HX7 := hid_ (show Bk W7 xb 68 at_.cells ∧ C6 xb = 0 from ⟨HX6.out.1.same (V7.block _ HX6.out.1.lt), HX6.out.2⟩); have HA7 := hid_ (HA6.out.fr (Fr.of_below (C := C6) V7 (fun _ => False)) (fun h => h)); have HRW := hid_ (pplay_rw c HG.out C6 rb rab HNE.out.2 pv qv rv node at_ E da dc lv2 st W7 HEE.out HDV.out HA7.out HP7.out.fin HP7.out.q); clear V7) | ((with_reducible refine HRW.out.mono ?_); rintro e W8 ⟨C8, lv8, rfl, F8, Q8⟩; have HP8 := hid_ (HP7.out.right HG.out F8 (fun x hx => by omega) Q8); have HX8 := hid_ (show Bk W8 xb 68 at_.cells ∧ C8 xb = 0 from ⟨HX7.out.1.fr F8 (by rw [HX7.out.2]; omega), (F8.block _ HX7.out.1.lt (by rw [HX7.out.2]; omega)).2.trans HX7.out.2⟩); clear F8 Q8))
        all_goals
          clear x0 x1 x2 x3 x4 x5
          go_wp2
          go_roundw
          case rel => exact ⟨i + 1, writeS c node at_.part at_.port at_.d st, by omega, by go_num, kept_write HG.out HKP.out _ _ _ _, _, _, _, HP8.out⟩
          case measure => simp [intOf]; omega
      · clear hkr
        have hOK := readE_ok c HG.out node at_.part at_.port st HAO.out.port
        have hpr := portsReadC c HG.out C 100 b ab (by omega) HNE.out.1 pu qu ru node at_.part at_.port lv st W HPS.out.fin HPS.out.p (fun j => HKP.out.b16 j)
        obtain ⟨E, hE⟩ : ∃ E, readE c node at_.part at_.port st = E := ⟨_, rfl⟩
        obtain ⟨D, hD⟩ : ∃ D, readD c node at_.part at_.port st = D := ⟨_, rfl⟩
        rw [hE] at hOK hpr
        rw [hD] at hpr
        have HEE := hid_ hE
        have HDD := hid_ hD
        have HOKE := hid_ hOK
        have HPRD := hid_ hpr
        clear hE hD hOK hpr
        go_wp2_with fail
        refine HPRD.out.mono ?_
        rintro e W1 ⟨v, fv, ev, lv1, rfl, hV, hE1, F1, P1⟩
        obtain ⟨hB, rfl⟩ := hV.any
        obtain ⟨va, vc, rfl, -⟩ := id hB
        have HP1 := hid_ (HPS.out.left HG.out F1 (fun x hx => by omega) P1)
        have HX1 := hid_ (show Bk W1 xb 68 at_.cells ∧ C xb = 0 from ⟨HX.out.1.fr F1 (by rw [HX.out.2]; omega), (F1.block _ HX.out.1.lt (by rw [HX.out.2]; omega)).2.trans HX.out.2⟩)
        have HB1 := hid_ hB
        have HE1 := hid_ hE1
        have hrr := rpRead c HG.out C 300 rb rab (by omega) HNE.out.2 pv qv rv node at_.part at_.port HAO.out.port lv2 st W1 HP1.out.fin HP1.out.q
        rw [HEE.out, HDD.out] at hrr
        have HRR := hid_ hrr
        clear x0 x1 x2 x3 x4 x5 hV hB hE1 F1 P1 hrr HPRD
        have x1 := HX1.out.1.cell_ 1 rfl
        have x2 := HX1.out.1.cell_ 2 rfl
        go_wp2_with fail
        refine HRR.out.mono ?_
        rintro e W2 ⟨v2, fv2, lv8, rfl, hV2, F2, Q2⟩
        obtain ⟨hB2, rfl⟩ := hV2.any
        obtain ⟨va2, vc2, rfl, -⟩ := id hB2
        have HP2 := hid_ (HP1.out.right HG.out F2 (fun x hx => by omega) Q2)
        have hc1 := bytes_str (Rd.fr HB1.out F2 (by omega))
        have hc2 := bytes_str hB2
        have HRE := hid_ (fun W (V : Below W2.heap.size W2 W) => read_errF HOKE.out HE1.out HPS.out.fin F2 (by omega) W V)
        obtain ⟨dd, hdd⟩ : ∃ d, (D.getD ([], false)).1 = d := ⟨_, rfl⟩
        obtain ⟨ff, hff⟩ : ∃ d, (D.getD ([], false)).2 = d := ⟨_, rfl⟩
        rw [hdd] at hc1 hc2 ⊢
        rw [hff]
        clear x1 x2 hV2 hB2 F2 Q2 HRR HB1 HE1 hdd hff
        go_wp2_with fail
        refine (HRE.out _ (Below.refl _ _)).mono ?_
        rintro e W3 ⟨rfl, V3⟩
        have HP3 := hid_ (HP2.out.below HG.out V3)
        clear hc1 hc2 V3 HRE
        go_wp2
        go_roundw
        case rel => exact ⟨i + 1, readS c node at_.part at_.port st, by omega, by go_num, kept_read HKP.out _ _ _, _, _, _, HP3.out⟩
        case measure => simp [intOf]; omega
      · clear hkr
        go_wp2_with fail
        clear x0 x1 x2 x3 x4 x5
        refine (portsSeal c HG.out C 100 500 b ab (by omega) ⟨by omega, by omega⟩ HNE.out.1 pu qu ru node lv st W HPS.out.fin HPS.out.p HKP.out.q4).mono ?_
        rintro e W1 ⟨mv, cs1, C1, lv1, rfl, F1, P1, S1, M1⟩
        have HP1 := hid_ (HPS.out.left HG.out F1 (fun x hx => by unfold PK at hx; omega) P1)
        have HS1 := hid_ S1
        have HM1 := hid_ M1
        obtain ⟨ma, mc, rfl, -⟩ := id S1.form
        clear F1 S1 M1 P1
        go_wp2_with fail
        refine (rpSeal c HG.out C1 300 510 rb rab (by omega) ⟨by omega, by omega⟩ HNE.out.2 pv qv rv node lv2 st W1 HP1.out.fin HP1.out.q HKP.out.q4).mono ?_
        rintro e W2 ⟨mv2, cs2, C2, lv8, rfl, F2, Q2, S2, M2⟩
        have HP2 := hid_ (HP1.out.right HG.out F2 (fun x hx => by unfold PK at hx; omega) Q2)
        have HSM := hid_ (sameMsgs C2 500 510 _ _ cs1 cs2 (sealMs c node st st.length) W2 (HS1.out.fr F2 (by unfold PK; omega)).rdk S2.rdk (HM1.out.fr F2 (by unfold PK; omega)) M2 (by have := sealMs_len c node st HKP.out.q4 st.length (Nat.le_refl _); have := HLEN.out; omega))
        obtain ⟨ma2, mc2, rfl, -⟩ := id S2.form
        clear F2 S2 M2 HS1 HM1 HP1 Q2
        go_wp2_with fail
        refine HSM.out.mono ?_
        rintro e W3 ⟨rfl, V3⟩
        have HP3 := hid_ (HP2.out.below HG.out V3)
        clear V3 HSM HP2
        go_wp2
        go_roundw
        case rel => exact ⟨i + 1, sealSt c node st st.length, by omega, by go_num, kept_seal HKP.out _ _, _, _, _, HP3.out⟩
        case measure => simp [intOf]; omega
      · clear hkr
        obtain ⟨ma, mc, hlv, hmc, hmm, -⟩ := id HAO.out.list
        rw [hlv] at x5
        have HLV := hid_ hlv
        unfold maxLen at hmm
        clear hlv
        by_cases h100 : (100 : Int) < at_.ms.length
        · have HP9 := hid_ HPS.out
          go_wp2
          go_roundw
          case rel => exact ⟨i + 1, st, by omega, by go_num, HKP.out, _, _, _, HP9.out⟩
          case measure => simp [intOf]; omega
        · have hml : at_.ms.length ≤ 100 := by omega
          have HML := hid_ hml
          have hmlt : at_.mc.length = at_.ms.length * 2 := HAO.out.msgs.len2
          have HP0 := hid_ (HPS.out.below HG.out (W' := W.drew) (Below.refl _ W).drew)
          have HA0 := hid_ (HAO.out.fr (Fr.of_below (C := C) ((Below.refl _ W).drew) (fun _ => False)) (fun h => h))
          have hcp := copiedMsgs C 0 600 (by omega) at_.lv at_.mc at_.ms W.drew HP0.out.fin (HA0.out.list.rdk) HA0.out.msgs (by omega) HA0.out.mlen
          rw [HLV.out] at hcp
          have HCP := hid_ hcp
          have HX0 := hid_ (show Bk W.drew xb 68 at_.cells ∧ C xb = 0 from HX.out)
          obtain ⟨R, hR⟩ : ∃ R, delivR c node at_.src st at_.ms at_.ms.length = R := ⟨_, rfl⟩
          have HRR := hid_ hR
          clear hcp hR h100 hmlt
          go_upto_region 34 with fail
          go_region_held3 (fun w' => w'.cell? ⟨xb, 3, none⟩ = some (.int .i64 at_.src) ∧ w'.cell? ⟨xb, 5, none⟩ = some (.slice ma at_.ms.length mc)) (first | exact act35 HX3.out.1 HLV.out | exact act35 HX2.out.1 HLV.out | exact act35 HX1.out.1 HLV.out | exact act35 HX0.out.1 HLV.out | go_keep) (first | ((with_reducible refine HCP.out.mono ?_); rintro e W1 ⟨mv', cs', C1, rfl, F1, S1, M1⟩; obtain ⟨na, nc, rfl, -⟩ := id S1.form; have HP1 := hid_ (HP0.out.fr HG.out F1 (fun x hx => hx.elim)); have HX1 := hid_ (show Bk W1 xb 68 at_.cells ∧ C1 xb = 0 from ⟨HX0.out.1.fr F1 (fun h => h), (F1.block _ HX0.out.1.lt (fun h => h)).2.trans HX0.out.2⟩); have HA1 := hid_ (HA0.out.fr F1 (fun h => h)); have HDL := hid_ (pplay_dl c HG.out C1 b ab HNE.out.1 pu qu ru node at_ R lv st _ cs' W1 HRR.out HML.out HP1.out.fin HP1.out.p S1 M1); clear F1 S1 M1) | ((with_reducible refine HDL.out.mono ?_); rintro e W2 ⟨C2, lv8, rfl, F2, P2⟩; have HP2 := hid_ (HP1.out.left HG.out F2 (fun x hx => by omega) P2); have HX2 := hid_ (show Bk W2 xb 68 at_.cells ∧ C2 xb = 0 from ⟨HX1.out.1.fr F2 (by rw [HX1.out.2]; omega), (F2.block _ HX1.out.1.lt (by rw [HX1.out.2]; omega)).2.trans HX1.out.2⟩); have HA2 := hid_ (HA1.out.fr F2 (by omega)); have HRDL := hid_ (pplay_rdl c HG.out C2 rb rab HNE.out.2 pv qv rv node at_ R ma mc lv2 st W2 HRR.out HLV.out HML.out HA2.out HP2.out.fin HP2.out.q); clear F2 P2) | ((with_reducible refine HRDL.out.mono ?_); rintro e W3 ⟨C3, lv9, rfl, F3, Q3⟩; have HP3 := hid_ (HP2.out.right HG.out F3 (fun x hx => by omega) Q3); have HX3 := hid_ (show Bk W3 xb 68 at_.cells ∧ C3 xb = 0 from ⟨HX2.out.1.fr F3 (by rw [HX2.out.2]; omega), (F3.block _ HX2.out.1.lt (by rw [HX2.out.2]; omega)).2.trans HX2.out.2⟩); clear F3 Q3))
          all_goals
            clear x0 x1 x2 x3 x4 x5
            go_wp2
            go_roundw
            case rel => exact ⟨i + 1, R.1, by omega, by go_num, (by rw [← HRR.out]; exact kept_deliv HG.out HKP.out _ _ _ _), _, _, _, HP3.out⟩
            case measure => simp [intOf]; omega
      · clear hkr
        go_wp2_with fail
        clear x0 x1 x2 x3 x4 x5
        refine (portsAge c HG.out C 100 b ab (by omega) HNE.out.1 pu qu ru node lv st W HPS.out.fin HPS.out.p (fun i hi => by have := HKP.out.2 i hi; omega)).mono ?_
        rintro e W1 ⟨rfl, F1, P1⟩
        have HP1 := hid_ (HPS.out.left HG.out F1 (fun x hx => by omega) P1)
        clear F1 P1
        go_wp2_with fail
        refine (rpGrow c HG.out C 300 rb rab (by omega) HNE.out.2 pv qv rv node lv2 st W1 HP1.out.fin HP1.out.q HKP.out.2).mono ?_
        rintro e W2 ⟨rfl, F2, Q2⟩
        have HP2 := hid_ (HP1.out.right HG.out F2 (fun x hx => by omega) Q2)
        clear F2 Q2
        go_wp2
        go_roundw
        case rel => exact ⟨i + 1, ageSt st st.length, by omega, by go_num, kept_age HKP.out _, _, _, _, HP2.out⟩
        case measure => simp [intOf]; omega
      · clear hkr
        go_wp2_with fail
        refine (portsClear c HG.out C 100 b ab (by omega) HNE.out.1 pu qu ru node at_.part lv st W HPS.out.fin HPS.out.p).mono ?_
        rintro e W1 ⟨rfl, lv1, F1, P1⟩
        have HP1 := hid_ (HPS.out.left HG.out F1 (fun x hx => by omega) P1)
        have HX1 := hid_ (HX.out.1.fr F1 (by rw [HX.out.2]; omega))
        clear F1 P1 x0 x1 x2 x3 x4 x5
        have x1 := HX1.out.cell_ 1 rfl
        go_wp2_with fail
        refine (rpClear c HG.out C 300 rb rab (by omega) HNE.out.2 pv qv rv node at_.part lv2 st W1 HP1.out.fin HP1.out.q).mono ?_
        rintro e W2 ⟨rfl, lv8, F2, Q2⟩
        have HP2 := hid_ (HP1.out.right HG.out F2 (fun x hx => by omega) Q2)
        clear F2 Q2 x1
        go_wp2
        go_roundw
        case rel => exact ⟨i + 1, clearSt c at_.part st st.length, by omega, by go_num, kept_clear HKP.out _ _, _, _, _, HP2.out⟩
        case measure => simp [intOf]; omega
      · clear hkr
        go_wp2_with fail
        clear x0 x1 x2 x3 x4 x5
        go_wp2_with fail
        refine (portsImage c HG.out C 100 500 b ab (by omega) ⟨by omega, by omega⟩ pu qu ru node lv st W HPS.out.fin HPS.out.p HKP.out.q4 (fun i _ => HKP.out.b16 i)).mono ?_
        rintro e W1 ⟨mv, cs1, C1, rfl, F1, S1, M1⟩
        have HP1 := hid_ (HPS.out.fr HG.out F1 (fun x hx => by omega))
        have HS1 := hid_ S1
        have HM1 := hid_ M1
        obtain ⟨ma, mc, rfl, -⟩ := id S1.form
        clear F1 S1 M1
        go_wp2_with fail
        refine (rpImage_false c HG.out C1 300 510 rb rab (by omega) ⟨by omega, by omega⟩ pv qv rv node lv2 st W1 HP1.out.fin HP1.out.q HKP.out.q4).mono ?_
        rintro e W2 ⟨mv2, cs2, C2, rfl, F2, S2, M2⟩
        have HP2 := hid_ (HP1.out.fr HG.out F2 (fun x hx => by omega))
        rw [rimgMs_false] at S2 M2
        have HSM := hid_ (sameMsgs C2 500 510 _ _ cs1 cs2 (imageMs c node st st.length) W2 (HS1.out.fr F2 (by omega)).rdk S2.rdk (HM1.out.fr F2 (by omega)) M2 (by have := imageMs_len c node st HKP.out.q4 st.length (Nat.le_refl _); have := HLEN.out; omega))
        obtain ⟨ma2, mc2, rfl, -⟩ := id S2.form
        clear F2 S2 M2 HS1 HM1 HP1
        go_wp2_with fail
        refine HSM.out.mono ?_
        rintro e W3 ⟨rfl, V3⟩
        have HP3 := hid_ (HP2.out.below HG.out V3)
        clear V3 HSM HP2
        go_wp2
        go_roundw
        case rel => exact ⟨i + 1, st, by omega, by go_num, HKP.out, _, _, _, HP3.out⟩
        case measure => simp [intOf]; omega
    · have HPS := hid_ (show PS w c pu qu ru pv qv rv node b ab rb rab C lv lv2 st st wr from HP0.out)
      obtain ⟨W, hW⟩ : ∃ W, wr = W := ⟨_, rfl⟩
      subst hW
      clear HP0
      rcases hout with h1 | ⟨h1, h2⟩
      · have j1 : ¬ (i : Int) < (acts.length : Int) := by omega
        clear h1
        go_wp2_with fail
        refine (portsImage c HG.out C 100 500 b ab (by omega) ⟨by omega, by omega⟩ pu qu ru node lv st wr HPS.out.fin HPS.out.p HKP.out.q4 (fun i _ => HKP.out.b16 i)).mono ?_
        rintro e W1 ⟨mv, cs1, C1, rfl, F1, S1, M1⟩
        have HP1 := hid_ (HPS.out.fr HG.out F1 (fun x hx => by omega))
        have HS1 := hid_ S1
        have HM1 := hid_ M1
        obtain ⟨ma, mc, rfl, -⟩ := id S1.form
        clear F1 S1 M1
        go_wp2_with fail
        refine (rpImage_false c HG.out C1 300 510 rb rab (by omega) ⟨by omega, by omega⟩ pv qv rv node lv2 st W1 HP1.out.fin HP1.out.q HKP.out.q4).mono ?_
        rintro e W2 ⟨mv2, cs2, C2, rfl, F2, S2, M2⟩
        have HP2 := hid_ (HP1.out.fr HG.out F2 (fun x hx => by omega))
        rw [rimgMs_false] at S2 M2
        have HSM := hid_ (sameMsgs C2 500 510 _ _ cs1 cs2 (imageMs c node st st.length) W2 (HS1.out.fr F2 (by omega)).rdk S2.rdk (HM1.out.fr F2 (by omega)) M2 (by have := imageMs_len c node st HKP.out.q4 st.length (Nat.le_refl _); have := HLEN.out; omega))
        obtain ⟨ma2, mc2, rfl, -⟩ := id S2.form
        clear F2 S2 M2 HS1 HM1 HP1
        go_wp2_with fail
        refine HSM.out.mono ?_
        rintro e W3 ⟨rfl, V3⟩
        have HP3 := hid_ (HP2.out.below HG.out V3)
        clear V3 HSM HP2
        go_wp2
        go_ret
        exact ⟨rfl, HP3.out.T.old⟩
      · have j1 : (i : Int) < (acts.length : Int) := by omega
        have j2 : ¬ (i : Int) < 120 := by omega
        clear h1 h2
        go_wp2_with fail
        refine (portsImage c HG.out C 100 500 b ab (by omega) ⟨by omega, by omega⟩ pu qu ru node lv st wr HPS.out.fin HPS.out.p HKP.out.q4 (fun i _ => HKP.out.b16 i)).mono ?_
        rintro e W1 ⟨mv, cs1, C1, rfl, F1, S1, M1⟩
        have HP1 := hid_ (HPS.out.fr HG.out F1 (fun x hx => by omega))
        have HS1 := hid_ S1
        have HM1 := hid_ M1
        obtain ⟨ma, mc, rfl, -⟩ := id S1.form
        clear F1 S1 M1
        go_wp2_with fail
        refine (rpImage_false c HG.out C1 300 510 rb rab (by omega) ⟨by omega, by omega⟩ pv qv rv node lv2 st W1 HP1.out.fin HP1.out.q HKP.out.q4).mono ?_
        rintro e W2 ⟨mv2, cs2, C2, rfl, F2, S2, M2⟩
        have HP2 := hid_ (HP1.out.fr HG.out F2 (fun x hx => by omega))
        rw [rimgMs_false] at S2 M2
        have HSM := hid_ (sameMsgs C2 500 510 _ _ cs1 cs2 (imageMs c node st st.length) W2 (HS1.out.fr F2 (by omega)).rdk S2.rdk (HM1.out.fr F2 (by omega)) M2 (by have := imageMs_len c node st HKP.out.q4 st.length (Nat.le_refl _); have := HLEN.out; omega))
        obtain ⟨ma2, mc2, rfl, -⟩ := id S2.form
        clear F2 S2 M2 HS1 HM1 HP1
        go_wp2_with fail
        refine HSM.out.mono ?_
        rintro e W3 ⟨rfl, V3⟩
        have HP3 := hid_ (HP2.out.below HG.out V3)
        clear V3 HSM HP2
        go_wp2
        go_ret
        exact ⟨rfl, HP3.out.T.old⟩
end Go.Proofs.Ytogfbeibpfdleaa
