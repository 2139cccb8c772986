/- ports.Ports: Write and Read at whatever part and port. No condition but that the tables work. -/
import Derived.Test.YtogfbeibpfdleaaPWrite
import Derived.Test.YtogfbeibpfdleaaPWriteS
import Derived.Test.YtogfbeibpfdleaaPWriteE
import Derived.Test.YtogfbeibpfdleaaPBad
import Derived.Test.YtogfbeibpfdleaaPRead
set_option linter.unusedSimpArgs false
set_option linter.unusedVariables false
namespace Go.Proofs.Ytogfbeibpfdleaa
open Go.RowKit Go.Maps

theorem findE_none {c : Cfg} (hg : Good c) {node part port : Int} {out : Bool} (h : findE c node part port out = none) :
    ∃ i j : Nat, part = (i : Int) ∧ port = (j : Int) ∧ j < c.ports.length ∧ (c.port j).part = (i : Int) ∧ i < c.parts.length ∧ node = (c.part i).node ∧ (c.port j).out = out := by
  unfold findE at h
  split at h
  · cases h
  · rename_i h1
    split at h
    · cases h
    · rename_i h2
      have p0 : 0 ≤ port := by omega
      obtain ⟨j, rfl⟩ := Int.eq_ofNat_of_zero_le p0
      have hj : j < c.ports.length := by omega
      obtain ⟨q0, q1⟩ := part_in hg hj
      simp only [Int.toNat_natCast] at h1 h2
      have hp : (c.port j).part = part := by
        by_cases e : (c.port j).part = part
        · exact e
        · exact absurd (Or.inr (Or.inr (Or.inl e))) h1
      obtain ⟨i, hi⟩ := Int.eq_ofNat_of_zero_le q0
      have hpi : part = (i : Int) := by rw [← hp]; exact hi
      subst hpi
      simp only [Int.toNat_natCast] at h1
      refine ⟨i, j, rfl, rfl, hj, hp, by omega, ?_, ?_⟩
      · by_cases e : (c.part i).node = node
        · exact e.symm
        · exact absurd (Or.inr (Or.inr (Or.inr e))) h1
      · by_cases e : (c.port j).out = out
        · exact e
        · exact absurd e h2

def writeE (c : Cfg) (node part port : Int) (d : List UInt8) (st : List PSt) : Option (Int × Int) :=
  match findE c node part port true with
  | some x => some x
  | none => if (c.port port.toNat).size < (d.length : Int) then some (12, port) else if (c.port port.toNat).kind = 1 then none
    else if (c.port port.toNat).depth ≤ ((st.getD port.toNat default).q.length : Int) then some (11, port) else none
def writeS (c : Cfg) (node part port : Int) (d : List UInt8) (st : List PSt) : List PSt :=
  match writeE c node part port d st with
  | some _ => st
  | none => putSt c st port.toNat d
/-- What Write leaves. -/
def WriteP (c : Cfg) (C : Nat → Nat) (k b ab : Nat) (pv qv rv : Value) (node : Int) (E : Option (Int × Int)) (st' : List PSt) (w : World) (e : Ending) (w' : World) : Prop :=
  ∃ ev C' lv', e = .returned ev ∧ ErrO w w' ev E ∧ Fr (fun x => k ≤ x ∧ x < k + 100) C C' w w' ∧ IsPorts w' C' k b ab c pv qv rv node lv' st'
theorem nq24 {c : Cfg} (hg : Good c) : c.ports.length ≤ 24 := hg.nq

theorem portsWrite (c : Cfg) (hg : Good c) (C : Nat → Nat) (k b ab : Nat) (hk : k ≠ 0) (hab : ab ≠ b) (pv qv rv : Value) (node part port : Int) (lv : Nat → Value) (st : List PSt) (dv : Value) (d : List UInt8) (w : World) (hf : Fin C w) (h : IsPorts w C k b ab c pv qv rv node lv st) (hd : IsBytes w C dv d) :
    Calls Try.prog 13 #[.pointer (some ⟨b, 0, none⟩), .int .i64 part, .int .i64 port, dv] w (WriteP c C k b ab pv qv rv node (writeE c node part port d st) (writeS c node part port d st) w) := by
  have keep : ∀ (x : Int × Int) (e : Ending) (w' : World), writeE c node part port d st = some x → (∃ ev, e = .returned ev ∧ Below w.heap.size w w' ∧ ErrO w w' ev (some x)) → WriteP c C k b ab pv qv rv node (writeE c node part port d st) (writeS c node part port d st) w e w' := by
    rintro x e w' hx ⟨ev, he, hb, hE⟩
    have f := Fr.of_below (C := C) hb (fun _ => False)
    refine ⟨ev, C, lv, he, by rw [hx]; exact hE, f.mono (fun _ h => h.elim), ?_⟩
    unfold writeS
    rw [hx]
    exact h.fr f (fun x hx => hx.elim) (by rw [h.len]; exact nq24 hg)
  cases hF : findE c node part port true with
  | some x =>
    have hx : writeE c node part port d st = some x := by unfold writeE; rw [hF]
    exact (write_bad c hg C k b ab pv qv rv node part port lv st dv w h x hF).mono fun e w' hh => keep x e w' hx hh
  | none =>
    obtain ⟨i, j, rfl, rfl, hj, hi, hil, rfl, ho⟩ := findE_none hg hF
    by_cases h1 : (c.port j).size < (d.length : Int)
    · have hx : writeE c (c.part i).node i j d st = some (12, (j : Int)) := by unfold writeE; rw [hF]; simp only [Int.toNat_natCast]; rw [if_pos h1]
      exact (write_size c hg C k b ab hk hab pv qv rv i j lv st dv d w hf h hj hi hil ho hd h1).mono fun e w' hh => keep _ e w' hx hh
    · by_cases h2 : (c.port j).kind = 1
      · have hx : writeE c (c.part i).node i j d st = none := by unfold writeE; rw [hF]; simp only [Int.toNat_natCast]; rw [if_neg h1, if_pos h2]
        refine (write_samp c hg C k b ab hk hab pv qv rv i j lv st dv d w hf h hj hi hil ho hd (by omega) h2).mono fun e w' hh => ?_
        obtain ⟨he, C', lv', hfr, hp⟩ := hh
        refine ⟨_, C', lv', he, by rw [hx]; rfl, hfr, ?_⟩
        unfold writeS
        rw [hx]
        exact hp
      · by_cases h3 : (c.port j).depth ≤ ((st.getD j default).q.length : Int)
        · have hx : writeE c (c.part i).node i j d st = some (11, (j : Int)) := by unfold writeE; rw [hF]; simp only [Int.toNat_natCast]; rw [if_neg h1, if_neg h2, if_pos h3]
          exact (write_full c hg C k b ab hk hab pv qv rv i j lv st dv d w hf h hj hi hil ho hd (by omega) h2 h3).mono fun e w' hh => keep _ e w' hx hh
        · have hx : writeE c (c.part i).node i j d st = none := by unfold writeE; rw [hF]; simp only [Int.toNat_natCast]; rw [if_neg h1, if_neg h2, if_neg h3]
          refine (write_queue c hg C k b ab hk hab pv qv rv i j lv st dv d w hf h hj hi hil ho hd (by omega) h2 (by omega)).mono fun e w' hh => ?_
          obtain ⟨he, C', lv', hfr, hp⟩ := hh
          refine ⟨_, C', lv', he, by rw [hx]; rfl, hfr, ?_⟩
          unfold writeS
          rw [hx]
          exact hp

def readE (c : Cfg) (node part port : Int) (st : List PSt) : Option (Int × Int) :=
  match findE c node part port false with
  | some x => some x
  | none => if (st.getD port.toNat default).q = [] then some (10, port) else none
/-- What Read tells: the bytes, and whether they are fresh. -/
def readD (c : Cfg) (node part port : Int) (st : List PSt) : Option (List UInt8 × Bool) :=
  match readE c node part port st with
  | some _ => none
  | none => some ((st.getD port.toNat default).q.headD [], if (c.port port.toNat).kind = 1 then decide ((st.getD port.toNat default).age ≤ (c.port port.toNat).fresh) else true)
def readS (c : Cfg) (node part port : Int) (st : List PSt) : List PSt :=
  match readE c node part port st with
  | some _ => st
  | none => if (c.port port.toNat).kind = 1 then st else st.set port.toNat { st.getD port.toNat default with q := (st.getD port.toNat default).q.tail }
def ReadV (w : World) (C : Nat → Nat) (v fv : Value) : Option (List UInt8 × Bool) → Prop
  | none => v = .slice none 0 0 ∧ fv = .bool false
  | some (d, f) => IsBytes w C v d ∧ fv = .bool f
/-- What Read leaves. -/
def ReadP (c : Cfg) (C : Nat → Nat) (k b ab : Nat) (pv qv rv : Value) (node : Int) (D : Option (List UInt8 × Bool)) (E : Option (Int × Int)) (st' : List PSt) (w : World) (e : Ending) (w' : World) : Prop :=
  ∃ v fv ev C' lv', e = .returned (.tuple #[v, fv, ev]) ∧ ReadV w' C' v fv D ∧ ErrO w w' ev E ∧ Fr (fun x => k ≤ x ∧ x < k + 100) C C' w w' ∧ IsPorts w' C' k b ab c pv qv rv node lv' st'

theorem portsRead (c : Cfg) (hg : Good c) (C : Nat → Nat) (k b ab : Nat) (hk : k ≠ 0) (hab : ab ≠ b) (pv qv rv : Value) (node part port : Int) (lv : Nat → Value) (st : List PSt) (w : World) (hf : Fin C w) (h : IsPorts w C k b ab c pv qv rv node lv st) (hbytes : ∀ j, ∀ x ∈ (st.getD j default).q, x.length ≤ 140737488355328) :
    Calls Try.prog 16 #[.pointer (some ⟨b, 0, none⟩), .int .i64 part, .int .i64 port] w (ReadP c C k b ab pv qv rv node (readD c node part port st) (readE c node part port st) (readS c node part port st) w) := by
  have keep : ∀ (x : Int × Int) (e : Ending) (w' : World), readE c node part port st = some x → (∃ ev, e = .returned (.tuple #[.slice none 0 0, .bool false, ev]) ∧ Below w.heap.size w w' ∧ ErrO w w' ev (some x)) → ReadP c C k b ab pv qv rv node (readD c node part port st) (readE c node part port st) (readS c node part port st) w e w' := by
    rintro x e w' hx ⟨ev, he, hb, hE⟩
    have f := Fr.of_below (C := C) hb (fun _ => False)
    refine ⟨_, _, ev, C, lv, he, ?_, by rw [hx]; exact hE, f.mono (fun _ h => h.elim), ?_⟩
    · unfold readD
      rw [hx]
      exact ⟨rfl, rfl⟩
    · unfold readS
      rw [hx]
      exact h.fr f (fun x hx => hx.elim) (by rw [h.len]; exact nq24 hg)
  cases hF : findE c node part port false with
  | some x =>
    have hx : readE c node part port st = some x := by unfold readE; rw [hF]
    exact (read_bad c hg C k b ab pv qv rv node part port lv st w h x hF).mono fun e w' hh => keep x e w' hx hh
  | none =>
    obtain ⟨i, j, rfl, rfl, hj, hi, hil, rfl, ho⟩ := findE_none hg hF
    by_cases h1 : (st.getD j default).q = []
    · have hx : readE c (c.part i).node i j st = some (10, (j : Int)) := by unfold readE; rw [hF]; simp only [Int.toNat_natCast]; rw [if_pos h1]
      exact (read_empty c hg C k b ab hk hab pv qv rv i j lv st w hf h hj hi hil ho h1).mono fun e w' hh => keep _ e w' hx hh
    · have hx : readE c (c.part i).node i j st = none := by unfold readE; rw [hF]; simp only [Int.toNat_natCast]; rw [if_neg h1]
      by_cases h2 : (c.port j).kind = 1
      · refine (read_samp c hg C k b ab hk hab pv qv rv i j lv st w hf h hj hi hil ho (hbytes j) h1 h2).mono fun e w' hh => ?_
        obtain ⟨v, d, q, hq, he, hv, hb⟩ := hh
        have f := Fr.of_below (C := C) hb (fun _ => False)
        refine ⟨_, _, _, C, lv, he, ?_, by rw [hx]; rfl, f.mono (fun _ h => h.elim), ?_⟩
        · unfold readD
          rw [hx]
          simp only [Int.toNat_natCast]
          rw [if_pos h2, hq]
          exact ⟨hv, rfl⟩
        · unfold readS
          rw [hx]
          simp only [Int.toNat_natCast]
          rw [if_pos h2]
          exact h.fr f (fun x hx => hx.elim) (by rw [h.len]; exact nq24 hg)
      · refine (read_queue c hg C k b ab hk hab pv qv rv i j lv st w hf h hj hi hil ho (hbytes j) h1 h2).mono fun e w' hh => ?_
        obtain ⟨v, d, q, hq, he, hv, lv', hfr, hp⟩ := hh
        refine ⟨_, _, _, C, lv', he, ?_, by rw [hx]; rfl, hfr, ?_⟩
        · unfold readD
          rw [hx]
          simp only [Int.toNat_natCast]
          rw [if_neg h2, hq]
          exact ⟨hv, rfl⟩
        · unfold readS
          rw [hx]
          simp only [Int.toNat_natCast]
          rw [if_neg h2, hq]
          exact hp
end Go.Proofs.Ytogfbeibpfdleaa
