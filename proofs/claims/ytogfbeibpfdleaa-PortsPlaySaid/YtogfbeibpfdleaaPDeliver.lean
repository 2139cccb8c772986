/- Package ports: Deliver. No condition but that the tables work, and not too many messages. -/
import Derived.Test.YtogfbeibpfdleaaPSeal
import Derived.Test.YtogfbeibpfdleaaPPutS
set_option linter.unusedSimpArgs false
set_option linter.unusedVariables false
namespace Go.Proofs.Ytogfbeibpfdleaa
open Go.RowKit Go.Maps
attribute [local go_sem ↓] Go.wp_at_zero Go.wp_at_succ

/-- Is there room for a message? -/
def putB (c : Cfg) (st : List PSt) (j : Nat) : Bool := decide ((c.port j).kind = 1) || decide (((st.getD j default).q.length : Int) < (c.port j).depth)
def putS (c : Cfg) (st : List PSt) (j : Nat) (d : List UInt8) : List PSt := if putB c st j = true then putIn c st j d else st
theorem putS_len (c : Cfg) (st : List PSt) (j : Nat) (d : List UInt8) : (putS c st j d).length = st.length := by
  unfold putS putIn
  split
  · rw [List.length_set]
  · rfl
def PutP (c : Cfg) (C : Nat → Nat) (k b ab : Nat) (pv qv rv : Value) (node : Int) (st : List PSt) (j : Nat) (d : List UInt8) (w : World) (e : Ending) (w' : World) : Prop :=
  e = .returned (.bool (putB c st j)) ∧ ∃ C' lv', Fr (fun x => k ≤ x ∧ x < k + 100) C C' w w' ∧ IsPorts w' C' k b ab c pv qv rv node lv' (putS c st j d)

theorem portsPut (c : Cfg) (hg : Good c) (C : Nat → Nat) (k b ab : Nat) (hk : k ≠ 0) (hab : ab ≠ b) (pv qv rv : Value) (node : Int) (j : Nat) (lv : Nat → Value) (st : List PSt) (dv : Value) (d : List UInt8) (w : World) (hf : Fin C w) (h : IsPorts w C k b ab c pv qv rv node lv st) (hj : j < c.ports.length)
    (hd : IsBytes w C dv d) (hs : (d.length : Int) ≤ 16) :
    Calls Try.prog 42 #[.pointer (some ⟨b, 0, none⟩), .int .i64 (j : Int), dv] w (PutP c C k b ab pv qv rv node st j d w) := by
  by_cases h1 : (c.port j).kind = 1
  · have hB : putB c st j = true := by unfold putB; simp [h1]
    refine (put_samp c hg C k b ab hk hab pv qv rv node j lv st dv d w hf h hj hd hs h1).mono ?_
    rintro e w' ⟨rfl, C', lv', h2, h3⟩
    refine ⟨by rw [hB], C', lv', h2, ?_⟩
    unfold putS
    rw [if_pos hB]
    exact h3
  · by_cases h2 : ((st.getD j default).q.length : Int) < (c.port j).depth
    · have hB : putB c st j = true := by unfold putB; simp only [Bool.or_eq_true, decide_eq_true_eq]; exact .inr h2
      refine (put_queue c hg C k b ab hk hab pv qv rv node j lv st dv d w hf h hj hd hs h1 h2).mono ?_
      rintro e w' ⟨rfl, C', lv', h2, h3⟩
      refine ⟨by rw [hB], C', lv', h2, ?_⟩
      unfold putS
      rw [if_pos hB]
      exact h3
    · have hB : putB c st j = false := by unfold putB; simp only [Bool.or_eq_false_iff, decide_eq_false_iff_not]; exact ⟨h1, h2⟩
      refine (put_full c hg C k b ab hk hab pv qv rv node j lv st dv d w hf h hj hd hs h1 (by omega)).mono ?_
      rintro e w' ⟨rfl, h2⟩
      have G := Fr.of_below (C := C) h2 (fun x => k ≤ x ∧ x < k + 100)
      refine ⟨by rw [hB], C, lv, G, ?_⟩
      unfold putS
      rw [if_neg (by rw [hB]; simp)]
      exact h.fr (Fr.of_below (C := C) h2 (fun _ => False)) (fun x hx => hx.elim) (by rw [h.len]; exact hg.nq)

/-- A slice that nobody writes while its colour kc stays. -/
def RdK (w : World) (C : Nat → Nat) (kc : Nat) (v : Value) (sz n : Nat) (cs : List Value) : Prop :=
  ∃ a cap, v = .slice a n cap ∧ n ≤ cap ∧ cap ≤ maxLen ∧ cs.length = n * sz ∧
    (0 < n → ∃ b off, a = some ⟨b, off, none⟩ ∧ C b = kc ∧ b < w.heap.size ∧ ∀ i x, cs[i]? = some x → w.cell? ⟨b, off + i, none⟩ = some x)
theorem Rd.rdk {w : World} {C : Nat → Nat} {v : Value} {sz n : Nat} {cs : List Value} (h : Rd w C v sz n cs) : RdK w C 0 v sz n cs := h
theorem Sl.rdk {w : World} {C : Nat → Nat} {k : Nat} {v : Value} {e : TypeId} {sz n : Nat} {cs : List Value} (h : Sl w C k v e sz n cs) : RdK w C k v sz n cs := by
  obtain ⟨a, cap, rfl, h1, h2, h3⟩ := h.form
  exact ⟨a, cap, rfl, h1, h2, h3, fun hn => by
    obtain ⟨b, off, h4, h5, h6, h7⟩ := h.at hn
    exact ⟨b, off, h4, h5, h6, h7⟩⟩
theorem IsMsgs.get {w : World} {C : Nat → Nat} : ∀ {cs : List Value} {ms : List Msg} {i : Nat}, IsMsgs w C cs ms → i < ms.length → ∃ v, cs[i * 2]? = some (.int .i64 (ms.getD i default).port) ∧ cs[i * 2 + 1]? = some v ∧ IsBytes w C v (ms.getD i default).d ∧ v.oneCell' = true
  | a :: v :: cs, m :: ms, 0, ⟨h1, h2, h3, _⟩, _ => ⟨v, by rw [h1]; rfl, rfl, h2, h3⟩
  | a :: v :: cs, m :: ms, i + 1, ⟨_, _, _, h4⟩, hi => by
    obtain ⟨u, h5, h6, h7, h8⟩ := h4.get (i := i) (by simpa using hi)
    refine ⟨u, ?_, ?_, ?_, h8⟩
    · rw [show (i + 1) * 2 = i * 2 + 1 + 1 by omega]; simpa using h5
    · rw [show (i + 1) * 2 + 1 = i * 2 + 1 + 1 + 1 by omega]; simpa using h6
    · simpa using h7
  | [], [], _, _, hi => absurd hi (by simp)
  | [_], [], _, _, hi => absurd hi (by simp)
  | _ :: _ :: _, [], _, _, hi => absurd hi (by simp)
  | [], _ :: _, _, h, _ => h.elim
  | [_], _ :: _, _, h, _ => h.elim

/-- One message over the first n routes: what the ports hold, and how many found room. -/
def viaR (c : Cfg) (node : Int) (st : List PSt) (p : Nat) (d : List UInt8) : Nat → List PSt × Nat
  | 0 => (st, 0)
  | n + 1 =>
    let s := viaR c node st p d n
    if ((c.route n).src == (p : Int)) = true ∧ mineB c node (c.route n).dst.toNat = true then (putS c s.1 (c.route n).dst.toNat d, s.2 + (if putB c s.1 (c.route n).dst.toNat = true then 1 else 0)) else s
theorem viaR_len (c : Cfg) (node : Int) (st : List PSt) (p : Nat) (d : List UInt8) : ∀ n, (viaR c node st p d n).1.length = st.length ∧ (viaR c node st p d n).2 ≤ n
  | 0 => ⟨rfl, Nat.le_refl _⟩
  | n + 1 => by
    obtain ⟨h1, h2⟩ := viaR_len c node st p d n
    unfold viaR
    simp only
    split
    · refine ⟨by rw [putS_len]; exact h1, ?_⟩
      simp only
      split <;> omega
    · exact ⟨h1, by omega⟩
/-- Does a message of a node count? -/
def msgB (c : Cfg) (src : Int) (m : Msg) : Bool :=
  decide (0 ≤ m.port) && decide (m.port < c.ports.length) && (c.port m.port.toNat).out && ((c.part (c.port m.port.toNat).part.toNat).node == src) && decide ((m.d.length : Int) ≤ (c.port m.port.toNat).size)
/-- The first n messages. -/
def delivR (c : Cfg) (node src : Int) (st : List PSt) (ms : List Msg) : Nat → List PSt × Nat
  | 0 => (st, 0)
  | n + 1 =>
    let s := delivR c node src st ms n
    let m := ms.getD n default
    if msgB c src m = true then let t := viaR c node s.1 m.port.toNat m.d c.routes.length; (t.1, s.2 + t.2) else s
theorem delivR_len (c : Cfg) (node src : Int) (st : List PSt) (ms : List Msg) : ∀ n, (delivR c node src st ms n).1.length = st.length ∧ (delivR c node src st ms n).2 ≤ n * c.routes.length
  | 0 => ⟨rfl, Nat.zero_le _⟩
  | n + 1 => by
    obtain ⟨h1, h2⟩ := delivR_len c node src st ms n
    unfold delivR
    simp only
    split
    · obtain ⟨h3, h4⟩ := viaR_len c node (delivR c node src st ms n).1 (ms.getD n default).port.toNat (ms.getD n default).d c.routes.length
      refine ⟨h3.trans h1, ?_⟩
      simp only
      rw [Nat.add_mul, Nat.one_mul]
      omega
    · rw [Nat.add_mul]
      exact ⟨h1, by omega⟩
theorem route_in {c : Cfg} (hg : Good c) {r : Nat} (hr : r < c.routes.length) : ∃ s t : Nat, (c.route r).src = (s : Int) ∧ (c.route r).dst = (t : Int) ∧ s < c.ports.length ∧ t < c.ports.length := by
  have := hg.routes r hr
  unfold routeIn inb at this
  simp only [Bool.and_eq_true, decide_eq_true_eq] at this
  exact ⟨(c.route r).src.toNat, (c.route r).dst.toNat, by omega, by omega, by omega, by omega⟩
end Go.Proofs.Ytogfbeibpfdleaa
