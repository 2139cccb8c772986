/- The document's Has. No condition but that the text's numbers are moderate. -/
import Derived.Test.YtohmnkjiohjjoaaDoorRTrail
set_option linter.unusedSimpArgs false
set_option linter.unusedVariables false
namespace Go.Proofs.YtohmnkjiohjjoaaDoor
open Go.RowKit Go.Maps

def hasL (c : Int) : List Int → Bool
  | [] => false
  | d :: r => d == c || hasL c r
theorem hasL_map (c : Int) : ∀ e : List (Int × Option Int), hasL c (e.map (·.1)) = hasE c e
  | [] => rfl
  | (d, _) :: r => by
    show (d == c || hasL c (r.map (·.1))) = (d == c || hasE c r)
    rw [hasL_map c r]

set_option maxRecDepth 100000 in
set_option maxHeartbeats 4000000 in
theorem refHas_any (s : ByteArray) (ns : List Int) (c : Int) (w : World) (hs : scanO s.data.toList 0 false false = some ns) (hl : s.size ≤ 100000) :
    Calls Tryd.prog 14 #[.string s, .int .i64 c] w fun r w' => r = .returned (.bool (hasL c ns)) ∧ Below w.heap.size w w' := by
  have HT := hid_ (refTrail_any s ns w hs hl)
  clear hs
  go_enter Tryd.func14, Tryd.ntmps14
  go_wp2_with fail
  refine HT.out.mono ?_
  rintro x w1 ⟨v, rfl, hv, hb⟩
  have R := hv.rd (fin0 w)
  have HR := hid_ R
  obtain ⟨a, cap, rfl, hc, hm, -⟩ := id R
  have hm2 : cap ≤ 9223372036854775807 := by simpa [maxLen] using hm
  clear hv R hm
  go_wp2_with fail
  go_loopw [6] (fun iv wr => ∃ i : Nat, i ≤ ns.length ∧ iv = .int .i64 i ∧ w1 = wr ∧ hasL c ns = hasL c (ns.drop i)) (fun iv _ => ns.length - (intOf iv).toNat)
  case atStart => exact ⟨0, Nat.zero_le _, rfl, rfl, rfl⟩
  case round =>
    obtain ⟨i, hi, rfl, rfl, hh⟩ := hrel
    have i0 : (0 : Int) ≤ (i : Int) := Int.natCast_nonneg _
    by_cases hlt : i < ns.length
    · have i1 : (i : Int) < (ns.length : Int) := by omega
      obtain ⟨b, off, rfl, hcell⟩ := HR.out.at (by omega)
      obtain ⟨d, hd⟩ : ∃ d, ns[i]? = some d := ⟨_, List.getElem?_eq_getElem hlt⟩
      have c0 := hcell i (.int .i64 d) (by rw [List.getElem?_map, hd]; rfl)
      have hdr : ns.drop i = d :: ns.drop (i + 1) := by
        rw [List.drop_eq_getElem_cons hlt]
        congr 1
        rw [List.getElem?_eq_getElem hlt] at hd
        exact Option.some.inj hd
      rw [hdr] at hh
      have HH := hid_ hh
      clear hh hdr hd hcell
      by_cases he : d = c
      · subst he
        go_wp2
        go_ret
        exact ⟨by rw [HH.out]; simp [hasL], hb⟩
      · have hq : (d == c) = false := by simpa using he
        have HH2 := hid_ (show hasL c ns = hasL c (ns.drop (i + 1)) from by rw [HH.out]; simp [hasL, he])
        clear he HH
        go_wp2
        go_roundw
        case rel => exact ⟨i + 1, by omega, by go_num, trivial, HH2.out⟩
        case measure => simp [intOf]; omega
    · obtain rfl : i = ns.length := by omega
      rw [List.drop_length] at hh
      have HH := hid_ hh
      clear hh
      go_wp2
      go_ret
      exact ⟨by rw [HH.out]; rfl, hb⟩
end Go.Proofs.YtohmnkjiohjjoaaDoor
