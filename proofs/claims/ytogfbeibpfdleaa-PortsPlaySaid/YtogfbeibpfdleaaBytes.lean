/- Bytes: as strings; lists of them. No condition. -/
import Derived.Test.YtogfbeibpfdleaaOpenW
import Derived.Test.YtogfbeibpfdleaaNum
set_option linter.unusedSimpArgs false
set_option linter.unusedVariables false
namespace Go.Proofs.Ytogfbeibpfdleaa
open Go.RowKit Go.Maps

theorem info_u8 : (Try.prog.info? 5).map (fun i => (i.zero, i.size, i.bytes)) = some (some (.int .u8 0), 1, 1) := by kernel_rfl
theorem info_bs : (Try.prog.info? 40).map (fun i => (i.zero, i.size, i.bytes)) = some (some (.slice none 0 0), 1, 24) := by kernel_rfl

def BytesAll (w : World) (C : Nat → Nat) : List Value → List (List UInt8) → Prop
  | [], [] => True
  | v :: vs, d :: q => IsBytes w C v d ∧ v.oneCell' = true ∧ BytesAll w C vs q
  | _, _ => False
theorem BytesAll.fr {K : Nat → Prop} {C C' : Nat → Nat} {w w' : World} (f : Fr K C C' w w') (hk : ¬ K 0) : ∀ {vs : List Value} {q : List (List UInt8)}, BytesAll w C vs q → BytesAll w' C' vs q
  | [], [], _ => trivial
  | v :: vs, d :: q, ⟨h1, h2, h3⟩ => ⟨Rd.fr h1 f hk, h2, BytesAll.fr f hk h3⟩
theorem BytesAll.len {w : World} {C : Nat → Nat} : ∀ {vs : List Value} {q : List (List UInt8)}, BytesAll w C vs q → vs.length = q.length
  | [], [], _ => rfl
  | _ :: _, _ :: _, ⟨_, _, h⟩ => by simp [h.len]
theorem BytesAll.snoc {w : World} {C : Nat → Nat} {v : Value} {d : List UInt8} (h1 : IsBytes w C v d) (h2 : v.oneCell' = true) : ∀ {vs : List Value} {q : List (List UInt8)}, BytesAll w C vs q → BytesAll w C (vs ++ [v]) (q ++ [d])
  | [], [], _ => ⟨h1, h2, trivial⟩
  | _ :: _, _ :: _, ⟨h3, h4, h⟩ => ⟨h3, h4, h.snoc h1 h2⟩

theorem loadCells_zero {P : Program} (w : World) (a : Addr) : (loadCells a 0).run P w = .ok #[] w := by
  have := run_loadCells_list (P := P) w a [] (by simp)
  simpa using this
/-- Bytes that are read as a string. -/
theorem bytes_str {w : World} {C : Nat → Nat} {v : Value} {d : List UInt8} (h : IsBytes w C v d) : (convert 40 9 v).run Try.prog w = .ok (.string ⟨d.toArray⟩) w := by
  obtain ⟨a, cap, rfl, h1, h2, h3, h4⟩ := h
  by_cases hn : 0 < d.length
  · obtain ⟨b, off, rfl, _, _, hc⟩ := h4 hn
    refine str_of d fun i x hx => hc i _ ?_
    unfold byteV
    rw [List.getElem?_map, hx]
    rfl
  · have hd : d = [] := List.eq_nil_of_length_eq_zero (by omega)
    subst hd
    rw [run_convert_bytes_string w _ _ _ _ _ _ Try.underlying40 Try.underlying5 Try.underlying9]
    cases a with
    | none => rfl
    | some a =>
      have hc := loadCells_zero (P := Try.prog) w a
      exact run_bytesToString (P := Try.prog) w a 0 cap [] (by simpa using hc)

theorem info_str : (Try.prog.info? 9).map (fun i => (i.zero.map (·.cells.size), i.size, i.bytes)) = some (some 1, 1, 16) := by kernel_rfl
theorem info_u8' : (Try.prog.info? 5).map (fun i => (i.zero.map (·.cells.size), i.size, i.bytes)) = some (some 1, 1, 1) := by kernel_rfl
end Go.Proofs.Ytogfbeibpfdleaa
