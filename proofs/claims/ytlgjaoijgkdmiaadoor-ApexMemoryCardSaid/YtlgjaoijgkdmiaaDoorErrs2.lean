/- errors.As at the program's own errors, by contracts. Printed by gen_errs2.py. No condition but that errors.errorType holds its handle. -/
import Derived.Test.YtlgjaoijgkdmiaaDoorErrs
set_option linter.unusedSimpArgs false
set_option linter.unusedVariables false
namespace Go.Proofs.YtlgjaoijgkdmiaaDoor
open Go.RowKit Go.Maps Go.Extern.Stop Go.Stop Go.Extern

theorem as_nil (t : Value) (w : World) : Calls Tryd.prog 61 #[.nilIface, t] w fun e w' => e = .returned (.bool false) ∧ w' = w := by
  go_enter Tryd.func61, Tryd.ntmps61
  go_wp2
  go_ret
  exact ⟨rfl, rfl⟩

set_option maxRecDepth 100000 in
set_option maxHeartbeats 4000000 in
theorem as_ff (e : Addr) (t : Addr) (old : Value) (w : World) (hg : ErrT w) (ht0 : w.cell? t = some old) (hf0 : w.frozen? t = false) :
    Calls Tryd.prog 61 #[.iface 106 (.pointer (some e)), .iface 142 (.pointer (some t))] w fun ev w' => ev = .returned (.bool true) ∧ w' = ((((w.alloc (.cells #[.pointer (some t)] 142)).alloc (.cells #[.pointer (some ⟨1, 142, none⟩), .pointer (some ⟨w.heap.size, 0, none⟩), .int .u64 150] 154)).alloc (.cells #[.pointer (some ⟨1, 142, none⟩), .pointer (some ⟨w.heap.size, 0, none⟩), .int .u64 150] 154)).alloc (.cells #[.pointer (some e)] 106)).setCell t (.pointer (some e)) := by
  have x1 := @run_callFunc_extern Tryd.prog 64 _ (fun args => ReflectliteValue.unpack (args.getD 0 (.tuple #[]))) Tryd.func64 (by kernel_rfl) (by kernel_rfl) (by kernel_rfl) (by kernel_rfl)
  have x2 := @run_callFunc_extern Tryd.prog 65 _ (ReflectliteValue.methodAny (ReflectliteValue.valueError "reflectlite.Value.Type" 0) (fun t _ _ _ => ReflectliteType.toType t)) Tryd.func65 (by kernel_rfl) (by kernel_rfl) (by kernel_rfl) (by kernel_rfl)
  have x3 := @run_callFunc_extern Tryd.prog 66 _ (ReflectliteValue.method (ReflectliteValue.valueError "reflectlite.Value.IsNil" 0) ReflectliteValue.isNil) Tryd.func66 (by kernel_rfl) (by kernel_rfl) (by kernel_rfl) (by kernel_rfl)
  have x4 := @run_callFunc_extern Tryd.prog 84 _ (ReflectliteType.abiMethod fun t => do pure (.int .u8 (← Rtype.kind t))) Tryd.func84 (by kernel_rfl) (by kernel_rfl) (by kernel_rfl) (by kernel_rfl)
  have x5 := @run_callFunc_extern Tryd.prog 99 _ (ReflectliteType.method ReflectliteType.elem) Tryd.func99 (by kernel_rfl) (by kernel_rfl) (by kernel_rfl) (by kernel_rfl)
  have x6 := @run_callFunc_extern Tryd.prog 100 _ (ReflectliteType.relation "Implements" ReflectliteType.implements_) Tryd.func100 (by kernel_rfl) (by kernel_rfl) (by kernel_rfl) (by kernel_rfl)
  have x7 := @run_callFunc_extern Tryd.prog 62 _ ReflectliteType.typeOf Tryd.func62 (by kernel_rfl) (by kernel_rfl) (by kernel_rfl) (by kernel_rfl)
  have x8 := @run_callFunc_extern Tryd.prog 97 _ (ReflectliteType.relation "AssignableTo" ReflectliteType.assignableTo) Tryd.func97 (by kernel_rfl) (by kernel_rfl) (by kernel_rfl) (by kernel_rfl)
  have x9 := @run_callFunc_extern Tryd.prog 68 _ (ReflectliteValue.method (ReflectliteValue.valueError "reflectlite.Value.Elem" 0) ReflectliteValue.elem) Tryd.func68 (by kernel_rfl) (by kernel_rfl) (by kernel_rfl) (by kernel_rfl)
  have x10 := @run_callFunc_extern Tryd.prog 69 _ ReflectliteValue.set Tryd.func69 (by kernel_rfl) (by kernel_rfl) (by kernel_rfl) (by kernel_rfl)
  have m1 := method_Kind
  have m2 := method_Elem
  have m3 := method_Implements
  have m4 := method_AssignableTo
  have y1 := valueOf_pf
  have y2 := type_pf
  have y3 := kind_pf
  have y4 := kind_f
  have y5 := elem_pf
  have y6 := implements_f
  have y7 := typeOf_f
  have y8 := assign_ff
  have y9 := valueOf_f
  have n8 := isNil_pf ⟨w.heap.size, 0, none⟩ t ((w.alloc (.cells #[.pointer (some t)] 142)).alloc (.cells #[.pointer (some ⟨1, 142, none⟩), .pointer (some ⟨w.heap.size, 0, none⟩), .int .u64 150] 154)) (by simp)
  have hlt : 0 < w.heap.size := Nat.lt_of_le_of_lt (Nat.zero_le _) (World.block_lt_of_cell? _ _ hg)
  have hg2 : ((w.alloc (.cells #[.pointer (some t)] 142)).alloc (.cells #[.pointer (some ⟨1, 142, none⟩), .pointer (some ⟨w.heap.size, 0, none⟩), .int .u64 150] 154)).cell? ⟨0, 0, none⟩ = some (.iface 162 (.agg #[.pointer (some ⟨1, 45, none⟩)])) := cell_alloc_keep _ (cell_alloc_keep _ hg)
  have htl : t.block < w.heap.size := World.block_lt_of_cell? _ _ ht0
  have el := elemV_pf ⟨w.heap.size, 0, none⟩ t (((w.alloc (.cells #[.pointer (some t)] 142)).alloc (.cells #[.pointer (some ⟨1, 142, none⟩), .pointer (some ⟨w.heap.size, 0, none⟩), .int .u64 150] 154)).alloc (.cells #[.pointer (some ⟨1, 142, none⟩), .pointer (some ⟨w.heap.size, 0, none⟩), .int .u64 150] 154)) (by rw [World.cell?_alloc_lt _ _ ⟨w.heap.size, 0, none⟩ (by simp; omega)]; simp)
  have st := set_f t ⟨w.heap.size + 1 + 1 + 1, 0, none⟩ e old ((((w.alloc (.cells #[.pointer (some t)] 142)).alloc (.cells #[.pointer (some ⟨1, 142, none⟩), .pointer (some ⟨w.heap.size, 0, none⟩), .int .u64 150] 154)).alloc (.cells #[.pointer (some ⟨1, 142, none⟩), .pointer (some ⟨w.heap.size, 0, none⟩), .int .u64 150] 154)).alloc (.cells #[.pointer (some e)] 106))
    (by rw [World.cell?_alloc_at _ _ _ _ (by simp)]; rfl)
    (by rw [World.cell?_alloc_lt _ _ t (by simp; omega), World.cell?_alloc_lt _ _ t (by simp; omega), World.cell?_alloc_lt _ _ t (by simp; omega), World.cell?_alloc_lt _ _ t htl]; exact ht0)
    (by rw [World.frozen?_alloc_old _ _ t (by simp; omega), World.frozen?_alloc_old _ _ t (by simp; omega), World.frozen?_alloc_old _ _ t (by simp; omega), World.frozen?_alloc_old _ _ t (Nat.ne_of_lt htl)]; exact hf0)
  clear hg
  go_enter Tryd.func61, Tryd.ntmps61
  go_wp2
  refine wp_loop_rounds 1 ?_
  rw [rounds_succ]
  go_wp2
  go_ret
  exact ⟨rfl, rfl⟩

set_option maxRecDepth 100000 in
set_option maxHeartbeats 4000000 in
theorem as_ef (n : Int) (t : Addr) (w : World) (hg : ErrT w) :
    Calls Tryd.prog 61 #[.iface 53 (.int .i64 n), .iface 142 (.pointer (some t))] w fun ev w' => ev = .returned (.bool false) ∧ w' = (((w.alloc (.cells #[.pointer (some t)] 142)).alloc (.cells #[.pointer (some ⟨1, 142, none⟩), .pointer (some ⟨w.heap.size, 0, none⟩), .int .u64 150] 154)).alloc (.cells #[.pointer (some ⟨1, 142, none⟩), .pointer (some ⟨w.heap.size, 0, none⟩), .int .u64 150] 154)) := by
  have x1 := @run_callFunc_extern Tryd.prog 64 _ (fun args => ReflectliteValue.unpack (args.getD 0 (.tuple #[]))) Tryd.func64 (by kernel_rfl) (by kernel_rfl) (by kernel_rfl) (by kernel_rfl)
  have x2 := @run_callFunc_extern Tryd.prog 65 _ (ReflectliteValue.methodAny (ReflectliteValue.valueError "reflectlite.Value.Type" 0) (fun t _ _ _ => ReflectliteType.toType t)) Tryd.func65 (by kernel_rfl) (by kernel_rfl) (by kernel_rfl) (by kernel_rfl)
  have x3 := @run_callFunc_extern Tryd.prog 66 _ (ReflectliteValue.method (ReflectliteValue.valueError "reflectlite.Value.IsNil" 0) ReflectliteValue.isNil) Tryd.func66 (by kernel_rfl) (by kernel_rfl) (by kernel_rfl) (by kernel_rfl)
  have x4 := @run_callFunc_extern Tryd.prog 84 _ (ReflectliteType.abiMethod fun t => do pure (.int .u8 (← Rtype.kind t))) Tryd.func84 (by kernel_rfl) (by kernel_rfl) (by kernel_rfl) (by kernel_rfl)
  have x5 := @run_callFunc_extern Tryd.prog 99 _ (ReflectliteType.method ReflectliteType.elem) Tryd.func99 (by kernel_rfl) (by kernel_rfl) (by kernel_rfl) (by kernel_rfl)
  have x6 := @run_callFunc_extern Tryd.prog 100 _ (ReflectliteType.relation "Implements" ReflectliteType.implements_) Tryd.func100 (by kernel_rfl) (by kernel_rfl) (by kernel_rfl) (by kernel_rfl)
  have x7 := @run_callFunc_extern Tryd.prog 62 _ ReflectliteType.typeOf Tryd.func62 (by kernel_rfl) (by kernel_rfl) (by kernel_rfl) (by kernel_rfl)
  have x8 := @run_callFunc_extern Tryd.prog 97 _ (ReflectliteType.relation "AssignableTo" ReflectliteType.assignableTo) Tryd.func97 (by kernel_rfl) (by kernel_rfl) (by kernel_rfl) (by kernel_rfl)
  have x9 := @run_callFunc_extern Tryd.prog 68 _ (ReflectliteValue.method (ReflectliteValue.valueError "reflectlite.Value.Elem" 0) ReflectliteValue.elem) Tryd.func68 (by kernel_rfl) (by kernel_rfl) (by kernel_rfl) (by kernel_rfl)
  have x10 := @run_callFunc_extern Tryd.prog 69 _ ReflectliteValue.set Tryd.func69 (by kernel_rfl) (by kernel_rfl) (by kernel_rfl) (by kernel_rfl)
  have m1 := method_Kind
  have m2 := method_Elem
  have m3 := method_Implements
  have m4 := method_AssignableTo
  have y1 := valueOf_pf
  have y2 := type_pf
  have y3 := kind_pf
  have y4 := kind_f
  have y5 := elem_pf
  have y6 := implements_f
  have y7 := typeOf_e
  have y8 := assign_ef
  have y9 := valueOf_e
  have z0 := noAs_e
  have z1 := noUn_e
  have z2 := noUns_e
  have n8 := isNil_pf ⟨w.heap.size, 0, none⟩ t ((w.alloc (.cells #[.pointer (some t)] 142)).alloc (.cells #[.pointer (some ⟨1, 142, none⟩), .pointer (some ⟨w.heap.size, 0, none⟩), .int .u64 150] 154)) (by simp)
  have hlt : 0 < w.heap.size := Nat.lt_of_le_of_lt (Nat.zero_le _) (World.block_lt_of_cell? _ _ hg)
  have hg2 : ((w.alloc (.cells #[.pointer (some t)] 142)).alloc (.cells #[.pointer (some ⟨1, 142, none⟩), .pointer (some ⟨w.heap.size, 0, none⟩), .int .u64 150] 154)).cell? ⟨0, 0, none⟩ = some (.iface 162 (.agg #[.pointer (some ⟨1, 45, none⟩)])) := cell_alloc_keep _ (cell_alloc_keep _ hg)
  clear hg
  go_enter Tryd.func61, Tryd.ntmps61
  go_wp2
  refine wp_loop_rounds 1 ?_
  rw [rounds_succ]
  go_wp2
  go_ret
  exact ⟨rfl, rfl⟩

set_option maxRecDepth 100000 in
set_option maxHeartbeats 4000000 in
theorem as_ee (n : Int) (t : Addr) (old : Value) (w : World) (hg : ErrT w) (ht0 : w.cell? t = some old) (hf0 : w.frozen? t = false) :
    Calls Tryd.prog 61 #[.iface 53 (.int .i64 n), .iface 143 (.pointer (some t))] w fun ev w' => ev = .returned (.bool true) ∧ w' = ((((w.alloc (.cells #[.pointer (some t)] 143)).alloc (.cells #[.pointer (some ⟨1, 143, none⟩), .pointer (some ⟨w.heap.size, 0, none⟩), .int .u64 150] 154)).alloc (.cells #[.pointer (some ⟨1, 143, none⟩), .pointer (some ⟨w.heap.size, 0, none⟩), .int .u64 150] 154)).alloc (.cells #[.int .i64 n] 53)).setCell t (.int .i64 n) := by
  have x1 := @run_callFunc_extern Tryd.prog 64 _ (fun args => ReflectliteValue.unpack (args.getD 0 (.tuple #[]))) Tryd.func64 (by kernel_rfl) (by kernel_rfl) (by kernel_rfl) (by kernel_rfl)
  have x2 := @run_callFunc_extern Tryd.prog 65 _ (ReflectliteValue.methodAny (ReflectliteValue.valueError "reflectlite.Value.Type" 0) (fun t _ _ _ => ReflectliteType.toType t)) Tryd.func65 (by kernel_rfl) (by kernel_rfl) (by kernel_rfl) (by kernel_rfl)
  have x3 := @run_callFunc_extern Tryd.prog 66 _ (ReflectliteValue.method (ReflectliteValue.valueError "reflectlite.Value.IsNil" 0) ReflectliteValue.isNil) Tryd.func66 (by kernel_rfl) (by kernel_rfl) (by kernel_rfl) (by kernel_rfl)
  have x4 := @run_callFunc_extern Tryd.prog 84 _ (ReflectliteType.abiMethod fun t => do pure (.int .u8 (← Rtype.kind t))) Tryd.func84 (by kernel_rfl) (by kernel_rfl) (by kernel_rfl) (by kernel_rfl)
  have x5 := @run_callFunc_extern Tryd.prog 99 _ (ReflectliteType.method ReflectliteType.elem) Tryd.func99 (by kernel_rfl) (by kernel_rfl) (by kernel_rfl) (by kernel_rfl)
  have x6 := @run_callFunc_extern Tryd.prog 100 _ (ReflectliteType.relation "Implements" ReflectliteType.implements_) Tryd.func100 (by kernel_rfl) (by kernel_rfl) (by kernel_rfl) (by kernel_rfl)
  have x7 := @run_callFunc_extern Tryd.prog 62 _ ReflectliteType.typeOf Tryd.func62 (by kernel_rfl) (by kernel_rfl) (by kernel_rfl) (by kernel_rfl)
  have x8 := @run_callFunc_extern Tryd.prog 97 _ (ReflectliteType.relation "AssignableTo" ReflectliteType.assignableTo) Tryd.func97 (by kernel_rfl) (by kernel_rfl) (by kernel_rfl) (by kernel_rfl)
  have x9 := @run_callFunc_extern Tryd.prog 68 _ (ReflectliteValue.method (ReflectliteValue.valueError "reflectlite.Value.Elem" 0) ReflectliteValue.elem) Tryd.func68 (by kernel_rfl) (by kernel_rfl) (by kernel_rfl) (by kernel_rfl)
  have x10 := @run_callFunc_extern Tryd.prog 69 _ ReflectliteValue.set Tryd.func69 (by kernel_rfl) (by kernel_rfl) (by kernel_rfl) (by kernel_rfl)
  have m1 := method_Kind
  have m2 := method_Elem
  have m3 := method_Implements
  have m4 := method_AssignableTo
  have y1 := valueOf_pe
  have y2 := type_pe
  have y3 := kind_pe
  have y4 := kind_e
  have y5 := elem_pe
  have y6 := implements_e
  have y7 := typeOf_e
  have y8 := assign_ee
  have y9 := valueOf_e
  have n8 := isNil_pe ⟨w.heap.size, 0, none⟩ t ((w.alloc (.cells #[.pointer (some t)] 143)).alloc (.cells #[.pointer (some ⟨1, 143, none⟩), .pointer (some ⟨w.heap.size, 0, none⟩), .int .u64 150] 154)) (by simp)
  have hlt : 0 < w.heap.size := Nat.lt_of_le_of_lt (Nat.zero_le _) (World.block_lt_of_cell? _ _ hg)
  have hg2 : ((w.alloc (.cells #[.pointer (some t)] 143)).alloc (.cells #[.pointer (some ⟨1, 143, none⟩), .pointer (some ⟨w.heap.size, 0, none⟩), .int .u64 150] 154)).cell? ⟨0, 0, none⟩ = some (.iface 162 (.agg #[.pointer (some ⟨1, 45, none⟩)])) := cell_alloc_keep _ (cell_alloc_keep _ hg)
  have htl : t.block < w.heap.size := World.block_lt_of_cell? _ _ ht0
  have el := elemV_pe ⟨w.heap.size, 0, none⟩ t (((w.alloc (.cells #[.pointer (some t)] 143)).alloc (.cells #[.pointer (some ⟨1, 143, none⟩), .pointer (some ⟨w.heap.size, 0, none⟩), .int .u64 150] 154)).alloc (.cells #[.pointer (some ⟨1, 143, none⟩), .pointer (some ⟨w.heap.size, 0, none⟩), .int .u64 150] 154)) (by rw [World.cell?_alloc_lt _ _ ⟨w.heap.size, 0, none⟩ (by simp; omega)]; simp)
  have st := set_e t ⟨w.heap.size + 1 + 1 + 1, 0, none⟩ n old ((((w.alloc (.cells #[.pointer (some t)] 143)).alloc (.cells #[.pointer (some ⟨1, 143, none⟩), .pointer (some ⟨w.heap.size, 0, none⟩), .int .u64 150] 154)).alloc (.cells #[.pointer (some ⟨1, 143, none⟩), .pointer (some ⟨w.heap.size, 0, none⟩), .int .u64 150] 154)).alloc (.cells #[.int .i64 n] 53))
    (by rw [World.cell?_alloc_at _ _ _ _ (by simp)]; rfl)
    (by rw [World.cell?_alloc_lt _ _ t (by simp; omega), World.cell?_alloc_lt _ _ t (by simp; omega), World.cell?_alloc_lt _ _ t (by simp; omega), World.cell?_alloc_lt _ _ t htl]; exact ht0)
    (by rw [World.frozen?_alloc_old _ _ t (by simp; omega), World.frozen?_alloc_old _ _ t (by simp; omega), World.frozen?_alloc_old _ _ t (by simp; omega), World.frozen?_alloc_old _ _ t (Nat.ne_of_lt htl)]; exact hf0)
  clear hg
  go_enter Tryd.func61, Tryd.ntmps61
  go_wp2
  refine wp_loop_rounds 1 ?_
  rw [rounds_succ]
  go_wp2
  go_ret
  exact ⟨rfl, rfl⟩

end Go.Proofs.YtlgjaoijgkdmiaaDoor
