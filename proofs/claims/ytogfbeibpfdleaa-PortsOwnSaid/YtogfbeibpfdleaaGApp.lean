/- append in a guarded operation. No condition. -/
import Derived.Test.YtogfbeibpfdleaaSl
set_option linter.unusedSimpArgs false
set_option linter.unusedVariables false
namespace Go.Proofs.Ytogfbeibpfdleaa
open Go.RowKit Go.Maps
theorem wpList_append_g {P : Program} {w w' : World} {ops : Array Oper} {rest : List Oper} {o : Oper} {a : Act} {Q : Exit → Act → World → Prop} {s x : Operand} {t u ty : TypeId} {vs vx v' : Value}
    (hr : (Builtin.append_ #[t, u] ty #[vs, vx]).run P w = .ok v' w') (hw : Region.wanted o (yielded ops a.tmps) = true) (ho : o.op = .call { callee := .builtin .append, args := #[s, x], argTypes := #[t, u] }) (hs : a.eval s = vs) (hx : a.eval x = vx)
    (h : wpList P ops Q rest (a.put o.dst v') w') : wpList P ops Q (o :: rest) a w := by
  unfold wpList
  rw [if_pos hw]
  exact .inl (wp_append_run hr ho hs hx h)
end Go.Proofs.Ytogfbeibpfdleaa
