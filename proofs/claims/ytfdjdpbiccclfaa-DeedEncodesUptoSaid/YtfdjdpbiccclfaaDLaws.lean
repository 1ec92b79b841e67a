/- Laws of our own: an operation by its run; two structs held against each other. -/
import Derived.Test.YtfdjdpbiccclfaaLaws
import Derived.Laws.StructEq
namespace Go.Wr
open Go Go.RowKit
variable {P : Program}
theorem exec_neq {op : Oper} {a : Act} {w : World} (t : TypeId) (x y : Operand) (yt : TypeId) (ho : op.op = .binOp .neq t x y yt) {xs ys : Array Value} (hx : a.eval x = .agg xs) (hy : a.eval y = .agg ys)
    (hg : P.eqGuardType P.depth t = false) {b : Bool} (hb : (Op.equalIn 10000 t (.agg xs) (.agg ys)).run P w = .ok b w) :
    (execOp a.eval op).run P w = .ok (.value (.bool (!b))) w := by
  unfold execOp
  simp only [ho, hx, hy, Sem.run_bind, run_eqGuard_agg _ _ _ _ _ _ _ hg, run_neq_struct, hb, Result.andThen_ok, Sem.run_pure]
/-- An operation by its run. -/
theorem wpl_val {ops : Array Oper} {rest : List Oper} {op : Oper} {a : Act} {w : World} {Q : Exit → Act → World → Prop} (hgd : op.guard = none) (v : Value) (hrun : (execOp a.eval op).run P w = .ok (.value v) w)
    (h : wpList P ops Q rest (a.put op.dst v) w) : wpList P ops Q (op :: rest) a w := by
  refine wpList_plain hgd fun K hK => ?_
  unfold Oper.wp
  rw [hrun]
  exact hK _ _ h
/-- The same where the operation's guard has been asked. -/
theorem wpo_val {op : Oper} {a : Act} {w : World} {K : Act → World → Prop} {Q : Exit → Act → World → Prop} (v : Value) (hrun : (execOp a.eval op).run P w = .ok (.value v) w) (h : K (a.put op.dst v) w) : Oper.wp P op a w K Q := by
  unfold Oper.wp
  rw [hrun]
  exact h
end Go.Wr
