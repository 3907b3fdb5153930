/- Laws: the builtins min and max of two integers. -/
import Derived.Test.YtdfabjkffjacoaaOwn
import Derived.OwnWalk
namespace Go.Proofs.Ytdfabjkffjacoaa
open Go.RowKit

theorem wpList_min2 {ops : Array Oper} {rest : List Oper} {o : Oper} {a : Act} {w : World} {Q : Exit → Act → World → Prop} (hgd : o.guard = none) (x y : Operand) (ts : Array TypeId)
    (ho : o.op = .call { callee := .builtin .min, args := #[x, y], argTypes := ts }) {k : IntKind} {p q : Int} (m : Int) (hx : a.eval x = .int k p) (hy : a.eval y = .int k q) (hm : m = min p q)
    (h : wpList Try.prog ops Q rest (a.put o.dst (.int k m)) w) : wpList Try.prog ops Q (o :: rest) a w := by
  have hr : (Builtin.min_ ts o.type #[.int k p, .int k q]).run Try.prog w = .ok (.int k m) w := by
    rw [show (Builtin.min_ ts o.type #[.int k p, .int k q]).run Try.prog w = .ok (.int k (if q < p then q else p)) w from by simp [Builtin.min_, Builtin.min2], hm]
    congr 2
    omega
  refine wpList_plain hgd fun K hK => ?_
  unfold Oper.wp execOp
  simp only [ho, resolve, invoke, builtin, Sem.run_bind, Sem.run_pure, Result.andThen_ok, List.map_toArray, List.map_cons, List.map_nil, hx, hy, hr]
  exact hK _ _ h
theorem wpList_max2 {ops : Array Oper} {rest : List Oper} {o : Oper} {a : Act} {w : World} {Q : Exit → Act → World → Prop} (hgd : o.guard = none) (x y : Operand) (ts : Array TypeId)
    (ho : o.op = .call { callee := .builtin .max, args := #[x, y], argTypes := ts }) {k : IntKind} {p q : Int} (m : Int) (hx : a.eval x = .int k p) (hy : a.eval y = .int k q) (hm : m = max p q)
    (h : wpList Try.prog ops Q rest (a.put o.dst (.int k m)) w) : wpList Try.prog ops Q (o :: rest) a w := by
  have hr : (Builtin.max_ ts o.type #[.int k p, .int k q]).run Try.prog w = .ok (.int k m) w := by
    rw [show (Builtin.max_ ts o.type #[.int k p, .int k q]).run Try.prog w = .ok (.int k (if q > p then q else p)) w from by simp [Builtin.max_, Builtin.max2], hm]
    congr 2
    omega
  refine wpList_plain hgd fun K hK => ?_
  unfold Oper.wp execOp
  simp only [ho, resolve, invoke, builtin, Sem.run_bind, Sem.run_pure, Result.andThen_ok, List.map_toArray, List.map_cons, List.map_nil, hx, hy, hr]
  exact hK _ _ h
end Go.Proofs.Ytdfabjkffjacoaa
