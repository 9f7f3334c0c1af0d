/-
  Two small steps for the printed texts: which operation stands next.
-/
import Derived.Test.YtejpjclbeogajaaDoorWWords
namespace Go.Proofs.YtejpjclbeogajaaDoor.PwG
open Go.RowKit
set_option linter.unusedVariables false

theorem gateF {P : Program} {ops : Array Oper} {rest : List Oper} {o : Oper} {a : Act} {Q : Exit → Act → World → Prop} {W : World} {f : FuncId} {as : Array Operand} {ts : Array TypeId}
    (hop : o.op = .call ⟨.value (.func f), as, ts⟩) : wpList P ops Q (o :: rest) a W → wpList P ops Q (o :: rest) a W := id
theorem gateB {P : Program} {ops : Array Oper} {rest : List Oper} {o : Oper} {a : Act} {Q : Exit → Act → World → Prop} {W : World} {b : Builtin} {xs : Array Operand} {ts : Array TypeId}
    (hop : o.op = .call ⟨.builtin b, xs, ts⟩) : wpList P ops Q (o :: rest) a W → wpList P ops Q (o :: rest) a W := id
theorem drawnHere (w : World) (n : Nat) : w.drewN n = w.drewN n := rfl

end Go.Proofs.YtejpjclbeogajaaDoor.PwG
