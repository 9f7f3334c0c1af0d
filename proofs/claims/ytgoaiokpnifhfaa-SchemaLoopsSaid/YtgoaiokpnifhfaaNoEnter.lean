/-
  Operations that enter no function (for Eff's laws).
-/
import Derived.Test.YtgoaiokpnifhfaaEff
namespace Go.Proofs.Ytgoaiokpnifhfaa
open Go.RowKit
set_option linter.unusedVariables false
set_option linter.unusedSimpArgs false

theorem run_val {P : Program} {s : Sem Value} {w w' : World} {x : Next} (h : (do pure (Next.value (← s)) : Sem Next).run P w = .ok x w') : ∃ u, x = .value u := by
  rw [Sem.run_bind] at h
  cases hs : s.run P w with
  | ok u w1 => rw [hs] at h; simp [Result.andThen, Sem.run_pure] at h; exact ⟨u, h.1.symm⟩
  | halt c w1 => rw [hs] at h; simp [Result.andThen] at h

def plainB : Op → Bool
  | .move _ => true
  | .assign _ => true
  | .pick _ _ _ => true
  | .load _ _ => true
  | .fieldAddr _ _ _ => true
  | .indexAddr _ _ _ => true
  | .unOp _ _ _ => true
  | .binOp _ _ _ _ _ => true
  | _ => false
theorem plain_noEnter {P : Program} (o : Oper) (h : plainB o.op = true) : NoEnter P o := by
  intro a w w' f args e
  obtain ⟨d, op, ty, ps, af, gd⟩ := o
  cases op with
  | move x => simp [execOp] at e
  | assign x => simp [execOp] at e
  | pick c x y =>
    simp only [execOp] at e
    rw [Sem.run_bind] at e
    cases hs : (asBool (a.eval c)).run P w with
    | ok u w1 => rw [hs] at e; simp [Result.andThen, Sem.run_pure] at e
    | halt c w1 => rw [hs] at e; simp [Result.andThen] at e
  | load t x => obtain ⟨u, hu⟩ := run_val (s := Instr.loadAt t (a.eval x)) e; cases hu
  | fieldAddr s x k => obtain ⟨u, hu⟩ := run_val (s := Instr.fieldAt s (a.eval x) k) e; cases hu
  | indexAddr s x k => obtain ⟨u, hu⟩ := run_val (s := Instr.indexAt s (a.eval x) (a.eval k)) e; cases hu
  | unOp b t x => obtain ⟨u, hu⟩ := run_val (s := Op.unary b (a.eval x)) e; cases hu
  | binOp b t x y z => obtain ⟨u, hu⟩ := run_val (s := do eqGuard b t x y (a.eval x) (a.eval y); binOp b t (a.eval x) (a.eval y)) e; cases hu
  | _ => simp [plainB] at h

/-- what is plain but for the effects, and for what is off -/
theorem plain_all {P : Program} {offs : List Nat} {l : List Oper} {E : List (Nat × Value)} {af : Act} (hB : ((List.range l.length).all fun j => (E.lookup j).isSome || (match l[j]? with | some o => plainB o.op | none => true) || offs.contains j) = true)
    (hoff : ∀ j o, offs.contains j = true → l[j]? = some o → OffAt l af j o) : ∀ (j : Nat) (o : Oper), l[j]? = some o → E.lookup j = none → NoEnter P o ∨ OffAt l af j o := by
  intro j o hj he
  have hlt : j < l.length := (List.getElem?_eq_some_iff.1 hj).1
  have h := List.all_eq_true.1 hB j (List.mem_range.2 hlt)
  rw [he, hj] at h
  simp only [Option.isSome_none, Bool.false_or, Bool.or_eq_true] at h
  rcases h with h | h
  · exact .inl (plain_noEnter o h)
  · exact .inr (hoff j o h hj)

end Go.Proofs.Ytgoaiokpnifhfaa
