/-
  The document's: a text's byte; is a text a number's?
-/
import Derived.Test.YtgoaiokpnifhfaaLexG
import Derived.Deep.DeepCutAuto
namespace Go.Proofs.Ytgoaiokpnifhfaa
open Go.RowKit
set_option linter.unusedVariables false
set_option linter.unusedSimpArgs false

def allDigits (d : ByteArray) (k : Nat) : Prop := ∀ j, j < k → isDigit (bt d j) = true
instance (d : ByteArray) (k : Nat) : Decidable (allDigits d k) := by unfold allDigits; infer_instance
def refGoodB (s : ByteArray) : Bool := goodB s && decide (allDigits (digits s) (digits s).size)

theorem goodB_iff (s : ByteArray) : goodB s = true ↔ (1 ≤ (digits s).size ∧ (digits s).size ≤ 20 ∧ ((digits s).size = 1 ∨ ¬ bt (digits s) 0 = 48) ∧ ¬ s.data.toList = [45, 48]) := by
  unfold goodB
  simp [and_assoc]
theorem refGood_no (s : ByteArray) (h : ¬ (1 ≤ (digits s).size ∧ (digits s).size ≤ 20 ∧ ((digits s).size = 1 ∨ ¬ bt (digits s) 0 = 48) ∧ ¬ s.data.toList = [45, 48])) : refGoodB s = false := by
  have : goodB s = false := by
    cases hg : goodB s
    · rfl
    · exact absurd ((goodB_iff s).1 hg) h
  rw [refGoodB, this]; rfl

end Go.Proofs.Ytgoaiokpnifhfaa
