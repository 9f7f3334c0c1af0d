/-
  wire.Sized and the document's.
-/
import Derived.Test.YtgoaiokpnifhfaaLexB
namespace Go.Proofs.Ytgoaiokpnifhfaa
open Go.RowKit
set_option linter.unusedVariables false
set_option linter.unusedSimpArgs false

def sizedB (z : Int) : Bool := decide (z = 1) || decide (z = 2) || decide (z = 4) || decide (z = 8)

set_option maxHeartbeats 400000 in
theorem wireSized_calls (z : Int) (w : World) : Calls Try.prog 76 #[.int .i64 z] w fun e w' => e = .returned (.bool (sizedB z)) ∧ w = w' := by
  go_enter Try.func76, Try.ntmps76
  go_wp2
  all_goals go_ret
  all_goals exact ⟨ret_bool (by rw [Bool.eq_iff_iff]; simp_all [sizedB] <;> omega), rfl⟩

theorem ret_int' {k : IntKind} {a b : Int} (h : a = b) : Ending.returned (.int k a) = .returned (.int k b) := by rw [h]
/-- how many bits a size has -/
def onesOf (z : Int) : Int := if z = 1 ∨ z = 2 ∨ z = 4 ∨ z = 8 then 1 else if z = 7 then 3 else 2

end Go.Proofs.Ytgoaiokpnifhfaa
