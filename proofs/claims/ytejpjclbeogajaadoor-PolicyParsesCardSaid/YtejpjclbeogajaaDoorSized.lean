/-
  wire.Sized and the document's.
-/
import Derived.Test.YtejpjclbeogajaaDoorLexB
namespace Go.Proofs.YtejpjclbeogajaaDoor
open Go.RowKit
set_option linter.unusedVariables false
set_option linter.unusedSimpArgs false

def sizedB (z : Int) : Bool := decide (z = 1) || decide (z = 2) || decide (z = 4) || decide (z = 8)

set_option maxHeartbeats 400000 in
theorem wireSized_calls (z : Int) (w : World) : Calls Tryd.prog 118 #[.int .i64 z] w fun e w' => e = .returned (.bool (sizedB z)) ∧ w = w' := by
  go_enter Tryd.func118, Tryd.ntmps118
  go_wp2
  all_goals go_ret
  all_goals exact ⟨ret_bool (by rw [Bool.eq_iff_iff]; simp_all [sizedB] <;> omega), rfl⟩

theorem ret_int' {k : IntKind} {a b : Int} (h : a = b) : Ending.returned (.int k a) = .returned (.int k b) := by rw [h]
/-- how many bits a size has -/
def onesOf (z : Int) : Int := if z = 1 ∨ z = 2 ∨ z = 4 ∨ z = 8 then 1 else if z = 7 then 3 else 2

set_option maxHeartbeats 1000000 in
theorem ones64_calls (z : Int) (h : 1 ≤ z ∧ z ≤ 8) (w : World) : Calls Tryd.prog 143 #[.int .u64 z] w fun e w' => e = .returned (.int .i64 (onesOf z)) ∧ w = w' := by
  have hz : z = 1 ∨ z = 2 ∨ z = 3 ∨ z = 4 ∨ z = 5 ∨ z = 6 ∨ z = 7 ∨ z = 8 := by omega
  clear h
  rcases hz with rfl | rfl | rfl | rfl | rfl | rfl | rfl | rfl
  all_goals
    go_enter Tryd.func143, Tryd.ntmps143
    go_wp2
    go_ret
    exact ⟨ret_int' (by decide +kernel), rfl⟩

set_option maxHeartbeats 400000 in
theorem ones_calls (z : Int) (h : 1 ≤ z ∧ z ≤ 8) (w : World) : Calls Tryd.prog 120 #[.int .u64 z] w fun e w' => e = .returned (.int .i64 (onesOf z)) ∧ w = w' := by
  go_enter Tryd.func120, Tryd.ntmps120
  go_wp2_with (first | (go_at_call 143; refine (ones64_calls z h _).mono ?_; rintro e w' ⟨rfl, rfl⟩))
  go_ret
  exact ⟨rfl, rfl⟩

set_option maxHeartbeats 400000 in
theorem refSized_calls (z : Int) (hz0 : -9223372036854775808 ≤ z) (hz1 : z ≤ 9223372036854775807) (w : World) : Calls Tryd.prog 84 #[.int .i64 z] w fun e w' => e = .returned (.bool (sizedB z)) ∧ w = w' := by
  by_cases h : 1 ≤ z ∧ z ≤ 8
  · have h0 := h.1
    have h1 := h.2
    clear hz0 hz1
    have hw : IntKind.u64.wrap z = z := IntWalk.u64_in _ (by omega) 
    go_enter Tryd.func84, Tryd.ntmps84
    go_wp2_with (first | (go_at_call 120; refine (ones_calls z h _).mono ?_; rintro e w' ⟨rfl, rfl⟩))
    go_ret
    exact ⟨ret_bool (by rw [Bool.eq_iff_iff]; unfold onesOf sizedB; simp; split <;> (try split) <;> omega), rfl⟩
  · clear hz0 hz1
    have hq : z < 1 ∨ (1 ≤ z ∧ 8 < z) := by omega
    have hs : sizedB z = false := by unfold sizedB; simp; omega
    have HS := Lib.hid hs
    clear hs h
    rcases hq with hq | ⟨hq, hq2⟩
    all_goals
      go_enter Tryd.func84, Tryd.ntmps84
      go_wp2
      go_ret
      exact ⟨by rw [HS.out]; rfl, rfl⟩

end Go.Proofs.YtejpjclbeogajaaDoor
