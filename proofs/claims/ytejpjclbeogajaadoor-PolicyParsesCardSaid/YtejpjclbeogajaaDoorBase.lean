/-
  The words of these proofs, and the smallest functions (sizes of kinds).
-/
import Derived.Test.YtejpjclbeogajaaDoorRows
import Derived.WalkKit
import Derived.WalkSpells
import Derived.WalkLawsBesides
import Derived.Deep.QuietTactic
import Derived.BigQuiet
import Derived.Lib.Hide
import Derived.Handy
namespace Go.Proofs.YtejpjclbeogajaaDoor
open Go.RowKit
set_option linter.unusedVariables false
set_option linter.unusedSimpArgs false

theorem info_int : (Tryd.prog.info? 3).map (fun i => (i.zero, i.size, i.bytes)) = some (some (.int .i64 0), 1, 8) := by kernel_rfl

/-- a kind's size in bytes -/
def kindSize (k : Int) : Int :=
  if k = 1 ∨ k = 2 ∨ k = 6 ∨ k = 10 then 1 else if k = 3 ∨ k = 7 then 2 else if k = 4 ∨ k = 8 then 4 else if k = 5 ∨ k = 9 then 8 else 0

theorem kindSize_bd (k : Int) : 0 ≤ kindSize k ∧ kindSize k ≤ 8 := by
  unfold kindSize; repeat' split
  all_goals omega

set_option maxHeartbeats 400000 in
theorem wireSize_calls (k : Int) (w : World) :
    Calls Tryd.prog 102 #[.int .u8 k] w fun e w' => e = .returned (.int .i64 (kindSize k)) ∧ w = w' := by
  go_enter Tryd.func102, Tryd.ntmps102
  go_wp2
  all_goals go_ret
  all_goals exact ⟨by simp_all [kindSize], rfl⟩

set_option maxHeartbeats 400000 in
theorem refSize_calls (k : Int) (w : World) :
    Calls Tryd.prog 67 #[.int .i64 k] w fun e w' => e = .returned (.int .i64 (kindSize k)) ∧ w = w' := by
  go_enter Tryd.func67, Tryd.ntmps67
  go_wp2
  all_goals go_ret
  all_goals exact ⟨by simp_all [kindSize], rfl⟩

/-- bits of a kind in words -/
def kindBits (k : Int) : Int := if k = 1 then 1 else if k = 10 then 16 else 8 * kindSize k

theorem kindBits_bd (k : Int) : 0 ≤ kindBits k ∧ kindBits k ≤ 64 := by
  have := kindSize_bd k
  unfold kindBits; repeat' split
  all_goals omega

/-- is a field a number? -/
def isNumB (kind lists : Int) : Bool := decide (lists = 0) && decide (0 < kindSize kind)

theorem kindBits_pos (k : Int) : decide (0 < kindBits k) = decide (0 < kindSize k) := by
  have hb := kindSize_bd k
  unfold kindBits
  by_cases h1 : k = 1
  · subst h1; rfl
  · by_cases h2 : k = 10
    · subst h2; rfl
    · rw [if_neg h1, if_neg h2]
      simp only [decide_eq_decide]; omega

theorem bcell {W w1 : World} (hb : Below W.heap.size W w1) : (∀ b o, b < W.heap.size → w1.cell? ⟨b, o, none⟩ = W.cell? ⟨b, o, none⟩) ∧ (∀ b o, b < W.heap.size → w1.frozen? ⟨b, o, none⟩ = W.frozen? ⟨b, o, none⟩) :=
  ⟨fun b o h => hb.cell (p := ⟨b, o, none⟩) h, fun b o h => hb.frozen (p := ⟨b, o, none⟩) h⟩

theorem below1 (w : World) (o : Obj) : Below w.heap.size w (w.alloc o) := (Below.refl _ _).alloc (Nat.le_refl _) o

set_option maxHeartbeats 400000 in
theorem refIsNum_calls (kind ref lists : Int) (h0 : 0 ≤ kind) (h1 : kind < 256) (w : World) :
    Calls Tryd.prog 30 #[.agg #[.int .u8 kind, .int .i64 ref, .int .i64 lists]] w fun e w' => e = .returned (.bool (isNumB kind lists)) ∧ Below w.heap.size w w' := by
  go_enter Tryd.func30, Tryd.ntmps30
  go_wp2_with (first | (go_at_call 67; refine (refSize_calls _ _).mono ?_; rintro e w' ⟨rfl, rfl⟩))
  all_goals go_ret
  all_goals exact ⟨by simp_all [isNumB], below1 _ _⟩

/-- a field's bytes in a table -/
def inlineOf (kind lists : Int) : Int := if isNumB kind lists = true then kindSize kind else 4

end Go.Proofs.YtejpjclbeogajaaDoor
