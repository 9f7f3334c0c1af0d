/-
  LayoutRows.
-/
import Derived.Test.YtlfpakopahmdiaaEachRows
import Derived.Test.YtlfpakopahmdiaaAskRows
import Derived.OpenShut
namespace Go.Proofs.Ytlfpakopahmdiaa
open Go.RowKit
set_option linter.unusedVariables false
set_option linter.unusedSimpArgs false

set_option maxHeartbeats 1000000 in
set_option maxRecDepth 100000 in
theorem layoutRows_walk (v : Value) (p : PlanD) (w : World) (hp : PlanAt w v p) :
    Calls Try.prog 5 #[v] w fun e w' => e = .returned (.bool true) ∧ Below w.heap.size w w' := by
  obtain ⟨⟨A, ce, B, cs, rfl, hE, hS⟩, hroot, hen⟩ := hp
  have hp : PlanAt w (.agg #[.slice A p.enums.length ce, .slice B p.structs.length cs, .int .u8 p.root, .bool p.tree]) p := ⟨⟨A, ce, B, cs, rfl, hE, hS⟩, hroot, hen⟩
  have HP := Lib.hid hp
  clear hp hE hS hen hroot
  go_enter Try.func5, Try.ntmps5
  go_wp2_with (first | (go_at_call 14; refine (awake06_calls _).mono ?_; rintro e wB ⟨rfl, hB⟩; have hzB := hB.size; (try simp only [World.size_alloc, World.size_setCell, World.size_drew] at hzB); obtain ⟨hcB, hfB⟩ := bcell hB))
  refine (eachRows_calls _ p _ (HP.out.below ((below1 _ _).trans (hB.mono (by simp)))) ask_rows).mono ?_
  rintro e w2 ⟨rfl, hB2⟩
  have hzB2 := hB2.size
  go_wp2
  go_ret
  exact ⟨rfl, by (repeat' (first | (with_reducible exact Below.refl _ _) | (with_reducible assumption) | (with_reducible refine Below.alloc ?_ ?_ _) | (with_reducible refine Below.drew ?_) | (with_reducible refine Below.setCell ?_ ?_ _) | (with_reducible refine Below.trans ?_ (Below.mono (by assumption) ?_)) | go_size))⟩

end Go.Proofs.Ytlfpakopahmdiaa
