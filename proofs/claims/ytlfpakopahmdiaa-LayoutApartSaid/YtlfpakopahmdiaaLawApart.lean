/-
  LayoutApart.
-/
import Derived.Test.YtlfpakopahmdiaaEachApart
import Derived.Test.YtlfpakopahmdiaaAskApart
import Derived.OpenShut
namespace Go.Proofs.Ytlfpakopahmdiaa
open Go.RowKit
set_option linter.unusedVariables false
set_option linter.unusedSimpArgs false

set_option maxHeartbeats 1000000 in
set_option maxRecDepth 100000 in
theorem layoutApart_walk (v : Value) (p : PlanD) (m : Int) (w : World) (hp : PlanAt w v p) (hm : (Lit.int .u32 m).wf = true) :
    Calls Try.prog 7 #[v, .int .u32 m] w fun e w' => e = .returned (.bool true) ∧ Below w.heap.size w w' := by
  obtain ⟨m0, m1⟩ := bounds_u32 hm
  obtain ⟨⟨A, ce, B, cs, rfl, hE, hS⟩, hroot, hen⟩ := hp
  have hp : PlanAt w (.agg #[.slice A p.enums.length ce, .slice B p.structs.length cs, .int .u8 p.root, .bool p.tree]) p := ⟨⟨A, ce, B, cs, rfl, hE, hS⟩, hroot, hen⟩
  have HP := Lib.hid hp
  clear hp hE hS hen hroot hm
  go_enter Try.func7, Try.ntmps7
  go_wp2_with (first | (go_at_call 14; refine (awake06_calls _).mono ?_; rintro e wB ⟨rfl, hB⟩; have hzB := hB.size; (try simp only [World.size_alloc, World.size_setCell, World.size_drew] at hzB); obtain ⟨hcB, hfB⟩ := bcell hB))
  have h2 := (below1 w (Obj.cells #[.slice A p.enums.length ce, .slice B p.structs.length cs, .int .u8 p.root, .bool p.tree] 25)).alloc (by simp) (Obj.cells #[Value.int IntKind.u32 m] 58)
  have hb2 := h2.trans (hB.mono (by simp; omega))
  have hbm : wB.heap[w.heap.size + 1]? = some (.cells #[Value.int IntKind.u32 m] 58 (0, 0)) := by
    have := blk_new (w.alloc (Obj.cells #[.slice A p.enums.length ce, .slice B p.structs.length cs, .int .u8 p.root, .bool p.tree] 25)) (Obj.cells #[Value.int IntKind.u32 m] 58)
    have h' := blk_below this hB (by simp)
    simpa using h'
  refine (eachApart_calls _ p (w.heap.size + 1) m _ (HP.out.below hb2) (blk_lt hbm) (by rw [blk_cell hbm]; rfl) (ask_apart _ m m0 (by omega))).mono ?_
  rintro e w2 ⟨rfl, hB2⟩
  have hzB2 := hB2.size
  go_wp2
  go_ret
  exact ⟨rfl, hb2.trans (hB2.mono hb2.size)⟩

end Go.Proofs.Ytlfpakopahmdiaa
