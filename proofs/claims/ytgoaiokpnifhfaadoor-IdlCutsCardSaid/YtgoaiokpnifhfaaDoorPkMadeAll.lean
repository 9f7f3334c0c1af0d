/-
  Parts: MadeAll, PlanLater, LawCuts.
-/
import Derived.Test.YtgoaiokpnifhfaaDoorPkMade
import Derived.Test.YtgoaiokpnifhfaaDoorPkHand
import Derived.Test.YtgoaiokpnifhfaaDoorPkSameRaw
import Derived.Test.YtgoaiokpnifhfaaDoorPkTextOk
import Derived.Test.YtgoaiokpnifhfaaDoorPkPlanOpen
import Derived.Test.YtgoaiokpnifhfaaDoorPkAwake04
import Derived.OpenShut

/-
  transomhand05.Made: of any plan.
-/
namespace Go.Proofs.YtgoaiokpnifhfaaDoor
open Go.RowKit
set_option linter.unusedVariables false
set_option linter.unusedSimpArgs false

theorem madeAll_calls (v : Value) (p : PlanD) (w : World) (hp : PlanAt w v p) : Calls Tryd.prog 15 #[v] w (MadePost w p) := by
  by_cases h : 1 ≤ p.structs.length ∧ p.structs.length ≤ 16 ∧ p.enums.length ≤ 8
  · exact made_good v p w hp h.1 h.2.1 h.2.2
  · exact made_bad v p w hp (by omega)

end Go.Proofs.YtgoaiokpnifhfaaDoor

/-
  A plan that came in is what it was behind new blocks.
-/
namespace Go.Proofs.YtgoaiokpnifhfaaDoor
open Go.RowKit
set_option linter.unusedVariables false
set_option linter.unusedSimpArgs false

theorem PListAt.later {w w' : World} {v : Value} {fs : List PField} (h : PListAt w v fs) (hb : Below w.heap.size w w') : PListAt w' v fs := by
  obtain ⟨A, c, rfl, hok, hl⟩ := h
  refine ⟨A, c, rfl, hok, fun h0 => ?_⟩
  obtain ⟨b, o, rfl, hlt, hf⟩ := hl h0
  refine ⟨b, o, rfl, Nat.lt_of_lt_of_le hlt hb.size, fun i hi => ?_⟩
  have key : ∀ j, w'.cell? ⟨b, j, none⟩ = w.cell? ⟨b, j, none⟩ := fun j => hb.cell (p := ⟨b, j, none⟩) hlt
  simp only [key]
  exact hf i hi

theorem PlanAt.later {w w' : World} {v : Value} {p : PlanD} (h : PlanAt w v p) (hb : Below w.heap.size w w') : PlanAt w' v p := by
  obtain ⟨⟨A, ce, B, cs, rfl, hE, hS⟩, hr, he⟩ := h
  refine ⟨⟨A, ce, B, cs, rfl, fun h0 => ?_, fun h0 => ?_⟩, hr, he⟩
  · obtain ⟨b, o, rfl, hlt, hc⟩ := hE h0
    refine ⟨b, o, rfl, Nat.lt_of_lt_of_le hlt hb.size, fun i hi => ?_⟩
    rw [hb.cell (p := ⟨b, o + i, none⟩) hlt]; exact hc i hi
  · obtain ⟨b, o, rfl, hlt, hc⟩ := hS h0
    refine ⟨b, o, rfl, Nat.lt_of_lt_of_le hlt hb.size, fun i hi => ?_⟩
    obtain ⟨u, hu, hp⟩ := hc i hi
    exact ⟨u, by rw [hb.cell (p := ⟨b, o + i, none⟩) hlt]; exact hu, hp.later hb⟩

end Go.Proofs.YtgoaiokpnifhfaaDoor

/-
  IdlCuts.
-/
namespace Go.Proofs.YtgoaiokpnifhfaaDoor
open Go.RowKit
set_option linter.unusedVariables false
set_option linter.unusedSimpArgs false

set_option maxHeartbeats 2000000 in
set_option maxRecDepth 100000 in
theorem idlCuts_walk (v : Value) (p : PlanD) (cut : Int) (w : World) (hT : Tabs w) (hp : PlanAt w v p) (hc : (Lit.int .i64 cut).wf = true) :
    Calls Tryd.prog 5 #[v, .int .i64 cut] w fun e w' => e = .returned (.bool true) ∧ Below w.heap.size w w' := by
  have hfl := plan_flds hp
  obtain ⟨⟨A, ce, B, cs, rfl, hE, hS⟩, hroot, hen⟩ := hp
  have hp : PlanAt w (.agg #[.slice A p.enums.length ce, .slice B p.structs.length cs, .int .u8 p.root, .bool p.tree]) p := ⟨⟨A, ce, B, cs, rfl, hE, hS⟩, hroot, hen⟩
  have HP := Lib.hid hp
  have HT := Lib.hid hT
  have HOKS := Lib.hid (fun hok => made_sch_ok p hok hroot hen hfl)
  obtain ⟨W, hW⟩ : ∃ W, W = w.alloc (Obj.cells #[.slice A p.enums.length ce, .slice B p.structs.length cs, .int .u8 p.root, .bool p.tree] 37) := ⟨_, rfl⟩
  have hbW : Below w.heap.size w W := by rw [hW]; exact below1 _ _
  have hPB : W.heap[w.heap.size]? = some (.cells #[.slice A p.enums.length ce, .slice B p.structs.length cs, .int .u8 p.root, .bool p.tree] 37 (0, 0)) := by rw [hW]; exact blk_new _ _
  have HBW := Lib.hid hbW
  have HPB := Lib.hid hPB
  clear hp hE hS hen hroot hT hfl hc hbW hPB
  go_enter Tryd.func5, Tryd.ntmps5
  go_wp2_with fail
  rw [← hW]
  obtain ⟨Q, hQ⟩ : ∃ Q, Q = w.heap.size := ⟨_, rfl⟩
  rw [← hQ] at HPB ⊢
  refine (awake04_calls W).mono ?_
  rintro e w1 ⟨rfl, hB1⟩
  have hP1 := blk_below HPB.out hB1 (blk_lt HPB.out)
  have p0 : w1.cell? ⟨Q, 0, none⟩ = _ := (blk_cell hP1 0).trans rfl
  have p1 : w1.cell? ⟨Q, 1, none⟩ = _ := (blk_cell hP1 1).trans rfl
  have p2 : w1.cell? ⟨Q, 2, none⟩ = _ := (blk_cell hP1 2).trans rfl
  have p3 : w1.cell? ⟨Q, 3, none⟩ = _ := (blk_cell hP1 3).trans rfl
  have lQ := blk_lt hP1
  have HB1 := Lib.hid (HBW.out.trans (hB1.mono HBW.out.size))
  clear hB1 hP1 hW hQ
  go_wp2_with fail
  refine (madeAll_calls _ p _ (HP.out.later HB1.out)).mono ?_
  rintro e w2 ⟨hB2, hm⟩
  have HB2 := Lib.hid (HB1.out.trans (hB2.mono HB1.out.size))
  clear hB2 p0 p1 p2 p3
  rcases hm with ⟨hno, rfl⟩ | ⟨hok, vv, rfl, hsch⟩
  · clear hno
    go_wp2_with fail
    go_ret
    exact ⟨rfl, HB2.out.trans ((below1 _ _).mono HB2.out.size)⟩
  · have hso := HOKS.out hok
    obtain ⟨aS, cS, aE, cE, rfl, hrows⟩ := schRows_of hsch
    have HSO := Lib.hid hso
    have HRO := Lib.hid hrows
    clear hok hsch hrows hso
    generalize madeP p = sch at *
    go_wp2_with fail
    refine (text_calls sch HSO.out aS aE cS cE _ (HRO.out.below (below1 _ _))).mono ?_
    rintro e w3 ⟨t, rfl, ht1, ht2, hB3⟩
    have HB3 := Lib.hid (HB2.out.trans (((below1 w2 _).trans (hB3.mono (by simp))).mono HB2.out.size))
    clear hB3
    obtain ⟨q, hq, hqt⟩ : ∃ q : Nat, Int.tmod (IntKind.u64.wrap cut) ((t.size : Int) + 1) = (q : Int) ∧ q ≤ t.size := by
      have h0 : 0 ≤ IntKind.u64.wrap cut := by rw [IntKind.wrap_u64]; omega
      have h1 : 0 ≤ IntKind.u64.wrap cut % ((t.size : Int) + 1) := Int.emod_nonneg _ (by omega)
      have h2 : IntKind.u64.wrap cut % ((t.size : Int) + 1) < (t.size : Int) + 1 := Int.emod_lt_of_pos _ (by omega)
      refine ⟨(IntKind.u64.wrap cut % ((t.size : Int) + 1)).toNat, ?_, ?_⟩
      · rw [Int.tmod_eq_emod_of_nonneg h0]; omega
      · omega
    have hw : wrap64 (q : Int) = (q : Int) := IntWalk.wrap64_in _ (by omega)
    have hqI : (q : Int) ≤ (t.size : Int) := by omega
    go_wp2_with fail
    have hz : (t.extract 0 q).size ≤ 140737488351232 := by rw [ByteArray.size_extract]; omega
    refine (told04_calls (t.extract 0 q) _ (HT.out.below HB3.out) hz).mono ?_
    rintro e w4 ⟨rfl, hB4⟩
    have HB4 := Lib.hid (HB3.out.trans (hB4.mono HB3.out.size))
    clear hB4
    go_wp2_with fail
    go_ret
    exact ⟨rfl, HB4.out⟩

end Go.Proofs.YtgoaiokpnifhfaaDoor
