/-
  A plan that came in is what it was behind new blocks.
-/
import Derived.Test.YtejpjclbeogajaaDoorPlan
namespace Go.Proofs.YtejpjclbeogajaaDoor
open Go.RowKit
set_option linter.unusedVariables false
set_option linter.unusedSimpArgs false

theorem PListAt.later {w w' : World} {v : Value} {fs : List PField} (h : PListAt w v fs) (hb : Below w.heap.size w w') : PListAt w' v fs := by
  obtain ⟨A, c, rfl, hok, hl⟩ := h
  refine ⟨A, c, rfl, hok, fun h0 => ?_⟩
  obtain ⟨b, o, rfl, hlt, hf⟩ := hl h0
  refine ⟨b, o, rfl, Nat.lt_of_lt_of_le hlt hb.size, fun i hi => ?_⟩
  have key : ∀ j, w'.cell? ⟨b, j, none⟩ = w.cell? ⟨b, j, none⟩ := fun j => hb.cell (p := ⟨b, j, none⟩) hlt
  simp only [key]
  exact hf i hi

theorem PlanAt.later {w w' : World} {v : Value} {p : PlanD} (h : PlanAt w v p) (hb : Below w.heap.size w w') : PlanAt w' v p := by
  obtain ⟨⟨A, ce, B, cs, rfl, hE, hS⟩, hr, he⟩ := h
  refine ⟨⟨A, ce, B, cs, rfl, fun h0 => ?_, fun h0 => ?_⟩, hr, he⟩
  · obtain ⟨b, o, rfl, hlt, hc⟩ := hE h0
    refine ⟨b, o, rfl, Nat.lt_of_lt_of_le hlt hb.size, fun i hi => ?_⟩
    rw [hb.cell (p := ⟨b, o + i, none⟩) hlt]; exact hc i hi
  · obtain ⟨b, o, rfl, hlt, hc⟩ := hS h0
    refine ⟨b, o, rfl, Nat.lt_of_lt_of_le hlt hb.size, fun i hi => ?_⟩
    obtain ⟨u, hu, hp⟩ := hc i hi
    exact ⟨u, by rw [hb.cell (p := ⟨b, o + i, none⟩) hlt]; exact hu, hp.later hb⟩

end Go.Proofs.YtejpjclbeogajaaDoor
