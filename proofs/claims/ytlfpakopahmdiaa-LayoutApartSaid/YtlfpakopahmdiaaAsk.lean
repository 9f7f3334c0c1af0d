/-
  What a question of layer 6 is asked of: a struct of a made schema.
-/
import Derived.Test.YtlfpakopahmdiaaMadeT
import Derived.Test.YtlfpakopahmdiaaAwake06
import Derived.Test.YtlfpakopahmdiaaRefWords
import Derived.Test.YtlfpakopahmdiaaSameInts
import Derived.Test.YtlfpakopahmdiaaPlanOpen
namespace Go.Proofs.Ytlfpakopahmdiaa
open Go.RowKit
set_option linter.unusedVariables false
set_option linter.unusedSimpArgs false

theorem PListAt.below {w w' : World} {v : Value} {fs : List PField} (h : PListAt w v fs) (hb : Below w.heap.size w w') : PListAt w' v fs := by
  obtain ⟨A, c, rfl, hok, hl⟩ := h
  refine ⟨A, c, rfl, hok, fun h0 => ?_⟩
  obtain ⟨b, o, rfl, hlt, hf⟩ := hl h0
  refine ⟨b, o, rfl, Nat.lt_of_lt_of_le hlt hb.size, fun i hi => ?_⟩
  have key : ∀ j, w'.cell? ⟨b, j, none⟩ = w.cell? ⟨b, j, none⟩ := fun j => hb.cell (p := ⟨b, j, none⟩) hlt
  simp only [key]
  exact hf i hi

theorem PlanAt.below {w w' : World} {v : Value} {p : PlanD} (h : PlanAt w v p) (hb : Below w.heap.size w w') : PlanAt w' v p := by
  obtain ⟨⟨A, ce, B, cs, rfl, hE, hS⟩, hr, he⟩ := h
  refine ⟨⟨A, ce, B, cs, rfl, fun h0 => ?_, fun h0 => ?_⟩, hr, he⟩
  · obtain ⟨b, o, rfl, hlt, hc⟩ := hE h0
    refine ⟨b, o, rfl, Nat.lt_of_lt_of_le hlt hb.size, fun i hi => ?_⟩
    rw [hb.cell (p := ⟨b, o + i, none⟩) hlt]; exact hc i hi
  · obtain ⟨b, o, rfl, hlt, hc⟩ := hS h0
    refine ⟨b, o, rfl, Nat.lt_of_lt_of_le hlt hb.size, fun i hi => ?_⟩
    obtain ⟨u, hu, hp⟩ := hc i hi
    exact ⟨u, by rw [hb.cell (p := ⟨b, o + i, none⟩) hlt]; exact hu, hp.below hb⟩

/-- a struct of a made schema, as it is handed to a question: what is known of it -/
def goodFs (fs : List FField) : Prop := 1 ≤ fs.length ∧ fs.length ≤ 16 ∧ ∀ f ∈ fs, f.ok ∧ 1 ≤ f.kind ∧ f.kind ≤ 13 ∧ 0 ≤ f.lists ∧ f.lists ≤ 3

theorem kind2_bd (p : PlanD) (i : Nat) (f : PField) : 1 ≤ kind2 p i f ∧ kind2 p i f ≤ 13 := by
  have h0 : 1 ≤ kind0 f ∧ kind0 f ≤ 13 := by unfold kind0; omega
  have h1 : 1 ≤ kind1 p f ∧ kind1 p f ≤ 13 := by unfold kind1; split <;> omega
  unfold kind2; split <;> omega

theorem made_good_fs (p : PlanD) (hok : planOk p) (i : Nat) (hi : i < p.structs.length) : goodFs (madeFields p i (psget p.structs i)) := by
  have hl := hok.2.2.2 _ (psget_mem p.structs i hi)
  refine ⟨by simp [madeFields]; omega, by simp [madeFields]; omega, fun f hf => ?_⟩
  simp only [madeFields, List.mem_map] at hf
  obtain ⟨k, _, rfl⟩ := hf
  have := kind2_bd p i (pfget (psget p.structs i) k)
  simp only [madeField, FField.ok]
  omega

/-- the contract of a question -/
def AskOk (fid : Nat) (cap : Array Value) (K : World → Prop) : Prop :=
  ∀ (cs : Array Value) (nm : ByteArray) (b c : Nat) (fs : List FField) (W : World), goodFs fs → b < W.heap.size → FieldsRow W b fs → K W →
    Calls Try.prog fid (#[.agg cs, .agg #[.string nm, .slice (some ⟨b, 0, none⟩) fs.length c]] ++ cap) W fun e W' => e = .returned (.bool true) ∧ Below W.heap.size W W'

end Go.Proofs.Ytlfpakopahmdiaa
