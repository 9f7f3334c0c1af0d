/-
  A schema in memory: its rows.
-/
import Derived.Test.YtejpjclbeogajaaDoorMadeT
import Derived.Test.YtejpjclbeogajaaDoorIdl1
namespace Go.Proofs.YtejpjclbeogajaaDoor
open Go.RowKit
set_option linter.unusedVariables false
set_option linter.unusedSimpArgs false

/-- a schema's rows in memory -/
structure SchRows (w : World) (aS aE : Option Addr) (s : FSchema) : Prop where
  st : ∀ i, i < s.structs.length → ∃ b o b' c', aS = some ⟨b, o, none⟩ ∧ b < w.heap.size ∧ w.cell? ⟨b, o + i * 2, none⟩ = some (.string (rget s.structs i).name) ∧ w.cell? ⟨b, o + i * 2 + 1, none⟩ = some (.slice (some ⟨b', 0, none⟩) (rget s.structs i).fields.length c') ∧ (b' < w.heap.size ∧ (rget s.structs i).fields.length ≤ c') ∧ FieldsRow w b' (rget s.structs i).fields
  en : ∀ i, i < s.enums.length → ∃ b o b' c', aE = some ⟨b, o, none⟩ ∧ b < w.heap.size ∧ w.cell? ⟨b, o + i * 2, none⟩ = some (.string (cget s.enums i).name) ∧ w.cell? ⟨b, o + i * 2 + 1, none⟩ = some (.slice (some ⟨b', 0, none⟩) (cget s.enums i).names.length c') ∧ (b' < w.heap.size ∧ (cget s.enums i).names.length ≤ c') ∧ StrsRow w b' (cget s.enums i).names
theorem SchRows.below {w w' : World} {aS aE : Option Addr} {s : FSchema} (h : SchRows w aS aE s) (hb : Below w.heap.size w w') : SchRows w' aS aE s := by
  refine ⟨fun i hi => ?_, fun i hi => ?_⟩
  · obtain ⟨b, o, b', c', e, h1, h2, h3, h4, h5⟩ := h.st i hi
    exact ⟨b, o, b', c', e, Nat.lt_of_lt_of_le h1 hb.size, cell_kept h2 hb, cell_kept h3 hb, ⟨Nat.lt_of_lt_of_le h4.1 hb.size, h4.2⟩, FieldsAt.below h5 hb h4.1⟩
  · obtain ⟨b, o, b', c', e, h1, h2, h3, h4, h5⟩ := h.en i hi
    exact ⟨b, o, b', c', e, Nat.lt_of_lt_of_le h1 hb.size, cell_kept h2 hb, cell_kept h3 hb, ⟨Nat.lt_of_lt_of_le h4.1 hb.size, h4.2⟩, strs_local _ w w' b' (hb.block b' h4.1) h5⟩
theorem schRows_of {w : World} {v : Value} {s : FSchema} (h : SchemaAt w v s) : ∃ aS cS aE cE, v = .agg #[.slice aS s.structs.length cS, .slice aE s.enums.length cE, .int .i64 s.root] ∧ SchRows w aS aE s ∧ s.structs.length ≤ cS ∧ s.enums.length ≤ cE := by
  obtain ⟨vS, vE, rfl, ⟨aS, cS, ⟨rfl, hcS⟩, h1⟩, ⟨aE, cE, ⟨rfl, hcE⟩, h2⟩⟩ := h
  refine ⟨aS, cS, aE, cE, rfl, ⟨fun i hi => ?_, fun i hi => ?_⟩, hcS, hcE⟩
  · obtain ⟨b, o, rfl, hb, hc⟩ := h1 (by omega)
    obtain ⟨b', c', g0, g1, g2, g3⟩ := hc i hi
    exact ⟨b, o, b', c', rfl, hb, g0, g1, g2, g3⟩
  · obtain ⟨b, o, rfl, hb, hc⟩ := h2 (by omega)
    obtain ⟨b', c', g0, g1, g2, g3⟩ := hc i hi
    exact ⟨b, o, b', c', rfl, hb, g0, g1, g2, g3⟩

end Go.Proofs.YtejpjclbeogajaaDoor
