/-
  Tokens in a slice: what is read.
-/
import Derived.Test.YtgoaiokpnifhfaaTokens
import Derived.Test.YtgoaiokpnifhfaaIdl1
namespace Go.Proofs.Ytgoaiokpnifhfaa
open Go.RowKit
set_option linter.unusedVariables false
set_option linter.unusedSimpArgs false

theorem tokCells_get (l : List Tok) : ∀ (k : Nat), k < l.length → (tokCells l)[k * 3]? = some (.int .i64 (l[k]?.getD tok0).kind) ∧ (tokCells l)[k * 3 + 1]? = some (.string (l[k]?.getD tok0).text) ∧ (tokCells l)[k * 3 + 2]? = some (.int .i64 ((l[k]?.getD tok0).pos : Int)) := by
  induction l with
  | nil => intro k h; simp at h
  | cons a l ih =>
    intro k h
    have e : tokCells (a :: l) = .int .i64 a.kind :: .string a.text :: .int .i64 (a.pos : Int) :: tokCells l := rfl
    cases k with
    | zero => exact ⟨rfl, rfl, rfl⟩
    | succ k =>
      have h2 : k < l.length := by simpa using h
      obtain ⟨g1, g2, g3⟩ := ih k h2
      rw [e, show (k + 1) * 3 = k * 3 + 1 + 1 + 1 by omega]
      exact ⟨g1, g2, g3⟩
/-- tokens in a slice -/
def TokRow (w : World) (a : Option Addr) (l : List Tok) : Prop := 0 < l.length → ∃ g, a = some ⟨g, 0, none⟩ ∧ ToksIn w g l
theorem TokRow.below {w w' : World} {a : Option Addr} {l : List Tok} (h : TokRow w a l) (hb : Below w.heap.size w w') : TokRow w' a l := fun h0 => by
  obtain ⟨g, ha, ht⟩ := h h0
  exact ⟨g, ha, ht.kept (hb.block g (ht.lt h0))⟩
theorem tokRow_owned {w : World} {base cap : Nat} {a : Option Addr} {l : List Tok} (h : w.ownsRow base 41 3 (.slice a l.length cap) l.length (tokCells l)) : TokRow w a l := by
  intro h0
  obtain ⟨g, c, hv, _, _⟩ := h.form h0
  cases hv
  refine ⟨g, rfl, fun k hk => ?_⟩
  have hc := tokCells_get l k hk
  have h3 := h.cells (g := g) rfl
  refine ⟨?_, ?_, ?_⟩
  · have := h3 (k * 3) _ hc.1; simpa [Addr.add_lit] using this
  · have := h3 (k * 3 + 1) _ hc.2.1; simpa [Addr.add_lit] using this
  · have := h3 (k * 3 + 2) _ hc.2.2; simpa [Addr.add_lit] using this

end Go.Proofs.Ytgoaiokpnifhfaa
