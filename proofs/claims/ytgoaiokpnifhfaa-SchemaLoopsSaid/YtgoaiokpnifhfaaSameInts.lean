/-
  The document's SameInts: of two lists that are the same it says so.
-/
import Derived.Test.YtgoaiokpnifhfaaRegion
import Derived.Test.YtgoaiokpnifhfaaRunes
namespace Go.Proofs.Ytgoaiokpnifhfaa
open Go.RowKit
set_option linter.unusedVariables false
set_option linter.unusedSimpArgs false

def iget (xs : List Int) (j : Nat) : Int := xs[j]!

/-- a list of numbers lies at an address -/
def IntsAt (w : World) (A : Option Addr) (xs : List Int) : Prop := 0 < xs.length → ∃ b o, A = some ⟨b, o, none⟩ ∧ b < w.heap.size ∧ ∀ j, j < xs.length → w.cell? ⟨b, o + j, none⟩ = some (.int .i64 (iget xs j))

theorem IntsAt.below {w w' : World} {A : Option Addr} {xs : List Int} (h : IntsAt w A xs) (hb : Below w.heap.size w w') : IntsAt w' A xs := by
  intro h0
  obtain ⟨b, o, hA, hl, hc⟩ := h h0
  exact ⟨b, o, hA, Nat.lt_of_lt_of_le hl hb.size, fun j hj => by rw [hb.cell (p := ⟨b, o + j, none⟩) hl]; exact hc j hj⟩

theorem IntsAt.of_block {w : World} {g : Nat} {xs : List Int} {T : TypeId} (h : w.heap[g]? = some (.cells (xs.map (Value.int .i64)).toArray T (0, 0))) : IntsAt w (some ⟨g, 0, none⟩) xs :=
  fun _ => ⟨g, 0, rfl, blk_lt h, fun j hj => by rw [Nat.zero_add, blk_cell h, ints_get hj]; rfl⟩

theorem IntsAt.of_owned {w : World} {base : Nat} {e : TypeId} {v : Value} {xs : List Int} (h : w.ownsRow base e 1 v xs.length (xs.map (Value.int .i64))) : ∃ A c, v = .slice A xs.length c ∧ IntsAt w A xs := by
  obtain ⟨a, c, rfl, ho⟩ := own_open h
  refine ⟨a, c, rfl, fun h0 => ?_⟩
  obtain ⟨g, rfl, _, hg, hc⟩ := ho h0
  exact ⟨g, 0, rfl, hg, fun j hj => by rw [Nat.zero_add, hc j hj]; simp [iget, hj]⟩

end Go.Proofs.Ytgoaiokpnifhfaa
