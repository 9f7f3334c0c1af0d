/-
  A statement that leaves its order open, whose operations read what was there and whose callees turn nothing that was there: one walk in the order of the text.
-/
import Derived.Test.YtejpjclbeogajaaDoorData
namespace Go.Proofs.YtejpjclbeogajaaDoor
open Go.RowKit
set_option linter.unusedVariables false
set_option linter.unusedSimpArgs false

/-- a world in which all that lay in w lies unturned -/
structure BelowOf (w : World) where
  val : World
  ok : Below w.heap.size w val

instance (w : World) : Nonempty (BelowOf w) := ⟨⟨w, Below.refl _ _⟩⟩

theorem BelowOf.cell (w : World) : ∀ (X : BelowOf w) (b o : Nat), b < w.heap.size → X.val.cell? ⟨b, o, none⟩ = w.cell? ⟨b, o, none⟩ := fun X b o h => X.ok.cell (p := ⟨b, o, none⟩) h

theorem wp_region_below_lit {P : Program} {id : Nat} {Q : Exit → Act → World → Prop} {a : Act} {w : World} {l : List Oper} (hm : P.follows .mixedOrders = true) (hB : Region.lexB .any l.toArray = true)
    (h : wpQuiet P l.toArray (fun w' => ∃ X : BelowOf w, w' = X.val) (fun a' => ∀ w', (∃ X : BelowOf w, w' = X.val) → Q .normal a' w') l a) : (Code.region id l.toArray true).wp P Q a w :=
  wp_region_quiet (C := fun w' => ∃ X : BelowOf w, w' = X.val) hm hB ⟨⟨{ w with drawn := w.drawn + 1 }, ⟨rfl, rfl, rfl, Nat.le_refl _, fun _ _ => rfl⟩⟩, rfl⟩ (by simpa using h)

/-- a callee that turns nothing that was there -/
theorem quietB {P : Program} {f : FuncId} {args : Array Value} {w : World} {X : BelowOf w} {v : Value}
    (h : Calls P f args X.val fun e w' => e = .returned v ∧ Below X.val.heap.size X.val w') : Calls P f args X.val fun e w'' => e = .returned v ∧ ∃ Y : BelowOf w, w'' = Y.val :=
  h.mono fun _ w' ⟨he, hb⟩ => ⟨he, ⟨w', X.ok.trans (hb.mono X.ok.size)⟩, rfl⟩
/-- a callee that leaves the world as it was -/
theorem quietS {P : Program} {f : FuncId} {args : Array Value} {w : World} {X : BelowOf w} {v : Value}
    (h : Calls P f args X.val fun e w' => e = .returned v ∧ X.val = w') : Calls P f args X.val fun e w'' => e = .returned v ∧ ∃ Y : BelowOf w, w'' = Y.val :=
  h.mono fun _ w' ⟨he, hb⟩ => ⟨he, X, hb.symm⟩

end Go.Proofs.YtejpjclbeogajaaDoor
