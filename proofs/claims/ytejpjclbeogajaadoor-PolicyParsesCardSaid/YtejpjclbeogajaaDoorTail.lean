/-
  A statement that leaves its order open, in which all but the last operations read or call what only reads, and the last ones, in one forced order, write: the reads in the order of the text, then the writes.
-/
import Derived.Test.YtejpjclbeogajaaDoorRegion
import Derived.StillTail
namespace Go.Proofs.YtejpjclbeogajaaDoor
open Go.RowKit
set_option linter.unusedVariables false
set_option linter.unusedSimpArgs false

/-- a world that is w -/
structure SameAs (w : World) where
  val : World
  ok : val = w
instance (w : World) : Nonempty (SameAs w) := ⟨⟨w, rfl⟩⟩

theorem SameAs.cell (w : World) (n : Nat) : ∀ (X : SameAs (w.drewN n)) (a : Addr), X.val.cell? a = w.cell? a := fun X a => by rw [X.ok]; rfl

theorem still_of_quiet {P : Program} {ops : Array Oper} {w : World} {Q : Act → Prop} : ∀ (l : List Oper) (a : Act), wpQuiet P ops (fun w' => ∃ X : SameAs w, w' = X.val) Q l a → wpStill P ops w Q l a
  | [], a, h => h
  | o :: rest, a, h => by
    have hC : ∃ X : SameAs w, w = X.val := ⟨⟨w, rfl⟩, rfl⟩
    simp only [wpQuiet] at h
    simp only [wpStill]
    split at h
    · rename_i hw
      rw [if_pos hw]
      obtain ⟨v, h1, h2⟩ := h
      have h3 := h1 w hC
      have ih := still_of_quiet rest _ h2
      unfold Oper.still
      unfold Oper.quietAt at h3
      generalize (execOp a.eval o).run P w = r at h3 ⊢
      cases r with
      | ok x w' =>
        cases x with
        | value u => simp only [Oper.quietUpon] at h3; simp only [Oper.stillUpon]; exact ⟨h3.1, by rw [h3.2]; exact ih⟩
        | skip => simp only [Oper.quietUpon] at h3; simp only [Oper.stillUpon]; exact ⟨h3.1, by rw [h3.2] at ih; exact ih⟩
        | enter f args => simp only [Oper.quietUpon] at h3; simp only [Oper.stillUpon]; exact ⟨h3.1, v, h3.2.mono (fun e w'' hh => ⟨hh.1, by obtain ⟨X, hX⟩ := hh.2; rw [hX, X.ok]⟩), ih⟩
        | _ => exact h3
      | _ => exact h3
    · rename_i hw
      rw [if_neg hw]
      exact still_of_quiet rest _ h

theorem wp_region_same_tail {P : Program} {id : Nat} {Q : Exit → Act → World → Prop} {a : Act} {w : World} {l : List Oper} (n : Nat) (hm : P.follows .mixedOrders = true) (hB : Region.lexTailB .any l.toArray n = true)
    (h : wpQuiet P l.toArray (fun w' => ∃ X : SameAs (w.drewN 1), w' = X.val) (fun a' => wpList P l.toArray Q (l.drop n) a' (w.drewN 1)) (l.take n) a) : (Code.region id l.toArray true).wp P Q a w :=
  wp_region_still_tail n hm hB (still_of_quiet _ _ h)

/-- a callee that leaves the world as it was -/
theorem quietX {P : Program} {f : FuncId} {args : Array Value} {w : World} {X : SameAs w} {v : Value}
    (h : Calls P f args X.val fun e w' => e = .returned v ∧ X.val = w') : Calls P f args X.val fun e w'' => e = .returned v ∧ ∃ Y : SameAs w, w'' = Y.val :=
  h.mono fun _ w' ⟨he, hb⟩ => ⟨he, X, hb.symm⟩

end Go.Proofs.YtejpjclbeogajaaDoor
