/-
  Rows of pairs that grow: a name, and a row that is finished.
-/
import Derived.Test.YtgoaiokpnifhfaaMadeT
namespace Go.Proofs.Ytgoaiokpnifhfaa
open Go.RowKit
set_option linter.unusedVariables false
set_option linter.unusedSimpArgs false

/-- i pairs in a row of the call's own, the inner rows in blocks behind O -/
structure PInv (K : Nat → World → Nat → Prop) (len : Nat → Nat) (names : Nat → ByteArray) (T : TypeId) (base O : Nat) (v : Value) (i : Nat) (vf : Nat → Value) (w : World) : Prop where
  own : w.ownsRow base T 2 v i ((List.range i).flatMap fun j => [.string (names j), vf j])
  held : ∀ j, j < i → Held (K j) w O v.ownBlock (len j) (vf j)
theorem PInv.nil (K : Nat → World → Nat → Prop) (len : Nat → Nat) (names : Nat → ByteArray) (T : TypeId) (base O : Nat) (vf : Nat → Value) (w : World) : PInv K len names T base O (.slice none 0 0) 0 vf w :=
  ⟨World.ownsRow_nil _ _ _ _, fun j hj => absurd hj (by omega)⟩
/-- kept where the blocks behind O are -/
theorem PInv.keep {K : Nat → World → Nat → Prop} {len : Nat → Nat} {names : Nat → ByteArray} {T : TypeId} {base O : Nat} {v : Value} {i : Nat} {vf : Nat → Value} {w w' : World} (h : PInv K len names T base O v i vf w) (hK : ∀ j, LocalTo (K j)) (hO : O < base)
    (hs : w.heap.size ≤ w'.heap.size) (hb : ∀ b, b < w.heap.size → O < b → w'.heap[b]? = w.heap[b]?) : PInv K len names T base O v i vf w' := by
  refine ⟨ownsRow_at h.own (fun g hg => ?_), fun j hj => (h.held j hj).step (hK j) (fun b h1 h2 _ => hb b h1 h2) hs (fun b _ hn => hn)⟩
  have := h.own.lt g hg
  exact hb g this.2 (by omega)
theorem PInv.run {K : Nat → World → Nat → Prop} {len : Nat → Nat} {names : Nat → ByteArray} {T : TypeId} {base O : Nat} {v : Value} {i : Nat} {vf : Nat → Value} {w w' : World} (h : PInv K len names T base O v i vf w) (hK : ∀ j, LocalTo (K j)) (hO : O < base)
    (hb : Below w.heap.size w w') : PInv K len names T base O v i vf w' := h.keep hK hO hb.size (fun b h1 _ => hb.block b h1)
/-- one more -/
theorem PInv.step {K : Nat → World → Nat → Prop} {len : Nat → Nat} {names : Nat → ByteArray} {T : TypeId} {base O : Nat} {v : Value} {i : Nat} {vf : Nat → Value} {w w2 : World} {g2 cap2 gf cf t : Nat} {x : Value} (h : PInv K len names T base O v i vf w) (hK : ∀ j, LocalTo (K j)) (hO : O < base) (hbw : base ≤ w.heap.size)
    (hgf1 : O < gf) (hgf2 : gf < w.heap.size) (hgf3 : some gf ≠ v.ownBlock) (hrow : K i w gf)
    (hgr : (w.alloc (.cells #[.string (names i), .slice (some ⟨gf, 0, none⟩) (len i) cf] T)).grownBy w2 v.ownBlock) (hat : v.ownBlock = some g2 ∨ g2 = w.heap.size + 1)
    (hown : w2.ownsRow base T 2 (.slice (some ⟨g2, 0, none⟩) (i + 1) cap2) (i + 1) (((List.range i).flatMap fun j => [.string (names j), vf j]) ++ [.string (names i), .slice (some ⟨gf, 0, none⟩) (len i) cf])) :
    PInv K len names T base O (.slice (some ⟨g2, 0, none⟩) (i + 1) cap2) (i + 1) (fun j => if j = i then .slice (some ⟨gf, 0, none⟩) (len i) cf else vf j) (w2.setCell ⟨O, t, none⟩ x) := by
  have hlt := h.own.lt
  have hz2 : w.heap.size + 1 ≤ w2.heap.size := by have := hgr.size; simpa using this
  have hold : ∀ b, b < w.heap.size → O < b → some b ≠ v.ownBlock → (w2.setCell ⟨O, t, none⟩ x).heap[b]? = w.heap[b]? := fun b hb hOb hn => by
    rw [Below.heap_setCell _ _ _ _ (by show b ≠ O; omega)]
    exact (hgr.block b (by simp; omega) hn).trans (Below.heap_alloc _ _ _ hb)
  have hat2 : ∀ b, b < w.heap.size → some b ≠ v.ownBlock → some b ≠ (Value.slice (some ⟨g2, 0, none⟩) (i + 1) cap2).ownBlock := fun b hb hn e => by
    have e2 : b = g2 := by simpa [Value.ownBlock] using e
    rcases hat with h | h
    · exact hn (by rw [h, e2])
    · omega
  refine ⟨?_, fun j hj => ?_⟩
  · refine ownsRow_setCell_below ?_ (by show O < base; exact hO) _
    rw [flat_succ]
    have e1 : ((List.range i).flatMap fun j => [Value.string (names j), if j = i then .slice (some ⟨gf, 0, none⟩) (len i) cf else vf j]) = (List.range i).flatMap fun j => [Value.string (names j), vf j] := by
      rw [List.flatMap_def, List.flatMap_def]
      congr 1
      apply List.map_congr_left
      intro j hj
      have : j ≠ i := by have := List.mem_range.1 hj; omega
      simp [this]
    rw [e1]
    simp only [if_true]
    exact hown
  · by_cases hji : j = i
    · subst hji
      simp only [if_true]
      refine ⟨gf, cf, rfl, ?_, hgf1, hat2 gf hgf2 hgf3, hK _ w _ gf (hold gf hgf2 hgf1 hgf3) hrow⟩
      rw [World.size_setCell]; omega
    · simp only [if_neg hji]
      refine (h.held j (by omega)).step (hK j) (fun b hb hOb hne => hold b hb hOb hne) (by rw [World.size_setCell]; omega) hat2
/-- what is handed back -/
theorem PInv.pairs {α : Type} {nm : α → ByteArray} {K : α → World → Nat → Prop} {len : α → Nat} {get : Nat → α} {T : TypeId} {base O : Nat} {v : Value} {n : Nat} {vf : Nat → Value} {w : World} (h : PInv (fun j => K (get j)) (fun j => len (get j)) (fun j => nm (get j)) T base O v n vf w) : PairsAt nm K len get w v n :=
  pairs_of_own nm K len get (fun j => nm (get j)) vf h.own (fun _ _ => rfl) h.held

end Go.Proofs.Ytgoaiokpnifhfaa
