/-
  LayoutRows' question.
-/
import Derived.Test.YtlfpakopahmdiaaAsk
import Derived.Test.YtlfpakopahmdiaaRefRowed
namespace Go.Proofs.Ytlfpakopahmdiaa
open Go.RowKit
set_option linter.unusedVariables false
set_option linter.unusedSimpArgs false

set_option maxHeartbeats 1000000 in
set_option maxRecDepth 100000 in
theorem ask_rows : AskOk 24 #[] (fun _ => True) := by
  intro vs nm b c fs W hgd hb hf _
  have hn := hgd.2.1
  have hok : ∀ f ∈ fs, f.ok := fun f h => (hgd.2.2 f h).1
  have hbd := rowsOf_bd fs fs.length
  clear hgd
  show Calls _ _ #[.agg vs, .agg #[.string nm, .slice (some ⟨b, 0, none⟩) fs.length c]] _ _
  go_enter Try.func24, Try.ntmps24
  go_wp2_with fail
  have hB0 : Below W.heap.size W ((W.alloc (Obj.cells vs 33)).alloc (Obj.cells #[.string nm, .slice (some ⟨b, 0, none⟩) fs.length c] 36)) := by (repeat' (first | (with_reducible exact Below.refl _ _) | (with_reducible assumption) | (with_reducible refine Below.alloc ?_ ?_ _) | (with_reducible refine Below.drew ?_) | (with_reducible refine Below.setCell ?_ ?_ _) | (with_reducible refine Below.trans ?_ (Below.mono (by assumption) ?_)) | go_size))
  obtain ⟨W1, hW1⟩ : ∃ x, x = (W.alloc (Obj.cells vs 33)).alloc (Obj.cells #[.string nm, .slice (some ⟨b, 0, none⟩) fs.length c] 36) := ⟨_, rfl⟩
  have hR1 : W1.heap[W.heap.size + 1]? = some (.cells #[.string nm, .slice (some ⟨b, 0, none⟩) fs.length c] 36 (0, 0)) := by
    have := blk_new (W.alloc (Obj.cells vs 33)) (Obj.cells #[.string nm, .slice (some ⟨b, 0, none⟩) fs.length c] 36)
    rw [hW1]; simpa using this
  rw [← hW1] at hB0 ⊢
  clear hW1
  have hz0 := hB0.size
  have lR := blk_lt hR1
  refine (layoutRowed_calls nm b 0 c fs hn W1 (by omega) (hf.below hB0 hb)).mono ?_
  rintro e w1 ⟨g, A, B, cA, cB, rfl, hG, hIA, hIB, hB1⟩
  have hz1 := hB1.size
  have hR2 := blk_below hR1 hB1 lR
  have lR1 : W.heap.size + 1 < w1.heap.size := by omega
  have q0 : w1.cell? ⟨W.heap.size + 1, 0, none⟩ = some (.string nm) := by rw [blk_cell hR2]; rfl
  have q1 : w1.cell? ⟨W.heap.size + 1, 1, none⟩ = some (.slice (some ⟨b, 0, none⟩) fs.length c) := by rw [blk_cell hR2]; rfl
  go_wp2_with fail
  obtain ⟨st, hst⟩ : ∃ x, x = rowsOf fs fs.length := ⟨_, rfl⟩
  rw [← hst] at hG hIA hIB hbd ⊢
  obtain ⟨sz, hsz⟩ : ∃ x, x = st.size := ⟨_, rfl⟩
  obtain ⟨gn, hgn⟩ : ∃ x, x = st.groups.length := ⟨_, rfl⟩
  obtain ⟨pn, hpn⟩ : ∃ x, x = st.parts.length := ⟨_, rfl⟩
  rw [← hsz, ← hgn, ← hpn]
  obtain ⟨W2, hW2⟩ : ∃ x, x = w1.alloc (Obj.cells #[.int .i64 sz, .slice (some ⟨g, 0, none⟩) fs.length fs.length, .slice A gn cA, .slice B pn cB] 53) := ⟨_, rfl⟩
  have hX2 : W2.heap[w1.heap.size]? = some (.cells #[.int .i64 sz, .slice (some ⟨g, 0, none⟩) fs.length fs.length, .slice A gn cA, .slice B pn cB] 53 (0, 0)) := by rw [hW2]; exact blk_new _ _
  have hB12 : Below w1.heap.size w1 W2 := by rw [hW2]; exact below1 _ _
  have hB2 : Below W1.heap.size W1 W2 := hB1.trans (hB12.mono hz1)
  have hG2 : W2.heap[g]? = some (.cells (st.at_.map (Value.int .i64)).toArray 3 (0, 0)) := by rw [hW2]; exact blk_alloc hG _
  have hIA2 := hIA.below hB12
  have hIB2 := hIB.below hB12
  rw [← hW2]
  clear hW2 q0 q1 hG hIA hIB
  have hz2 := hB2.size
  refine (refRowed_calls nm b 0 c fs hn hok W2 (by omega) (hf.below (hB0.trans (hB2.mono hz0)) hb)).mono ?_
  rintro e w2 ⟨g2, A2, B2, cA2, cB2, rfl, hG3, hIA3, hIB3, hB3⟩
  rw [← hst] at hG3 hIA3 hIB3 ⊢
  rw [← hsz, ← hgn, ← hpn]
  have lX := blk_lt hX2
  have hX3 := blk_below hX2 hB3 lX
  have hG4 := blk_below hG2 hB3 (blk_lt hG2)
  have hIA4 := hIA2.below hB3
  have hIB4 := hIB2.below hB3
  have x0 : w2.cell? ⟨w1.heap.size, 0, none⟩ = some (.int .i64 sz) := by rw [blk_cell hX3]; rfl
  have x1 : w2.cell? ⟨w1.heap.size, 1, none⟩ = some (.slice (some ⟨g, 0, none⟩) fs.length fs.length) := by rw [blk_cell hX3]; rfl
  have x2 : w2.cell? ⟨w1.heap.size, 2, none⟩ = some (.slice A gn cA) := by rw [blk_cell hX3]; rfl
  have x3 : w2.cell? ⟨w1.heap.size, 3, none⟩ = some (.slice B pn cB) := by rw [blk_cell hX3]; rfl
  have lX3 := blk_lt hX3
  have hS1 := fun W' (hB' : Below w2.heap.size w2 W') => sameInts_calls (some ⟨g, 0, none⟩) (some ⟨g2, 0, none⟩) fs.length fs.length st.at_ W' (by omega) ((IntsAt.of_block hG4).below hB') ((IntsAt.of_block hG3).below hB')
  rw [hbd.1] at hS1
  have hS2 := fun W' (hB' : Below w2.heap.size w2 W') => sameInts_calls A A2 cA cA2 st.groups W' (by omega) (hIA4.below hB') (hIA3.below hB')
  rw [← hgn] at hS2
  have hS3 := fun W' (hB' : Below w2.heap.size w2 W') => sameInts_calls B B2 cB cB2 st.parts W' (by omega) (hIB4.below hB') (hIB3.below hB')
  rw [← hpn] at hS3
  have HS1 := Lib.hid hS1
  have HS2 := Lib.hid hS2
  have HS3 := Lib.hid hS3
  clear hS1 hS2 hS3 hsz hgn hpn hst
  go_wp2_with fail
  refine (HS1.out _ (Below.refl _ _)).mono ?_
  rintro e w3 ⟨rfl, hB4⟩
  have hz4 := hB4.size
  have y0 := (hB4.cell (p := ⟨w1.heap.size, 0, none⟩) lX3).trans x0
  have y2 := (hB4.cell (p := ⟨w1.heap.size, 2, none⟩) lX3).trans x2
  have y3 := (hB4.cell (p := ⟨w1.heap.size, 3, none⟩) lX3).trans x3
  clear x0 x1 x2 x3
  go_wp2_with fail
  refine (HS2.out _ hB4).mono ?_
  rintro e w4 ⟨rfl, hB5⟩
  have hz5 := hB5.size
  have l3 : w1.heap.size < w3.heap.size := Nat.lt_of_lt_of_le lX3 hz4
  have z3 := (hB5.cell (p := ⟨w1.heap.size, 3, none⟩) l3).trans y3
  clear y0 y2 y3
  go_wp2_with fail
  refine (HS3.out _ (hB4.trans (hB5.mono hz4))).mono ?_
  rintro e w5 ⟨rfl, hB6⟩
  have hz6 := hB6.size
  clear z3
  go_wp2
  go_ret
  exact ⟨by simp, by (repeat' (first | (with_reducible exact Below.refl _ _) | (with_reducible assumption) | (with_reducible refine Below.alloc ?_ ?_ _) | (with_reducible refine Below.drew ?_) | (with_reducible refine Below.setCell ?_ ?_ _) | (with_reducible refine Below.trans ?_ (Below.mono (by assumption) ?_)) | go_size))⟩

end Go.Proofs.Ytlfpakopahmdiaa
