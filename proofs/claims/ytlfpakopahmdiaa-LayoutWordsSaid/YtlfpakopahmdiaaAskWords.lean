/-
  LayoutWords' question.
-/
import Derived.Test.YtlfpakopahmdiaaAsk
namespace Go.Proofs.Ytlfpakopahmdiaa
open Go.RowKit
set_option linter.unusedVariables false
set_option linter.unusedSimpArgs false

theorem wordsP_length (fs : List FField) : (wordsP fs).2.length = fs.length := by
  unfold wordsP
  rw [(pIn_bd fs _ _).2.2]
  exact (wOut_bd fs 5).2

set_option maxHeartbeats 1000000 in
set_option maxRecDepth 100000 in
theorem ask_words : AskOk 18 #[] (fun _ => True) := by
  intro vs nm b c fs W hgd hb hf _
  have hn := hgd.2.1
  have hok : ∀ f ∈ fs, f.ok := fun f h => (hgd.2.2 f h).1
  have hL := wordsP_length fs
  clear hgd
  show Calls _ _ #[.agg vs, .agg #[.string nm, .slice (some ⟨b, 0, none⟩) fs.length c]] _ _
  go_enter Try.func18, Try.ntmps18
  go_wp2_with fail
  have hB0 : Below W.heap.size W ((W.alloc (Obj.cells vs 33)).alloc (Obj.cells #[.string nm, .slice (some ⟨b, 0, none⟩) fs.length c] 36)) := by (repeat' (first | (with_reducible exact Below.refl _ _) | (with_reducible assumption) | (with_reducible refine Below.alloc ?_ ?_ _) | (with_reducible refine Below.drew ?_) | (with_reducible refine Below.setCell ?_ ?_ _) | (with_reducible refine Below.trans ?_ (Below.mono (by assumption) ?_)) | go_size))
  obtain ⟨W1, hW1⟩ : ∃ x, x = (W.alloc (Obj.cells vs 33)).alloc (Obj.cells #[.string nm, .slice (some ⟨b, 0, none⟩) fs.length c] 36) := ⟨_, rfl⟩
  have hR1 : W1.heap[W.heap.size + 1]? = some (.cells #[.string nm, .slice (some ⟨b, 0, none⟩) fs.length c] 36 (0, 0)) := by
    have := blk_new (W.alloc (Obj.cells vs 33)) (Obj.cells #[.string nm, .slice (some ⟨b, 0, none⟩) fs.length c] 36)
    rw [hW1]; simpa using this
  rw [← hW1] at hB0 ⊢
  clear hW1
  have hz0 := hB0.size
  have lR := blk_lt hR1
  refine (layoutWords_calls nm b 0 c fs hn W1 (by omega) (hf.below hB0 hb)).mono ?_
  rintro e w1 ⟨g, rfl, hg, hG, hB1⟩
  have hz1 := hB1.size
  have hR2 := blk_below hR1 hB1 lR
  have lR1 : W.heap.size + 1 < w1.heap.size := by omega
  have q0 : w1.cell? ⟨W.heap.size + 1, 0, none⟩ = some (.string nm) := by rw [blk_cell hR2]; rfl
  have q1 : w1.cell? ⟨W.heap.size + 1, 1, none⟩ = some (.slice (some ⟨b, 0, none⟩) fs.length c) := by rw [blk_cell hR2]; rfl
  go_wp2_with fail
  obtain ⟨wN, hwN⟩ : ∃ x, x = wordsN fs := ⟨_, rfl⟩
  obtain ⟨wP, hwP⟩ : ∃ x, x = (wordsP fs).1 := ⟨_, rfl⟩
  obtain ⟨xs, hxs⟩ : ∃ x, x = (wordsP fs).2 := ⟨_, rfl⟩
  rw [← hwN, ← hwP]
  rw [← hxs] at hG hL
  obtain ⟨W2, hW2⟩ : ∃ x, x = w1.alloc (Obj.cells #[.int .i64 wN, .int .i64 wP, .slice (some ⟨g, 0, none⟩) fs.length fs.length] 39) := ⟨_, rfl⟩
  have hX2 : W2.heap[w1.heap.size]? = some (.cells #[.int .i64 wN, .int .i64 wP, .slice (some ⟨g, 0, none⟩) fs.length fs.length] 39 (0, 0)) := by rw [hW2]; exact blk_new _ _
  have hB2 : Below W1.heap.size W1 W2 := by rw [hW2]; exact hB1.alloc (by omega) _
  have hG2 : W2.heap[g]? = some (.cells (xs.map (Value.int .i64)).toArray 3 (0, 0)) := by rw [hW2]; exact blk_alloc hG _
  rw [← hW2]
  clear hW2 q0 q1 hG
  have hz2 := hB2.size
  refine (refWords_calls nm b 0 c fs hn hok W2 (by omega) (hf.below (hB0.trans (hB2.mono hz0)) hb)).mono ?_
  rintro e w2 ⟨g2, rfl, hg2, hG3, hB3⟩
  rw [← hxs] at hG3
  rw [← hwN, ← hwP]
  have lX := blk_lt hX2
  have hX3 := blk_below hX2 hB3 lX
  have hG4 := blk_below hG2 hB3 (blk_lt hG2)
  have x0 : w2.cell? ⟨w1.heap.size, 0, none⟩ = some (.int .i64 wN) := by rw [blk_cell hX3]; rfl
  have x1 : w2.cell? ⟨w1.heap.size, 1, none⟩ = some (.int .i64 wP) := by rw [blk_cell hX3]; rfl
  have x2 : w2.cell? ⟨w1.heap.size, 2, none⟩ = some (.slice (some ⟨g, 0, none⟩) fs.length fs.length) := by rw [blk_cell hX3]; rfl
  have lX3 := blk_lt hX3
  have hS := fun W' (hB' : Below w2.heap.size w2 W') => sameInts_calls (some ⟨g, 0, none⟩) (some ⟨g2, 0, none⟩) fs.length fs.length xs W' (by omega) ((IntsAt.of_block hG4).below hB') ((IntsAt.of_block hG3).below hB')
  rw [hL] at hS
  have HS := Lib.hid hS
  clear hS
  go_wp2_with (first | (go_at_call 21; refine (HS.out _ (Below.refl _ _)).mono ?_; rintro e wB ⟨rfl, hB⟩; have hzB := hB.size; (try simp only [World.size_alloc, World.size_setCell, World.size_drew] at hzB); obtain ⟨hcB, hfB⟩ := bcell hB))
  go_ret
  exact ⟨by simp, by (repeat' (first | (with_reducible exact Below.refl _ _) | (with_reducible assumption) | (with_reducible refine Below.alloc ?_ ?_ _) | (with_reducible refine Below.drew ?_) | (with_reducible refine Below.setCell ?_ ?_ _) | (with_reducible refine Below.trans ?_ (Below.mono (by assumption) ?_)) | go_size))⟩

end Go.Proofs.Ytlfpakopahmdiaa
