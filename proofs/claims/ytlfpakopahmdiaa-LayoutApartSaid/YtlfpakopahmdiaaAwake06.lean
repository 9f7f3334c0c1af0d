/-
  Layer 6: the fixed facts.
-/
import Derived.Test.YtlfpakopahmdiaaWords
import Derived.Test.YtlfpakopahmdiaaUnits
namespace Go.Proofs.Ytlfpakopahmdiaa
open Go.RowKit
set_option linter.unusedVariables false
set_option linter.unusedSimpArgs false

def awakeFs : List FField := [⟨⟨#[120]⟩, 1, 0, 0, 0⟩, ⟨⟨#[121]⟩, 8, 0, 0, 0⟩, ⟨⟨#[122]⟩, 11, 0, 0, 0⟩, ⟨⟨#[119]⟩, 6, 0, 0, 0⟩]
theorem awake_words : wordsN awakeFs = 1 ∧ wordsP awakeFs = (1, [40, 0, 0, 32]) := by
  constructor <;> decide +kernel
theorem awake_units : (unitsOf ⟨#[240, 159, 152, 128]⟩).length = 2 := by decide +kernel

theorem awake_fields {w : World} {b : Nat} {T : TypeId} (h : w.heap[b]? = some (.cells #[.string ⟨#[120]⟩, .int .u8 1, .int .i64 0, .int .i64 0, .int .u64 0, .string ⟨#[121]⟩, .int .u8 8, .int .i64 0, .int .i64 0, .int .u64 0, .string ⟨#[122]⟩, .int .u8 11, .int .i64 0, .int .i64 0, .int .u64 0, .string ⟨#[119]⟩, .int .u8 6, .int .i64 0, .int .i64 0, .int .u64 0] T (0, 0))) :
    FieldsAt w b 0 awakeFs := by
  intro i hi
  have h4 : i = 0 ∨ i = 1 ∨ i = 2 ∨ i = 3 := by have : awakeFs.length = 4 := rfl; omega
  simp only [blk_cell h]
  rcases h4 with rfl | rfl | rfl | rfl <;> exact ⟨rfl, rfl, rfl, rfl, rfl⟩

set_option maxHeartbeats 1000000 in
set_option maxRecDepth 100000 in
theorem awake06_calls (w : World) : Calls Try.prog 14 #[] w fun e w' => e = .returned (.bool true) ∧ Below w.heap.size w w' := by
  go_enter Try.func14, Try.ntmps14
  go_wp2_with fail
  refine (layoutWords_calls _ w.heap.size 0 4 awakeFs (by decide) _ (by simp; omega) (awake_fields (blk_alloc (blk_new _ _) _))).mono ?_
  rintro e w1 ⟨g, rfl, hg, hG, hB⟩
  rw [awake_words.1, awake_words.2]
  rw [awake_words.2] at hG
  have hz := hB.size
  simp only [World.size_alloc] at hz hg
  have lG := blk_lt hG
  have g0 : w1.cell? ⟨g, 0, none⟩ = some (.int .i64 40) := by rw [blk_cell hG]; rfl
  have g3 : w1.cell? ⟨g, 3, none⟩ = some (.int .i64 32) := by rw [blk_cell hG]; rfl
  have hlen : awakeFs.length = 4 := rfl
  simp only [hlen]
  clear hG hlen
  go_wp2_with fail
  refine (layoutUnits_calls _ (by decide) _).mono ?_
  rintro e w2 ⟨v, rfl, hown, hB2⟩
  rw [awake_units] at hown
  have hv : ∃ a c, v = .slice a 2 c := by
    rcases hown.2 with ⟨_, h⟩ | ⟨g', cap, cur, rfl, _⟩
    · cases h
    · exact ⟨_, _, rfl⟩
  obtain ⟨a, c, rfl⟩ := hv
  go_wp2
  go_ret
  exact ⟨by simp, by (repeat' (first | (with_reducible exact Below.refl _ _) | (with_reducible assumption) | (with_reducible refine Below.alloc ?_ ?_ _) | (with_reducible refine Below.drew ?_) | (with_reducible refine Below.setCell ?_ ?_ _) | (with_reducible refine Below.trans ?_ (Below.mono (by assumption) ?_)) | go_size))⟩

end Go.Proofs.Ytlfpakopahmdiaa
