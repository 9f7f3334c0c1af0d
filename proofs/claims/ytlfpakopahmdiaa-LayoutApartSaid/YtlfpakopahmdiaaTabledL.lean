/-
  layout.Tabled: what is known of the world while it runs.
-/
import Derived.Test.YtlfpakopahmdiaaTabled
namespace Go.Proofs.Ytlfpakopahmdiaa
open Go.RowKit
set_option linter.unusedVariables false
set_option linter.unusedSimpArgs false

/-- a row of bools that came in -/
def BoolsAt (w : World) (A : Option Addr) (th : List Bool) : Prop := 0 < th.length → ∃ b o, A = some ⟨b, o, none⟩ ∧ b < w.heap.size ∧ ∀ j, j < th.length → w.cell? ⟨b, o + j, none⟩ = some (.bool (bget th j))
theorem BoolsAt.below {w w' : World} {A : Option Addr} {xs : List Bool} (h : BoolsAt w A xs) (hb : Below w.heap.size w w') : BoolsAt w' A xs := by
  intro h0
  obtain ⟨b, o, hA, hl, hc⟩ := h h0
  exact ⟨b, o, hA, Nat.lt_of_lt_of_le hl hb.size, fun j hj => by rw [hb.cell (p := ⟨b, o + j, none⟩) hl]; exact hc j hj⟩

/-- G: the places; X: the answer -/
structure TabInv (w wr : World) (nm : ByteArray) (sl : Value) (n X G : Nat) (s : TabSt) : Prop where
  below : Below w.heap.size w wr
  r : wr.heap[w.heap.size]? = some (.cells #[.string nm, sl] 36 (0, 0))
  res : wr.heap[w.heap.size + 1]? = some (.cells #[.slice none 0 0, .int .i64 0, .int .i64 0] 67 (0, 0))
  x : wr.heap[X]? = some (.cells #[.slice (some ⟨G, 0, none⟩) n n, .int .i64 s.size, .int .i64 s.align] 67 (0, 0))
  g : wr.heap[G]? = some (.cells (s.at_.map (Value.int .i64)).toArray 3 (0, 0))
  d1 : w.heap.size + 1 < G
  d2 : G < X

theorem TabInv.frame {w wr wB : World} {nm : ByteArray} {sl : Value} {n X G : Nat} {s : TabSt} (h : TabInv w wr nm sl n X G s) (hb : Below wr.heap.size wr wB) : TabInv w wB nm sl n X G s :=
  ⟨h.below.trans (hb.mono h.below.size), blk_below h.r hb (blk_lt h.r), blk_below h.res hb (blk_lt h.res), blk_below h.x hb (blk_lt h.x), blk_below h.g hb (blk_lt h.g), h.d1, h.d2⟩
theorem TabInv.put {w wr : World} {nm : ByteArray} {sl : Value} {n X G : Nat} {s : TabSt} (h : TabInv w wr nm sl n X G s) (k : Nat) (v : Int) : TabInv w (wr.setCell ⟨G, k, none⟩ (.int .i64 v)) nm sl n X G { s with at_ := s.at_.set k v } := by
  have d1 := h.d1
  have d2 := h.d2
  refine ⟨h.below.setCell (by simp; omega) _, blk_set_ne h.r _ (by simp; omega) _, blk_set_ne h.res _ (by simp; omega) _, blk_set_ne h.x _ (by simp; omega) _, ?_, d1, d2⟩
  rw [blk_set h.g, ints_put]
theorem TabInv.sz {w wr : World} {nm : ByteArray} {sl : Value} {n X G : Nat} {s : TabSt} (h : TabInv w wr nm sl n X G s) (v : Int) : TabInv w (wr.setCell ⟨X, 1, none⟩ (.int .i64 v)) nm sl n X G { s with size := v } := by
  have d1 := h.d1
  have d2 := h.d2
  refine ⟨h.below.setCell (by simp; omega) _, blk_set_ne h.r _ (by simp; omega) _, blk_set_ne h.res _ (by simp; omega) _, ?_, blk_set_ne h.g _ (by simp; omega) _, d1, d2⟩
  rw [blk_set h.x]; rfl
theorem TabInv.al {w wr : World} {nm : ByteArray} {sl : Value} {n X G : Nat} {s : TabSt} (h : TabInv w wr nm sl n X G s) (v : Int) : TabInv w (wr.setCell ⟨X, 2, none⟩ (.int .i64 v)) nm sl n X G { s with align := v } := by
  have d1 := h.d1
  have d2 := h.d2
  refine ⟨h.below.setCell (by simp; omega) _, blk_set_ne h.r _ (by simp; omega) _, blk_set_ne h.res _ (by simp; omega) _, ?_, blk_set_ne h.g _ (by simp; omega) _, d1, d2⟩
  rw [blk_set h.x]; rfl

end Go.Proofs.Ytlfpakopahmdiaa
