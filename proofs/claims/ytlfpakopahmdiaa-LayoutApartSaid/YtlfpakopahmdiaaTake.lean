/-
  LayoutApart's take: a range of a row of bools that is free is taken.
-/
import Derived.Test.YtlfpakopahmdiaaApart
import Derived.Deep.DeepCutAuto
namespace Go.Proofs.Ytlfpakopahmdiaa
open Go.RowKit
set_option linter.unusedVariables false
set_option linter.unusedSimpArgs false

/-- a row of bools -/
def rowB (N : Nat) (f : Nat → Bool) : Obj := .cells ((List.range N).map fun x => Value.bool (f x)).toArray 4 (0, 0)
theorem rowB_cell {w : World} {b N : Nat} {f : Nat → Bool} (h : w.heap[b]? = some (rowB N f)) (x : Nat) (hx : x < N) : w.cell? ⟨b, x, none⟩ = some (.bool (f x)) := by
  rw [blk_cell h]; simp [hx]
theorem rowB_set (w : World) (b N : Nat) (f : Nat → Bool) (h : w.heap[b]? = some (rowB N f)) (k : Nat) (hk : k < N) : (w.setCell ⟨b, k, none⟩ (.bool true)).heap[b]? = some (rowB N (fun x => f x || decide (x = k))) := by
  rw [blk_set h]
  unfold rowB
  congr 2
  apply Array.ext
  · simp
  · intro i h1 h2
    have hi : i < N := by simpa using h1
    rw [Array.getElem_setIfInBounds (by simp [hi])]
    by_cases e : k = i
    · subst e; simp
    · rw [if_neg e]
      have e2 : ¬ i = k := fun h => e h.symm
      simp [e2]
theorem rowB_congr (N : Nat) (f g : Nat → Bool) (h : ∀ x, x < N → f x = g x) : rowB N f = rowB N g := by
  unfold rowB
  congr 2
  apply List.map_congr_left
  intro x hx
  rw [h x (List.mem_range.1 hx)]
theorem grownB_set {w w' : World} {R : Nat} (h : w.grownBy w' (some R)) (j : Nat) (v : Value) : w.grownBy (w'.setCell ⟨R, j, none⟩ v) (some R) :=
  ⟨h.os, h.tape, h.output, by have := h.size; simpa [World.setCell] using this, fun k hk hn => by rw [Below.heap_setCell _ _ _ _ (fun e => hn (by rw [e]))]; exact h.block k hk hn⟩

def TakePost (w : World) (b N : Nat) (f : Nat → Bool) (p n : Nat) (e : Ending) (w' : World) : Prop :=
  e = .returned (.bool true) ∧ w.grownBy w' (some b) ∧ w'.heap[b]? = some (rowB N (fun x => f x || (decide (p ≤ x) && decide (x < p + n))))

set_option maxHeartbeats 1000000 in
set_option maxRecDepth 100000 in
theorem take_calls (b N cap : Nat) (f : Nat → Bool) (p n : Nat) (w : World) (hN : N ≤ 100000) (hb : w.heap[b]? = some (rowB N f)) (hfit : p + n ≤ N) (hfree : ∀ x, p ≤ x → x < p + n → f x = false) :
    Calls Try.prog 33 #[.slice (some ⟨b, 0, none⟩) N cap, .int .i64 (p : Int), .int .i64 (n : Int)] w (TakePost w b N f p n) := by
  have HF := Lib.hid hfree
  clear hfree
  go_enter Try.func33, Try.ntmps33
  go_wp2_with fail
  go_loopw [7] (fun v7 wr => ∃ k : Nat, p ≤ k ∧ k ≤ p + n ∧ v7 = .int .i64 (k : Int) ∧ w.grownBy wr (some b) ∧ wr.heap[b]? = some (rowB N (fun x => f x || (decide (p ≤ x) && decide (x < k))))) (fun v7 _ => p + n - (intOf v7).toNat)
  case atStart => exact ⟨p, Nat.le_refl _, by omega, rfl, World.grownBy.refl _ _, by rw [hb]; congr 1; exact rowB_congr _ _ _ (fun x _ => by by_cases h : p ≤ x <;> simp [h] <;> omega)⟩
  case round =>
    obtain ⟨k, hpk, hkn, rfl, hg, hrow⟩ := hrel
    by_cases hk : k < p + n
    · have hkI : (k : Int) < (p : Int) + (n : Int) := by omega
      have hk0 : (0 : Int) ≤ (k : Int) := by omega
      have hkN : (k : Int) < (N : Int) := by omega
      have c := rowB_cell hrow k (by omega)
      have hv : (f k || (decide (p ≤ k) && decide (k < k))) = false := by rw [HF.out k hpk hk]; simp
      rw [hv] at c
      have fz : wr.frozen? ⟨b, k, none⟩ = false := blk_frozen hrow _
      have hd1 : decide ((k : Int) < 0) = false := decide_eq_false (by omega)
      have hd2 : decide ((N : Int) ≤ (k : Int)) = false := decide_eq_false (by omega)
      have HROW := Lib.hid hrow
      clear hrow hv
      go_wp2_with fail
      go_roundw
      case rel =>
        refine ⟨k + 1, by omega, by omega, by go_num, grownB_set hg _ _, ?_⟩
        rw [rowB_set _ _ _ _ HROW.out k (by omega)]
        congr 1
        refine rowB_congr _ _ _ (fun x _ => ?_)
        rw [Bool.or_assoc]
        congr 1
        rw [Bool.eq_iff_iff]
        simp only [Bool.or_eq_true, Bool.and_eq_true, decide_eq_true_eq]
        omega
      case measure => simp [intOf]; omega
    · have hke : k = p + n := by omega
      have hkI : (p : Int) + (n : Int) ≤ (k : Int) := by omega
      have HKE := Lib.hid hke
      clear hke
      go_wp2_with fail
      go_ret
      exact ⟨rfl, hg, by rw [← HKE.out]; exact hrow⟩

end Go.Proofs.Ytlfpakopahmdiaa
