/-
  schema.basic: a basic name's kind.
-/
import Derived.Test.YtgoaiokpnifhfaaBasicP
import Derived.Test.YtgoaiokpnifhfaaRegion
import Derived.Test.YtgoaiokpnifhfaaShelf
namespace Go.Proofs.Ytgoaiokpnifhfaa
open Go.RowKit
set_option linter.unusedVariables false
set_option linter.unusedSimpArgs false

theorem idxOfS_ix (zs : List ByteArray) (x : ByteArray) : Lib.idxOfS zs x = match firstIx zs.length (fun i => eqS ((zs[i]?).getD ⟨#[]⟩) x) with | some i => (i : Int) | none => -1 := by
  have hz : zs.take zs.length = zs := List.take_length
  have hg : ∀ j, zs.getD j ByteArray.empty = (zs[j]?).getD ⟨#[]⟩ := fun j => List.getD_eq_getElem?_getD
  cases h : firstIx zs.length (fun i => eqS ((zs[i]?).getD ⟨#[]⟩) x) with
  | some i =>
    obtain ⟨h1, h2, h3⟩ := firstIx_spec h
    have := Lib.idxOfS_hit zs zs.length i x h1 (Nat.le_refl _) (by rw [hg]; exact (eqS_iff _ _).1 h2) (fun j hj => by
      rw [hg]; intro e
      have := h3 j hj
      rw [(eqS_iff _ _).2 e] at this; cases this)
    rw [hz] at this; exact this
  | none =>
    have h3 := firstIx_none.1 h
    have := Lib.idxOfS_miss zs zs.length x (fun j hj => by
      rw [hg]; intro e
      have := h3 j hj
      rw [(eqS_iff _ _).2 e] at this; cases this)
    rw [hz] at this; exact this

/-- what basic hands back -/
def BasicPost (s : ByteArray) (w : World) (e : Ending) (w' : World) : Prop := ∃ kd : Int, e = .returned (.tuple #[.int .u8 kd, .bool (decide (basicK s ≠ 0))]) ∧ (basicK s ≠ 0 → kd = (basicK s : Int)) ∧ Below w.heap.size w w'

set_option maxHeartbeats 1000000 in
theorem basic_calls (s : ByteArray) (w : World) : Calls Try.prog 58 #[.string s] w (BasicPost s w) := by
  have hcal := fun (W : World) (hW : ∀ j, j < basicL.length → W.cell? ⟨w.heap.size, 0 + j, none⟩ = some (.string (basicL.getD j ByteArray.empty))) => Try.slices_Index_string w.heap.size 0 12 12 basicL s W (by decide) (by decide) hW
  rw [show basicL.take 12 = basicL from rfl, idxOfS_ix, show basicL.length = 12 from rfl] at hcal
  go_enter Try.func58, Try.ntmps58
  go_wp2_with fail
  refine (hcal _ (fun j hj => ?_)).mono ?_
  · rw [Nat.zero_add, blk_cell (blk_new w _)]
    match j, hj with
    | 0, _ => rfl
    | 1, _ => rfl
    | 2, _ => rfl
    | 3, _ => rfl
    | 4, _ => rfl
    | 5, _ => rfl
    | 6, _ => rfl
    | 7, _ => rfl
    | 8, _ => rfl
    | 9, _ => rfl
    | 10, _ => rfl
    | 11, _ => rfl
    | j + 12, h => exact absurd h (by omega)
  clear hcal
  have hzt : s.toList.isEmpty = decide (s.size = 0) := by
    have hl : s.data.toList.length = s.size := Array.length_toList
    rw [Go.ByteArray.toList_eq, ← hl]
    cases s.data.toList <;> simp
  rintro e w' ⟨rfl, rfl⟩
  cases hf : firstIx 12 (fun i => eqS (basicN i) s) with
  | none =>
    have hk0 : basicK s = 0 := by unfold basicK; rw [hf]; split <;> rfl
    have hf2 : (firstIx 12 fun i => eqS (basicL[i]?.getD { data := #[] }) s) = none := hf
    rw [hf2]
    clear hf hf2
    go_wp2_with fail
    refine bodyPost_ret (v := .tuple #[.int .u8 0, .bool false]) (by simp [results, Try.results58, go_sem]) rfl ⟨0, by rw [hk0]; rfl, fun h => absurd hk0 h, below1 _ _⟩
  | some k =>
    have hf2 : (firstIx 12 fun i => eqS (basicL[i]?.getD { data := #[] }) s) = some k := hf
    have hk := (firstIx_spec hf).1
    have hkI : (k : Int) < 12 := by omega
    rw [hf2]
    by_cases hs : s.size = 0
    · have hk0 : basicK s = 0 := by unfold basicK; rw [if_pos hs]
      have hz0 : s.toList.isEmpty = true := by rw [hzt]; exact decide_eq_true hs
      clear hf hf2 hzt
      go_wp2_with fail
      refine bodyPost_ret (v := .tuple #[.int .u8 ((k : Int) + 1), .bool false]) (by simp [results, Try.results58, go_sem]) rfl ⟨(k : Int) + 1, by rw [hk0]; rfl, fun h => absurd hk0 h, below1 _ _⟩
    · have hk0 : basicK s = k + 1 := by unfold basicK; rw [if_neg hs, hf]
      have hz0 : s.toList.isEmpty = false := by rw [hzt]; exact decide_eq_false hs
      clear hf hf2 hzt
      go_wp2_with fail
      refine bodyPost_ret (v := .tuple #[.int .u8 ((k : Int) + 1), .bool true]) (by simp [results, Try.results58, go_sem]) rfl ⟨(k : Int) + 1, by rw [hk0]; rfl, fun _ => by rw [hk0]; rfl, below1 _ _⟩

end Go.Proofs.Ytgoaiokpnifhfaa
