/-
  The first of so many; basic names.
-/
import Derived.Test.YtgoaiokpnifhfaaIdlP
namespace Go.Proofs.Ytgoaiokpnifhfaa
open Go.RowKit
set_option linter.unusedVariables false
set_option linter.unusedSimpArgs false

/-! ### the first of so many -/
def firstIx (n : Nat) (p : Nat → Bool) : Option Nat := (List.range n).find? p
theorem firstIx_none {n : Nat} {p : Nat → Bool} : firstIx n p = none ↔ ∀ i, i < n → p i = false := by
  unfold firstIx
  rw [List.find?_eq_none]
  constructor
  · intro h i hi
    have := h i (List.mem_range.2 hi)
    simpa using this
  · intro h i hi
    rw [h i (List.mem_range.1 hi)]; simp
theorem firstIx_some {n : Nat} {p : Nat → Bool} {i : Nat} (hi : i < n) (hp : p i = true) (hb : ∀ k, k < i → p k = false) : firstIx n p = some i := by
  unfold firstIx
  rw [List.find?_eq_some_iff_getElem]
  exact ⟨hp, i, by simpa using hi, by simp, fun j hj => by simp [hb j hj]⟩
theorem firstIx_spec {n : Nat} {p : Nat → Bool} {i : Nat} (h : firstIx n p = some i) : i < n ∧ p i = true ∧ ∀ k, k < i → p k = false := by
  unfold firstIx at h
  rw [List.find?_eq_some_iff_getElem] at h
  obtain ⟨hp, j, hj, e, hb⟩ := h
  simp only [List.getElem_range] at e
  subst e
  rw [List.length_range] at hj
  refine ⟨hj, hp, fun k hk => ?_⟩
  have := hb k hk
  simpa using this
/-- the first fault of so many -/
def firstBad (n : Nat) (p : Nat → Option (Int × Nat)) : Option (Int × Nat) := (List.range n).findSome? p
theorem firstBad_none {n : Nat} {p : Nat → Option (Int × Nat)} : firstBad n p = none ↔ ∀ i, i < n → p i = none := by
  unfold firstBad
  rw [List.findSome?_eq_none_iff]
  exact ⟨fun h i hi => h i (List.mem_range.2 hi), fun h i hi => h i (List.mem_range.1 hi)⟩
theorem firstBad_some {p : Nat → Option (Int × Nat)} {i : Nat} {x : Int × Nat} : ∀ {n : Nat}, i < n → p i = some x → (∀ k, k < i → p k = none) → firstBad n p = some x := by
  intro n hi hp hb
  unfold firstBad
  induction n with
  | zero => omega
  | succ n ih =>
    rw [List.range_succ, List.findSome?_append]
    by_cases e : i = n
    · subst e
      have : (List.range i).findSome? p = none := List.findSome?_eq_none_iff.2 fun k hk => hb k (List.mem_range.1 hk)
      rw [this]; simp [hp]
    · rw [ih (by omega)]; rfl

/-! ### names -/
def basicL : List ByteArray := [⟨#[98, 111, 111, 108]⟩, ⟨#[105, 56]⟩, ⟨#[105, 49, 54]⟩, ⟨#[105, 51, 50]⟩, ⟨#[105, 54, 52]⟩, ⟨#[117, 56]⟩, ⟨#[117, 49, 54]⟩, ⟨#[117, 51, 50]⟩, ⟨#[117, 54, 52]⟩, ⟨#[]⟩, ⟨#[116, 101, 120, 116]⟩, ⟨#[100, 97, 116, 97]⟩]
def basicN (i : Nat) : ByteArray := (basicL[i]?).getD ⟨#[]⟩
/-- a basic name's kind; 0: it is none -/
def basicK (s : ByteArray) : Nat := if s.size = 0 then 0 else match firstIx 12 (fun i => eqS (basicN i) s) with | some i => i + 1 | none => 0
def takenB (used : List ByteArray) (s : ByteArray) : Bool := decide (basicK s ≠ 0) || used.any (fun t => eqS t s) || eqS s cList

end Go.Proofs.Ytgoaiokpnifhfaa
