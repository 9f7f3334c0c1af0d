/-
  The document's Number: a text's number of so many bytes.
-/
import Derived.Test.YtgoaiokpnifhfaaDoorPkLexN
import Derived.Laws.BitsAllLaws
namespace Go.Proofs.YtgoaiokpnifhfaaDoor
open Go.RowKit
set_option linter.unusedVariables false
set_option linter.unusedSimpArgs false

def RefNumPost (w : World) (o : Option Int) (e : Ending) (w' : World) : Prop :=
  ∃ x ok, e = .returned (.tuple #[.int .u64 x, .bool ok]) ∧ w = w' ∧ (match o with | none => ok = false | some v => ok = true ∧ x = v)
theorem refNum_no (w : World) (o : Option Int) (h : o = none) (x : Int) : RefNumPost w o (.returned (.tuple #[.int .u64 x, .bool false])) w := ⟨x, false, rfl, rfl, by rw [h]⟩
theorem refNum_yes (w : World) (o : Option Int) (v x : Int) (h : o = some v) (hx : x = v) : RefNumPost w o (.returned (.tuple #[.int .u64 x, .bool true])) w := ⟨x, true, rfl, rfl, by rw [h]; exact ⟨rfl, hx⟩⟩
theorem refOver_iff (v x : Int) (h : 48 ≤ x) (h2 : x ≤ 57) : (1844674407370955161 < v ∨ 18446744073709551615 - (x - 48) < v * 10) ↔ U64M < v * 10 + (x - 48) := by
  unfold U64M; omega
theorem ones_xor (v : Nat) (h : v < 18446744073709551616) : 18446744073709551615 ^^^ v = 18446744073709551615 - v := by
  have e : (BitVec.allOnes 64 ^^^ BitVec.ofNat 64 v).toNat = (~~~ (BitVec.ofNat 64 v)).toNat := by rw [BitVec.allOnes_xor]
  rw [BitVec.toNat_xor, BitVec.toNat_not, BitVec.toNat_ofNat, BitVec.toNat_allOnes, Nat.mod_eq_of_lt h] at e
  exact e
theorem neg_u64 (v : Int) (h : 0 ≤ v) (h2 : v ≤ 18446744073709551615) : IntKind.u64.wrap (bits BinOp.xor IntKind.u64 IntKind.u64.max v + 1) = IntKind.u64.wrap (-v) := by
  obtain ⟨n, rfl⟩ := Int.eq_ofNat_of_zero_le h
  have hb := u64_xor_nat 18446744073709551615 n (by omega) (by omega)
  have hm : (IntKind.u64.max : Int) = ((18446744073709551615 : Nat) : Int) := by decide
  rw [hm, hb, ones_xor n (by omega)]
  simp only [IntKind.wrap, IntKind.bits, IntKind.signed]
  by_cases e : n = 0
  · subst e; rfl
  · simp; omega

end Go.Proofs.YtgoaiokpnifhfaaDoor
