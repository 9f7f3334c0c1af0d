/-
  IdlNests: what the texts come to, by the kernel.
-/
import Derived.Test.YtgoaiokpnifhfaaDoorPkIdlP
namespace Go.Proofs.YtgoaiokpnifhfaaDoor
open Go.RowKit
set_option linter.unusedVariables false
set_option linter.unusedSimpArgs false

def repS (s : ByteArray) : Nat → ByteArray → ByteArray
  | 0, a => a
  | n + 1, a => repS s n a ++ s
def nsBase : ByteArray := ⟨#[115, 116, 114, 117, 99, 116, 32, 83, 32, 123, 32, 120, 58, 32]⟩
def nsList : ByteArray := ⟨#[108, 105, 115, 116, 60]⟩
def nsU8 : ByteArray := ⟨#[117, 56]⟩
def nsGt : ByteArray := ⟨#[62]⟩
def nsEnd : ByteArray := ⟨#[59, 32, 125]⟩
def nestT (k : Nat) : ByteArray := repS nsGt k (repS nsList k nsBase ++ nsU8) ++ nsEnd

/-- the first field of the first struct: its type's lists and name; how many structs, how many fields -/
def firstOf : Except (Int × Nat) RawD → Option (Nat × Nat × Nat × List UInt8)
  | .ok r => match r.structs with
    | x :: _ => match x.fields with
      | f :: _ => some (r.structs.length, x.fields.length, f.ty.lists, f.ty.name.data.toList)
      | [] => none
    | [] => none
  | .error _ => none
def faultOf : Except (Int × Nat) RawD → Option (Int × Nat)
  | .ok _ => none
  | .error x => some x
def nestOk (k : Nat) : Bool := if 3 < k then faultOf (parseI (nestT k)) == some (16, 29) else firstOf (parseI (nestT k)) == some (1, 1, k, [117, 56])
set_option maxRecDepth 1000000 in
theorem nest_ok : ∀ k, k < 7 → nestOk k = true := by decide +kernel
theorem repS_size (s a : ByteArray) : ∀ n, (repS s n a).size = a.size + n * s.size
  | 0 => by simp [repS]
  | n + 1 => by rw [repS, ByteArray.size_append, repS_size s a n, Nat.succ_mul]; omega
def awP1 : ByteArray := ⟨#[115, 116, 114, 117, 99, 116, 32, 65, 32, 123, 32, 120, 58, 32, 108, 105, 115, 116, 60, 117, 56, 62, 59, 32, 34, 195, 169, 34, 58, 32, 66, 32, 61, 32, 99, 59, 32, 125, 32, 114, 111, 111, 116, 32, 65, 59]⟩
def awP2 : ByteArray := ⟨#[115, 116, 114, 117, 99, 116, 32, 65, 32, 123, 32, 120, 32, 125]⟩
set_option maxRecDepth 1000000 in
theorem awP1_is : (firstOf (parseI awP1) == some (1, 2, 1, [117, 56])) = true := by decide +kernel
set_option maxRecDepth 1000000 in
theorem awP2_is : (faultOf (parseI awP2) == some (11, 13)) = true := by decide +kernel

end Go.Proofs.YtgoaiokpnifhfaaDoor
