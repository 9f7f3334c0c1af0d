/-
  No cell of these rows narrows 'for every input' (looked for: loops, veiled, ifaces, maps, wideKeys, modest, calm, conditions, laid).
  DERIVED. THE GIVEN ROWS OF THIS SEAT. 3 by the template 'for every input the law returns true; each argument reads behind the call as it read before'; 0 by the template 'total and deterministic' (their statements: YtgoaiokpnifhfaaTotals.lean).
  GIVEN WITH THE SEED: the statements are not yours to turn. If you find one false, say at which input.
  Laid BY PROGRAM, IN A SANDBOX (cutbox-rows.mjs): the forced cells as the released guide's own fill.sh prints them over the translation adb7790ad635274c… (all of the seat's roots in one cut). By AI agents, Wed Nov 11 2026. No macro, syntax, notation, axiom, sorry.
-/
import Derived.Test.YtgoaiokpnifhfaaChecked
import GoSem.Claim
import GoSem.ClaimJoined
import GoSem.ClaimMapViews
import Derived.JoinedTies
import Derived.KernelRfl
namespace Go.Proofs.Ytgoaiokpnifhfaa
/- THE CELL 'sum', in the pinned program and in every row, IS THE sha256 OF THE DUMP (.gsa) THAT YtgoaiokpnifhfaaProg.lean LOADS. Nothing in Lean hashes anything: it is a label: what it is worth is what the hold of that sum in a sandbox is worth. -/
noncomputable def Try.pinned : Pinned := { name := "ytgoaiokpnifhfaa", sum := "adb7790ad635274ca5cc10b162b49a066e13fa76916d6837aed559c4e2ea100a", checked := Try.checked }
namespace Rows
def none {H : Type} : Left H := { results := [], args := [] }

/-- 'transomlaw04.IdlJoins': WHATEVER THE INPUT: true; the input reads as it did. -/
def idlJoinsSpec : ChangeSpec := { name := "idlJoins", fn := fun _ => fun
  | [d1, d2] => { results := [.lit (.bool true)], args := [d1, d2] }
  | _ => none }
def idlJoinsRow : OpenClaim := { program := "ytgoaiokpnifhfaa", sum := "adb7790ad635274ca5cc10b162b49a066e13fa76916d6837aed559c4e2ea100a", func := "transom/transomlaw04.IdlJoins", spec := "idlJoins", inPlace := ["internal/bytealg.IndexByteString"], unfollowed := true, recurses := true, apart := false }
def IdlJoinsSaid : Prop := idlJoinsRow.holds Try.pinned (OpenSpec.ofChange idlJoinsSpec)

/-- ITS FALSE NEIGHBOUR: 'it returns false'. Refute it at one input. -/
def idlJoinsWrong : ChangeSpec := { name := "idlJoins", fn := fun _ => fun
  | [d1, d2] => { results := [.lit (.bool false)], args := [d1, d2] }
  | _ => none }
def IdlJoinsWrongFalsely : Prop := idlJoinsRow.holds Try.pinned (OpenSpec.ofChange idlJoinsWrong)

/-- 'transomlaw04.IdlNests': WHATEVER THE INPUT: true; the input reads as it did. -/
def idlNestsSpec : ChangeSpec := { name := "idlNests", fn := fun _ => fun
  | [d] => { results := [.lit (.bool true)], args := [d] }
  | _ => none }
def idlNestsRow : OpenClaim := { program := "ytgoaiokpnifhfaa", sum := "adb7790ad635274ca5cc10b162b49a066e13fa76916d6837aed559c4e2ea100a", func := "transom/transomlaw04.IdlNests", spec := "idlNests", inPlace := ["internal/bytealg.IndexByteString"], unfollowed := true, recurses := true, apart := false }
def IdlNestsSaid : Prop := idlNestsRow.holds Try.pinned (OpenSpec.ofChange idlNestsSpec)

/-- ITS FALSE NEIGHBOUR: 'it returns false'. Refute it at one input. -/
def idlNestsWrong : ChangeSpec := { name := "idlNests", fn := fun _ => fun
  | [d] => { results := [.lit (.bool false)], args := [d] }
  | _ => none }
def IdlNestsWrongFalsely : Prop := idlNestsRow.holds Try.pinned (OpenSpec.ofChange idlNestsWrong)

/-- 'transomlaw05.SchemaLoops': WHATEVER THE INPUT: true; the input reads as it did. -/
def schemaLoopsSpec : ChangeSpec := { name := "schemaLoops", fn := fun _ => fun
  | [d] => { results := [.lit (.bool true)], args := [d] }
  | _ => none }
def schemaLoopsRow : OpenClaim := { program := "ytgoaiokpnifhfaa", sum := "adb7790ad635274ca5cc10b162b49a066e13fa76916d6837aed559c4e2ea100a", func := "transom/transomlaw05.SchemaLoops", spec := "schemaLoops", inPlace := ["internal/bytealg.IndexByteString"], unfollowed := true, recurses := true, apart := false }
def SchemaLoopsSaid : Prop := schemaLoopsRow.holds Try.pinned (OpenSpec.ofChange schemaLoopsSpec)

/-- ITS FALSE NEIGHBOUR: 'it returns false'. Refute it at one input. -/
def schemaLoopsWrong : ChangeSpec := { name := "schemaLoops", fn := fun _ => fun
  | [d] => { results := [.lit (.bool false)], args := [d] }
  | _ => none }
def SchemaLoopsWrongFalsely : Prop := schemaLoopsRow.holds Try.pinned (OpenSpec.ofChange schemaLoopsWrong)

/- THE SECOND FORM. 'bulk': how many values and letters a reading holds, each counted each time it is reached (what is shared counts as often as it is met; a slice's spare places count too). A statement '..UptoSaid' is the law's where the arguments, and the package variables that the reading takes, are together of bulk at most 1048576: NARROWER than '..Said'. Prove '..Said' where nothing that the law and all that it calls make is longer than what came in: it says more and counts as full. Else prove '..UptoSaid'. A law counts once. -/
mutual
def uptoBulk {H : Type} : DataW H → Nat
  | .lit (.string bytes) => bytes.length + 1
  | .lit _ => 1
  | .nil => 1
  | .ptr d => uptoBulk d + 1
  | .slice elems spare => uptoBulkAll elems + uptoBulkAll spare + 1
  | .agg parts => uptoBulkAll parts + 1
  | .iface _ d => uptoBulk d + 1
  | .map entries => uptoBulkEntries entries + 1
  | .held _ => 1
def uptoBulkAll {H : Type} : List (DataW H) → Nat
  | [] => 0
  | d :: r => uptoBulk d + uptoBulkAll r
def uptoBulkEntries {H : Type} : List (Lit × DataW H) → Nat
  | [] => 0
  | x :: r => uptoBulkEntry x + uptoBulkEntries r
def uptoBulkEntry {H : Type} : Lit × DataW H → Nat
  | (.string bytes, d) => bytes.length + uptoBulk d + 1
  | (_, d) => uptoBulk d + 1
 end
def uptoSmall : (H : Type) → List (DataW H) → Bool := fun _ ds => decide (uptoBulkAll ds ≤ 1048576)
def OpenSpec.upto (s : _root_.Go.ChangeSpec) : _root_.Go.OpenSpec := { _root_.Go.OpenSpec.ofChange s with cond := some uptoSmall }

/-- 'transomlaw04.IdlJoins', WHERE WHAT IT READS IS OF BULK AT MOST 1048576: true; the input reads as it did. -/
def idlJoinsUptoRow : OpenClaim := { program := "ytgoaiokpnifhfaa", sum := "adb7790ad635274ca5cc10b162b49a066e13fa76916d6837aed559c4e2ea100a", func := "transom/transomlaw04.IdlJoins", spec := "idlJoins", inPlace := ["internal/bytealg.IndexByteString"], unfollowed := true, recurses := true, apart := false, narrowed := true }
def IdlJoinsUptoSaid : Prop := idlJoinsUptoRow.holds Try.pinned (OpenSpec.upto idlJoinsSpec)

/-- 'transomlaw04.IdlNests', WHERE WHAT IT READS IS OF BULK AT MOST 1048576: true; the input reads as it did. -/
def idlNestsUptoRow : OpenClaim := { program := "ytgoaiokpnifhfaa", sum := "adb7790ad635274ca5cc10b162b49a066e13fa76916d6837aed559c4e2ea100a", func := "transom/transomlaw04.IdlNests", spec := "idlNests", inPlace := ["internal/bytealg.IndexByteString"], unfollowed := true, recurses := true, apart := false, narrowed := true }
def IdlNestsUptoSaid : Prop := idlNestsUptoRow.holds Try.pinned (OpenSpec.upto idlNestsSpec)

/-- 'transomlaw05.SchemaLoops', WHERE WHAT IT READS IS OF BULK AT MOST 1048576: true; the input reads as it did. -/
def schemaLoopsUptoRow : OpenClaim := { program := "ytgoaiokpnifhfaa", sum := "adb7790ad635274ca5cc10b162b49a066e13fa76916d6837aed559c4e2ea100a", func := "transom/transomlaw05.SchemaLoops", spec := "schemaLoops", inPlace := ["internal/bytealg.IndexByteString"], unfollowed := true, recurses := true, apart := false, narrowed := true }
def SchemaLoopsUptoSaid : Prop := schemaLoopsUptoRow.holds Try.pinned (OpenSpec.upto schemaLoopsSpec)

end Rows
end Go.Proofs.Ytgoaiokpnifhfaa
