/-
  NARROWER THAN 'FOR EVERY INPUT', by the rows' own cells (each row's printed sentence says how): PolicyParses: laid · PolicyHides: laid · SchemaReads: laid · SchemaChecks: laid.
  DERIVED. THE GIVEN ROWS OF THIS SEAT. 4 by the template 'for every input the law returns true; each argument reads behind the call as it read before'; 0 by the template 'total and deterministic' (their statements: YtejpjclbeogajaaDoorTotals.lean).
  GIVEN WITH THE SEED: the statements are not yours to turn. If you find one false, say at which input.
  Laid BY PROGRAM, IN A SANDBOX (cutbox-rows.mjs): the forced cells as the released guide's own fill.sh prints them over the translation b44707c7b7564b08… (all of the seat's roots in one cut). By AI agents, Wed Nov 11 2026. No macro, syntax, notation, axiom, sorry.
-/
import Derived.Test.YtejpjclbeogajaaDoorChecked
import GoSem.PinnedTables
import GoSem.Claim
import GoSem.ClaimJoined
import GoSem.ClaimMapViews
import Derived.JoinedTies
import Derived.KernelRfl
namespace Go.Proofs.YtejpjclbeogajaaDoor
/- THE CELL 'sum', in the pinned program and in every row, IS THE sha256 OF THE DUMP (.gsa) THAT YtejpjclbeogajaaDoorProg.lean LOADS. Nothing in Lean hashes anything: it is a label: what it is worth is what the hold of that sum in a sandbox is worth. -/
noncomputable def Tryd.pinned : Pinned := { name := "ytejpjclbeogajaadoor", sum := "b44707c7b7564b0877f2777f1deac563f2577029d869c801e01bf47a40c1d11f", checked := Tryd.checked }
namespace Rows
def none {H : Type} : Left H := { results := [], args := [] }

/- WHAT THE LISTED PACKAGE-LEVEL VARIABLES READ AS WHEN THE CALL BEGINS. Each datum BY PROGRAM (the guide's laid-datum.mjs) off the statement by which the dump's own 'gosem.cut.vars' lays the variable. In a bare row this is a premise. The card (YtejpjclbeogajaaDoorCards.lean) ties it to the program's text. -/
def laid_unicode_utf8_acceptRanges {H : Type} : DataW H := .agg [.agg [.lit (.int .u8 128), .lit (.int .u8 191)], .agg [.lit (.int .u8 160), .lit (.int .u8 191)], .agg [.lit (.int .u8 128), .lit (.int .u8 159)], .agg [.lit (.int .u8 144), .lit (.int .u8 191)], .agg [.lit (.int .u8 128), .lit (.int .u8 143)], .agg [.lit (.int .u8 0), .lit (.int .u8 0)], .agg [.lit (.int .u8 0), .lit (.int .u8 0)], .agg [.lit (.int .u8 0), .lit (.int .u8 0)], .agg [.lit (.int .u8 0), .lit (.int .u8 0)], .agg [.lit (.int .u8 0), .lit (.int .u8 0)], .agg [.lit (.int .u8 0), .lit (.int .u8 0)], .agg [.lit (.int .u8 0), .lit (.int .u8 0)], .agg [.lit (.int .u8 0), .lit (.int .u8 0)], .agg [.lit (.int .u8 0), .lit (.int .u8 0)], .agg [.lit (.int .u8 0), .lit (.int .u8 0)], .agg [.lit (.int .u8 0), .lit (.int .u8 0)]]
/-- One of Go's own tables, pinned by name: the form's constant. -/
def laid_unicode_utf8_first : DataW Unit := Go.Pinned.utf8First

/-- 'transomlaw20.PolicyParses': WHATEVER THE INPUT: true; the input reads as it did. -/
def policyParsesSpec : ChangeSpec := { name := "policyParses", fn := fun _ => fun
  | [d1, d2, d3, d4] => { results := [.lit (.bool true)], args := [d1, d2, d3, d4] }
  | _ => none }
def policyParsesRow : OpenClaim := { program := "ytejpjclbeogajaadoor", sum := "b44707c7b7564b0877f2777f1deac563f2577029d869c801e01bf47a40c1d11f", func := "transom/transomlaw20.PolicyParses", spec := "policyParses", inPlace := ["internal/bytealg.IndexByteString"], unfollowed := true, recurses := true, named := ["unicode/utf8.first", "unicode/utf8.acceptRanges"], apart := false, laid := [("unicode/utf8.acceptRanges", laid_unicode_utf8_acceptRanges), ("unicode/utf8.first", laid_unicode_utf8_first)] }
def PolicyParsesSaid : Prop := policyParsesRow.holds Tryd.pinned (OpenSpec.ofChange policyParsesSpec)

/-- ITS FALSE NEIGHBOUR: 'it returns false'. Refute it at one input. -/
def policyParsesWrong : ChangeSpec := { name := "policyParses", fn := fun _ => fun
  | [d1, d2, d3, d4] => { results := [.lit (.bool false)], args := [d1, d2, d3, d4] }
  | _ => none }
def PolicyParsesWrongFalsely : Prop := policyParsesRow.holds Tryd.pinned (OpenSpec.ofChange policyParsesWrong)

/-- 'transomlaw20.PolicyHides': WHATEVER THE INPUT: true; the input reads as it did. -/
def policyHidesSpec : ChangeSpec := { name := "policyHides", fn := fun _ => fun
  | [d1, d2, d3, d4] => { results := [.lit (.bool true)], args := [d1, d2, d3, d4] }
  | _ => none }
def policyHidesRow : OpenClaim := { program := "ytejpjclbeogajaadoor", sum := "b44707c7b7564b0877f2777f1deac563f2577029d869c801e01bf47a40c1d11f", func := "transom/transomlaw20.PolicyHides", spec := "policyHides", inPlace := ["internal/bytealg.IndexByteString"], unfollowed := true, recurses := true, named := ["unicode/utf8.first", "unicode/utf8.acceptRanges"], apart := false, laid := [("unicode/utf8.acceptRanges", laid_unicode_utf8_acceptRanges), ("unicode/utf8.first", laid_unicode_utf8_first)] }
def PolicyHidesSaid : Prop := policyHidesRow.holds Tryd.pinned (OpenSpec.ofChange policyHidesSpec)

/-- ITS FALSE NEIGHBOUR: 'it returns false'. Refute it at one input. -/
def policyHidesWrong : ChangeSpec := { name := "policyHides", fn := fun _ => fun
  | [d1, d2, d3, d4] => { results := [.lit (.bool false)], args := [d1, d2, d3, d4] }
  | _ => none }
def PolicyHidesWrongFalsely : Prop := policyHidesRow.holds Tryd.pinned (OpenSpec.ofChange policyHidesWrong)

/-- 'transomlaw05.SchemaReads': WHATEVER THE INPUT: true; the input reads as it did. -/
def schemaReadsSpec : ChangeSpec := { name := "schemaReads", fn := fun _ => fun
  | [d] => { results := [.lit (.bool true)], args := [d] }
  | _ => none }
def schemaReadsRow : OpenClaim := { program := "ytejpjclbeogajaadoor", sum := "b44707c7b7564b0877f2777f1deac563f2577029d869c801e01bf47a40c1d11f", func := "transom/transomlaw05.SchemaReads", spec := "schemaReads", inPlace := ["internal/bytealg.IndexByteString"], unfollowed := true, recurses := true, named := ["unicode/utf8.first", "unicode/utf8.acceptRanges"], apart := false, laid := [("unicode/utf8.acceptRanges", laid_unicode_utf8_acceptRanges), ("unicode/utf8.first", laid_unicode_utf8_first)] }
def SchemaReadsSaid : Prop := schemaReadsRow.holds Tryd.pinned (OpenSpec.ofChange schemaReadsSpec)

/-- ITS FALSE NEIGHBOUR: 'it returns false'. Refute it at one input. -/
def schemaReadsWrong : ChangeSpec := { name := "schemaReads", fn := fun _ => fun
  | [d] => { results := [.lit (.bool false)], args := [d] }
  | _ => none }
def SchemaReadsWrongFalsely : Prop := schemaReadsRow.holds Tryd.pinned (OpenSpec.ofChange schemaReadsWrong)

/-- 'transomlaw05.SchemaChecks': WHATEVER THE INPUT: true; the input reads as it did. -/
def schemaChecksSpec : ChangeSpec := { name := "schemaChecks", fn := fun _ => fun
  | [d1, d2, d3, d4, d5] => { results := [.lit (.bool true)], args := [d1, d2, d3, d4, d5] }
  | _ => none }
def schemaChecksRow : OpenClaim := { program := "ytejpjclbeogajaadoor", sum := "b44707c7b7564b0877f2777f1deac563f2577029d869c801e01bf47a40c1d11f", func := "transom/transomlaw05.SchemaChecks", spec := "schemaChecks", inPlace := ["internal/bytealg.IndexByteString"], unfollowed := true, recurses := true, named := ["unicode/utf8.first", "unicode/utf8.acceptRanges"], apart := false, laid := [("unicode/utf8.acceptRanges", laid_unicode_utf8_acceptRanges), ("unicode/utf8.first", laid_unicode_utf8_first)] }
def SchemaChecksSaid : Prop := schemaChecksRow.holds Tryd.pinned (OpenSpec.ofChange schemaChecksSpec)

/-- ITS FALSE NEIGHBOUR: 'it returns false'. Refute it at one input. -/
def schemaChecksWrong : ChangeSpec := { name := "schemaChecks", fn := fun _ => fun
  | [d1, d2, d3, d4, d5] => { results := [.lit (.bool false)], args := [d1, d2, d3, d4, d5] }
  | _ => none }
def SchemaChecksWrongFalsely : Prop := schemaChecksRow.holds Tryd.pinned (OpenSpec.ofChange schemaChecksWrong)

/- THE SECOND FORM. 'bulk': how many values and letters a reading holds, each counted each time it is reached (what is shared counts as often as it is met; a slice's spare places count too). A statement '..UptoSaid' is the law's where the arguments, and the package variables that the reading takes, are together of bulk at most 1048576: NARROWER than '..Said'. Prove '..Said' where nothing that the law and all that it calls make is longer than what came in: it says more and counts as full. Else prove '..UptoSaid'. A law counts once. -/
mutual
def uptoBulk {H : Type} : DataW H → Nat
  | .lit (.string bytes) => bytes.length + 1
  | .lit _ => 1
  | .nil => 1
  | .ptr d => uptoBulk d + 1
  | .slice elems spare => uptoBulkAll elems + uptoBulkAll spare + 1
  | .agg parts => uptoBulkAll parts + 1
  | .iface _ d => uptoBulk d + 1
  | .map entries => uptoBulkEntries entries + 1
  | .held _ => 1
def uptoBulkAll {H : Type} : List (DataW H) → Nat
  | [] => 0
  | d :: r => uptoBulk d + uptoBulkAll r
def uptoBulkEntries {H : Type} : List (Lit × DataW H) → Nat
  | [] => 0
  | x :: r => uptoBulkEntry x + uptoBulkEntries r
def uptoBulkEntry {H : Type} : Lit × DataW H → Nat
  | (.string bytes, d) => bytes.length + uptoBulk d + 1
  | (_, d) => uptoBulk d + 1
 end
def uptoSmall : (H : Type) → List (DataW H) → Bool := fun _ ds => decide (uptoBulkAll ds ≤ 1048576)
def OpenSpec.upto (s : _root_.Go.ChangeSpec) : _root_.Go.OpenSpec := { _root_.Go.OpenSpec.ofChange s with cond := some uptoSmall }

/-- 'transomlaw20.PolicyParses', WHERE WHAT IT READS IS OF BULK AT MOST 1048576: true; the input reads as it did. -/
def policyParsesUptoRow : OpenClaim := { program := "ytejpjclbeogajaadoor", sum := "b44707c7b7564b0877f2777f1deac563f2577029d869c801e01bf47a40c1d11f", func := "transom/transomlaw20.PolicyParses", spec := "policyParses", inPlace := ["internal/bytealg.IndexByteString"], unfollowed := true, recurses := true, named := ["unicode/utf8.first", "unicode/utf8.acceptRanges"], apart := false, laid := [("unicode/utf8.acceptRanges", laid_unicode_utf8_acceptRanges), ("unicode/utf8.first", laid_unicode_utf8_first)], narrowed := true }
def PolicyParsesUptoSaid : Prop := policyParsesUptoRow.holds Tryd.pinned (OpenSpec.upto policyParsesSpec)

/-- 'transomlaw20.PolicyHides', WHERE WHAT IT READS IS OF BULK AT MOST 1048576: true; the input reads as it did. -/
def policyHidesUptoRow : OpenClaim := { program := "ytejpjclbeogajaadoor", sum := "b44707c7b7564b0877f2777f1deac563f2577029d869c801e01bf47a40c1d11f", func := "transom/transomlaw20.PolicyHides", spec := "policyHides", inPlace := ["internal/bytealg.IndexByteString"], unfollowed := true, recurses := true, named := ["unicode/utf8.first", "unicode/utf8.acceptRanges"], apart := false, laid := [("unicode/utf8.acceptRanges", laid_unicode_utf8_acceptRanges), ("unicode/utf8.first", laid_unicode_utf8_first)], narrowed := true }
def PolicyHidesUptoSaid : Prop := policyHidesUptoRow.holds Tryd.pinned (OpenSpec.upto policyHidesSpec)

/-- 'transomlaw05.SchemaReads', WHERE WHAT IT READS IS OF BULK AT MOST 1048576: true; the input reads as it did. -/
def schemaReadsUptoRow : OpenClaim := { program := "ytejpjclbeogajaadoor", sum := "b44707c7b7564b0877f2777f1deac563f2577029d869c801e01bf47a40c1d11f", func := "transom/transomlaw05.SchemaReads", spec := "schemaReads", inPlace := ["internal/bytealg.IndexByteString"], unfollowed := true, recurses := true, named := ["unicode/utf8.first", "unicode/utf8.acceptRanges"], apart := false, laid := [("unicode/utf8.acceptRanges", laid_unicode_utf8_acceptRanges), ("unicode/utf8.first", laid_unicode_utf8_first)], narrowed := true }
def SchemaReadsUptoSaid : Prop := schemaReadsUptoRow.holds Tryd.pinned (OpenSpec.upto schemaReadsSpec)

/-- 'transomlaw05.SchemaChecks', WHERE WHAT IT READS IS OF BULK AT MOST 1048576: true; the input reads as it did. -/
def schemaChecksUptoRow : OpenClaim := { program := "ytejpjclbeogajaadoor", sum := "b44707c7b7564b0877f2777f1deac563f2577029d869c801e01bf47a40c1d11f", func := "transom/transomlaw05.SchemaChecks", spec := "schemaChecks", inPlace := ["internal/bytealg.IndexByteString"], unfollowed := true, recurses := true, named := ["unicode/utf8.first", "unicode/utf8.acceptRanges"], apart := false, laid := [("unicode/utf8.acceptRanges", laid_unicode_utf8_acceptRanges), ("unicode/utf8.first", laid_unicode_utf8_first)], narrowed := true }
def SchemaChecksUptoSaid : Prop := schemaChecksUptoRow.holds Tryd.pinned (OpenSpec.upto schemaChecksSpec)

end Rows
end Go.Proofs.YtejpjclbeogajaaDoor
