/-
  No cell of these rows narrows 'for every input' (looked for: loops, veiled, ifaces, maps, wideKeys, modest, calm, conditions, laid).
  DERIVED. THE GIVEN ROWS OF THIS SEAT. 11 by the template 'for every input the law returns true; each argument reads behind the call as it read before'; 0 by the template 'total and deterministic' (their statements: YtlfpakopahmdiaaTotals.lean).
  GIVEN WITH THE SEED: the statements are not yours to turn. If you find one false, say at which input.
  Laid BY PROGRAM, IN A SANDBOX (cutbox-rows.mjs): the forced cells as the released guide's own fill.sh prints them over the translation 7774c349cadcc200… (all of the seat's roots in one cut). By AI agents, Wed Nov 11 2026. No macro, syntax, notation, axiom, sorry.
-/
import Derived.Test.YtlfpakopahmdiaaChecked
import GoSem.Claim
import GoSem.ClaimJoined
import GoSem.ClaimMapViews
import Derived.JoinedTies
import Derived.KernelRfl
namespace Go.Proofs.Ytlfpakopahmdiaa
/- THE CELL 'sum', in the pinned program and in every row, IS THE sha256 OF THE DUMP (.gsa) THAT YtlfpakopahmdiaaProg.lean LOADS. Nothing in Lean hashes anything: it is a label: what it is worth is what the hold of that sum in a sandbox is worth. -/
noncomputable def Try.pinned : Pinned := { name := "ytlfpakopahmdiaa", sum := "7774c349cadcc200a3786f226fdb721f547e33867daa46d7ad9086b3ef04562c", checked := Try.checked }
namespace Rows
def none {H : Type} : Left H := { results := [], args := [] }

/-- 'transomlaw06.LayoutWords': WHATEVER THE INPUT: true; the input reads as it did. -/
def layoutWordsSpec : ChangeSpec := { name := "layoutWords", fn := fun _ => fun
  | [d1, d2] => { results := [.lit (.bool true)], args := [d1, d2] }
  | _ => none }
def layoutWordsRow : OpenClaim := { program := "ytlfpakopahmdiaa", sum := "7774c349cadcc200a3786f226fdb721f547e33867daa46d7ad9086b3ef04562c", func := "transom/transomlaw06.LayoutWords", spec := "layoutWords", unfollowed := true, recurses := true, apart := false }
def LayoutWordsSaid : Prop := layoutWordsRow.holds Try.pinned (OpenSpec.ofChange layoutWordsSpec)

/-- ITS FALSE NEIGHBOUR: 'it returns false'. Refute it at one input. -/
def layoutWordsWrong : ChangeSpec := { name := "layoutWords", fn := fun _ => fun
  | [d1, d2] => { results := [.lit (.bool false)], args := [d1, d2] }
  | _ => none }
def LayoutWordsWrongFalsely : Prop := layoutWordsRow.holds Try.pinned (OpenSpec.ofChange layoutWordsWrong)

/-- 'transomlaw06.LayoutUnits': WHATEVER THE INPUT: true; the input reads as it did. -/
def layoutUnitsSpec : ChangeSpec := { name := "layoutUnits", fn := fun _ => fun
  | [d] => { results := [.lit (.bool true)], args := [d] }
  | _ => none }
def layoutUnitsRow : OpenClaim := { program := "ytlfpakopahmdiaa", sum := "7774c349cadcc200a3786f226fdb721f547e33867daa46d7ad9086b3ef04562c", func := "transom/transomlaw06.LayoutUnits", spec := "layoutUnits", apart := false }
def LayoutUnitsSaid : Prop := layoutUnitsRow.holds Try.pinned (OpenSpec.ofChange layoutUnitsSpec)

/-- ITS FALSE NEIGHBOUR: 'it returns false'. Refute it at one input. -/
def layoutUnitsWrong : ChangeSpec := { name := "layoutUnits", fn := fun _ => fun
  | [d] => { results := [.lit (.bool false)], args := [d] }
  | _ => none }
def LayoutUnitsWrongFalsely : Prop := layoutUnitsRow.holds Try.pinned (OpenSpec.ofChange layoutUnitsWrong)

/-- 'transomlaw06.LayoutRows': WHATEVER THE INPUT: true; the input reads as it did. -/
def layoutRowsSpec : ChangeSpec := { name := "layoutRows", fn := fun _ => fun
  | [d] => { results := [.lit (.bool true)], args := [d] }
  | _ => none }
def layoutRowsRow : OpenClaim := { program := "ytlfpakopahmdiaa", sum := "7774c349cadcc200a3786f226fdb721f547e33867daa46d7ad9086b3ef04562c", func := "transom/transomlaw06.LayoutRows", spec := "layoutRows", unfollowed := true, recurses := true, apart := false }
def LayoutRowsSaid : Prop := layoutRowsRow.holds Try.pinned (OpenSpec.ofChange layoutRowsSpec)

/-- ITS FALSE NEIGHBOUR: 'it returns false'. Refute it at one input. -/
def layoutRowsWrong : ChangeSpec := { name := "layoutRows", fn := fun _ => fun
  | [d] => { results := [.lit (.bool false)], args := [d] }
  | _ => none }
def LayoutRowsWrongFalsely : Prop := layoutRowsRow.holds Try.pinned (OpenSpec.ofChange layoutRowsWrong)

/-- 'transomlaw06.LayoutTables': WHATEVER THE INPUT: true; the input reads as it did. -/
def layoutTablesSpec : ChangeSpec := { name := "layoutTables", fn := fun _ => fun
  | [d1, d2] => { results := [.lit (.bool true)], args := [d1, d2] }
  | _ => none }
def layoutTablesRow : OpenClaim := { program := "ytlfpakopahmdiaa", sum := "7774c349cadcc200a3786f226fdb721f547e33867daa46d7ad9086b3ef04562c", func := "transom/transomlaw06.LayoutTables", spec := "layoutTables", unfollowed := true, recurses := true, apart := false }
def LayoutTablesSaid : Prop := layoutTablesRow.holds Try.pinned (OpenSpec.ofChange layoutTablesSpec)

/-- ITS FALSE NEIGHBOUR: 'it returns false'. Refute it at one input. -/
def layoutTablesWrong : ChangeSpec := { name := "layoutTables", fn := fun _ => fun
  | [d1, d2] => { results := [.lit (.bool false)], args := [d1, d2] }
  | _ => none }
def LayoutTablesWrongFalsely : Prop := layoutTablesRow.holds Try.pinned (OpenSpec.ofChange layoutTablesWrong)

/-- 'transomlaw06.LayoutApart': WHATEVER THE INPUT: true; the input reads as it did. -/
def layoutApartSpec : ChangeSpec := { name := "layoutApart", fn := fun _ => fun
  | [d1, d2] => { results := [.lit (.bool true)], args := [d1, d2] }
  | _ => none }
def layoutApartRow : OpenClaim := { program := "ytlfpakopahmdiaa", sum := "7774c349cadcc200a3786f226fdb721f547e33867daa46d7ad9086b3ef04562c", func := "transom/transomlaw06.LayoutApart", spec := "layoutApart", unfollowed := true, recurses := true, apart := false }
def LayoutApartSaid : Prop := layoutApartRow.holds Try.pinned (OpenSpec.ofChange layoutApartSpec)

/-- ITS FALSE NEIGHBOUR: 'it returns false'. Refute it at one input. -/
def layoutApartWrong : ChangeSpec := { name := "layoutApart", fn := fun _ => fun
  | [d1, d2] => { results := [.lit (.bool false)], args := [d1, d2] }
  | _ => none }
def LayoutApartWrongFalsely : Prop := layoutApartRow.holds Try.pinned (OpenSpec.ofChange layoutApartWrong)

/-- 'transomlaw03.LexBack': WHATEVER THE INPUT: true; the input reads as it did. -/
def lexBackSpec : ChangeSpec := { name := "lexBack", fn := fun _ => fun
  | [d] => { results := [.lit (.bool true)], args := [d] }
  | _ => none }
def lexBackRow : OpenClaim := { program := "ytlfpakopahmdiaa", sum := "7774c349cadcc200a3786f226fdb721f547e33867daa46d7ad9086b3ef04562c", func := "transom/transomlaw03.LexBack", spec := "lexBack", inPlace := ["internal/bytealg.IndexByteString"], unfollowed := true, recurses := true, apart := false }
def LexBackSaid : Prop := lexBackRow.holds Try.pinned (OpenSpec.ofChange lexBackSpec)

/-- ITS FALSE NEIGHBOUR: 'it returns false'. Refute it at one input. -/
def lexBackWrong : ChangeSpec := { name := "lexBack", fn := fun _ => fun
  | [d] => { results := [.lit (.bool false)], args := [d] }
  | _ => none }
def LexBackWrongFalsely : Prop := lexBackRow.holds Try.pinned (OpenSpec.ofChange lexBackWrong)

/-- 'transomlaw03.LexSpaced': WHATEVER THE INPUT: true; the input reads as it did. -/
def lexSpacedSpec : ChangeSpec := { name := "lexSpaced", fn := fun _ => fun
  | [d1, d2] => { results := [.lit (.bool true)], args := [d1, d2] }
  | _ => none }
def lexSpacedRow : OpenClaim := { program := "ytlfpakopahmdiaa", sum := "7774c349cadcc200a3786f226fdb721f547e33867daa46d7ad9086b3ef04562c", func := "transom/transomlaw03.LexSpaced", spec := "lexSpaced", inPlace := ["internal/bytealg.IndexByteString"], unfollowed := true, recurses := true, apart := false }
def LexSpacedSaid : Prop := lexSpacedRow.holds Try.pinned (OpenSpec.ofChange lexSpacedSpec)

/-- ITS FALSE NEIGHBOUR: 'it returns false'. Refute it at one input. -/
def lexSpacedWrong : ChangeSpec := { name := "lexSpaced", fn := fun _ => fun
  | [d1, d2] => { results := [.lit (.bool false)], args := [d1, d2] }
  | _ => none }
def LexSpacedWrongFalsely : Prop := lexSpacedRow.holds Try.pinned (OpenSpec.ofChange lexSpacedWrong)

/-- 'transomlaw03.LexPlaces': WHATEVER THE INPUT: true; the input reads as it did. -/
def lexPlacesSpec : ChangeSpec := { name := "lexPlaces", fn := fun _ => fun
  | [d] => { results := [.lit (.bool true)], args := [d] }
  | _ => none }
def lexPlacesRow : OpenClaim := { program := "ytlfpakopahmdiaa", sum := "7774c349cadcc200a3786f226fdb721f547e33867daa46d7ad9086b3ef04562c", func := "transom/transomlaw03.LexPlaces", spec := "lexPlaces", inPlace := ["internal/bytealg.IndexByteString"], unfollowed := true, recurses := true, apart := false }
def LexPlacesSaid : Prop := lexPlacesRow.holds Try.pinned (OpenSpec.ofChange lexPlacesSpec)

/-- ITS FALSE NEIGHBOUR: 'it returns false'. Refute it at one input. -/
def lexPlacesWrong : ChangeSpec := { name := "lexPlaces", fn := fun _ => fun
  | [d] => { results := [.lit (.bool false)], args := [d] }
  | _ => none }
def LexPlacesWrongFalsely : Prop := lexPlacesRow.holds Try.pinned (OpenSpec.ofChange lexPlacesWrong)

/-- 'transomlaw03.LexNumbers': WHATEVER THE INPUT: true; the input reads as it did. -/
def lexNumbersSpec : ChangeSpec := { name := "lexNumbers", fn := fun _ => fun
  | [d1, d2, d3] => { results := [.lit (.bool true)], args := [d1, d2, d3] }
  | _ => none }
def lexNumbersRow : OpenClaim := { program := "ytlfpakopahmdiaa", sum := "7774c349cadcc200a3786f226fdb721f547e33867daa46d7ad9086b3ef04562c", func := "transom/transomlaw03.LexNumbers", spec := "lexNumbers", inPlace := ["internal/bytealg.IndexByteString"], unfollowed := true, recurses := true, apart := false }
def LexNumbersSaid : Prop := lexNumbersRow.holds Try.pinned (OpenSpec.ofChange lexNumbersSpec)

/-- ITS FALSE NEIGHBOUR: 'it returns false'. Refute it at one input. -/
def lexNumbersWrong : ChangeSpec := { name := "lexNumbers", fn := fun _ => fun
  | [d1, d2, d3] => { results := [.lit (.bool false)], args := [d1, d2, d3] }
  | _ => none }
def LexNumbersWrongFalsely : Prop := lexNumbersRow.holds Try.pinned (OpenSpec.ofChange lexNumbersWrong)

/-- 'transomlaw04.IdlJoins': WHATEVER THE INPUT: true; the input reads as it did. -/
def idlJoinsSpec : ChangeSpec := { name := "idlJoins", fn := fun _ => fun
  | [d1, d2] => { results := [.lit (.bool true)], args := [d1, d2] }
  | _ => none }
def idlJoinsRow : OpenClaim := { program := "ytlfpakopahmdiaa", sum := "7774c349cadcc200a3786f226fdb721f547e33867daa46d7ad9086b3ef04562c", func := "transom/transomlaw04.IdlJoins", spec := "idlJoins", inPlace := ["internal/bytealg.IndexByteString"], unfollowed := true, recurses := true, apart := false }
def IdlJoinsSaid : Prop := idlJoinsRow.holds Try.pinned (OpenSpec.ofChange idlJoinsSpec)

/-- ITS FALSE NEIGHBOUR: 'it returns false'. Refute it at one input. -/
def idlJoinsWrong : ChangeSpec := { name := "idlJoins", fn := fun _ => fun
  | [d1, d2] => { results := [.lit (.bool false)], args := [d1, d2] }
  | _ => none }
def IdlJoinsWrongFalsely : Prop := idlJoinsRow.holds Try.pinned (OpenSpec.ofChange idlJoinsWrong)

/-- 'transomlaw04.IdlNests': WHATEVER THE INPUT: true; the input reads as it did. -/
def idlNestsSpec : ChangeSpec := { name := "idlNests", fn := fun _ => fun
  | [d] => { results := [.lit (.bool true)], args := [d] }
  | _ => none }
def idlNestsRow : OpenClaim := { program := "ytlfpakopahmdiaa", sum := "7774c349cadcc200a3786f226fdb721f547e33867daa46d7ad9086b3ef04562c", func := "transom/transomlaw04.IdlNests", spec := "idlNests", inPlace := ["internal/bytealg.IndexByteString"], unfollowed := true, recurses := true, apart := false }
def IdlNestsSaid : Prop := idlNestsRow.holds Try.pinned (OpenSpec.ofChange idlNestsSpec)

/-- ITS FALSE NEIGHBOUR: 'it returns false'. Refute it at one input. -/
def idlNestsWrong : ChangeSpec := { name := "idlNests", fn := fun _ => fun
  | [d] => { results := [.lit (.bool false)], args := [d] }
  | _ => none }
def IdlNestsWrongFalsely : Prop := idlNestsRow.holds Try.pinned (OpenSpec.ofChange idlNestsWrong)

/- THE SECOND FORM. 'bulk': how many values and letters a reading holds, each counted each time it is reached (what is shared counts as often as it is met; a slice's spare places count too). A statement '..UptoSaid' is the law's where the arguments, and the package variables that the reading takes, are together of bulk at most 1048576: NARROWER than '..Said'. Prove '..Said' where nothing that the law and all that it calls make is longer than what came in: it says more and counts as full. Else prove '..UptoSaid'. A law counts once. -/
mutual
def uptoBulk {H : Type} : DataW H → Nat
  | .lit (.string bytes) => bytes.length + 1
  | .lit _ => 1
  | .nil => 1
  | .ptr d => uptoBulk d + 1
  | .slice elems spare => uptoBulkAll elems + uptoBulkAll spare + 1
  | .agg parts => uptoBulkAll parts + 1
  | .iface _ d => uptoBulk d + 1
  | .map entries => uptoBulkEntries entries + 1
  | .held _ => 1
def uptoBulkAll {H : Type} : List (DataW H) → Nat
  | [] => 0
  | d :: r => uptoBulk d + uptoBulkAll r
def uptoBulkEntries {H : Type} : List (Lit × DataW H) → Nat
  | [] => 0
  | x :: r => uptoBulkEntry x + uptoBulkEntries r
def uptoBulkEntry {H : Type} : Lit × DataW H → Nat
  | (.string bytes, d) => bytes.length + uptoBulk d + 1
  | (_, d) => uptoBulk d + 1
 end
def uptoSmall : (H : Type) → List (DataW H) → Bool := fun _ ds => decide (uptoBulkAll ds ≤ 1048576)
def OpenSpec.upto (s : _root_.Go.ChangeSpec) : _root_.Go.OpenSpec := { _root_.Go.OpenSpec.ofChange s with cond := some uptoSmall }

/-- 'transomlaw06.LayoutWords', WHERE WHAT IT READS IS OF BULK AT MOST 1048576: true; the input reads as it did. -/
def layoutWordsUptoRow : OpenClaim := { program := "ytlfpakopahmdiaa", sum := "7774c349cadcc200a3786f226fdb721f547e33867daa46d7ad9086b3ef04562c", func := "transom/transomlaw06.LayoutWords", spec := "layoutWords", unfollowed := true, recurses := true, apart := false, narrowed := true }
def LayoutWordsUptoSaid : Prop := layoutWordsUptoRow.holds Try.pinned (OpenSpec.upto layoutWordsSpec)

/-- 'transomlaw06.LayoutUnits', WHERE WHAT IT READS IS OF BULK AT MOST 1048576: true; the input reads as it did. -/
def layoutUnitsUptoRow : OpenClaim := { program := "ytlfpakopahmdiaa", sum := "7774c349cadcc200a3786f226fdb721f547e33867daa46d7ad9086b3ef04562c", func := "transom/transomlaw06.LayoutUnits", spec := "layoutUnits", apart := false, narrowed := true }
def LayoutUnitsUptoSaid : Prop := layoutUnitsUptoRow.holds Try.pinned (OpenSpec.upto layoutUnitsSpec)

/-- 'transomlaw06.LayoutRows', WHERE WHAT IT READS IS OF BULK AT MOST 1048576: true; the input reads as it did. -/
def layoutRowsUptoRow : OpenClaim := { program := "ytlfpakopahmdiaa", sum := "7774c349cadcc200a3786f226fdb721f547e33867daa46d7ad9086b3ef04562c", func := "transom/transomlaw06.LayoutRows", spec := "layoutRows", unfollowed := true, recurses := true, apart := false, narrowed := true }
def LayoutRowsUptoSaid : Prop := layoutRowsUptoRow.holds Try.pinned (OpenSpec.upto layoutRowsSpec)

/-- 'transomlaw06.LayoutTables', WHERE WHAT IT READS IS OF BULK AT MOST 1048576: true; the input reads as it did. -/
def layoutTablesUptoRow : OpenClaim := { program := "ytlfpakopahmdiaa", sum := "7774c349cadcc200a3786f226fdb721f547e33867daa46d7ad9086b3ef04562c", func := "transom/transomlaw06.LayoutTables", spec := "layoutTables", unfollowed := true, recurses := true, apart := false, narrowed := true }
def LayoutTablesUptoSaid : Prop := layoutTablesUptoRow.holds Try.pinned (OpenSpec.upto layoutTablesSpec)

/-- 'transomlaw06.LayoutApart', WHERE WHAT IT READS IS OF BULK AT MOST 1048576: true; the input reads as it did. -/
def layoutApartUptoRow : OpenClaim := { program := "ytlfpakopahmdiaa", sum := "7774c349cadcc200a3786f226fdb721f547e33867daa46d7ad9086b3ef04562c", func := "transom/transomlaw06.LayoutApart", spec := "layoutApart", unfollowed := true, recurses := true, apart := false, narrowed := true }
def LayoutApartUptoSaid : Prop := layoutApartUptoRow.holds Try.pinned (OpenSpec.upto layoutApartSpec)

/-- 'transomlaw03.LexBack', WHERE WHAT IT READS IS OF BULK AT MOST 1048576: true; the input reads as it did. -/
def lexBackUptoRow : OpenClaim := { program := "ytlfpakopahmdiaa", sum := "7774c349cadcc200a3786f226fdb721f547e33867daa46d7ad9086b3ef04562c", func := "transom/transomlaw03.LexBack", spec := "lexBack", inPlace := ["internal/bytealg.IndexByteString"], unfollowed := true, recurses := true, apart := false, narrowed := true }
def LexBackUptoSaid : Prop := lexBackUptoRow.holds Try.pinned (OpenSpec.upto lexBackSpec)

/-- 'transomlaw03.LexSpaced', WHERE WHAT IT READS IS OF BULK AT MOST 1048576: true; the input reads as it did. -/
def lexSpacedUptoRow : OpenClaim := { program := "ytlfpakopahmdiaa", sum := "7774c349cadcc200a3786f226fdb721f547e33867daa46d7ad9086b3ef04562c", func := "transom/transomlaw03.LexSpaced", spec := "lexSpaced", inPlace := ["internal/bytealg.IndexByteString"], unfollowed := true, recurses := true, apart := false, narrowed := true }
def LexSpacedUptoSaid : Prop := lexSpacedUptoRow.holds Try.pinned (OpenSpec.upto lexSpacedSpec)

/-- 'transomlaw03.LexPlaces', WHERE WHAT IT READS IS OF BULK AT MOST 1048576: true; the input reads as it did. -/
def lexPlacesUptoRow : OpenClaim := { program := "ytlfpakopahmdiaa", sum := "7774c349cadcc200a3786f226fdb721f547e33867daa46d7ad9086b3ef04562c", func := "transom/transomlaw03.LexPlaces", spec := "lexPlaces", inPlace := ["internal/bytealg.IndexByteString"], unfollowed := true, recurses := true, apart := false, narrowed := true }
def LexPlacesUptoSaid : Prop := lexPlacesUptoRow.holds Try.pinned (OpenSpec.upto lexPlacesSpec)

/-- 'transomlaw03.LexNumbers', WHERE WHAT IT READS IS OF BULK AT MOST 1048576: true; the input reads as it did. -/
def lexNumbersUptoRow : OpenClaim := { program := "ytlfpakopahmdiaa", sum := "7774c349cadcc200a3786f226fdb721f547e33867daa46d7ad9086b3ef04562c", func := "transom/transomlaw03.LexNumbers", spec := "lexNumbers", inPlace := ["internal/bytealg.IndexByteString"], unfollowed := true, recurses := true, apart := false, narrowed := true }
def LexNumbersUptoSaid : Prop := lexNumbersUptoRow.holds Try.pinned (OpenSpec.upto lexNumbersSpec)

/-- 'transomlaw04.IdlJoins', WHERE WHAT IT READS IS OF BULK AT MOST 1048576: true; the input reads as it did. -/
def idlJoinsUptoRow : OpenClaim := { program := "ytlfpakopahmdiaa", sum := "7774c349cadcc200a3786f226fdb721f547e33867daa46d7ad9086b3ef04562c", func := "transom/transomlaw04.IdlJoins", spec := "idlJoins", inPlace := ["internal/bytealg.IndexByteString"], unfollowed := true, recurses := true, apart := false, narrowed := true }
def IdlJoinsUptoSaid : Prop := idlJoinsUptoRow.holds Try.pinned (OpenSpec.upto idlJoinsSpec)

/-- 'transomlaw04.IdlNests', WHERE WHAT IT READS IS OF BULK AT MOST 1048576: true; the input reads as it did. -/
def idlNestsUptoRow : OpenClaim := { program := "ytlfpakopahmdiaa", sum := "7774c349cadcc200a3786f226fdb721f547e33867daa46d7ad9086b3ef04562c", func := "transom/transomlaw04.IdlNests", spec := "idlNests", inPlace := ["internal/bytealg.IndexByteString"], unfollowed := true, recurses := true, apart := false, narrowed := true }
def IdlNestsUptoSaid : Prop := idlNestsUptoRow.holds Try.pinned (OpenSpec.upto idlNestsSpec)

end Rows
end Go.Proofs.Ytlfpakopahmdiaa
