/-
  DERIVED. GIVEN WITH THE SEED: THE CARDS: each row of YtgoaiokpnifhfaaDoorRows.lean that lists a variable, with what it lists TIED to the program's text (the seventh form; the later family's looks); each row that meets fmt, with fmt's text TOLD by the authors' own Lean function (tested against real Go, not proved from fmt's source: count such statements apart). THE CARD IS WHAT COUNTS. Prove the row's statement (the work); the ties are given (YtgoaiokpnifhfaaDoorTie.lean); close each card by the builder's one call (the guide's Derived/Test/ToyasCard.lean, 'card_holds'). Laid BY PROGRAM, IN A SANDBOX (cutbox-door.mjs). By AI agents, Wed Nov 11 2026. No macro, syntax, notation, axiom, sorry.
-/
import Derived.Test.YtgoaiokpnifhfaaDoorRows
import GoSem.ClaimSeven
namespace Go.Proofs.YtgoaiokpnifhfaaDoor
namespace Rows

/-- THE TIED CARD OF 'transomlaw03.LexTokens'. -/
def lexTokensCard : Claim7 := { stood := { row := lexTokensRow, standIns := [], harness := (true, "ea799bd7281fb2ab5ffd7fb39a869e383214fac32e64fe08eae97785430c7bd8"), looks := false }, kinds := [], alts := [], laidByText := true, laidKinds := [.data, .pinned], laidTests := true, laidLooks := .later }
def LexTokensCardSaid : Prop := Claim7.holds Tryd.pinned (.plain (OpenSpec.ofChange lexTokensSpec)) lexTokensCard

/-- THE TIED CARD OF 'transomlaw04.IdlPrints'. -/
def idlPrintsCard : Claim7 := { stood := { row := idlPrintsRow, standIns := [], harness := (true, "ea799bd7281fb2ab5ffd7fb39a869e383214fac32e64fe08eae97785430c7bd8"), looks := false }, kinds := [], alts := [], laidByText := true, laidKinds := [.data, .pinned], laidTests := true, laidLooks := .later }
def IdlPrintsCardSaid : Prop := Claim7.holds Tryd.pinned (.plain (OpenSpec.ofChange idlPrintsSpec)) idlPrintsCard

/-- THE TIED CARD OF 'transomlaw04.IdlCuts'. -/
def idlCutsCard : Claim7 := { stood := { row := idlCutsRow, standIns := [], harness := (true, "ea799bd7281fb2ab5ffd7fb39a869e383214fac32e64fe08eae97785430c7bd8"), looks := false }, kinds := [], alts := [], laidByText := true, laidKinds := [.data, .pinned], laidTests := true, laidLooks := .later }
def IdlCutsCardSaid : Prop := Claim7.holds Tryd.pinned (.plain (OpenSpec.ofChange idlCutsSpec)) idlCutsCard

/-- THE TIED CARD OF 'transomlaw20.PolicyParses'. -/
def policyParsesCard : Claim7 := { stood := { row := policyParsesRow, standIns := [], harness := (true, "ea799bd7281fb2ab5ffd7fb39a869e383214fac32e64fe08eae97785430c7bd8"), looks := false }, kinds := [], alts := [], laidByText := true, laidKinds := [.data, .pinned], laidTests := true, laidLooks := .later }
def PolicyParsesCardSaid : Prop := Claim7.holds Tryd.pinned (.plain (OpenSpec.ofChange policyParsesSpec)) policyParsesCard

/-- THE TIED CARD OF 'transomlaw20.PolicyHides'. -/
def policyHidesCard : Claim7 := { stood := { row := policyHidesRow, standIns := [], harness := (true, "ea799bd7281fb2ab5ffd7fb39a869e383214fac32e64fe08eae97785430c7bd8"), looks := false }, kinds := [], alts := [], laidByText := true, laidKinds := [.data, .pinned], laidTests := true, laidLooks := .later }
def PolicyHidesCardSaid : Prop := Claim7.holds Tryd.pinned (.plain (OpenSpec.ofChange policyHidesSpec)) policyHidesCard

/-- THE TIED CARD OF 'transomlaw05.SchemaReads'. -/
def schemaReadsCard : Claim7 := { stood := { row := schemaReadsRow, standIns := [], harness := (true, "ea799bd7281fb2ab5ffd7fb39a869e383214fac32e64fe08eae97785430c7bd8"), looks := false }, kinds := [], alts := [], laidByText := true, laidKinds := [.data, .pinned], laidTests := true, laidLooks := .later }
def SchemaReadsCardSaid : Prop := Claim7.holds Tryd.pinned (.plain (OpenSpec.ofChange schemaReadsSpec)) schemaReadsCard

/-- THE TIED CARD OF 'transomlaw05.SchemaChecks'. -/
def schemaChecksCard : Claim7 := { stood := { row := schemaChecksRow, standIns := [], harness := (true, "ea799bd7281fb2ab5ffd7fb39a869e383214fac32e64fe08eae97785430c7bd8"), looks := false }, kinds := [], alts := [], laidByText := true, laidKinds := [.data, .pinned], laidTests := true, laidLooks := .later }
def SchemaChecksCardSaid : Prop := Claim7.holds Tryd.pinned (.plain (OpenSpec.ofChange schemaChecksSpec)) schemaChecksCard

/-- THE SECOND FORM's CARD OF 'transomlaw03.LexTokens'. -/
def lexTokensUptoCard : Claim7 := { stood := { row := lexTokensUptoRow, standIns := [], harness := (true, "ea799bd7281fb2ab5ffd7fb39a869e383214fac32e64fe08eae97785430c7bd8"), looks := false }, kinds := [], alts := [], laidByText := true, laidKinds := [.data, .pinned], laidTests := true, laidLooks := .later }
def LexTokensUptoCardSaid : Prop := Claim7.holds Tryd.pinned (.plain (OpenSpec.upto lexTokensSpec)) lexTokensUptoCard

/-- THE SECOND FORM's CARD OF 'transomlaw04.IdlPrints'. -/
def idlPrintsUptoCard : Claim7 := { stood := { row := idlPrintsUptoRow, standIns := [], harness := (true, "ea799bd7281fb2ab5ffd7fb39a869e383214fac32e64fe08eae97785430c7bd8"), looks := false }, kinds := [], alts := [], laidByText := true, laidKinds := [.data, .pinned], laidTests := true, laidLooks := .later }
def IdlPrintsUptoCardSaid : Prop := Claim7.holds Tryd.pinned (.plain (OpenSpec.upto idlPrintsSpec)) idlPrintsUptoCard

/-- THE SECOND FORM's CARD OF 'transomlaw04.IdlCuts'. -/
def idlCutsUptoCard : Claim7 := { stood := { row := idlCutsUptoRow, standIns := [], harness := (true, "ea799bd7281fb2ab5ffd7fb39a869e383214fac32e64fe08eae97785430c7bd8"), looks := false }, kinds := [], alts := [], laidByText := true, laidKinds := [.data, .pinned], laidTests := true, laidLooks := .later }
def IdlCutsUptoCardSaid : Prop := Claim7.holds Tryd.pinned (.plain (OpenSpec.upto idlCutsSpec)) idlCutsUptoCard

/-- THE SECOND FORM's CARD OF 'transomlaw20.PolicyParses'. -/
def policyParsesUptoCard : Claim7 := { stood := { row := policyParsesUptoRow, standIns := [], harness := (true, "ea799bd7281fb2ab5ffd7fb39a869e383214fac32e64fe08eae97785430c7bd8"), looks := false }, kinds := [], alts := [], laidByText := true, laidKinds := [.data, .pinned], laidTests := true, laidLooks := .later }
def PolicyParsesUptoCardSaid : Prop := Claim7.holds Tryd.pinned (.plain (OpenSpec.upto policyParsesSpec)) policyParsesUptoCard

/-- THE SECOND FORM's CARD OF 'transomlaw20.PolicyHides'. -/
def policyHidesUptoCard : Claim7 := { stood := { row := policyHidesUptoRow, standIns := [], harness := (true, "ea799bd7281fb2ab5ffd7fb39a869e383214fac32e64fe08eae97785430c7bd8"), looks := false }, kinds := [], alts := [], laidByText := true, laidKinds := [.data, .pinned], laidTests := true, laidLooks := .later }
def PolicyHidesUptoCardSaid : Prop := Claim7.holds Tryd.pinned (.plain (OpenSpec.upto policyHidesSpec)) policyHidesUptoCard

/-- THE SECOND FORM's CARD OF 'transomlaw05.SchemaReads'. -/
def schemaReadsUptoCard : Claim7 := { stood := { row := schemaReadsUptoRow, standIns := [], harness := (true, "ea799bd7281fb2ab5ffd7fb39a869e383214fac32e64fe08eae97785430c7bd8"), looks := false }, kinds := [], alts := [], laidByText := true, laidKinds := [.data, .pinned], laidTests := true, laidLooks := .later }
def SchemaReadsUptoCardSaid : Prop := Claim7.holds Tryd.pinned (.plain (OpenSpec.upto schemaReadsSpec)) schemaReadsUptoCard

/-- THE SECOND FORM's CARD OF 'transomlaw05.SchemaChecks'. -/
def schemaChecksUptoCard : Claim7 := { stood := { row := schemaChecksUptoRow, standIns := [], harness := (true, "ea799bd7281fb2ab5ffd7fb39a869e383214fac32e64fe08eae97785430c7bd8"), looks := false }, kinds := [], alts := [], laidByText := true, laidKinds := [.data, .pinned], laidTests := true, laidLooks := .later }
def SchemaChecksUptoCardSaid : Prop := Claim7.holds Tryd.pinned (.plain (OpenSpec.upto schemaChecksSpec)) schemaChecksUptoCard
end Rows
end Go.Proofs.YtgoaiokpnifhfaaDoor
