/-
  DERIVED. GIVEN WITH THE SEED: THE CARDS: each row of YtejpjclbeogajaaDoorRows.lean that lists a variable, with what it lists TIED to the program's text (the seventh form; the later family's looks); each row that meets fmt, with fmt's text TOLD by the authors' own Lean function (tested against real Go, not proved from fmt's source: count such statements apart). THE CARD IS WHAT COUNTS. Prove the row's statement (the work); the ties are given (YtejpjclbeogajaaDoorTie.lean); close each card by the builder's one call (the guide's Derived/Test/ToyasCard.lean, 'card_holds'). Laid BY PROGRAM, IN A SANDBOX (cutbox-door.mjs). By AI agents, Wed Nov 11 2026. No macro, syntax, notation, axiom, sorry.
-/
import Derived.Test.YtejpjclbeogajaaDoorRows
import GoSem.ClaimSeven
namespace Go.Proofs.YtejpjclbeogajaaDoor
namespace Rows

/-- THE TIED CARD OF 'transomlaw20.PolicyParses'. -/
def policyParsesCard : Claim7 := { stood := { row := policyParsesRow, standIns := [], harness := (true, "f324322ed6c3bba045437096daf8b82990eb5616f038a5935c09b24b6e467997"), looks := false }, kinds := [], alts := [], laidByText := true, laidKinds := [.data, .pinned], laidTests := true, laidLooks := .later }
def PolicyParsesCardSaid : Prop := Claim7.holds Tryd.pinned (.plain (OpenSpec.ofChange policyParsesSpec)) policyParsesCard

/-- THE TIED CARD OF 'transomlaw20.PolicyHides'. -/
def policyHidesCard : Claim7 := { stood := { row := policyHidesRow, standIns := [], harness := (true, "f324322ed6c3bba045437096daf8b82990eb5616f038a5935c09b24b6e467997"), looks := false }, kinds := [], alts := [], laidByText := true, laidKinds := [.data, .pinned], laidTests := true, laidLooks := .later }
def PolicyHidesCardSaid : Prop := Claim7.holds Tryd.pinned (.plain (OpenSpec.ofChange policyHidesSpec)) policyHidesCard

/-- THE TIED CARD OF 'transomlaw05.SchemaReads'. -/
def schemaReadsCard : Claim7 := { stood := { row := schemaReadsRow, standIns := [], harness := (true, "f324322ed6c3bba045437096daf8b82990eb5616f038a5935c09b24b6e467997"), looks := false }, kinds := [], alts := [], laidByText := true, laidKinds := [.data, .pinned], laidTests := true, laidLooks := .later }
def SchemaReadsCardSaid : Prop := Claim7.holds Tryd.pinned (.plain (OpenSpec.ofChange schemaReadsSpec)) schemaReadsCard

/-- THE TIED CARD OF 'transomlaw05.SchemaChecks'. -/
def schemaChecksCard : Claim7 := { stood := { row := schemaChecksRow, standIns := [], harness := (true, "f324322ed6c3bba045437096daf8b82990eb5616f038a5935c09b24b6e467997"), looks := false }, kinds := [], alts := [], laidByText := true, laidKinds := [.data, .pinned], laidTests := true, laidLooks := .later }
def SchemaChecksCardSaid : Prop := Claim7.holds Tryd.pinned (.plain (OpenSpec.ofChange schemaChecksSpec)) schemaChecksCard

/-- THE SECOND FORM's CARD OF 'transomlaw20.PolicyParses'. -/
def policyParsesUptoCard : Claim7 := { stood := { row := policyParsesUptoRow, standIns := [], harness := (true, "f324322ed6c3bba045437096daf8b82990eb5616f038a5935c09b24b6e467997"), looks := false }, kinds := [], alts := [], laidByText := true, laidKinds := [.data, .pinned], laidTests := true, laidLooks := .later }
def PolicyParsesUptoCardSaid : Prop := Claim7.holds Tryd.pinned (.plain (OpenSpec.upto policyParsesSpec)) policyParsesUptoCard

/-- THE SECOND FORM's CARD OF 'transomlaw20.PolicyHides'. -/
def policyHidesUptoCard : Claim7 := { stood := { row := policyHidesUptoRow, standIns := [], harness := (true, "f324322ed6c3bba045437096daf8b82990eb5616f038a5935c09b24b6e467997"), looks := false }, kinds := [], alts := [], laidByText := true, laidKinds := [.data, .pinned], laidTests := true, laidLooks := .later }
def PolicyHidesUptoCardSaid : Prop := Claim7.holds Tryd.pinned (.plain (OpenSpec.upto policyHidesSpec)) policyHidesUptoCard

/-- THE SECOND FORM's CARD OF 'transomlaw05.SchemaReads'. -/
def schemaReadsUptoCard : Claim7 := { stood := { row := schemaReadsUptoRow, standIns := [], harness := (true, "f324322ed6c3bba045437096daf8b82990eb5616f038a5935c09b24b6e467997"), looks := false }, kinds := [], alts := [], laidByText := true, laidKinds := [.data, .pinned], laidTests := true, laidLooks := .later }
def SchemaReadsUptoCardSaid : Prop := Claim7.holds Tryd.pinned (.plain (OpenSpec.upto schemaReadsSpec)) schemaReadsUptoCard

/-- THE SECOND FORM's CARD OF 'transomlaw05.SchemaChecks'. -/
def schemaChecksUptoCard : Claim7 := { stood := { row := schemaChecksUptoRow, standIns := [], harness := (true, "f324322ed6c3bba045437096daf8b82990eb5616f038a5935c09b24b6e467997"), looks := false }, kinds := [], alts := [], laidByText := true, laidKinds := [.data, .pinned], laidTests := true, laidLooks := .later }
def SchemaChecksUptoCardSaid : Prop := Claim7.holds Tryd.pinned (.plain (OpenSpec.upto schemaChecksSpec)) schemaChecksUptoCard
end Rows
end Go.Proofs.YtejpjclbeogajaaDoor
