/-
  DERIVED. GIVEN WITH THE SEED: THE CARDS: each row of YtbhfkpdalilhcaaDoorRows.lean that lists a variable, with what it lists TIED to the program's text (the seventh form; the later family's looks); each row that meets fmt, with fmt's text TOLD by the authors' own Lean function (tested against real Go, not proved from fmt's source: count such statements apart). THE CARD IS WHAT COUNTS. Prove the row's statement (the work); the ties are given (YtbhfkpdalilhcaaDoorTie.lean); close each card by the builder's one call (the guide's Derived/Test/ToyasCard.lean, 'card_holds'). Laid BY PROGRAM, IN A SANDBOX (cutbox-door.mjs). By AI agents, Wed Nov 11 2026. No macro, syntax, notation, axiom, sorry.
-/
import Derived.Test.YtbhfkpdalilhcaaDoorRows
import GoSem.ClaimSeven
namespace Go.Proofs.YtbhfkpdalilhcaaDoor
namespace Rows

/-- THE TIED CARD OF 'refrainlaw2.SchemaEvents'. -/
def schemaEventsCard : Claim7 := { stood := { row := schemaEventsRow, standIns := [], harness := (true, "4ed1a3c45d527af90522723742118fc43d21530075b30638fa01037b334bb1c5"), looks := false }, kinds := [], alts := [], laidByText := true, laidKinds := [.data], laidTests := true, laidLooks := .later }
def SchemaEventsCardSaid : Prop := Claim7.holds Tryd.pinned (.plain (OpenSpec.ofChange schemaEventsSpec)) schemaEventsCard

/-- THE TIED CARD OF 'refrainlaw2.SchemaRound'. -/
def schemaRoundCard : Claim7 := { stood := { row := schemaRoundRow, standIns := [], harness := (true, "4ed1a3c45d527af90522723742118fc43d21530075b30638fa01037b334bb1c5"), looks := false }, kinds := [], alts := [], laidByText := true, laidKinds := [.data, .data], laidTests := true, laidLooks := .later }
def SchemaRoundCardSaid : Prop := Claim7.holds Tryd.pinned (.plain (OpenSpec.ofChange schemaRoundSpec)) schemaRoundCard

/-- THE TIED CARD OF 'refrainlaw2.SchemaNames'. -/
def schemaNamesCard : Claim7 := { stood := { row := schemaNamesRow, standIns := [], harness := (true, "4ed1a3c45d527af90522723742118fc43d21530075b30638fa01037b334bb1c5"), looks := false }, kinds := [], alts := [], laidByText := true, laidKinds := [.data], laidTests := true, laidLooks := .later }
def SchemaNamesCardSaid : Prop := Claim7.holds Tryd.pinned (.plain (OpenSpec.ofChange schemaNamesSpec)) schemaNamesCard

/-- THE TIED CARD OF 'refrainlaw2.SchemaAll'. -/
def schemaAllCard : Claim7 := { stood := { row := schemaAllRow, standIns := [], harness := (true, "4ed1a3c45d527af90522723742118fc43d21530075b30638fa01037b334bb1c5"), looks := false }, kinds := [], alts := [], laidByText := true, laidKinds := [.data, .data], laidTests := true, laidLooks := .later }
def SchemaAllCardSaid : Prop := Claim7.holds Tryd.pinned (.plain (OpenSpec.ofChange schemaAllSpec)) schemaAllCard

/-- THE SECOND FORM's CARD OF 'refrainlaw2.SchemaEvents'. -/
def schemaEventsUptoCard : Claim7 := { stood := { row := schemaEventsUptoRow, standIns := [], harness := (true, "4ed1a3c45d527af90522723742118fc43d21530075b30638fa01037b334bb1c5"), looks := false }, kinds := [], alts := [], laidByText := true, laidKinds := [.data], laidTests := true, laidLooks := .later }
def SchemaEventsUptoCardSaid : Prop := Claim7.holds Tryd.pinned (.plain (OpenSpec.upto schemaEventsSpec)) schemaEventsUptoCard

/-- THE SECOND FORM's CARD OF 'refrainlaw2.SchemaRound'. -/
def schemaRoundUptoCard : Claim7 := { stood := { row := schemaRoundUptoRow, standIns := [], harness := (true, "4ed1a3c45d527af90522723742118fc43d21530075b30638fa01037b334bb1c5"), looks := false }, kinds := [], alts := [], laidByText := true, laidKinds := [.data, .data], laidTests := true, laidLooks := .later }
def SchemaRoundUptoCardSaid : Prop := Claim7.holds Tryd.pinned (.plain (OpenSpec.upto schemaRoundSpec)) schemaRoundUptoCard

/-- THE SECOND FORM's CARD OF 'refrainlaw2.SchemaNames'. -/
def schemaNamesUptoCard : Claim7 := { stood := { row := schemaNamesUptoRow, standIns := [], harness := (true, "4ed1a3c45d527af90522723742118fc43d21530075b30638fa01037b334bb1c5"), looks := false }, kinds := [], alts := [], laidByText := true, laidKinds := [.data], laidTests := true, laidLooks := .later }
def SchemaNamesUptoCardSaid : Prop := Claim7.holds Tryd.pinned (.plain (OpenSpec.upto schemaNamesSpec)) schemaNamesUptoCard

/-- THE SECOND FORM's CARD OF 'refrainlaw2.SchemaAll'. -/
def schemaAllUptoCard : Claim7 := { stood := { row := schemaAllUptoRow, standIns := [], harness := (true, "4ed1a3c45d527af90522723742118fc43d21530075b30638fa01037b334bb1c5"), looks := false }, kinds := [], alts := [], laidByText := true, laidKinds := [.data, .data], laidTests := true, laidLooks := .later }
def SchemaAllUptoCardSaid : Prop := Claim7.holds Tryd.pinned (.plain (OpenSpec.upto schemaAllSpec)) schemaAllUptoCard
end Rows
end Go.Proofs.YtbhfkpdalilhcaaDoor
