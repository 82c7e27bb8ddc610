/-
  DERIVED. GIVEN WITH THE SEED: THE CARDS: each row of YtmjoeilahbfonaaDoorRows.lean that lists a variable, with what it lists TIED to the program's text (the seventh form; the later family's looks); each row that meets fmt, with fmt's text TOLD by the authors' own Lean function (tested against real Go, not proved from fmt's source: count such statements apart). THE CARD IS WHAT COUNTS. Prove the row's statement (the work); the ties are given (YtmjoeilahbfonaaDoorTie.lean); close each card by the builder's one call (the guide's Derived/Test/ToyasCard.lean, 'card_holds'). Laid BY PROGRAM, IN A SANDBOX (cutbox-door.mjs). By AI agents, Wed Nov 11 2026. No macro, syntax, notation, axiom, sorry.
-/
import Derived.Test.YtmjoeilahbfonaaDoorRows
import GoSem.ClaimSeven
namespace Go.Proofs.YtmjoeilahbfonaaDoor
namespace Rows

/-- THE TIED CARD OF 'refrainlaw12.DeweyFamilies'. -/
def deweyFamiliesCard : Claim7 := { stood := { row := deweyFamiliesRow, standIns := [], harness := (true, "deca22a103b92f0ef9676d4619f4a767c8c5b16143e56f5d820c6c316d7c4779"), looks := false }, kinds := [], alts := [], laidByText := true, laidKinds := [.data, .data, .data], laidTests := true, laidLooks := .later }
def DeweyFamiliesCardSaid : Prop := Claim7.holds Tryd.pinned (.plain (OpenSpec.ofChange deweyFamiliesSpec)) deweyFamiliesCard

/-- THE TIED CARD OF 'refrainlaw12.DeweyOrder'. -/
def deweyOrderCard : Claim7 := { stood := { row := deweyOrderRow, standIns := [], harness := (true, "deca22a103b92f0ef9676d4619f4a767c8c5b16143e56f5d820c6c316d7c4779"), looks := false }, kinds := [], alts := [], laidByText := true, laidKinds := [.data, .data, .data], laidTests := true, laidLooks := .later }
def DeweyOrderCardSaid : Prop := Claim7.holds Tryd.pinned (.plain (OpenSpec.ofChange deweyOrderSpec)) deweyOrderCard

/-- THE TIED CARD OF 'refrainlaw12.DeweyText'. -/
def deweyTextCard : Claim7 := { stood := { row := deweyTextRow, standIns := [], harness := (true, "deca22a103b92f0ef9676d4619f4a767c8c5b16143e56f5d820c6c316d7c4779"), looks := false }, kinds := [], alts := [], laidByText := true, laidKinds := [.data, .data, .data], laidTests := true, laidLooks := .later }
def DeweyTextCardSaid : Prop := Claim7.holds Tryd.pinned (.plain (OpenSpec.ofChange deweyTextSpec)) deweyTextCard

/-- THE TIED CARD OF 'refrainlaw12.DeweyAll'. -/
def deweyAllCard : Claim7 := { stood := { row := deweyAllRow, standIns := [], harness := (true, "deca22a103b92f0ef9676d4619f4a767c8c5b16143e56f5d820c6c316d7c4779"), looks := false }, kinds := [], alts := [], laidByText := true, laidKinds := [.data, .data, .data, .data, .pinned], laidTests := true, laidLooks := .later }
def DeweyAllCardSaid : Prop := Claim7.holds Tryd.pinned (.plain (OpenSpec.ofChange deweyAllSpec)) deweyAllCard

/-- THE TIED CARD OF 'refrainlaw12.DeweyFresh'. -/
def deweyFreshCard : Claim7 := { stood := { row := deweyFreshRow, standIns := [], harness := (true, "deca22a103b92f0ef9676d4619f4a767c8c5b16143e56f5d820c6c316d7c4779"), looks := false }, kinds := [], alts := [], laidByText := true, laidKinds := [.data, .data, .data, .data, .pinned], laidTests := true, laidLooks := .later }
def DeweyFreshCardSaid : Prop := Claim7.holds Tryd.pinned (.plain (OpenSpec.ofChange deweyFreshSpec)) deweyFreshCard

/-- THE TIED CARD OF 'refrainlaw12.DeweyScript'. -/
def deweyScriptCard : Claim7 := { stood := { row := deweyScriptRow, standIns := [], harness := (true, "deca22a103b92f0ef9676d4619f4a767c8c5b16143e56f5d820c6c316d7c4779"), looks := false }, kinds := [], alts := [], laidByText := true, laidKinds := [.data, .data, .data, .data, .pinned], laidTests := true, laidLooks := .later }
def DeweyScriptCardSaid : Prop := Claim7.holds Tryd.pinned (.plain (OpenSpec.ofChange deweyScriptSpec)) deweyScriptCard

/-- THE SECOND FORM's CARD OF 'refrainlaw12.DeweyFamilies'. -/
def deweyFamiliesUptoCard : Claim7 := { stood := { row := deweyFamiliesUptoRow, standIns := [], harness := (true, "deca22a103b92f0ef9676d4619f4a767c8c5b16143e56f5d820c6c316d7c4779"), looks := false }, kinds := [], alts := [], laidByText := true, laidKinds := [.data, .data, .data], laidTests := true, laidLooks := .later }
def DeweyFamiliesUptoCardSaid : Prop := Claim7.holds Tryd.pinned (.plain (OpenSpec.upto deweyFamiliesSpec)) deweyFamiliesUptoCard

/-- THE SECOND FORM's CARD OF 'refrainlaw12.DeweyOrder'. -/
def deweyOrderUptoCard : Claim7 := { stood := { row := deweyOrderUptoRow, standIns := [], harness := (true, "deca22a103b92f0ef9676d4619f4a767c8c5b16143e56f5d820c6c316d7c4779"), looks := false }, kinds := [], alts := [], laidByText := true, laidKinds := [.data, .data, .data], laidTests := true, laidLooks := .later }
def DeweyOrderUptoCardSaid : Prop := Claim7.holds Tryd.pinned (.plain (OpenSpec.upto deweyOrderSpec)) deweyOrderUptoCard

/-- THE SECOND FORM's CARD OF 'refrainlaw12.DeweyText'. -/
def deweyTextUptoCard : Claim7 := { stood := { row := deweyTextUptoRow, standIns := [], harness := (true, "deca22a103b92f0ef9676d4619f4a767c8c5b16143e56f5d820c6c316d7c4779"), looks := false }, kinds := [], alts := [], laidByText := true, laidKinds := [.data, .data, .data], laidTests := true, laidLooks := .later }
def DeweyTextUptoCardSaid : Prop := Claim7.holds Tryd.pinned (.plain (OpenSpec.upto deweyTextSpec)) deweyTextUptoCard

/-- THE SECOND FORM's CARD OF 'refrainlaw12.DeweyAll'. -/
def deweyAllUptoCard : Claim7 := { stood := { row := deweyAllUptoRow, standIns := [], harness := (true, "deca22a103b92f0ef9676d4619f4a767c8c5b16143e56f5d820c6c316d7c4779"), looks := false }, kinds := [], alts := [], laidByText := true, laidKinds := [.data, .data, .data, .data, .pinned], laidTests := true, laidLooks := .later }
def DeweyAllUptoCardSaid : Prop := Claim7.holds Tryd.pinned (.plain (OpenSpec.upto deweyAllSpec)) deweyAllUptoCard

/-- THE SECOND FORM's CARD OF 'refrainlaw12.DeweyFresh'. -/
def deweyFreshUptoCard : Claim7 := { stood := { row := deweyFreshUptoRow, standIns := [], harness := (true, "deca22a103b92f0ef9676d4619f4a767c8c5b16143e56f5d820c6c316d7c4779"), looks := false }, kinds := [], alts := [], laidByText := true, laidKinds := [.data, .data, .data, .data, .pinned], laidTests := true, laidLooks := .later }
def DeweyFreshUptoCardSaid : Prop := Claim7.holds Tryd.pinned (.plain (OpenSpec.upto deweyFreshSpec)) deweyFreshUptoCard

/-- THE SECOND FORM's CARD OF 'refrainlaw12.DeweyScript'. -/
def deweyScriptUptoCard : Claim7 := { stood := { row := deweyScriptUptoRow, standIns := [], harness := (true, "deca22a103b92f0ef9676d4619f4a767c8c5b16143e56f5d820c6c316d7c4779"), looks := false }, kinds := [], alts := [], laidByText := true, laidKinds := [.data, .data, .data, .data, .pinned], laidTests := true, laidLooks := .later }
def DeweyScriptUptoCardSaid : Prop := Claim7.holds Tryd.pinned (.plain (OpenSpec.upto deweyScriptSpec)) deweyScriptUptoCard
end Rows
end Go.Proofs.YtmjoeilahbfonaaDoor
